/- Texts of the mirror and contracts, put together. -/
import Derived.Test.YtffdpnmioidloaaGreatDoorPW4
import Derived.Test.YtffdpnmioidloaaGreatDoorPW5
import Derived.Shelf.Small.Strs
namespace Go.Proofs.YtffdpnmioidloaaGreatDoor
section
open Go Go.Mir
attribute [local irreducible] Go.Mir.DT.sat Go.Mir.evPat Go.Mir.RT.sat Go.Mir.evFn
abbrev qgI:Pat:=bX [.nm .Innings,I]
abbrev qgB:Pat:=bX [.nm .Innings,I,.bool]
abbrev q2g:Pat:=bX [.nm .Innings,I]
abbrev q2b:Pat:=bX [.nm .Innings,.bool]
abbrev qgR:Pat:=bX [.nm .Rules,.nm .Innings]
abbrev qgP:Pat:=bX [.nm .Rules,.nm .Innings,I]
abbrev qgC:Pat:=bX [.nm .Rules,.nm .Innings,.bool]
def sgK:Den (tyP qgI)→List Prop×Den (tyP q2g):=fun x=>([ai x.1],(dG x.1 x.2.1,eG x.1 x.2.1,()))
def sgS:Den (tyP qgB)→List Prop×Den (tyP q2g):=fun x=>([ai x.1],(gM x.1 x.2.1 x.2.2.1,ja x.1 x.2.1 x.2.2.1,()))
def sgO:Den (tyP qgI)→List Prop×Den (tyP q2g):=fun x=>([ai x.1],(dZ x.1 x.2.1,fG x.1 x.2.1,()))
def sgT:Den (tyP qgP)→List Prop×Den (tyP q2g):=fun x=>([ai x.2.1],(ov x.1 x.2.1 x.2.2.1,fT x.1 x.2.1 x.2.2.1,()))
def sgN:Den (tyP qgR)→List Prop×Den (tyP q2g):=fun x=>([ai x.2.1],(ur x.1 x.2.1,yt x.1 x.2.1,()))
def sgB:Den (tyP qgC)→List Prop×Den (tyP q2b):=fun x=>([ai x.2.1],(aH x.1 x.2.1 x.2.2.1,fm x.1 x.2.1 x.2.2.1,()))
theorem qK (a b:Bool) :(bif a then b else false) =(a&&b):=by cases a <;> rfl
theorem Hl (x:Innings) (p:Int) (hs:ai x) :(evPat (al [k73,k74,k78] Tryz.f348) (fun _=>none) Tryz.f348 qgI q2g (x,p,())).sat fun z_=>z_ =(sgK (x,p,())).2:=by
 refine cast (by kernel_rfl) (?_:let r1:Bool:=cond (p==x.12) true (p==x.19);ai x∧((!bC x p)=true→(x,3,()) =(dG x p,eG x p,()))∧((!bC x p)=false→(aG x p=true→(x,18,()) =(dG x p,eG x p,()))∧(aG x p=false→(r1=true→(x,17,()) =(dG x p,eG x p,()))∧(r1=false→(Innings.mk x.1 x.2 x.3 x.4 x.5 x.6 x.7 x.8 x.9 x.10 x.11 x.12 x.13 x.14 x.15 x.16 x.17 x.18 p x.20 x.21 x.22 x.23,0,()) =(dG x p,eG x p,())))))
 intro r1
 clear_value (hr1:r1=_)
 have e1 :(p==x.Bowler||p==x.Keeper)=r1:=by rw [hr1];cases p==x.Bowler <;> rfl
 unfold dG eG
 rw [e1]
 refine ⟨hs,fun h=>?_,fun h=>⟨fun a=>?_,fun a=>⟨fun b=>?_,fun b=>?_⟩⟩⟩
 ·rw [h];rfl
 ·rw [h,a];rfl
 ·rw [h,a,b];rfl
 ·rw [h,a,b];rfl
def DH:FuncId×Ctr:=(348,ae KE qgI q2g sgK)
theorem Km:CtrOK Tryz.prog KE 348 (ae KE qgI q2g sgK):=by
 refine an (C:=al [k73,k74,k78] Tryz.f348) (aj (.consU ML rfl (.consU Ph rfl (.consU SI rfl .nil))) _) mixed (fn:=Tryz.f348) Tryz.func348 (by kernel_rfl) (by kernel_rfl) (by kernel_rfl) (by kernel_rfl) (by kernel_rfl) (by kernel_rfl) (Λ:=fun _ _=>none) ?_ ?_
 ·exact fun _ _ _ _ _ _ _ _ h=>by cases h
 ·rintro ⟨x,p,⟨⟩⟩ hw hn
  exact Hl x p (hn _ List.mem_cons_self)
theorem E7 (x:Innings) (p:Int) (hs:ai x) :(evPat (al [k44,k72,k76] Tryz.f331) (fun _=>none) Tryz.f331 qgI q2g (x,p,())).sat fun z_=>z_ =(sgK (x,p,())).2:=by
 refine cast (by kernel_rfl) (?_:let r1:Bool:=cond (p==x.12) true (p==x.19);ai x∧((!bC x p)=true→(x,3,()) =(dG x p,eG x p,()))∧((!bC x p)=false→(aG x p=true→(x,18,()) =(dG x p,eG x p,()))∧(aG x p=false→(r1=true→(x,17,()) =(dG x p,eG x p,()))∧(r1=false→(Innings.mk x.1 x.2 x.3 x.4 x.5 x.6 x.7 x.8 x.9 x.10 x.11 x.12 x.13 x.14 x.15 x.16 x.17 x.18 p x.20 x.21 x.22 x.23,0,()) =(dG x p,eG x p,())))))
 intro r1
 clear_value (hr1:r1=_)
 have e1 :(p==x.Bowler||p==x.Keeper)=r1:=by rw [hr1];cases p==x.Bowler <;> rfl
 unfold dG eG
 rw [e1]
 refine ⟨hs,fun h=>?_,fun h=>⟨fun a=>?_,fun a=>⟨fun b=>?_,fun b=>?_⟩⟩⟩
 ·rw [h];rfl
 ·rw [h,a];rfl
 ·rw [h,a,b];rfl
 ·rw [h,a,b];rfl
def zb:FuncId×Ctr:=(331,ae KE qgI q2g sgK)
theorem Gw:CtrOK Tryz.prog KE 331 (ae KE qgI q2g sgK):=by
 refine an (C:=al [k44,k72,k76] Tryz.f331) (aj (.consU sC rfl (.consU MK rfl (.consU Pi rfl .nil))) _) mixed (fn:=Tryz.f331) Tryz.func331 (by kernel_rfl) (by kernel_rfl) (by kernel_rfl) (by kernel_rfl) (by kernel_rfl) (by kernel_rfl) (Λ:=fun _ _=>none) ?_ ?_
 ·exact fun _ _ _ _ _ _ _ _ h=>by cases h
 ·rintro ⟨x,p,⟨⟩⟩ hw hn
  exact E7 x p (hn _ List.mem_cons_self)
theorem KV (x:Innings) (p:Int) (on:Bool) (hs:ai x) (hp:gP p) :(evPat (al [k73,k74,k78] Tryz.f349) (fun _=>none) Tryz.f349 qgB q2g (x,p,on,())).sat fun z_=>z_ =(sgS (x,p,on,())).2:=by
 refine cast (by kernel_rfl) (?_:let r1:Int:=IntKind.i64.wrap (p - 1);let r2:Int:=cond (cond on (x.19==p) false) x.12 x.12;let r3:Int:=cond (cond on (x.19==p) false) x.1 x.1;let r4:Int:=cond (cond on (x.19==p) false) x.2 x.2;let r5:Int:=cond (cond on (x.19==p) false) x.3 x.3;let r6:Int:=cond (cond on (x.19==p) false) x.4 x.4;let r7:Int:=cond (cond on (x.19==p) false) x.5 x.5;let r8:Int:=cond (cond on (x.19==p) false) x.7 x.7;let r9:Int:=cond (cond on (x.19==p) false) x.8 x.8;let r10:Int:=cond (cond on (x.19==p) false) x.9 x.9;let r11:Int:=cond (cond on (x.19==p) false) x.10 x.10;let r12:Bool:=cond (cond on (x.19==p) false) x.15 x.15;let r13:Bool:=cond (cond on (x.19==p) false) x.17 x.17;let r14:Int:=cond (cond on (x.19==p) false) x.18 x.18;let r15:Int:=cond (cond on (x.19==p) false) x.20 x.20;let r16:Int:=cond (cond on (x.19==p) false) x.23 x.23;let r17:Int:=cond (cond on (x.19==p) false) x.6.1 x.6.1;let r18:Int:=cond (cond on (x.19==p) false) x.6.2 x.6.2;let r19:Int:=cond (cond on (x.19==p) false) x.6.3 x.6.3;let r20:Int:=cond (cond on (x.19==p) false) x.6.4 x.6.4;let r21:Int:=cond (cond on (x.19==p) false) x.6.5 x.6.5;let r22:Int:=cond (cond on (x.19==p) false) x.22.1 x.22.1;let r23:Int:=cond (cond on (x.19==p) false) 0 x.19;let r24:Int:=cond (cond on (x.19==p) false) x.22.2.1 x.22.2.1;let r25:Bool:=cond on (r2==p) false;ai x∧((!bC x p)=true→(x,3,()) =(gM x p on,ja x p on,()))∧((!bC x p)=false→((aG x p==on)=true→(x,18,()) =(gM x p on,ja x p on,()))∧((aG x p==on)=false→(0≤r1∧r1 <(↑x.21.length:Int))∧(Innings.mk (cond r25 r3 r3) (cond r25 r4 r4) (cond r25 r5 r5) (cond r25 r6 r6) (cond r25 r7 r7) (Extras.mk (cond r25 r17 r17) (cond r25 r18 r18) (cond r25 r19 r19) (cond r25 r20 r20) (cond r25 r21 r21)) (cond r25 r8 r8) (cond r25 r9 r9) (cond r25 r10 r10) (cond r25 r11 r11) x.11 (cond r25 0 r2) x.13 x.14 (cond r25 r12 r12) x.16 (cond r25 r13 r13) (cond r25 r14 r14) (cond r25 r23 r23) (cond r25 r15 r15) (x.21.set r1.toNat on) (cond r25 r22 r22,cond r25 r24 r24,()) (cond r25 r16 r16),0,()) =(gM x p on,ja x p on,()))))
 intro r1 r2 r3 r4 r5 r6 r7 r8 r9 r10 r11 r12 r13 r14 r15 r16 r17 r18 r19 r20 r21 r22 r23 r24 r25
 clear_value (hr1:r1=_) (hr2:r2=_) (hr3:r3=_) (hr4:r4=_) (hr5:r5=_) (hr6:r6=_) (hr7:r7=_) (hr8:r8=_) (hr9:r9=_) (hr10:r10=_) (hr11:r11=_) (hr12:r12=_) (hr13:r13=_) (hr14:r14=_) (hr15:r15=_) (hr16:r16=_) (hr17:r17=_) (hr18:r18=_) (hr19:r19=_) (hr20:r20=_) (hr21:r21=_) (hr22:r22=_) (hr23:r23=_) (hr24:r24=_) (hr25:r25=_)
 simp only [Bool.cond_self] at hr2 hr3 hr4 hr5 hr6 hr7 hr8 hr9 hr10 hr11 hr12 hr13 hr14 hr15 hr16 hr17 hr18 hr19 hr20 hr21 hr22 hr24
 unfold gM ja
 refine ⟨hs,fun h=>?_,fun h=>⟨fun a=>?_,fun a=>?_⟩⟩
 ·rw [h];rfl
 ·rw [h,a];rfl
 ·obtain ⟨e,h3,h4⟩:=sj hp (by simpa using h)
  rw [e] at hr1
  refine ⟨by rw [hr1];exact ⟨h3,h4⟩,?_⟩
  rw [h,a]
  simp only [Bool.cond_self]
  rw [hr25,hr23,hr2,hr1,qK,qK]
  subst hr3 hr4 hr5 hr6 hr7 hr8 hr9 hr10 hr11 hr12 hr13 hr14 hr15 hr16 hr17 hr18 hr19 hr20 hr21 hr22 hr24
  rfl
def I0:FuncId×Ctr:=(349,ae KE qgB q2g sgS)
theorem MU:CtrOK Tryz.prog KE 349 (ae KE qgB q2g sgS):=by
 refine an (C:=al [k73,k74,k78] Tryz.f349) (aj (.consU ML rfl (.consU Ph rfl (.consU SI rfl .nil))) _) mixed (fn:=Tryz.f349) Tryz.func349 (by kernel_rfl) (by kernel_rfl) (by kernel_rfl) (by kernel_rfl) (by kernel_rfl) (by kernel_rfl) (Λ:=fun _ _=>none) ?_ ?_
 ·exact fun _ _ _ _ _ _ _ _ h=>by cases h
 ·rintro ⟨x,p,on,⟨⟩⟩ hw hn
  exact KV x p on (hn _ List.mem_cons_self) (dk (aU (aN hw)))
theorem Hm (x:Innings) (p:Int) (on:Bool) (hs:ai x) (hp:gP p) :(evPat (al [k44,k72,k76] Tryz.f332) (fun _=>none) Tryz.f332 qgB q2g (x,p,on,())).sat fun z_=>z_ =(sgS (x,p,on,())).2:=by
 refine cast (by kernel_rfl) (?_:let r1:Int:=IntKind.i64.wrap (p - 1);let r2:Int:=cond (cond on (x.19==p) false) x.12 x.12;let r3:Int:=cond (cond on (x.19==p) false) x.1 x.1;let r4:Int:=cond (cond on (x.19==p) false) x.2 x.2;let r5:Int:=cond (cond on (x.19==p) false) x.3 x.3;let r6:Int:=cond (cond on (x.19==p) false) x.4 x.4;let r7:Int:=cond (cond on (x.19==p) false) x.5 x.5;let r8:Int:=cond (cond on (x.19==p) false) x.7 x.7;let r9:Int:=cond (cond on (x.19==p) false) x.8 x.8;let r10:Int:=cond (cond on (x.19==p) false) x.9 x.9;let r11:Int:=cond (cond on (x.19==p) false) x.10 x.10;let r12:Bool:=cond (cond on (x.19==p) false) x.15 x.15;let r13:Bool:=cond (cond on (x.19==p) false) x.17 x.17;let r14:Int:=cond (cond on (x.19==p) false) x.18 x.18;let r15:Int:=cond (cond on (x.19==p) false) x.20 x.20;let r16:Int:=cond (cond on (x.19==p) false) x.23 x.23;let r17:Int:=cond (cond on (x.19==p) false) x.6.1 x.6.1;let r18:Int:=cond (cond on (x.19==p) false) x.6.2 x.6.2;let r19:Int:=cond (cond on (x.19==p) false) x.6.3 x.6.3;let r20:Int:=cond (cond on (x.19==p) false) x.6.4 x.6.4;let r21:Int:=cond (cond on (x.19==p) false) x.6.5 x.6.5;let r22:Int:=cond (cond on (x.19==p) false) x.22.1 x.22.1;let r23:Int:=cond (cond on (x.19==p) false) 0 x.19;let r24:Int:=cond (cond on (x.19==p) false) x.22.2.1 x.22.2.1;let r25:Bool:=cond on (r2==p) false;ai x∧((!bC x p)=true→(x,3,()) =(gM x p on,ja x p on,()))∧((!bC x p)=false→((aG x p==on)=true→(x,18,()) =(gM x p on,ja x p on,()))∧((aG x p==on)=false→(0≤r1∧r1 <(↑x.21.length:Int))∧(Innings.mk (cond r25 r3 r3) (cond r25 r4 r4) (cond r25 r5 r5) (cond r25 r6 r6) (cond r25 r7 r7) (Extras.mk (cond r25 r17 r17) (cond r25 r18 r18) (cond r25 r19 r19) (cond r25 r20 r20) (cond r25 r21 r21)) (cond r25 r8 r8) (cond r25 r9 r9) (cond r25 r10 r10) (cond r25 r11 r11) x.11 (cond r25 0 r2) x.13 x.14 (cond r25 r12 r12) x.16 (cond r25 r13 r13) (cond r25 r14 r14) (cond r25 r23 r23) (cond r25 r15 r15) (x.21.set r1.toNat on) (cond r25 r22 r22,cond r25 r24 r24,()) (cond r25 r16 r16),0,()) =(gM x p on,ja x p on,()))))
 intro r1 r2 r3 r4 r5 r6 r7 r8 r9 r10 r11 r12 r13 r14 r15 r16 r17 r18 r19 r20 r21 r22 r23 r24 r25
 clear_value (hr1:r1=_) (hr2:r2=_) (hr3:r3=_) (hr4:r4=_) (hr5:r5=_) (hr6:r6=_) (hr7:r7=_) (hr8:r8=_) (hr9:r9=_) (hr10:r10=_) (hr11:r11=_) (hr12:r12=_) (hr13:r13=_) (hr14:r14=_) (hr15:r15=_) (hr16:r16=_) (hr17:r17=_) (hr18:r18=_) (hr19:r19=_) (hr20:r20=_) (hr21:r21=_) (hr22:r22=_) (hr23:r23=_) (hr24:r24=_) (hr25:r25=_)
 simp only [Bool.cond_self] at hr2 hr3 hr4 hr5 hr6 hr7 hr8 hr9 hr10 hr11 hr12 hr13 hr14 hr15 hr16 hr17 hr18 hr19 hr20 hr21 hr22 hr24
 unfold gM ja
 refine ⟨hs,fun h=>?_,fun h=>⟨fun a=>?_,fun a=>?_⟩⟩
 ·rw [h];rfl
 ·rw [h,a];rfl
 ·obtain ⟨e,h3,h4⟩:=sj hp (by simpa using h)
  rw [e] at hr1
  refine ⟨by rw [hr1];exact ⟨h3,h4⟩,?_⟩
  rw [h,a]
  simp only [Bool.cond_self]
  rw [hr25,hr23,hr2,hr1,qK,qK]
  subst hr3 hr4 hr5 hr6 hr7 hr8 hr9 hr10 hr11 hr12 hr13 hr14 hr15 hr16 hr17 hr18 hr19 hr20 hr21 hr22 hr24
  rfl
def DI:FuncId×Ctr:=(332,ae KE qgB q2g sgS)
theorem Kn:CtrOK Tryz.prog KE 332 (ae KE qgB q2g sgS):=by
 refine an (C:=al [k44,k72,k76] Tryz.f332) (aj (.consU sC rfl (.consU MK rfl (.consU Pi rfl .nil))) _) mixed (fn:=Tryz.f332) Tryz.func332 (by kernel_rfl) (by kernel_rfl) (by kernel_rfl) (by kernel_rfl) (by kernel_rfl) (by kernel_rfl) (Λ:=fun _ _=>none) ?_ ?_
 ·exact fun _ _ _ _ _ _ _ _ h=>by cases h
 ·rintro ⟨x,p,on,⟨⟩⟩ hw hn
  exact Hm x p on (hn _ List.mem_cons_self) (dk (aU (aN hw)))
theorem E8 (x:Innings) (n:Int) (hs:ai x) :(evPat (al [k78] Tryz.f347) (fun _=>none) Tryz.f347 qgI q2g (x,n,())).sat fun z_=>z_ =(sgO (x,n,())).2:=by
 refine cast (by kernel_rfl) (?_:let r1:Int:=IntKind.i64.wrap ((↑x.21.length:Int) - 2);let r2:Bool:=cond (decide (n<0)) true (decide (n>r1));ai x∧(r2=true→(x,16,()) =(dZ x n,fG x n,()))∧(r2=false→(Innings.mk x.1 x.2 x.3 x.4 x.5 x.6 x.7 x.8 x.9 x.10 x.11 x.12 x.13 x.14 x.15 x.16 x.17 x.18 x.19 n x.21 x.22 x.23,0,()) =(dZ x n,fG x n,())))
 intro r1 r2
 clear_value (hr1:r1=_) (hr2:r2=_)
 have e1:s5 x n=r2:=by
  have e0:r1 =(x.Subs.length:Int) - 2:=by rw [hr1];exact bc (by omega) (by have:=hs.2.2.2.2;omega)
  rw [hr2,e0];unfold s5;cases decide (n<0) <;> rfl
 unfold dZ fG
 rw [e1]
 refine ⟨hs,fun h=>?_,fun h=>?_⟩
 ·rw [h];rfl
 ·rw [h];rfl
def ze:FuncId×Ctr:=(347,ae KE qgI q2g sgO)
theorem Gx:CtrOK Tryz.prog KE 347 (ae KE qgI q2g sgO):=by
 refine an (C:=al [k78] Tryz.f347) (aj (.consU SI rfl .nil) _) mixed (fn:=Tryz.f347) Tryz.func347 (by kernel_rfl) (by kernel_rfl) (by kernel_rfl) (by kernel_rfl) (by kernel_rfl) (by kernel_rfl) (Λ:=fun _ _=>none) ?_ ?_
 ·exact fun _ _ _ _ _ _ _ _ h=>by cases h
 ·rintro ⟨x,n,⟨⟩⟩ hw hn
  exact E8 x n (hn _ List.mem_cons_self)
theorem B1 (x:Innings) (n:Int) (hs:ai x) :(evPat (al [k44] Tryz.f330) (fun _=>none) Tryz.f330 qgI q2g (x,n,())).sat fun z_=>z_ =(sgO (x,n,())).2:=by
 refine cast (by kernel_rfl) (?_:let r1:Int:=IntKind.i64.wrap ((↑x.21.length:Int) - 2);let r2:Bool:=cond (decide (n<0)) true (decide (n>r1));ai x∧(r2=true→(x,16,()) =(dZ x n,fG x n,()))∧(r2=false→(Innings.mk x.1 x.2 x.3 x.4 x.5 x.6 x.7 x.8 x.9 x.10 x.11 x.12 x.13 x.14 x.15 x.16 x.17 x.18 x.19 n x.21 x.22 x.23,0,()) =(dZ x n,fG x n,())))
 intro r1 r2
 clear_value (hr1:r1=_) (hr2:r2=_)
 have e1:s5 x n=r2:=by
  have e0:r1 =(x.Subs.length:Int) - 2:=by rw [hr1];exact bc (by omega) (by have:=hs.2.2.2.2;omega)
  rw [hr2,e0];unfold s5;cases decide (n<0) <;> rfl
 unfold dZ fG
 rw [e1]
 refine ⟨hs,fun h=>?_,fun h=>?_⟩
 ·rw [h];rfl
 ·rw [h];rfl
def wu:FuncId×Ctr:=(330,ae KE qgI q2g sgO)
theorem Eh:CtrOK Tryz.prog KE 330 (ae KE qgI q2g sgO):=by
 refine an (C:=al [k44] Tryz.f330) (aj (.consU sC rfl .nil) _) mixed (fn:=Tryz.f330) Tryz.func330 (by kernel_rfl) (by kernel_rfl) (by kernel_rfl) (by kernel_rfl) (by kernel_rfl) (by kernel_rfl) (Λ:=fun _ _=>none) ?_ ?_
 ·exact fun _ _ _ _ _ _ _ _ h=>by cases h
 ·rintro ⟨x,n,⟨⟩⟩ hw hn
  exact B1 x n (hn _ List.mem_cons_self)
theorem Qm (r:Rules) (x:Innings) (hs:ai x) :(evPat (al [k83,k85] Tryz.f350) (fun _=>none) Tryz.f350 qgR q2g (r,x,())).sat fun z_=>z_ =(sgN (r,x,())).2:=by
 refine cast (by kernel_rfl) (?_:let r1:Bool:=cond (aq r != 0) true (cond (r.10==0) true (decide (x.18<IntKind.i64.wrap (r.10*r.5))));ai x∧(r1=true→(x,22,()) =(ur r x,yt r x,()))∧(r1=false→(Innings.mk x.1 x.2 x.3 x.4 x.5 x.6 x.7 x.8 x.9 x.10 x.11 x.12 x.13 x.14 x.15 x.16 x.17 0 x.19 x.20 x.21 x.22 x.23,0,()) =(ur r x,yt r x,())))
 intro r1
 clear_value (hr1:r1=_)
 have e1:zY r x=r1:=by rw [hr1];unfold zY;cases aq r != 0 <;> cases r.NewBall==0 <;> rfl
 unfold ur yt
 rw [e1]
 refine ⟨hs,fun h=>?_,fun h=>?_⟩
 ·rw [h];rfl
 ·rw [h];rfl
def QP:FuncId×Ctr:=(350,ae KE qgR q2g sgN)
theorem SR:CtrOK Tryz.prog KE 350 (ae KE qgR q2g sgN):=by
 refine an (C:=al [k83,k85] Tryz.f350) (aj (.consU SJ rfl (.consU wR rfl .nil)) _) mixed (fn:=Tryz.f350) Tryz.func350 (by kernel_rfl) (by kernel_rfl) (by kernel_rfl) (by kernel_rfl) (by kernel_rfl) (by kernel_rfl) (Λ:=fun _ _=>none) ?_ ?_
 ·exact fun _ _ _ _ _ _ _ _ h=>by cases h
 ·rintro ⟨r,x,⟨⟩⟩ hw hn
  exact Qm r x (hn _ List.mem_cons_self)
theorem NL (r:Rules) (x:Innings) (hs:ai x) :(evPat (al [k44,k86] Tryz.f333) (fun _=>none) Tryz.f333 qgR q2g (r,x,())).sat fun z_=>z_ =(sgN (r,x,())).2:=by
 refine cast (by kernel_rfl) (?_:let r1:Bool:=cond (aq r != 0) true (cond (r.10==0) true (decide (x.18<IntKind.i64.wrap (r.10*r.5))));ai x∧(r1=true→(x,22,()) =(ur r x,yt r x,()))∧(r1=false→(Innings.mk x.1 x.2 x.3 x.4 x.5 x.6 x.7 x.8 x.9 x.10 x.11 x.12 x.13 x.14 x.15 x.16 x.17 0 x.19 x.20 x.21 x.22 x.23,0,()) =(ur r x,yt r x,())))
 intro r1
 clear_value (hr1:r1=_)
 have e1:zY r x=r1:=by rw [hr1];unfold zY;cases aq r != 0 <;> cases r.NewBall==0 <;> rfl
 unfold ur yt
 rw [e1]
 refine ⟨hs,fun h=>?_,fun h=>?_⟩
 ·rw [h];rfl
 ·rw [h];rfl
def Mo:FuncId×Ctr:=(333,ae KE qgR q2g sgN)
theorem Pw:CtrOK Tryz.prog KE 333 (ae KE qgR q2g sgN):=by
 refine an (C:=al [k44,k86] Tryz.f333) (aj (.consU sC rfl (.consU wS rfl .nil)) _) mixed (fn:=Tryz.f333) Tryz.func333 (by kernel_rfl) (by kernel_rfl) (by kernel_rfl) (by kernel_rfl) (by kernel_rfl) (by kernel_rfl) (Λ:=fun _ _=>none) ?_ ?_
 ·exact fun _ _ _ _ _ _ _ _ h=>by cases h
 ·rintro ⟨r,x,⟨⟩⟩ hw hn
  exact NL r x (hn _ List.mem_cons_self)
theorem NM (r:Rules) (x:Innings) (p:Int) (hs:ai x) :(evPat (al [k82,k83] Tryz.f342) (fun _=>none) Tryz.f342 qgP q2g (r,x,p,())).sat fun z_=>z_ =(sgT (r,x,p,())).2:=by
 refine cast (by kernel_rfl) (?_:let r1:Bool:=fT r x p==0;ai x∧(Innings.mk (cond r1 x.1 x.1) (cond r1 x.2 x.2) (cond r1 x.3 x.3) (cond r1 x.4 x.4) (cond r1 x.5 x.5) (Extras.mk (cond r1 x.6.1 x.6.1) (cond r1 x.6.2 x.6.2) (cond r1 x.6.3 x.6.3) (cond r1 x.6.4 x.6.4) (cond r1 x.6.5 x.6.5)) (cond r1 x.7 x.7) (cond r1 x.8 x.8) (cond r1 x.9 x.9) (cond r1 x.10 x.10) x.11 (cond r1 p x.12) x.13 x.14 (cond r1 x.15 x.15) x.16 (cond r1 x.17 x.17) (cond r1 x.18 x.18) (cond r1 x.19 x.19) (cond r1 x.20 x.20) x.21 (cond r1 x.22.1 x.22.1,cond r1 x.22.2.1 x.22.2.1,()) (cond r1 x.23 x.23),fT r x p,()) =(ov r x p,fT r x p,()))
 intro r1
 clear_value (hr1:r1=_)
 refine ⟨hs,?_⟩
 unfold ov
 rw [←hr1]
 clear hr1
 cases r1 <;> rfl
def Mp:FuncId×Ctr:=(342,ae KE qgP q2g sgT)
theorem Px:CtrOK Tryz.prog KE 342 (ae KE qgP q2g sgT):=by
 refine an (C:=al [k82,k83] Tryz.f342) (aj (.consU VV rfl (.consU SJ rfl .nil)) _) mixed (fn:=Tryz.f342) Tryz.func342 (by kernel_rfl) (by kernel_rfl) (by kernel_rfl) (by kernel_rfl) (by kernel_rfl) (by kernel_rfl) (Λ:=fun _ _=>none) ?_ ?_
 ·exact fun _ _ _ _ _ _ _ _ h=>by cases h
 ·rintro ⟨r,x,p,⟨⟩⟩ hw hn
  exact NM r x p (hn _ List.mem_cons_self)
theorem NK (r:Rules) (x:Innings) (c:Bool) (hs:ai x) (hb:gP x.Bowler) :(evPat (al [k47,k83,k84,k85] Tryz.f377) (fun _=>none) Tryz.f377 qgC q2b (r,x,c,())).sat fun z_=>z_ =(sgB (r,x,c,())).2:=by
 refine cast (by kernel_rfl) (?_:let r1:Int:=IntKind.i64.wrap (x.12 - 1);let r2:Bool:=cond (!bG x x.12) true (aq r != 0);let r3:Int:=cond c (IntKind.i64.wrap (x.8+1)) x.8;let r4:Int:=cond c (IntKind.i64.wrap (x.18+1)) x.18;let r5:Int:=IntKind.i64.wrap ((cond c x.7 x.7)+1);let r6:List Int:=x.13++[x.12];let r7:Extras:=Extras.mk (cond c x.6.1 x.6.1) (cond c x.6.2 x.6.2) (cond c x.6.3 x.6.3) (cond c x.6.4 x.6.4) (cond c x.6.5 x.6.5);let r8:Bool:=decide (r3<r.5);let r9:List Int:=cond c (x.16.set r1.toNat (IntKind.i64.wrap (x.16.getD r1.toNat (dflt (Ty.int IntKind.i64))+1))) x.16;ai x∧(r2=true→(x,false,()) =(aH r x c,fm r x c,()))∧(r2=false→((!cO x.13 x.12)=true→(x.13.length+[x.12].length) *(8:Nat)≤(70368744177664:Nat)∧((c=true→(0≤r1∧r1 <(↑x.16.length:Int))∧(0≤r1∧r1 <(↑x.16.length:Int))∧True)∧(c=false→True))∧(true=true→(r8=true→(Innings.mk (cond c x.1 x.1) (cond c x.2 x.2) (cond c x.3 x.3) (cond c x.4 x.4) (cond c x.5 x.5) r7 (cond c x.7 x.7) r3 (cond c x.9 x.9) (cond c x.10 x.10) x.11 (cond c x.12 x.12) r6 x.14 (cond c x.15 x.15) r9 (cond c x.17 x.17) r4 (cond c x.19 x.19) (cond c x.20 x.20) x.21 (cond c x.22.1 x.22.1,cond c x.22.2.1 x.22.2.1,()) (cond c x.23 x.23),false,()) =(aH r x c,fm r x c,()))∧(r8=false→(Innings.mk (cond c x.1 x.1) (cond c x.2 x.2) (cond c x.3 x.3) (cond c x.4 x.4) (cond c x.5 x.5) r7 r5 0 (cond c x.9 x.9) (cond c x.10 x.10) x.11 0 [] r6 (cond c x.15 x.15) r9 (cond c x.17 x.17) r4 (cond c x.19 x.19) (cond c x.20 x.20) x.21 (cond c x.22.1 x.22.1,cond c x.22.2.1 x.22.2.1,()) (cond c x.23 x.23),true,()) =(aH r x c,fm r x c,()))))∧((!cO x.13 x.12)=false→((c=true→(0≤r1∧r1 <(↑x.16.length:Int))∧(0≤r1∧r1 <(↑x.16.length:Int))∧True)∧(c=false→True))∧(true=true→(r8=true→(Innings.mk (cond c x.1 x.1) (cond c x.2 x.2) (cond c x.3 x.3) (cond c x.4 x.4) (cond c x.5 x.5) r7 (cond c x.7 x.7) r3 (cond c x.9 x.9) (cond c x.10 x.10) x.11 (cond c x.12 x.12) x.13 x.14 (cond c x.15 x.15) r9 (cond c x.17 x.17) r4 (cond c x.19 x.19) (cond c x.20 x.20) x.21 (cond c x.22.1 x.22.1,cond c x.22.2.1 x.22.2.1,()) (cond c x.23 x.23),false,()) =(aH r x c,fm r x c,()))∧(r8=false→(Innings.mk (cond c x.1 x.1) (cond c x.2 x.2) (cond c x.3 x.3) (cond c x.4 x.4) (cond c x.5 x.5) r7 r5 0 (cond c x.9 x.9) (cond c x.10 x.10) x.11 0 [] x.13 (cond c x.15 x.15) r9 (cond c x.17 x.17) r4 (cond c x.19 x.19) (cond c x.20 x.20) x.21 (cond c x.22.1 x.22.1,cond c x.22.2.1 x.22.2.1,()) (cond c x.23 x.23),true,()) =(aH r x c,fm r x c,()))))))
 intro r1 r2 r3 r4 r5 r6 r7 r8 r9
 clear_value (hr1:r1=_) (hr2:r2=_) (hr3:r3=_) (hr4:r4=_) (hr5:r5=_) (hr6:r6=_) (hr7:r7=_) (hr8:r8=_) (hr9:r9=_)
 have h0:r2=fv r x:=by rw [hr2];simp only [fv];cases bG x x.Bowler <;> cases (aq r != 0) <;> rfl
 have hk:fv r x=false→IntKind.i64.wrap (x.Bowler - 1)=x.Bowler - 1∧0≤x.Bowler - 1∧x.Bowler - 1 <(x.Bowled.length:Int):=fun h=>oL hb (by
  cases hk:bG x x.Bowler with
  | true=>rfl
  | false=>simp only [fv,hk] at h;cases h)
 refine ⟨hs,fun h=>?_,fun h=>?_⟩
 ·rw [h0] at h;rw [(uH c h).1,(uH c h).2]
 ·rw [h0] at h
  obtain ⟨ew,k1,k2⟩:=hk h
  rw [ew] at hr1
  have B:0≤r1∧r1 <(x.Bowled.length:Int):=by rw [hr1];exact ⟨k1,k2⟩
  rw [hr3] at hr8
  clear hr2 h0
  refine ⟨fun h1=>⟨?_,⟨fun _=>⟨B,B,trivial⟩,fun _=>trivial⟩,fun _=>⟨fun h2=>?_,fun h2=>?_⟩⟩,fun h1=>⟨⟨fun _=>⟨B,B,trivial⟩,fun _=>trivial⟩,fun _=>⟨fun h2=>?_,fun h2=>?_⟩⟩⟩
  ·have:=hs.2.1
   simp only [List.length_cons,List.length_nil]
   omega
  all_goals
   rw [hr8] at h2
   subst hr3 hr4 hr5 hr6 hr7 hr9
   subst hr1
  ·have h1:cO x.Bowlers x.Bowler=false:=by simpa using h1
   rw [(kC h h2).1,(kC h h2).2]
   cases c <;> simp [cw,dH,m3,h1] <;> rfl
  ·have h1:cO x.Bowlers x.Bowler=false:=by simpa using h1
   rw [(gb h h2).1,(gb h h2).2]
   cases c <;> simp [xa,cw,dH,m3,h1] <;> rfl
  ·have h1:cO x.Bowlers x.Bowler=true:=by simpa using h1
   rw [(kC h h2).1,(kC h h2).2]
   cases c <;> simp [cw,dH,m3,h1] <;> rfl
  ·have h1:cO x.Bowlers x.Bowler=true:=by simpa using h1
   rw [(gb h h2).1,(gb h h2).2]
   cases c <;> simp [xa,cw,dH,m3,h1] <;> rfl
def Mn:FuncId×Ctr:=(377,ae KE qgC q2b sgB)
theorem Pv:CtrOK Tryz.prog KE 377 (ae KE qgC q2b sgB):=by
 refine an (C:=al [k47,k83,k84,k85] Tryz.f377) (aj (.consU Pf rfl (.consU SJ rfl (.consU SK rfl (.consU wR rfl .nil)))) _) mixed (fn:=Tryz.f377) Tryz.func377 (by kernel_rfl) (by kernel_rfl) (by kernel_rfl) (by kernel_rfl) (by kernel_rfl) (by kernel_rfl) (Λ:=fun _ _=>none) ?_ ?_
 ·exact fun _ _ _ _ _ _ _ _ h=>by cases h
 ·rintro ⟨r,x,c,⟨⟩⟩ hw hn
  exact NK r x c (hn _ List.mem_cons_self) (AY (aU (aN hw)))
theorem KU (r:Rules) (x:Innings) (c:Bool) (hs:ai x) (hb:gP x.Bowler) :(evPat (al [k44,k86,k87,k88] Tryz.f363) (fun _=>none) Tryz.f363 qgC q2b (r,x,c,())).sat fun z_=>z_ =(sgB (r,x,c,())).2:=by
 refine cast (by kernel_rfl) (?_:let r1:Int:=IntKind.i64.wrap (x.12 - 1);let r2:Bool:=cond (aq r != 0) true (!bG x x.12);let r3:Int:=cond c (IntKind.i64.wrap (x.8+1)) x.8;let r4:Int:=cond c (IntKind.i64.wrap (x.18+1)) x.18;let r5:Int:=IntKind.i64.wrap ((cond c x.7 x.7)+1);let r6:List Int:=x.13++[x.12];let r7:Extras:=Extras.mk (cond c x.6.1 x.6.1) (cond c x.6.2 x.6.2) (cond c x.6.3 x.6.3) (cond c x.6.4 x.6.4) (cond c x.6.5 x.6.5);let r8:Bool:=decide (r3<r.5);let r9:List Int:=cond c (x.16.set r1.toNat (IntKind.i64.wrap (x.16.getD r1.toNat (dflt (Ty.int IntKind.i64))+1))) x.16;ai x∧(r2=true→(x,false,()) =(aH r x c,fm r x c,()))∧(r2=false→((!cO x.13 x.12)=true→(x.13.length+[x.12].length) *(8:Nat)≤(70368744177664:Nat)∧((c=true→(0≤r1∧r1 <(↑x.16.length:Int))∧(0≤r1∧r1 <(↑x.16.length:Int))∧True)∧(c=false→True))∧(true=true→(r8=true→(Innings.mk (cond c x.1 x.1) (cond c x.2 x.2) (cond c x.3 x.3) (cond c x.4 x.4) (cond c x.5 x.5) r7 (cond c x.7 x.7) r3 (cond c x.9 x.9) (cond c x.10 x.10) x.11 (cond c x.12 x.12) r6 x.14 (cond c x.15 x.15) r9 (cond c x.17 x.17) r4 (cond c x.19 x.19) (cond c x.20 x.20) x.21 (cond c x.22.1 x.22.1,cond c x.22.2.1 x.22.2.1,()) (cond c x.23 x.23),false,()) =(aH r x c,fm r x c,()))∧(r8=false→(Innings.mk (cond c x.1 x.1) (cond c x.2 x.2) (cond c x.3 x.3) (cond c x.4 x.4) (cond c x.5 x.5) r7 r5 0 (cond c x.9 x.9) (cond c x.10 x.10) x.11 0 [] r6 (cond c x.15 x.15) r9 (cond c x.17 x.17) r4 (cond c x.19 x.19) (cond c x.20 x.20) x.21 (cond c x.22.1 x.22.1,cond c x.22.2.1 x.22.2.1,()) (cond c x.23 x.23),true,()) =(aH r x c,fm r x c,()))))∧((!cO x.13 x.12)=false→((c=true→(0≤r1∧r1 <(↑x.16.length:Int))∧(0≤r1∧r1 <(↑x.16.length:Int))∧True)∧(c=false→True))∧(true=true→(r8=true→(Innings.mk (cond c x.1 x.1) (cond c x.2 x.2) (cond c x.3 x.3) (cond c x.4 x.4) (cond c x.5 x.5) r7 (cond c x.7 x.7) r3 (cond c x.9 x.9) (cond c x.10 x.10) x.11 (cond c x.12 x.12) x.13 x.14 (cond c x.15 x.15) r9 (cond c x.17 x.17) r4 (cond c x.19 x.19) (cond c x.20 x.20) x.21 (cond c x.22.1 x.22.1,cond c x.22.2.1 x.22.2.1,()) (cond c x.23 x.23),false,()) =(aH r x c,fm r x c,()))∧(r8=false→(Innings.mk (cond c x.1 x.1) (cond c x.2 x.2) (cond c x.3 x.3) (cond c x.4 x.4) (cond c x.5 x.5) r7 r5 0 (cond c x.9 x.9) (cond c x.10 x.10) x.11 0 [] x.13 (cond c x.15 x.15) r9 (cond c x.17 x.17) r4 (cond c x.19 x.19) (cond c x.20 x.20) x.21 (cond c x.22.1 x.22.1,cond c x.22.2.1 x.22.2.1,()) (cond c x.23 x.23),true,()) =(aH r x c,fm r x c,()))))))
 intro r1 r2 r3 r4 r5 r6 r7 r8 r9
 clear_value (hr1:r1=_) (hr2:r2=_) (hr3:r3=_) (hr4:r4=_) (hr5:r5=_) (hr6:r6=_) (hr7:r7=_) (hr8:r8=_) (hr9:r9=_)
 have h0:r2=fv r x:=by rw [hr2];simp only [fv];cases bG x x.Bowler <;> cases (aq r != 0) <;> rfl
 have hk:fv r x=false→IntKind.i64.wrap (x.Bowler - 1)=x.Bowler - 1∧0≤x.Bowler - 1∧x.Bowler - 1 <(x.Bowled.length:Int):=fun h=>oL hb (by
  cases hk:bG x x.Bowler with
  | true=>rfl
  | false=>simp only [fv,hk] at h;cases h)
 refine ⟨hs,fun h=>?_,fun h=>?_⟩
 ·rw [h0] at h;rw [(uH c h).1,(uH c h).2]
 ·rw [h0] at h
  obtain ⟨ew,k1,k2⟩:=hk h
  rw [ew] at hr1
  have B:0≤r1∧r1 <(x.Bowled.length:Int):=by rw [hr1];exact ⟨k1,k2⟩
  rw [hr3] at hr8
  clear hr2 h0
  refine ⟨fun h1=>⟨?_,⟨fun _=>⟨B,B,trivial⟩,fun _=>trivial⟩,fun _=>⟨fun h2=>?_,fun h2=>?_⟩⟩,fun h1=>⟨⟨fun _=>⟨B,B,trivial⟩,fun _=>trivial⟩,fun _=>⟨fun h2=>?_,fun h2=>?_⟩⟩⟩
  ·have:=hs.2.1
   simp only [List.length_cons,List.length_nil]
   omega
  all_goals
   rw [hr8] at h2
   subst hr3 hr4 hr5 hr6 hr7 hr9
   subst hr1
  ·have h1:cO x.Bowlers x.Bowler=false:=by simpa using h1
   rw [(kC h h2).1,(kC h h2).2]
   cases c <;> simp [cw,dH,m3,h1] <;> rfl
  ·have h1:cO x.Bowlers x.Bowler=false:=by simpa using h1
   rw [(gb h h2).1,(gb h h2).2]
   cases c <;> simp [xa,cw,dH,m3,h1] <;> rfl
  ·have h1:cO x.Bowlers x.Bowler=true:=by simpa using h1
   rw [(kC h h2).1,(kC h h2).2]
   cases c <;> simp [cw,dH,m3,h1] <;> rfl
  ·have h1:cO x.Bowlers x.Bowler=true:=by simpa using h1
   rw [(gb h h2).1,(gb h h2).2]
   cases c <;> simp [xa,cw,dH,m3,h1] <;> rfl
def IZ:FuncId×Ctr:=(363,ae KE qgC q2b sgB)
theorem MT:CtrOK Tryz.prog KE 363 (ae KE qgC q2b sgB):=by
 refine an (C:=al [k44,k86,k87,k88] Tryz.f363) (aj (.consU sC rfl (.consU wS rfl (.consU SL rfl (.consU UA rfl .nil)))) _) mixed (fn:=Tryz.f363) Tryz.func363 (by kernel_rfl) (by kernel_rfl) (by kernel_rfl) (by kernel_rfl) (by kernel_rfl) (by kernel_rfl) (Λ:=fun _ _=>none) ?_ ?_
 ·exact fun _ _ _ _ _ _ _ _ h=>by cases h
 ·rintro ⟨r,x,c,⟨⟩⟩ hw hn
  exact KU r x c (hn _ List.mem_cons_self) (AY (aU (aN hw)))
abbrev uD:Pat:=bX [.nm .Rules,.nm .Innings,I]
abbrev xq:Pat:=bX [.nm .Rules,.nm .Innings,.nm .Delivery]
def Od:Den (tyP uD)→List Prop×Den (tyP bb):=fun x=>([],(dc x.1 x.2.1 x.2.2.1,()))
def S7:Den (tyP uD)→List Prop×Den (tyP bb):=fun x=>([],(fT x.1 x.2.1 x.2.2.1,()))
def Oh:Den (tyP uD)→List Prop×Den (tyP q2L):=fun x=>([ai x.2.1],(ov x.1 x.2.1 x.2.2.1,fT x.1 x.2.1 x.2.2.1,()))
def di (r:Rules) (x:Innings) (d:Delivery):Int:=
 if cf x then 6 else if x.Bowler==0 then 7 else if eY r x != 0 then eY r x else if bP d != 0 then bP d else if ca d x.FreeHit != 0 then ca d x.FreeHit else cV x d
def xE:Den (tyP xq)→List Prop×Den (tyP bb):=fun x=>([],(di x.1 x.2.1 x.2.2.1,()))
def vk (x:Innings) (c:Credit):Innings:={ x with Runs:=W (x.Runs+mH c),Extras:={ x.Extras with Wides:=W (x.Extras.Wides+c.Wides),NoBalls:=W (x.Extras.NoBalls+c.NoBalls),Byes:=W (x.Extras.Byes+c.Byes),LegByes:=W (x.Extras.LegByes+c.LegByes) } }
def EG (y:Innings) (o:Bool):Innings:=if o then ij y else y
def qX (r:Rules) (x:Innings) (d:Delivery):Innings:=if d.Typ==1 then { x with FreeHit:=false } else if d.Typ==3&&r.FreeHit then { x with FreeHit:=true } else x
def gv (r:Rules) (x:Innings) (c:Bool):Innings:=EG (aH r x c) (fm r x c)
def ec (r:Rules) (x:Innings) (d:Delivery):Innings:=if di r x d != 0 then x else qX r (gv r (vk (aP x d) (ao r d)) (ao r d).Counts) d
def dW (x:Innings):Prop:=x.Batters.length≤999999∧x.Bowlers.length≤999999∧x.Before.length≤999999∧x.Bowled.length≤999999∧x.Subs.length≤999999
def AH:Den (tyP xq)→List Prop×Den (tyP q2L):=fun x=>([dW x.2.1],(ec x.1 x.2.1 x.2.2.1,di x.1 x.2.1 x.2.2.1,()))
theorem iP {x:Innings} (h:dW x):ai x:=by
 obtain ⟨h1,h2,h3,h4,h5⟩:=h
 exact ⟨by omega,by omega,by omega,by omega,by omega⟩
theorem pb {x:Innings} (d:Delivery) (h:dW x):dW (aP x d):=by
 have e1 :(aP x d).Batters.length=x.Batters.length:=by
  unfold aP fC cK cP ij cm
  repeat' split
  all_goals simp
 have e2 :(aP x d).Bowlers=x.Bowlers∧(aP x d).Before=x.Before∧(aP x d).Bowled=x.Bowled∧(aP x d).Subs=x.Subs:=by
  unfold aP fC cK cP ij cm
  repeat' split
  all_goals exact ⟨rfl,rfl,rfl,rfl⟩
 obtain ⟨k2,k3,k4,k5⟩:=e2
 unfold dW
 rw [e1,k2,k3,k4,k5]
 exact h
theorem pW {r:Rules} {x:Innings} (c:Bool) (h:dW x):ai (aH r x c):=by
 have hb :(dH x).length≤x.Bowlers.length+1:=by unfold dH;split <;> simp
 have hu :(m3 x).length=x.Bowled.length:=by unfold m3;simp
 have hc :(cw x c).Batters=x.Batters∧(cw x c).Before=x.Before∧(cw x c).Subs=x.Subs∧(cw x c).Bowlers=dH x∧(cw x c).Bowled.length=x.Bowled.length:=by
  unfold cw;cases c
  ·exact ⟨rfl,rfl,rfl,rfl,rfl⟩
  ·exact ⟨rfl,rfl,rfl,rfl,hu⟩
 obtain ⟨c1,c2,c3,c4,c5⟩:=hc
 obtain ⟨h1,h2,h3,h4,h5⟩:=h
 unfold aH
 split
 ·exact ⟨by omega,by omega,by omega,by omega,by omega⟩
 ·split
  ·unfold ai;rw [c1,c2,c3,c4,c5];exact ⟨by omega,by omega,by omega,by omega,by omega⟩
  ·unfold ai xa;simp only;rw [c1,c3,c4,c5];exact ⟨by omega,by simp,by omega,by omega,by omega⟩
theorem Qh (r:Rules) (x:Innings) (p:Int):dc r x p = -1∨0≤dc r x p:=by
 unfold dc
 repeat' split
 ·exact .inr (Int.le_refl _)
 ·exact .inl rfl
 ·right;unfold wQ;split <;> omega
theorem pa {r:Rules} {x:Innings} {d:Delivery} (h :(di r x d != 0)=true):ec r x d=x:=by simp only [ec,h,if_true]
theorem yR (r:Rules) (y:Innings) (c:Credit) (b:Bool):gv r (vk y c) b=vk (gv r y b) c:=by
 have e1:fv r (vk y c)=fv r y:=rfl
 have e2:cw (vk y c) b=vk (cw y b) c:=by cases b <;> rfl
 have e3 :(vk (cw y b) c).InOver =(cw y b).InOver:=rfl
 unfold gv EG aH fm
 rw [e1,e2,e3]
 cases fv r y
 ·by_cases h :(cw y b).InOver<r.Balls
  ·simp only [if_pos h];rfl
  ·simp only [if_neg h];rfl
 ·rfl
theorem HA (r:Rules) (x:Innings) (p:Int) (hp:gP p) :(evPat (al [k86,k87] Tryz.f386) (fun _=>none) Tryz.f386 uD bb (r,x,p,())).sat fun z_=>z_ =(Od (r,x,p,())).2:=by
 refine cast (by kernel_rfl) (?_:let r1:Int:=IntKind.i64.wrap (p - 1);let r2:Bool:=cond (aq r != 0) true (!bG x p);let r3:Int:=x.16.getD r1.toNat (dflt (Ty.int IntKind.i64));let r4:Int:=IntKind.i64.wrap (IntKind.i64.wrap (r.6*r.5) - if 0>r3 then 0 else r3);(r2=true→(0,()) =(dc r x p,()))∧(r2=false→((r.6==0)=true→((-1:Int),()) =(dc r x p,()))∧((r.6==0)=false→(0≤r1∧r1 <(↑x.16.length:Int))∧(if 0>r4 then 0 else r4,()) =(dc r x p,()))))
 intro r1 r2 r3 r4
 clear_value (hr1:r1=_) (hr2:r2=_) (hr3:r3=_) (hr4:r4=_)
 have h0:r2 =(!bG x p||aq r != 0):=by rw [hr2];cases aq r != 0 <;> cases bG x p <;> rfl
 have hk:r2=false→bG x p=true:=fun h=>by
  rw [h0] at h
  cases hk:bG x p with
  | true=>rfl
  | false=>rw [hk] at h;cases h
 refine ⟨fun h=>?_,fun h=>⟨fun h2=>?_,fun h2=>⟨?_,?_⟩⟩⟩
 ·simp only [dc,←h0,h,if_true]
 ·simp only [dc,←h0,h,h2];rfl
 ·obtain ⟨e,h3,h4⟩:=oL hp (hk h)
  rw [hr1,e];exact ⟨h3,h4⟩
 ·obtain ⟨e,h3,h4⟩:=oL hp (hk h)
  simp only [dc,←h0,h,h2]
  rw [hr4,hr3,hr1,e]
  rfl
def DU:FuncId×Ctr:=(386,ae KE uD bb Od)
theorem Kx:CtrOK Tryz.prog KE 386 (ae KE uD bb Od):=by
 refine an (C:=al [k86,k87] Tryz.f386) (aj (.consU wS rfl (.consU SL rfl .nil)) _) mixed (fn:=Tryz.f386) Tryz.func386 (by kernel_rfl) (by kernel_rfl) (by kernel_rfl) (by kernel_rfl) (by kernel_rfl) (by kernel_rfl) (Λ:=fun _ _=>none) ?_ ?_
 ·exact fun _ _ _ _ _ _ _ _ h=>by cases h
 ·rintro ⟨r,x,p,⟨⟩⟩ hw hn
  exact HA r x p (dk (aU (aN (aN hw))))
theorem Lh (r:Rules) (x:Innings) (p:Int) (hp:gP p) :(evPat (al [k86,k87,DU,k72,k88] Tryz.f358) (fun _=>none) Tryz.f358 uD bb (r,x,p,())).sat fun z_=>z_ =(S7 (r,x,p,())).2:=by
 refine cast (by kernel_rfl) (?_:let r1:Int:=IntKind.i64.wrap (r.5 - dc r x p);let r2:Bool:=cond (aq r != 0) true (!bG x p);let r3:Bool:=cond (p==x.19) true (cond (p==x.12) true (aG x p));let r4:Bool:=cond (decide (dc r x p≥0)) (decide (x.8<r1)) false;(r2=true→(3,()) =(fT r x p,()))∧(r2=false→(r3=true→(7,()) =(fT r x p,()))∧(r3=false→(cO x.14 p=true→(8,()) =(fT r x p,()))∧(cO x.14 p=false→(r4=true→(9,()) =(fT r x p,()))∧(r4=false→(0,()) =(fT r x p,()))))))
 intro r1 r2 r3 r4
 clear_value (hr1:r1=_) (hr2:r2=_) (hr3:r3=_) (hr4:r4=_)
 have h0:r2 =(!bG x p||aq r != 0):=by rw [hr2];cases aq r != 0 <;> cases bG x p <;> rfl
 have h3:r3 =(p==x.Keeper ||(p==x.Bowler||aG x p)):=by rw [hr3];cases p==x.Keeper <;> cases p==x.Bowler <;> rfl
 have hd:decide (dc r x p≥0) =(dc r x p != -1):=by
  rcases Qh r x p with h|h
  ·rw [h];rfl
  ·have h1:dc r x p≠ -1:=by omega
   have h2:dc r x p≥0:=h
   simp [h1,h2]
 have h4:r4 =(dc r x p != -1&&decide (x.InOver<r1)):=by rw [hr4,hd];cases dc r x p != -1 <;> rfl
 rw [hr1] at h4
 unfold fT
 rw [←h0,←h3,←h4]
 cases r2 <;> cases r3 <;> cases cO x.Before p <;> cases r4 <;> simp
def I8:FuncId×Ctr:=(358,ae KE uD bb S7)
theorem M6:CtrOK Tryz.prog KE 358 (ae KE uD bb S7):=by
 refine an (C:=al [k86,k87,DU,k72,k88] Tryz.f358) (aj (.consU wS rfl (.consU SL rfl (.consU Kx rfl (.consU MK rfl (.consU UA rfl .nil))))) _) mixed (fn:=Tryz.f358) Tryz.func358 (by kernel_rfl) (by kernel_rfl) (by kernel_rfl) (by kernel_rfl) (by kernel_rfl) (by kernel_rfl) (Λ:=fun _ _=>none) ?_ ?_
 ·exact fun _ _ _ _ _ _ _ _ h=>by cases h
 ·rintro ⟨r,x,p,⟨⟩⟩ hw hn
  exact Lh r x p (dk (aU (aN (aN hw))))
theorem HB (r:Rules) (x:Innings) (p:Int) (hs:ai x) :(evPat (al [k44,I8] Tryz.f325) (fun _=>none) Tryz.f325 uD q2L (r,x,p,())).sat fun z_=>z_ =(Oh (r,x,p,())).2:=by
 refine cast (by kernel_rfl) (?_:let r1:Bool:=fT r x p==0;ai x∧(Innings.mk (cond r1 x.1 x.1) (cond r1 x.2 x.2) (cond r1 x.3 x.3) (cond r1 x.4 x.4) (cond r1 x.5 x.5) (Extras.mk (cond r1 x.6.1 x.6.1) (cond r1 x.6.2 x.6.2) (cond r1 x.6.3 x.6.3) (cond r1 x.6.4 x.6.4) (cond r1 x.6.5 x.6.5)) (cond r1 x.7 x.7) (cond r1 x.8 x.8) (cond r1 x.9 x.9) (cond r1 x.10 x.10) x.11 (cond r1 p x.12) x.13 x.14 (cond r1 x.15 x.15) x.16 (cond r1 x.17 x.17) (cond r1 x.18 x.18) (cond r1 x.19 x.19) (cond r1 x.20 x.20) x.21 (cond r1 x.22.1 x.22.1,cond r1 x.22.2.1 x.22.2.1,()) (cond r1 x.23 x.23),fT r x p,()) =(ov r x p,fT r x p,()))
 intro r1
 clear_value (hr1:r1=_)
 simp only [Bool.cond_self]
 subst hr1
 refine ⟨hs,?_⟩
 unfold ov
 cases fT r x p==0 <;> rfl
def DV:FuncId×Ctr:=(325,ae KE uD q2L Oh)
theorem Ky:CtrOK Tryz.prog KE 325 (ae KE uD q2L Oh):=by
 refine an (C:=al [k44,I8] Tryz.f325) (aj (.consU sC rfl (.consU M6 rfl .nil)) _) mixed (fn:=Tryz.f325) Tryz.func325 (by kernel_rfl) (by kernel_rfl) (by kernel_rfl) (by kernel_rfl) (by kernel_rfl) (by kernel_rfl) (Λ:=fun _ _=>none) ?_ ?_
 ·exact fun _ _ _ _ _ _ _ _ h=>by cases h
 ·rintro ⟨r,x,p,⟨⟩⟩ hw hn
  exact HB r x p (hn _ List.mem_cons_self)
theorem Fg (r:Rules) (x:Innings) (d:Delivery) :(evPat (al [iE,k40,jo,k17,k42] Tryz.f375) (find [(rid (az Tryz.f375 0),c7 5 (al [iE,k40,jo,k17,k42] Tryz.f375) (fun _=>none) (az Tryz.f375 0))]) Tryz.f375 xq bb (r,x,d,())).sat fun z_=>z_ =(xE (r,x,d,())).2:=by
 refine cast (by kernel_rfl) (?_:let r1:Int:=IntKind.i64.wrap ((0:Int)+1);let r2:List Int:= [eY r x,bP d,ca d x.17,cV x d];let r3:Int:=IntKind.i64.wrap (r1+1);let r4:Int:=(↑r2.length:Int);let r5:Int:=r2.getD (Int.toNat 0) (dflt (Ty.int IntKind.i64));let r6:Int:=IntKind.i64.wrap (r3+1);let r7:Bool:=r5 != 0;let r8:Int:=r2.getD r1.toNat (dflt (Ty.int IntKind.i64));let r9:Bool:=r8 != 0;let r10:Int:=r2.getD r3.toNat (dflt (Ty.int IntKind.i64));let r11:Bool:=r10 != 0;let r12:Int:=r2.getD r6.toNat (dflt (Ty.int IntKind.i64));let r13:Bool:=r12 != 0;(cf x=true→(6,()) =(di r x d,()))∧(cf x=false→((x.12==0)=true→(7,()) =(di r x d,()))∧((x.12==0)=false→True∧((0:Int)≤0∧0<r4)∧(r7=true→(r5,()) =(di r x d,()))∧(r7=false→(0≤r1∧r1<r4)∧(r9=true→(r8,()) =(di r x d,()))∧(r9=false→(0≤r3∧r3<r4)∧(r11=true→(r10,()) =(di r x d,()))∧(r11=false→(0≤r6∧r6<r4)∧(r13=true→(r12,()) =(di r x d,()))∧(r13=false→(0,()) =(di r x d,()))))))))
 intro r1 r2 r3 r4 r5 r6 r7 r8 r9 r10 r11 r12 r13
 clear_value (hr1:r1=_) (hr2:r2=_) (hr3:r3=_) (hr4:r4=_) (hr5:r5=_) (hr6:r6=_) (hr7:r7=_) (hr8:r8=_) (hr9:r9=_) (hr10:r10=_) (hr11:r11=_) (hr12:r12=_) (hr13:r13=_)
 have n1:r1=1:=by rw [hr1];rfl
 have n3:r3=2:=by rw [hr3,n1];rfl
 have n6:r6=3:=by rw [hr6,n3];rfl
 have n4:r4=4:=by rw [hr4,hr2];rfl
 have e5:r5=eY r x:=by rw [hr5,hr2];rfl
 have e8:r8=bP d:=by rw [hr8,hr2,n1];rfl
 have e10:r10=ca d x.FreeHit:=by rw [hr10,hr2,n3];rfl
 have e12:r12=cV x d:=by rw [hr12,hr2,n6];rfl
 clear hr1 hr2 hr3 hr4 hr5 hr6 hr8 hr10 hr12
 subst e5 e8 e10 e12 n1 n3 n4 n6
 unfold di
 rw [←hr7,←hr9,←hr11]
 cases cf x <;> cases x.Bowler==0 <;> cases r7 <;> cases r9 <;> cases r11 <;> cases h13:r13 <;> simp
 all_goals (rw [h13] at hr13;simp at hr13;exact hr13.symm)
def zn:FuncId×Ctr:=(375,ae KE xq bb xE)
theorem GC:CtrOK Tryz.prog KE 375 (ae KE xq bb xE):=by
 refine an (C:=al [iE,k40,jo,k17,k42] Tryz.f375) (aj (.consU oZ rfl (.consU Ux rfl (.consU nB rfl (.consU Uw rfl (.consU Uy rfl .nil))))) _) mixed (fn:=Tryz.f375) Tryz.func375 (by kernel_rfl) (by kernel_rfl) (by kernel_rfl) (by kernel_rfl) (by kernel_rfl) (by kernel_rfl) (Λ:=fun x=>find [(rid (az Tryz.f375 0),c7 5 (al [iE,k40,jo,k17,k42] Tryz.f375) (fun _=>none) (az Tryz.f375 0))]) ?_ ?_
 ·rintro ⟨r,x,d,⟨⟩⟩ hw hn
  exact LoopsOKp.at (by kernel_rfl) (.cons (by kernel_rfl) (jG 5 (aj (.consU oZ rfl (.consU Ux rfl (.consU nB rfl (.consU Uw rfl (.consU Uy rfl .nil))))) _) mixed (Λ:=fun _=>none) (b:=az Tryz.f375 0) rfl (fun _ _ _ h=>by cases h)) .nil)
 ·rintro ⟨r,x,d,⟨⟩⟩ hw hn
  exact Fg r x d
theorem NN (r:Rules) (x:Innings) (d:Delivery) (hs:dW x) :(evPat (al [dU,zn,jS,QM,q9,Mn,DE] Tryz.f343) (fun _=>none) Tryz.f343 xq q2L (r,x,d,())).sat fun z_=>z_ =(AH (r,x,d,())).2:=by
 refine cast (by kernel_rfl) (?_:let r1:Bool:=di r x d != 0;let r2:Bool:=cond (d.1==3) r.9 false;let r3:Innings:=Innings.mk (aP x d).1 (aP x d).2 (aP x d).3 (IntKind.i64.wrap ((aP x d).4+mH (ao r d))) (aP x d).5 (Extras.mk (IntKind.i64.wrap ((aP x d).6.1 +(ao r d).2)) (IntKind.i64.wrap ((aP x d).6.2 +(ao r d).3)) (IntKind.i64.wrap ((aP x d).6.3 +(ao r d).4)) (IntKind.i64.wrap ((aP x d).6.4 +(ao r d).5)) (aP x d).6.5) (aP x d).7 (aP x d).8 (aP x d).9 (aP x d).10 (aP x d).11 (aP x d).12 (aP x d).13 (aP x d).14 (aP x d).15 (aP x d).16 (aP x d).17 (aP x d).18 (aP x d).19 (aP x d).20 (aP x d).21 (aP x d).22 (aP x d).23;let r4:Bool:=fm r r3 (ao r d).7;let r5:Innings:=aH r r3 (ao r d).7;let r6:Int:=cond r4 r5.1 r5.1;let r7:Int:=cond r4 r5.2 r5.2;let r8:Int:=cond r4 r5.3 r5.3;let r9:Int:=cond r4 r5.4 r5.4;let r10:Int:=cond r4 r5.5 r5.5;let r11:Int:=cond r4 r5.7 r5.7;let r12:Int:=cond r4 r5.8 r5.8;let r13:Int:=cond r4 r5.10 r5.9;let r14:Int:=cond r4 r5.9 r5.10;let r15:Int:=cond r4 r5.12 r5.12;let r16:Bool:=cond r4 r5.15 r5.15;let r17:Int:=cond r4 r5.18 r5.18;let r18:Int:=cond r4 r5.19 r5.19;let r19:Int:=cond r4 r5.20 r5.20;let r20:Int:=cond r4 r5.23 r5.23;let r21:Int:=cond r4 r5.6.1 r5.6.1;let r22:Int:=cond r4 r5.6.2 r5.6.2;let r23:Int:=cond r4 r5.6.3 r5.6.3;let r24:Int:=cond r4 r5.6.4 r5.6.4;let r25:Int:=cond r4 r5.6.5 r5.6.5;let r26:List Bool:=cond r4 r5.21 r5.21;let r27:Int:=cond r4 r5.22.1 r5.22.1;let r28:List Int:=cond r4 r5.11 r5.11;let r29:List Int:=cond r4 r5.13 r5.13;let r30:List Int:=cond r4 r5.14 r5.14;let r31:List Int:=cond r4 r5.16 r5.16;let r32:Int:=cond r4 r5.22.2.1 r5.22.2.1;(r1=true→ai x∧(x,di r x d,()) =(ec r x d,di r x d,()))∧(r1=false→ai x∧ai r3∧((r4=true→ai r5∧True)∧(r4=false→True))∧(true=true→(Innings.mk (cond (d.1==1) r6 (cond r2 r6 r6)) (cond (d.1==1) r7 (cond r2 r7 r7)) (cond (d.1==1) r8 (cond r2 r8 r8)) (cond (d.1==1) r9 (cond r2 r9 r9)) (cond (d.1==1) r10 (cond r2 r10 r10)) (Extras.mk (cond (d.1==1) r21 (cond r2 r21 r21)) (cond (d.1==1) r22 (cond r2 r22 r22)) (cond (d.1==1) r23 (cond r2 r23 r23)) (cond (d.1==1) r24 (cond r2 r24 r24)) (cond (d.1==1) r25 (cond r2 r25 r25))) (cond (d.1==1) r11 (cond r2 r11 r11)) (cond (d.1==1) r12 (cond r2 r12 r12)) (cond (d.1==1) r13 (cond r2 r13 r13)) (cond (d.1==1) r14 (cond r2 r14 r14)) (cond (d.1==1) r28 (cond r2 r28 r28)) (cond (d.1==1) r15 (cond r2 r15 r15)) (cond (d.1==1) r29 (cond r2 r29 r29)) (cond (d.1==1) r30 (cond r2 r30 r30)) (cond (d.1==1) r16 (cond r2 r16 r16)) (cond (d.1==1) r31 (cond r2 r31 r31)) (cond (d.1==1) false (cond r2 true (cond r4 r5.17 r5.17))) (cond (d.1==1) r17 (cond r2 r17 r17)) (cond (d.1==1) r18 (cond r2 r18 r18)) (cond (d.1==1) r19 (cond r2 r19 r19)) (cond (d.1==1) r26 (cond r2 r26 r26)) (cond (d.1==1) r27 (cond r2 r27 r27),cond (d.1==1) r32 (cond r2 r32 r32),()) (cond (d.1==1) r20 (cond r2 r20 r20)),0,()) =(ec r x d,di r x d,()))))
 intro r1 r2 r3 r4 r5 r6 r7 r8 r9 r10 r11 r12 r13 r14 r15 r16 r17 r18 r19 r20 r21 r22 r23 r24 r25 r26 r27 r28 r29 r30 r31 r32
 clear_value (hr1:r1=_) (hr2:r2=_) (hr3:r3=_) (hr4:r4=_) (hr5:r5=_) (hr6:r6=_) (hr7:r7=_) (hr8:r8=_) (hr9:r9=_) (hr10:r10=_) (hr11:r11=_) (hr12:r12=_) (hr13:r13=_) (hr14:r14=_) (hr15:r15=_) (hr16:r16=_) (hr17:r17=_) (hr18:r18=_) (hr19:r19=_) (hr20:r20=_) (hr21:r21=_) (hr22:r22=_) (hr23:r23=_) (hr24:r24=_) (hr25:r25=_) (hr26:r26=_) (hr27:r27=_) (hr28:r28=_) (hr29:r29=_) (hr30:r30=_) (hr31:r31=_) (hr32:r32=_)
 simp only [Bool.cond_self] at *
 have e3:r3=vk (aP x d) (ao r d):=hr3
 have e2:r2 =(d.Typ==3&&r.FreeHit):=by rw [hr2];cases d.Typ==3 <;> rfl
 have s3:dW r3:=by rw [e3];exact pb d hs
 clear hr3 hr2
 subst hr6 hr7 hr8 hr9 hr10 hr11 hr12 hr13 hr14 hr15 hr16 hr17 hr18 hr19 hr20 hr21 hr22 hr23 hr24 hr25 hr26 hr27 hr28 hr29 hr30 hr31 hr32
 refine ⟨fun h=>⟨iP hs,?_⟩,fun h=>⟨iP hs,iP s3,⟨fun h4=>⟨?_,trivial⟩,fun _=>trivial⟩,fun _=>?_⟩⟩
 ·rw [hr1] at h;simp only [ec,h];rfl
 ·rw [hr5];exact pW _ s3
 ·have hL:di r x d=0:=by rw [hr1] at h;simpa using h
  have hp:ec r x d=qX r (gv r r3 (ao r d).Counts) d:=by simp only [ec,hL,e3];rfl
  have ho:gv r r3 (ao r d).Counts=EG r5 r4:=by unfold gv;rw [←hr4,←hr5]
  rw [hp,ho,hL]
  unfold qX EG
  rw [←e2]
  cases r4 <;> cases d.Typ==1 <;> cases r2 <;> rfl
def Mq:FuncId×Ctr:=(343,ae KE xq q2L AH)
theorem Py:CtrOK Tryz.prog KE 343 (ae KE xq q2L AH):=by
 refine an (C:=al [dU,zn,jS,QM,q9,Mn,DE] Tryz.f343) (aj (.consU iI rfl (.consU GC rfl (.consU o0 rfl (.consU SP rfl (.consU wV rfl (.consU Pv rfl (.consU Kk rfl .nil))))))) _) mixed (fn:=Tryz.f343) Tryz.func343 (by kernel_rfl) (by kernel_rfl) (by kernel_rfl) (by kernel_rfl) (by kernel_rfl) (by kernel_rfl) (Λ:=fun _ _=>none) ?_ ?_
 ·exact fun _ _ _ _ _ _ _ _ h=>by cases h
 ·rintro ⟨r,x,d,⟨⟩⟩ hw hn
  exact NN r x d (hn _ List.mem_cons_self)
theorem HD (r:Rules) (x:Innings) (d:Delivery) (hs:dW x) :(evPat (al [gX,k41,uX,k18,k43,nu,I7,IZ,l9,Jd] Tryz.f326) (fun _=>none) Tryz.f326 xq q2L (r,x,d,())).sat fun z_=>z_ =(AH (r,x,d,())).2:=by
 refine cast (by kernel_rfl) (?_:let r1:Bool:=cr d x.17 != 0;let r2:Bool:=cond (d.1==3) r.9 false;let r3:Int:=IntKind.i64.wrap ((aH r (aP x d) (ao r d).7).4+mH (ao r d));let r4:Int:=IntKind.i64.wrap ((aH r (aP x d) (ao r d).7).6.1 +(ao r d).2);let r5:Int:=IntKind.i64.wrap ((aH r (aP x d) (ao r d).7).6.2 +(ao r d).3);let r6:Int:=IntKind.i64.wrap ((aH r (aP x d) (ao r d).7).6.3 +(ao r d).4);let r7:Int:=IntKind.i64.wrap ((aH r (aP x d) (ao r d).7).6.4 +(ao r d).5);let r8:Bool:=cond (d.1==1) false (cond r2 true (aH r (aP x d) (ao r d).7).17);let r9:Int:=cond (d.1==1) (aH r (aP x d) (ao r d).7).1 (cond r2 (aH r (aP x d) (ao r d).7).1 (aH r (aP x d) (ao r d).7).1);let r10:Int:=cond (d.1==1) (aH r (aP x d) (ao r d).7).2 (cond r2 (aH r (aP x d) (ao r d).7).2 (aH r (aP x d) (ao r d).7).2);let r11:Int:=cond (d.1==1) (aH r (aP x d) (ao r d).7).3 (cond r2 (aH r (aP x d) (ao r d).7).3 (aH r (aP x d) (ao r d).7).3);let r12:Int:=cond (d.1==1) (aH r (aP x d) (ao r d).7).5 (cond r2 (aH r (aP x d) (ao r d).7).5 (aH r (aP x d) (ao r d).7).5);let r13:Int:=cond (d.1==1) (aH r (aP x d) (ao r d).7).7 (cond r2 (aH r (aP x d) (ao r d).7).7 (aH r (aP x d) (ao r d).7).7);let r14:Int:=cond (d.1==1) (aH r (aP x d) (ao r d).7).8 (cond r2 (aH r (aP x d) (ao r d).7).8 (aH r (aP x d) (ao r d).7).8);let r15:Int:=cond (d.1==1) (aH r (aP x d) (ao r d).7).10 (cond r2 (aH r (aP x d) (ao r d).7).10 (aH r (aP x d) (ao r d).7).10);let r16:Int:=cond (d.1==1) (aH r (aP x d) (ao r d).7).9 (cond r2 (aH r (aP x d) (ao r d).7).9 (aH r (aP x d) (ao r d).7).9);let r17:Int:=cond (d.1==1) (aH r (aP x d) (ao r d).7).12 (cond r2 (aH r (aP x d) (ao r d).7).12 (aH r (aP x d) (ao r d).7).12);let r18:Bool:=cond (d.1==1) (aH r (aP x d) (ao r d).7).15 (cond r2 (aH r (aP x d) (ao r d).7).15 (aH r (aP x d) (ao r d).7).15);let r19:Int:=cond (d.1==1) (aH r (aP x d) (ao r d).7).18 (cond r2 (aH r (aP x d) (ao r d).7).18 (aH r (aP x d) (ao r d).7).18);let r20:Int:=cond (d.1==1) (aH r (aP x d) (ao r d).7).19 (cond r2 (aH r (aP x d) (ao r d).7).19 (aH r (aP x d) (ao r d).7).19);let r21:Int:=cond (d.1==1) (aH r (aP x d) (ao r d).7).20 (cond r2 (aH r (aP x d) (ao r d).7).20 (aH r (aP x d) (ao r d).7).20);let r22:Int:=cond (d.1==1) (aH r (aP x d) (ao r d).7).23 (cond r2 (aH r (aP x d) (ao r d).7).23 (aH r (aP x d) (ao r d).7).23);let r23:Int:=cond (d.1==1) r3 (cond r2 r3 r3);let r24:Extras:=Extras.mk (cond (d.1==1) r4 (cond r2 r4 r4)) (cond (d.1==1) r5 (cond r2 r5 r5)) (cond (d.1==1) r6 (cond r2 r6 r6)) (cond (d.1==1) r7 (cond r2 r7 r7)) (cond (d.1==1) (aH r (aP x d) (ao r d).7).6.5 (cond r2 (aH r (aP x d) (ao r d).7).6.5 (aH r (aP x d) (ao r d).7).6.5));(cf x=true→(x,6,()) =(ec r x d,di r x d,()))∧(cf x=false→((x.12==0)=true→(x,7,()) =(ec r x d,di r x d,()))∧((x.12==0)=false→((eY r x != 0)=true→(x,eY r x,()) =(ec r x d,di r x d,()))∧((eY r x != 0)=false→((bP d != 0)=true→(x,bP d,()) =(ec r x d,di r x d,()))∧((bP d != 0)=false→(r1=true→(x,cr d x.17,()) =(ec r x d,di r x d,()))∧(r1=false→((cV x d != 0)=true→(x,cV x d,()) =(ec r x d,di r x d,()))∧((cV x d != 0)=false→ai x∧ai (aP x d)∧(fm r (aP x d) (ao r d).7=true→ai (aH r (aP x d) (ao r d).7)∧(Innings.mk r9 r10 r11 r23 r12 r24 r13 r14 r15 r16 (aH r (aP x d) (ao r d).7).11 r17 (aH r (aP x d) (ao r d).7).13 (aH r (aP x d) (ao r d).7).14 r18 (aH r (aP x d) (ao r d).7).16 r8 r19 r20 r21 (aH r (aP x d) (ao r d).7).21 (cond (d.1==1) (aH r (aP x d) (ao r d).7).22.1 (cond r2 (aH r (aP x d) (ao r d).7).22.1 (aH r (aP x d) (ao r d).7).22.1),cond (d.1==1) (aH r (aP x d) (ao r d).7).22.2.1 (cond r2 (aH r (aP x d) (ao r d).7).22.2.1 (aH r (aP x d) (ao r d).7).22.2.1),()) r22,0,()) =(ec r x d,di r x d,()))∧(fm r (aP x d) (ao r d).7=false→(Innings.mk r9 r10 r11 r23 r12 r24 r13 r14 r16 r15 (cond (d.1==1) (aH r (aP x d) (ao r d).7).11 (cond r2 (aH r (aP x d) (ao r d).7).11 (aH r (aP x d) (ao r d).7).11)) r17 (cond (d.1==1) (aH r (aP x d) (ao r d).7).13 (cond r2 (aH r (aP x d) (ao r d).7).13 (aH r (aP x d) (ao r d).7).13)) (cond (d.1==1) (aH r (aP x d) (ao r d).7).14 (cond r2 (aH r (aP x d) (ao r d).7).14 (aH r (aP x d) (ao r d).7).14)) r18 (cond (d.1==1) (aH r (aP x d) (ao r d).7).16 (cond r2 (aH r (aP x d) (ao r d).7).16 (aH r (aP x d) (ao r d).7).16)) r8 r19 r20 r21 (cond (d.1==1) (aH r (aP x d) (ao r d).7).21 (cond r2 (aH r (aP x d) (ao r d).7).21 (aH r (aP x d) (ao r d).7).21)) (cond (d.1==1) (aH r (aP x d) (ao r d).7).22.1 (cond r2 (aH r (aP x d) (ao r d).7).22.1 (aH r (aP x d) (ao r d).7).22.1),cond (d.1==1) (aH r (aP x d) (ao r d).7).22.2.1 (cond r2 (aH r (aP x d) (ao r d).7).22.2.1 (aH r (aP x d) (ao r d).7).22.2.1),()) r22,0,()) =(ec r x d,di r x d,())))))))))
 intro r1 r2 r3 r4 r5 r6 r7 r8 r9 r10 r11 r12 r13 r14 r15 r16 r17 r18 r19 r20 r21 r22 r23 r24
 clear_value (hr1:r1=_) (hr2:r2=_) (hr3:r3=_) (hr4:r4=_) (hr5:r5=_) (hr6:r6=_) (hr7:r7=_) (hr8:r8=_) (hr9:r9=_) (hr10:r10=_) (hr11:r11=_) (hr12:r12=_) (hr13:r13=_) (hr14:r14=_) (hr15:r15=_) (hr16:r16=_) (hr17:r17=_) (hr18:r18=_) (hr19:r19=_) (hr20:r20=_) (hr21:r21=_) (hr22:r22=_) (hr23:r23=_) (hr24:r24=_)
 simp only [Bool.cond_self] at *
 rw [←yx d x.FreeHit] at hr1 ⊢
 have e2:r2 =(d.Typ==3&&r.FreeHit):=by rw [hr2];cases d.Typ==3 <;> rfl
 subst hr1
 clear hr2
 generalize hc:ao r d=c at *
 generalize hy:aH r (aP x d) c.Counts=y at *
 subst hr9 hr10 hr11 hr12 hr13 hr14 hr15 hr16 hr17 hr18 hr19 hr20 hr21 hr22 hr23 hr24 hr3 hr4 hr5 hr6 hr7
 refine ⟨fun h=>?_,fun a1=>⟨fun h=>?_,fun a2=>⟨fun h=>?_,fun a3=>⟨fun h=>?_,fun a4=>⟨fun h=>?_,fun a5=>⟨fun h=>?_,fun a6=>⟨iP hs,iP (pb d hs),fun h4=>⟨?_,?_⟩,fun h4=>?_⟩⟩⟩⟩⟩⟩⟩
 ·have hL:di r x d=6:=by simp only [di,h];rfl
  rw [pa (by rw [hL];rfl),hL]
 ·have hL:di r x d=7:=by simp only [di,a1,h];rfl
  rw [pa (by rw [hL];rfl),hL]
 ·have hL:di r x d=eY r x:=by simp only [di,a1,a2,h];rfl
  rw [pa (by rw [hL];exact h),hL]
 ·have hL:di r x d=bP d:=by simp only [di,a1,a2,a3,h];rfl
  rw [pa (by rw [hL];exact h),hL]
 ·have hL:di r x d=ca d x.FreeHit:=by simp only [di,a1,a2,a3,a4,h];rfl
  rw [pa (by rw [hL];exact h),hL]
 ·have hL:di r x d=cV x d:=by simp only [di,a1,a2,a3,a4,a5];rfl
  rw [pa (by rw [hL];exact h),hL]
 ·rw [←hy];exact pW _ (pb d hs)
 ·have hL:di r x d=0:=by
   have:di r x d=cV x d:=by simp only [di,a1,a2,a3,a4,a5];rfl
   rw [this];simpa using a6
  have hp:ec r x d=qX r (gv r (vk (aP x d) c) c.Counts) d:=by simp only [ec,hL,hc];rfl
  have ho:gv r (aP x d) c.Counts=ij y:=by unfold gv;rw [h4,hy];rfl
  rw [hp,yR,ho,hL]
  unfold qX
  rw [←e2,hr8]
  cases d.Typ==1 <;> cases r2 <;> rfl
 ·have hL:di r x d=0:=by
   have:di r x d=cV x d:=by simp only [di,a1,a2,a3,a4,a5];rfl
   rw [this];simpa using a6
  have hp:ec r x d=qX r (gv r (vk (aP x d) c) c.Counts) d:=by simp only [ec,hL,hc];rfl
  have ho:gv r (aP x d) c.Counts=y:=by unfold gv;rw [h4,hy];rfl
  rw [hp,yR,ho,hL]
  unfold qX
  rw [←e2,hr8]
  cases d.Typ==1 <;> cases r2 <;> rfl
def DW:FuncId×Ctr:=(326,ae KE xq q2L AH)
theorem Kz:CtrOK Tryz.prog KE 326 (ae KE xq q2L AH):=by
 refine an (C:=al [gX,k41,uX,k18,k43,nu,I7,IZ,l9,Jd] Tryz.f326) (aj (.consU nD rfl (.consU VK rfl (.consU Ez rfl (.consU VG rfl (.consU VL rfl (.consU sH rfl (.consU M5 rfl (.consU MT rfl (.consU tP rfl (.consU Nb rfl .nil)))))))))) _) mixed (fn:=Tryz.f326) Tryz.func326 (by kernel_rfl) (by kernel_rfl) (by kernel_rfl) (by kernel_rfl) (by kernel_rfl) (by kernel_rfl) (Λ:=fun _ _=>none) ?_ ?_
 ·exact fun _ _ _ _ _ _ _ _ h=>by cases h
 ·rintro ⟨r,x,d,⟨⟩⟩ hw hn
  exact HD r x d (hn _ List.mem_cons_self)
end
section
open Go Go.Mir
def D1:Go.Shelf.Ren:=⟨fun|137=>108|217=>170|266=>214|n=>n,fun|9=>9|5=>5|3=>3|n=>n,fun|n=>n⟩
theorem OZ:Go.Proofs.Lays.n137 Tryz.prog D1 where
 mixed:=by kernel_rfl
 f137:=Tryz.func108.trans (congrArg some (by kernel_rfl))
 f217:=Tryz.func170.trans (congrArg some (by kernel_rfl))
 f266:=Tryz.func214.trans (congrArg some (by kernel_rfl))
 t3:=Tryz.underlying3
 a3:=Tryz.isAgg3
 z3:=Tryz.sizeOf3
 v3:=Tryz.zeroValue3
 t5:=Tryz.underlying5
 a5:=Tryz.isAgg5
 z5:=Tryz.sizeOf5
 v5:=Tryz.zeroValue5
 t9:=Tryz.underlying9
 a9:=Tryz.isAgg9
 z9:=Tryz.sizeOf9
 v9:=Tryz.zeroValue9
end
section
open Go Go.Mir
attribute [local irreducible] Go.Mir.DT.sat Go.Mir.evPat
def SZ:Ty:= .prod .str (.prod (.int .u8) .unit)
def ixW (s:ByteArray) (c:Int):Int:=Lib.indexByte s.data.toList c.toNat.toUInt8
def Oq:Den SZ→PRes:=fun x=>⟨[],.int .i64 (ixW x.1 x.2.1),[]⟩
def l8:FuncId×Ctr:=(108,au KE SZ Oq)
def bZ (d:Delivery):Int:=
 if decide (d.Typ<1) ||(decide (d.Typ>3) ||(decide (d.Source>3)||decide (d.How>10))) then 3
 else if !inW d.Runs 0 7 ||(!inW d.Short 0 d.Runs ||(d.Boundary != 0&&(d.Boundary != 4&&d.Boundary != 6) ||(!inW d.Victim 0 2 ||(!inW d.Fielder 0 11 ||(!inW d.Second 0 11||!inW d.Sector 0 8))))) then 2 else 0
def AD:Den (tyP qD)→List Prop×Den (tyP bb):=fun x=>([],(bZ x.1,()))
def formsW:List event_form:= [⟨⟨#[84,79,83,83]⟩,⟨#[115,121]⟩,⟨#[66,65,84]⟩,⟨#[70,73,69,76,68]⟩⟩,⟨⟨#[79,80,69,78]⟩,⟨#[112,111]⟩,⟨#[]⟩,⟨#[]⟩⟩,⟨⟨#[66,79,87,76]⟩,⟨#[112]⟩,⟨#[]⟩,⟨#[]⟩⟩,⟨⟨#[66,65,76,76]⟩,⟨#[98]⟩,⟨#[]⟩,⟨#[]⟩⟩,⟨⟨#[69,78,84,69,82]⟩,⟨#[112]⟩,⟨#[]⟩,⟨#[]⟩⟩,⟨⟨#[82,69,84,73,82,69]⟩,⟨#[112,121]⟩,⟨#[72,85,82,84]⟩,⟨#[79,85,84]⟩⟩,⟨⟨#[70,73,69,76,68]⟩,⟨#[114]⟩,⟨#[]⟩,⟨#[]⟩⟩,⟨⟨#[75,69,69,80,69,82]⟩,⟨#[112]⟩,⟨#[]⟩,⟨#[]⟩⟩,⟨⟨#[83,85,66]⟩,⟨#[112,121]⟩,⟨#[79,78]⟩,⟨#[79,70,70]⟩⟩,⟨⟨#[78,69,87,66,65,76,76]⟩,⟨#[]⟩,⟨#[]⟩,⟨#[]⟩⟩,⟨⟨#[68,69,67,76,65,82,69]⟩,⟨#[115]⟩,⟨#[]⟩,⟨#[]⟩⟩,⟨⟨#[70,79,76,76,79,87]⟩,⟨#[115,121]⟩,⟨#[89,69,83]⟩,⟨#[78,79]⟩⟩,⟨⟨#[80,69,78,65,76,84,89]⟩,⟨#[115,114]⟩,⟨#[]⟩,⟨#[]⟩⟩,⟨⟨#[82,69,86,73,69,87]⟩,⟨#[115,121]⟩,⟨#[75,69,80,84]⟩,⟨#[76,79,83,84]⟩⟩,⟨⟨#[82,69,86,73,83,69]⟩,⟨#[114,118]⟩,⟨#[]⟩,⟨#[]⟩⟩,⟨⟨#[83,84,79,80]⟩,⟨#[]⟩,⟨#[]⟩,⟨#[]⟩⟩]
def IG (k:Int):ByteArray:=(formsW.getD (k - 1).toNat event_form.zero).fields
def loW (k:Int):Int:=if k==13 then 1 else 0
def hiW (k:Int):Int:=if k==7 then 11 else if k==13 then 99 else 100000
abbrev qKF:Pat:=bX [U8,U8]
def cS (k c:Int):Bool:=decide (ixW (IG k) c≥0) ||(k==5&&c==121)
def bA (k:Int):Prop:=1≤k∧k≤16
def Ol:Den (tyP qKF)→List Prop×Den (tyP ax):=fun x=>([bA x.1],(cS x.1 x.2.1,()))
abbrev qII:Pat:=bX [I,I]
def pc:Den (tyP qH)→List Prop×Den (tyP qII):=fun x=>([],(loW x.1,hiW x.1,()))
abbrev qU:Pat:=bX [.nm .ref08_Uses,.bool]
abbrev Qb:Pat:=bX [.slice (.nm .event_form)]
def HV:Den (tyP (bX []))→List Prop×Den (tyP Qb):=fun _=>([],(formsW,()))
def pQ (k:Int):Bool:=k==1||k==12||k==14||k==11||k==13
def kN (k:Int):Bool:=k==2||k==3||k==8||k==5||k==6||k==9
def nH (k:Int):Bool:=k==2
def LF (k:Int):Bool:=k==1||k==12||k==14||k==5||k==6||k==9
def ud (k:Int):Bool:=k==7||k==13||k==15
def nI (k:Int):Bool:=k==15
def mJ (k:Int):Bool:=k==4
def fk (k:Int):ref08_Uses:=⟨pQ k,kN k,nH k,LF k,ud k,nI k,mJ k⟩
def Cq:Den (tyP qH)→List Prop×Den (tyP qU):=fun x=>([],(fk x.1,inW x.1 1 16,()))
def JN (d:Delivery):Bool:=d.Typ==0&&(d.Source==0&&(d.Runs==0&&(d.Short==0&&(d.Boundary==0&&(d.Crossed==false&&(d.How==0&&(d.Victim==0&&(d.Fielder==0&&(d.Second==0&&(d.Sub==false&&d.Sector==0))))))))))
def bB (e:Mir.Event):Int:=
 if !inW e.Kind 1 16 then 3
 else if !pQ e.Kind&&e.Side != 0||!kN e.Kind&&e.Player != 0||!nH e.Kind&&e.Other != 0||!LF e.Kind&&e.Yes||!ud e.Kind&&e.Runs != 0||!nI e.Kind&&e.Overs != 0||!mJ e.Kind&&!JN e.Ball then 1
 else if pQ e.Kind&&!inW e.Side 1 2||kN e.Kind&&!inW e.Player 1 11||nH e.Kind&&!inW e.Other 1 11||ud e.Kind&&!inW e.Runs (loW e.Kind) (hiW e.Kind)||nI e.Kind&&!inW e.Overs 0 90 then 2
 else if mJ e.Kind then bZ e.Ball else 0
abbrev qE:Pat:=bX [.nm .Event]
def sEv:Den (tyP qE)→List Prop×Den (tyP bb):=fun x=>([],(bB x.1,()))
theorem QL :∀ (l:List UInt8) (c:UInt8),Lib.indexByte l c≤l.length
 | [],c=>by unfold Lib.indexByte;simp
 | b::l,c=>by
  have:=QL l c
  unfold Lib.indexByte
  simp only [List.length_cons]
  split
  ·omega
  ·split <;> omega
theorem tL:CtrOK Tryz.prog KE 108 (au KE SZ Oq):=by
 refine LN Tryz.func108 (by kernel_rfl) (by kernel_rfl) (fun _=>⟨rfl,rfl⟩) (fun x av w E hw _ hav=>?_) (fun _ _=>rfl)
 obtain ⟨s,c,⟨⟩⟩:=x
 obtain ⟨a,r,rfl,h1,h2⟩:=qJ hav
 obtain ⟨b,r2,rfl,h3,h4⟩:=qJ h2
 have h5:r2=[]:=by cases r2 with|nil=>rfl|cons=>simp [bF,ah] at h4
 subst h5
 simp only [gq,af] at h1 h3
 obtain ⟨rfl,hs⟩:=h1
 obtain ⟨rfl,hc⟩:=h3
 refine (Any.strings_IndexByte OZ s c w).mono fun e w' ⟨h6,h7⟩=>⟨_,h6,h7,fun E'=>?_⟩
 refine jb ?_
 have hge:=Lib.indexByte_ge s.data.toList c.toNat.toUInt8
 have hle:=QL s.data.toList c.toNat.toUInt8
 have hl:s.data.toList.length≤aJ:=by rw [Array.length_toList];exact hs
 unfold aJ at hl
 have e1:IntKind.i64.min = -9223372036854775808:=by decide
 have e2:IntKind.i64.max=9223372036854775807:=by decide
 unfold ok
 rw [e1,e2]
 show _≤ixW s c∧ixW s c≤_
 unfold ixW
 omega
theorem Fl (n:Int) (lo:Int) (hi:Int) :(evPat (al [] Tryz.f201) (fun _=>none) Tryz.f201 q3 ax (n,lo,hi,())).sat fun z_=>z_ =(sIn (n,lo,hi,())).2:=by
 refine cast (by kernel_rfl) (?_ :(cond (decide (n≥lo)) (decide (n≤hi)) false,()) =(inW n lo hi,()))
 grind [inW]
def zu:FuncId×Ctr:=(201,ae KE q3 ax sIn)
theorem GH:CtrOK Tryz.prog KE 201 (ae KE q3 ax sIn):=by
 refine an (C:=al [] Tryz.f201) (aj (CtrsOK.nil) _) mixed (fn:=Tryz.f201) Tryz.func201 (by kernel_rfl) (by kernel_rfl) (by kernel_rfl) (by kernel_rfl) (by kernel_rfl) (by kernel_rfl) (Λ:=fun _ _=>none) ?_ ?_
 ·exact fun _ _ _ _ _ _ _ _ h=>by cases h
 ·rintro ⟨n,lo,hi,⟨⟩⟩ hw hn
  exact Fl n lo hi
theorem Qq (n:Int) (lo:Int) (hi:Int) :(evPat (al [] Tryz.f204) (fun _=>none) Tryz.f204 q3 ax (n,lo,hi,())).sat fun z_=>z_ =(sIn (n,lo,hi,())).2:=by
 refine cast (by kernel_rfl) (?_ :(cond (decide (n≥lo)) (decide (n≤hi)) false,()) =(inW n lo hi,()))
 grind [inW]
def QS:FuncId×Ctr:=(204,ae KE q3 ax sIn)
theorem SV:CtrOK Tryz.prog KE 204 (ae KE q3 ax sIn):=by
 refine an (C:=al [] Tryz.f204) (aj (CtrsOK.nil) _) mixed (fn:=Tryz.f204) Tryz.func204 (by kernel_rfl) (by kernel_rfl) (by kernel_rfl) (by kernel_rfl) (by kernel_rfl) (by kernel_rfl) (Λ:=fun _ _=>none) ?_ ?_
 ·exact fun _ _ _ _ _ _ _ _ h=>by cases h
 ·rintro ⟨n,lo,hi,⟨⟩⟩ hw hn
  exact Qq n lo hi
theorem E5 (n:Int) (lo:Int) (hi:Int) :(evPat (al [] Tryz.f276) (fun _=>none) Tryz.f276 q3 ax (n,lo,hi,())).sat fun z_=>z_ =(sIn (n,lo,hi,())).2:=by
 refine cast (by kernel_rfl) (?_ :(cond (decide (n≥lo)) (decide (n≤hi)) false,()) =(inW n lo hi,()))
 grind [inW]
def jC:FuncId×Ctr:=(276,ae KE q3 ax sIn)
theorem qm:CtrOK Tryz.prog KE 276 (ae KE q3 ax sIn):=by
 refine an (C:=al [] Tryz.f276) (aj (CtrsOK.nil) _) mixed (fn:=Tryz.f276) Tryz.func276 (by kernel_rfl) (by kernel_rfl) (by kernel_rfl) (by kernel_rfl) (by kernel_rfl) (by kernel_rfl) (Λ:=fun _ _=>none) ?_ ?_
 ·exact fun _ _ _ _ _ _ _ _ h=>by cases h
 ·rintro ⟨n,lo,hi,⟨⟩⟩ hw hn
  exact E5 n lo hi
theorem Qr (n:Int) (lo:Int) (hi:Int) :(evPat (al [] Tryz.f242) (fun _=>none) Tryz.f242 q3 ax (n,lo,hi,())).sat fun z_=>z_ =(sIn (n,lo,hi,())).2:=by
 refine cast (by kernel_rfl) (?_ :(cond (decide (n≥lo)) (decide (n≤hi)) false,()) =(inW n lo hi,()))
 grind [inW]
def QT:FuncId×Ctr:=(242,ae KE q3 ax sIn)
theorem SW:CtrOK Tryz.prog KE 242 (ae KE q3 ax sIn):=by
 refine an (C:=al [] Tryz.f242) (aj (CtrsOK.nil) _) mixed (fn:=Tryz.f242) Tryz.func242 (by kernel_rfl) (by kernel_rfl) (by kernel_rfl) (by kernel_rfl) (by kernel_rfl) (by kernel_rfl) (Λ:=fun _ _=>none) ?_ ?_
 ·exact fun _ _ _ _ _ _ _ _ h=>by cases h
 ·rintro ⟨n,lo,hi,⟨⟩⟩ hw hn
  exact Qr n lo hi
theorem La (d:Delivery) :(evPat (al [zu] Tryz.f150) (fun _=>none) Tryz.f150 qD bb (d,())).sat fun z_=>z_ =(AD (d,())).2:=by
 refine cast (by kernel_rfl) (?_:let r1:Bool:=cond (!inW d.8 0 2) true (cond (!inW d.9 0 11) true (cond (!inW d.10 0 11) true (!inW d.12 0 8)));let r2:Bool:=cond (decide (d.1<1)) true (cond (decide (d.1>3)) true (cond (decide (d.2>3)) true (decide (d.7>10))));let r3:Bool:=cond (!inW d.3 0 7) true (cond (!inW d.4 0 d.3) true (cond (d.5 != 0) (cond (d.5 != 4) (cond (d.5 != 6) true r1) r1) r1));(r2=true→(3,()) =(bZ d,()))∧(r2=false→(r3=true→(2,()) =(bZ d,()))∧(r3=false→(0,()) =(bZ d,()))))
 intro r1 r2 r3
 clear_value (hr1:r1=_) (hr2:r2=_) (hr3:r3=_)
 repeat' (first|refine And.intro ?_ ?_|intro h)
 all_goals grind (splits:=40) [bZ]
def kJ:FuncId×Ctr:=(150,ae KE qD bb AD)
theorem rG:CtrOK Tryz.prog KE 150 (ae KE qD bb AD):=by
 refine an (C:=al [zu] Tryz.f150) (aj (.consU GH rfl .nil) _) mixed (fn:=Tryz.f150) Tryz.func150 (by kernel_rfl) (by kernel_rfl) (by kernel_rfl) (by kernel_rfl) (by kernel_rfl) (by kernel_rfl) (Λ:=fun _ _=>none) ?_ ?_
 ·exact fun _ _ _ _ _ _ _ _ h=>by cases h
 ·rintro ⟨d,⟨⟩⟩ hw hn
  exact La d
theorem HK (d:Delivery) :(evPat (al [QS] Tryz.f155) (fun _=>none) Tryz.f155 qD bb (d,())).sat fun z_=>z_ =(AD (d,())).2:=by
 refine cast (by kernel_rfl) (?_:let r1:Bool:=cond (!inW d.8 0 2) true (cond (!inW d.9 0 11) true (cond (!inW d.10 0 11) true (!inW d.12 0 8)));let r2:Bool:=cond (decide (d.1<1)) true (cond (decide (d.1>3)) true (cond (decide (d.2>3)) true (decide (d.7>10))));let r3:Bool:=cond (!inW d.3 0 7) true (cond (!inW d.4 0 d.3) true (cond (d.5 != 0) (cond (d.5 != 4) (cond (d.5 != 6) true r1) r1) r1));(r2=true→(3,()) =(bZ d,()))∧(r2=false→(r3=true→(2,()) =(bZ d,()))∧(r3=false→(0,()) =(bZ d,()))))
 intro r1 r2 r3
 clear_value (hr1:r1=_) (hr2:r2=_) (hr3:r3=_)
 repeat' (first|refine And.intro ?_ ?_|intro h)
 all_goals grind (splits:=40) [bZ]
def rk:FuncId×Ctr:=(155,ae KE qD bb AD)
theorem Af:CtrOK Tryz.prog KE 155 (ae KE qD bb AD):=by
 refine an (C:=al [QS] Tryz.f155) (aj (.consU SV rfl .nil) _) mixed (fn:=Tryz.f155) Tryz.func155 (by kernel_rfl) (by kernel_rfl) (by kernel_rfl) (by kernel_rfl) (by kernel_rfl) (by kernel_rfl) (Λ:=fun _ _=>none) ?_ ?_
 ·exact fun _ _ _ _ _ _ _ _ h=>by cases h
 ·rintro ⟨d,⟨⟩⟩ hw hn
  exact HK d
theorem KT :(evPat (al [] Tryz.f302) (fun _=>none) Tryz.f302 (bX []) Qb ()).sat fun z_=>z_ =(HV ()).2:=by
 refine cast (by kernel_rfl) (?_ :([event_form.mk (ByteArray.mk #[84,79,83,83]) (ByteArray.mk #[115,121]) (ByteArray.mk #[66,65,84]) (ByteArray.mk #[70,73,69,76,68]),event_form.mk (ByteArray.mk #[79,80,69,78]) (ByteArray.mk #[112,111]) (ByteArray.mk #[]) (ByteArray.mk #[]),event_form.mk (ByteArray.mk #[66,79,87,76]) (ByteArray.mk #[112]) (ByteArray.mk #[]) (ByteArray.mk #[]),event_form.mk (ByteArray.mk #[66,65,76,76]) (ByteArray.mk #[98]) (ByteArray.mk #[]) (ByteArray.mk #[]),event_form.mk (ByteArray.mk #[69,78,84,69,82]) (ByteArray.mk #[112]) (ByteArray.mk #[]) (ByteArray.mk #[]),event_form.mk (ByteArray.mk #[82,69,84,73,82,69]) (ByteArray.mk #[112,121]) (ByteArray.mk #[72,85,82,84]) (ByteArray.mk #[79,85,84]),event_form.mk (ByteArray.mk #[70,73,69,76,68]) (ByteArray.mk #[114]) (ByteArray.mk #[]) (ByteArray.mk #[]),event_form.mk (ByteArray.mk #[75,69,69,80,69,82]) (ByteArray.mk #[112]) (ByteArray.mk #[]) (ByteArray.mk #[]),event_form.mk (ByteArray.mk #[83,85,66]) (ByteArray.mk #[112,121]) (ByteArray.mk #[79,78]) (ByteArray.mk #[79,70,70]),event_form.mk (ByteArray.mk #[78,69,87,66,65,76,76]) (ByteArray.mk #[]) (ByteArray.mk #[]) (ByteArray.mk #[]),event_form.mk (ByteArray.mk #[68,69,67,76,65,82,69]) (ByteArray.mk #[115]) (ByteArray.mk #[]) (ByteArray.mk #[]),event_form.mk (ByteArray.mk #[70,79,76,76,79,87]) (ByteArray.mk #[115,121]) (ByteArray.mk #[89,69,83]) (ByteArray.mk #[78,79]),event_form.mk (ByteArray.mk #[80,69,78,65,76,84,89]) (ByteArray.mk #[115,114]) (ByteArray.mk #[]) (ByteArray.mk #[]),event_form.mk (ByteArray.mk #[82,69,86,73,69,87]) (ByteArray.mk #[115,121]) (ByteArray.mk #[75,69,80,84]) (ByteArray.mk #[76,79,83,84]),event_form.mk (ByteArray.mk #[82,69,86,73,83,69]) (ByteArray.mk #[114,118]) (ByteArray.mk #[]) (ByteArray.mk #[]),event_form.mk (ByteArray.mk #[83,84,79,80]) (ByteArray.mk #[]) (ByteArray.mk #[]) (ByteArray.mk #[])],()) =(formsW,()))
 rfl
def IX:FuncId×Ctr:=(302,ae KE (bX []) Qb HV)
theorem MS:CtrOK Tryz.prog KE 302 (ae KE (bX []) Qb HV):=by
 refine an (C:=al [] Tryz.f302) (aj (CtrsOK.nil) _) mixed (fn:=Tryz.f302) Tryz.func302 (by kernel_rfl) (by kernel_rfl) (by kernel_rfl) (by kernel_rfl) (by kernel_rfl) (by kernel_rfl) (Λ:=fun _ _=>none) ?_ ?_
 ·exact fun _ _ _ _ _ _ _ _ h=>by cases h
 ·rintro ⟨⟩ hw hn
  exact KT
theorem Hk (k:Int) :(evPat (al [] Tryz.f275) (fun _=>none) Tryz.f275 qH qII (k,())).sat fun z_=>z_ =(pc (k,())).2:=by
 refine cast (by kernel_rfl) (?_ :((k==7)=true→(0,11,()) =(loW k,hiW k,()))∧((k==7)=false→((k==13)=true→(1,99,()) =(loW k,hiW k,()))∧((k==13)=false→(0,100000,()) =(loW k,hiW k,()))))
 grind [loW,hiW]
def lA:FuncId×Ctr:=(275,ae KE qH qII pc)
theorem sF:CtrOK Tryz.prog KE 275 (ae KE qH qII pc):=by
 refine an (C:=al [] Tryz.f275) (aj (CtrsOK.nil) _) mixed (fn:=Tryz.f275) Tryz.func275 (by kernel_rfl) (by kernel_rfl) (by kernel_rfl) (by kernel_rfl) (by kernel_rfl) (by kernel_rfl) (Λ:=fun _ _=>none) ?_ ?_
 ·exact fun _ _ _ _ _ _ _ _ h=>by cases h
 ·rintro ⟨k,⟨⟩⟩ hw hn
  exact Hk k
theorem Lm (k:Int) :(evPat (al [] Tryz.f241) (fun _=>none) Tryz.f241 qH qII (k,())).sat fun z_=>z_ =(pc (k,())).2:=by
 refine cast (by kernel_rfl) (?_ :((k==7)=true→(0,11,()) =(loW k,hiW k,()))∧((k==7)=false→((k==13)=true→(1,99,()) =(loW k,hiW k,()))∧((k==13)=false→(0,100000,()) =(loW k,hiW k,()))))
 grind [loW,hiW]
def Jb:FuncId×Ctr:=(241,ae KE qH qII pc)
theorem M9:CtrOK Tryz.prog KE 241 (ae KE qH qII pc):=by
 refine an (C:=al [] Tryz.f241) (aj (CtrsOK.nil) _) mixed (fn:=Tryz.f241) Tryz.func241 (by kernel_rfl) (by kernel_rfl) (by kernel_rfl) (by kernel_rfl) (by kernel_rfl) (by kernel_rfl) (Λ:=fun _ _=>none) ?_ ?_
 ·exact fun _ _ _ _ _ _ _ _ h=>by cases h
 ·rintro ⟨k,⟨⟩⟩ hw hn
  exact Lm k
theorem FI (k:Int) :(evPat (al [] Tryz.f240) (fun _=>none) Tryz.f240 qH qU (k,())).sat fun z_=>z_ =(Cq (k,())).2:=by
 refine cast (by kernel_rfl) (?_:let r1:Bool:=cond (k==3) (k==3) (k==8);let r2:Bool:=cond (k==10) (k==10) (k==16);let r3:Bool:=cond (k==1) (k==1) (cond (k==12) (k==12) (k==14));let r4:Bool:=cond (k==5) (k==5) (cond (k==6) (k==6) (k==9));(r3=true→(ref08_Uses.mk true false false true false false false,true,()) =(fk k,inW k 1 16,()))∧(r3=false→((k==2)=true→(ref08_Uses.mk false true true false false false false,true,()) =(fk k,inW k 1 16,()))∧((k==2)=false→(r1=true→(ref08_Uses.mk false true false false false false false,true,()) =(fk k,inW k 1 16,()))∧(r1=false→((k==4)=true→(ref08_Uses.mk false false false false false false true,true,()) =(fk k,inW k 1 16,()))∧((k==4)=false→(r4=true→(ref08_Uses.mk false true false true false false false,true,()) =(fk k,inW k 1 16,()))∧(r4=false→((k==7)=true→(ref08_Uses.mk false false false false true false false,true,()) =(fk k,inW k 1 16,()))∧((k==7)=false→(r2=true→(ref08_Uses.mk false false false false false false false,true,()) =(fk k,inW k 1 16,()))∧(r2=false→((k==11)=true→(ref08_Uses.mk true false false false false false false,true,()) =(fk k,inW k 1 16,()))∧((k==11)=false→((k==13)=true→(ref08_Uses.mk true false false false true false false,true,()) =(fk k,inW k 1 16,()))∧((k==13)=false→((k==15)=true→(ref08_Uses.mk false false false false true true false,true,()) =(fk k,inW k 1 16,()))∧((k==15)=false→(ref08_Uses.mk false false false false false false false,false,()) =(fk k,inW k 1 16,()))))))))))))
 intro r1 r2 r3 r4
 clear_value (hr1:r1=_) (hr2:r2=_) (hr3:r3=_) (hr4:r4=_)
 grind (splits:=40) [fk,pQ,kN,nH,LF,ud,nI,mJ,inW]
def zP:FuncId×Ctr:=(240,ae KE qH qU Cq)
theorem GU:CtrOK Tryz.prog KE 240 (ae KE qH qU Cq):=by
 refine an (C:=al [] Tryz.f240) (aj (CtrsOK.nil) _) mixed (fn:=Tryz.f240) Tryz.func240 (by kernel_rfl) (by kernel_rfl) (by kernel_rfl) (by kernel_rfl) (by kernel_rfl) (by kernel_rfl) (Λ:=fun _ _=>none) ?_ ?_
 ·exact fun _ _ _ _ _ _ _ _ h=>by cases h
 ·rintro ⟨k,⟨⟩⟩ hw hn
  exact FI k
theorem NJ (k:Int) (c:Int) (hk:bA k) :(evPat (al [IX,l8] Tryz.f277) (fun _=>none) Tryz.f277 qKF ax (k,c,())).sat fun z_=>z_ =(Ol (k,c,())).2:=by
 refine cast (by kernel_rfl) (?_:let r1:Int:=IntKind.u8.wrap (k - 1);let r2:Int:=ixW (formsW.getD r1.toNat (dflt (Ty.nm Nm.event_form))).2 c;let r3:Bool:=decide (r2≥0);((0≤r1∧r1 <(↑formsW.length:Int))∧(r3=true→True)∧(r3=false→((k==5)=true→True)∧((k==5)=false→True)))∧(true=true→(cond r3 true (cond (k==5) (c==121) false),()) =(cS k c,())))
 intro r1 r2 r3
 clear_value (hr1:r1=_) (hr2:r2=_) (hr3:r3=_)
 obtain ⟨h1,h2⟩:=hk
 have hw:IntKind.u8.wrap (k - 1)=k - 1:=by
  simp only [IntKind.wrap,IntKind.bits,IntKind.signed]
  simp
  omega
 have hl:formsW.length=16:=rfl
 simp only [hw] at *
 have hd:dflt (Ty.nm Nm.event_form)=event_form.zero:=rfl
 refine ⟨⟨⟨by omega,by rw [hl];omega⟩,fun _=>trivial,fun _=>⟨fun _=>trivial,fun _=>trivial⟩⟩,fun _=>?_⟩
 simp only [cS,IG,hr1,hr2,hr3,hd]
 grind
def so:FuncId×Ctr:=(277,ae KE qKF ax Ol)
theorem BO:CtrOK Tryz.prog KE 277 (ae KE qKF ax Ol):=by
 refine an (C:=al [IX,l8] Tryz.f277) (aj (.consU MS rfl (.consU tL rfl .nil)) _) mixed (fn:=Tryz.f277) Tryz.func277 (by kernel_rfl) (by kernel_rfl) (by kernel_rfl) (by kernel_rfl) (by kernel_rfl) (by kernel_rfl) (Λ:=fun _ _=>none) ?_ ?_
 ·exact fun _ _ _ _ _ _ _ _ h=>by cases h
 ·rintro ⟨k,c,⟨⟩⟩ hw hn
  exact NJ k c (hn _ List.mem_cons_self)
theorem R7 {k:Int} {p:Int→Prop} (h :∀ n:Fin 16,p ((n.val:Int)+1)) (h1:1≤k) (h2:k≤16):p k:=by
 have:=h ⟨(k - 1).toNat,by omega⟩
 have e :((k - 1).toNat:Int)+1=k:=by omega
 exact (congrArg p e).mp this
theorem OG {k:Int} (h1:1≤k) (h2:k≤16):cS k 115=pQ k∧cS k 112=kN k∧cS k 111=nH k∧cS k 121=LF k∧cS k 114=ud k∧cS k 118=nI k∧cS k 98=mJ k:=
 R7 (p:=fun k=>cS k 115=pQ k∧cS k 112=kN k∧cS k 111=nH k∧cS k 121=LF k∧cS k 114=ud k∧cS k 118=nI k∧cS k 98=mJ k) (by decide +kernel) h1 h2
theorem KS (e:Mir.Event) :(evPat (al [lA,jC,so,kJ] Tryz.f234) (find [(rid (az Tryz.f234 0),c7 8 (al [lA,jC,so,kJ] Tryz.f234) (fun _=>none) (az Tryz.f234 0)),(rid (az Tryz.f234 1),c7 8 (al [lA,jC,so,kJ] Tryz.f234) (fun _=>none) (az Tryz.f234 1))]) Tryz.f234 qE bb (e,())).sat fun z_=>z_ =(sEv (e,())).2:=by
 refine cast (by kernel_rfl) (?_:let r1:Bool:=!inW e.2 1 2;let r2:Bool:=!inW e.3 1 11;let r3:Bool:=!inW e.4 1 11;let r4:Bool:=!inW e.7 0 90;let r5:Bool:=cond (!!e.5) (!cS e.1 121) false;let r6:Int:=IntKind.i64.wrap ((0:Int)+1);let r7:Bool:=cond (!inW e.6 (loW e.1) (hiW e.1)) (cS e.1 114) false;let r8:Bool:=cond (!e.2==0) (!cS e.1 115) false;let r9:Bool:=cond (!e.3==0) (!cS e.1 112) false;let r10:Bool:=cond (!e.4==0) (!cS e.1 111) false;let r11:Bool:=cond (!e.6==0) (!cS e.1 114) false;let r12:Bool:=cond (!e.7==0) (!cS e.1 118) false;let r13:Bool:=cond r1 (cS e.1 115) false;let r14:Bool:=cond r2 (cS e.1 112) false;let r15:Bool:=cond r3 (cS e.1 111) false;let r16:Bool:=cond r4 (cS e.1 118) false;let r17:Int:=IntKind.i64.wrap (r6+1);let r18:Bool:=cond (decide (e.1<1)) true (decide (e.1>16));let r19:Int:=IntKind.i64.wrap (r17+1);let r20:Int:=IntKind.i64.wrap (r19+1);let r21:Int:=IntKind.i64.wrap (r20+1);let r22:Int:=IntKind.i64.wrap (r21+1);let r23:Bool:=e.8.1==0&&(e.8.2==0&&(e.8.3==0&&(e.8.4==0&&(e.8.5==0&&(e.8.6==false&&(e.8.7==0&&(e.8.8==0&&(e.8.9==0&&(e.8.10==0&&(e.8.11==false&&(e.8.12==0&&true)))))))))));let r24:Bool:=!r23;let r25:Bool:=cond r24 (!cS e.1 98) false;let r26:Int:=(↑[(115,e.2==0,inW e.2 1 2,()),(112,e.3==0,inW e.3 1 11,()),(111,e.4==0,inW e.4 1 11,()),(121,!e.5,true,()),(114,e.6==0,inW e.6 (loW e.1) (hiW e.1),()),(118,e.7==0,inW e.7 0 90,()),(98,r23,true,())].length:Int);(r18=true→(3,()) =(bB e,()))∧(r18=false→True∧((0:Int)≤0∧0<r26)∧(((!e.2==0)=true→(1≤e.1∧e.1≤16)∧True)∧((!e.2==0)=false→True))∧(true=true→(r8=true→(1,()) =(bB e,()))∧(r8=false→(0≤r6∧r6<r26)∧(((!e.3==0)=true→(1≤e.1∧e.1≤16)∧True)∧((!e.3==0)=false→True))∧(true=true→(r9=true→(1,()) =(bB e,()))∧(r9=false→(0≤r17∧r17<r26)∧(((!e.4==0)=true→(1≤e.1∧e.1≤16)∧True)∧((!e.4==0)=false→True))∧(true=true→(r10=true→(1,()) =(bB e,()))∧(r10=false→(0≤r19∧r19<r26)∧(((!!e.5)=true→(1≤e.1∧e.1≤16)∧True)∧((!!e.5)=false→True))∧(true=true→(r5=true→(1,()) =(bB e,()))∧(r5=false→(0≤r20∧r20<r26)∧(((!e.6==0)=true→(1≤e.1∧e.1≤16)∧True)∧((!e.6==0)=false→True))∧(true=true→(r11=true→(1,()) =(bB e,()))∧(r11=false→(0≤r21∧r21<r26)∧(((!e.7==0)=true→(1≤e.1∧e.1≤16)∧True)∧((!e.7==0)=false→True))∧(true=true→(r12=true→(1,()) =(bB e,()))∧(r12=false→(0≤r22∧r22<r26)∧((r24=true→(1≤e.1∧e.1≤16)∧True)∧(r24=false→True))∧(true=true→(r25=true→(1,()) =(bB e,()))∧(r25=false→True∧((0:Int)≤0∧0<r26)∧((r1=true→(1≤e.1∧e.1≤16)∧True)∧(r1=false→True))∧(true=true→(r13=true→(2,()) =(bB e,()))∧(r13=false→(0≤r6∧r6<r26)∧((r2=true→(1≤e.1∧e.1≤16)∧True)∧(r2=false→True))∧(true=true→(r14=true→(2,()) =(bB e,()))∧(r14=false→(0≤r17∧r17<r26)∧((r3=true→(1≤e.1∧e.1≤16)∧True)∧(r3=false→True))∧(true=true→(r15=true→(2,()) =(bB e,()))∧(r15=false→(0≤r19∧r19<r26)∧(((!true)=true→(1≤e.1∧e.1≤16)∧True)∧((!true)=false→True))∧(true=true→((cond (!true) (cS e.1 121) false)=true→(2,()) =(bB e,()))∧((cond (!true) (cS e.1 121) false)=false→(0≤r20∧r20<r26)∧(((!inW e.6 (loW e.1) (hiW e.1))=true→(1≤e.1∧e.1≤16)∧True)∧((!inW e.6 (loW e.1) (hiW e.1))=false→True))∧(true=true→(r7=true→(2,()) =(bB e,()))∧(r7=false→(0≤r21∧r21<r26)∧((r4=true→(1≤e.1∧e.1≤16)∧True)∧(r4=false→True))∧(true=true→(r16=true→(2,()) =(bB e,()))∧(r16=false→(0≤r22∧r22<r26)∧(((!true)=true→(1≤e.1∧e.1≤16)∧True)∧((!true)=false→True))∧(true=true→((cond (!true) (cS e.1 98) false)=true→(2,()) =(bB e,()))∧((cond (!true) (cS e.1 98) false)=false→((e.1==4)=true→(bZ e.8,()) =(bB e,()))∧((e.1==4)=false→(0,()) =(bB e,()))))))))))))))))))))))))))))))))
 intro r1 r2 r3 r4 r5 r6 r7 r8 r9 r10 r11 r12 r13 r14 r15 r16 r17 r18 r19 r20 r21 r22 r23 r24 r25 r26
 clear_value (hr1:r1=_) (hr2:r2=_) (hr3:r3=_) (hr4:r4=_) (hr5:r5=_) (hr6:r6=_) (hr7:r7=_) (hr8:r8=_) (hr9:r9=_) (hr10:r10=_) (hr11:r11=_) (hr12:r12=_) (hr13:r13=_) (hr14:r14=_) (hr15:r15=_) (hr16:r16=_) (hr17:r17=_) (hr18:r18=_) (hr19:r19=_) (hr20:r20=_) (hr21:r21=_) (hr22:r22=_) (hr23:r23=_) (hr24:r24=_) (hr25:r25=_) (hr26:r26=_)
 have h6:r6=1:=hr6
 have h17:r17=2:=by rw [hr17,h6];rfl
 have h19:r19=3:=by rw [hr19,h17];rfl
 have h20:r20=4:=by rw [hr20,h19];rfl
 have h21:r21=5:=by rw [hr21,h20];rfl
 have h22:r22=6:=by rw [hr22,h21];rfl
 have h26:r26=7:=hr26
 clear hr6 hr17 hr19 hr20 hr21 hr22 hr26
 have hz:r23=JN e.8:=by rw [hr23];simp only [JN,Bool.and_true]
 refine ⟨fun h=>?_,fun h=>?_⟩
 ·have:inW e.1 1 16=false:=by grind [inW]
  simp [bB,this]
 ·have hk:1≤e.1∧e.1≤16:=by grind
  obtain ⟨u1,u2,u3,u4,u5,u6,u7⟩:=OG hk.1 hk.2
  simp only [u1,u2,u3,u4,u5,u6,u7] at hr5 hr7 hr8 hr9 hr10 hr11 hr12 hr13 hr14 hr15 hr16 hr25 ⊢
  have hi:inW e.1 1 16=true:=by grind [inW]
  have e0:bB e=if r8||r9||r10||r5||r11||r12||r25 then 1 else if r13||r14||r15||r7||r16 then 2 else if mJ e.1 then bZ e.8 else 0:=by
   have t1 :∀ a b:Bool,(bif !a then !b else false) =(!b&&!a):=by decide
   have t2 :∀ a b:Bool,(bif a then b else false) =(b&&a):=by decide
   rw [t1] at hr8 hr9 hr10 hr11 hr12 hr5
   rw [hr24,t1,hz] at hr25
   rw [t2] at hr13 hr14 hr15 hr7 hr16
   rw [hr1] at hr13
   rw [hr2] at hr14
   rw [hr3] at hr15
   rw [hr4] at hr16
   rw [Bool.not_not] at hr5
   rw [hr8,hr9,hr10,hr5,hr11,hr12,hr25,hr13,hr14,hr15,hr7,hr16]
   unfold bB
   rw [hi]
   rfl
  clear hr1 hr2 hr3 hr4 hr5 hr7 hr8 hr9 hr10 hr11 hr12 hr13 hr14 hr15 hr16 hr18 hr23 hr24 hr25
  rw [e0]
  simp only [h6,h17,h19,h20,h21,h22,h26]
  clear u1 u2 u3 u4 u5 u6 u7 e0 hz
  repeat' (first|refine And.intro ?_ ?_|intro _)
  all_goals first|omega |(simp_all [mJ];done)
def uR:FuncId×Ctr:=(234,ae KE qE bb sEv)
theorem Eg:CtrOK Tryz.prog KE 234 (ae KE qE bb sEv):=by
 refine an (C:=al [lA,jC,so,kJ] Tryz.f234) (aj (.consU sF rfl (.consU qm rfl (.consU BO rfl (.consU rG rfl .nil)))) _) mixed (fn:=Tryz.f234) Tryz.func234 (by kernel_rfl) (by kernel_rfl) (by kernel_rfl) (by kernel_rfl) (by kernel_rfl) (by kernel_rfl) (Λ:=fun x=>find [(rid (az Tryz.f234 0),c7 8 (al [lA,jC,so,kJ] Tryz.f234) (fun _=>none) (az Tryz.f234 0)),(rid (az Tryz.f234 1),c7 8 (al [lA,jC,so,kJ] Tryz.f234) (fun _=>none) (az Tryz.f234 1))]) ?_ ?_
 ·rintro ⟨e,⟨⟩⟩ hw hn
  exact LoopsOKp.at (by kernel_rfl) (.cons (by kernel_rfl) (jG 8 (aj (.consU sF rfl (.consU qm rfl (.consU BO rfl (.consU rG rfl .nil)))) _) mixed (Λ:=fun _=>none) (b:=az Tryz.f234 0) rfl (fun _ _ _ h=>by cases h)) (.cons (by kernel_rfl) (jG 8 (aj (.consU sF rfl (.consU qm rfl (.consU BO rfl (.consU rG rfl .nil)))) _) mixed (Λ:=fun _=>none) (b:=az Tryz.f234 1) rfl (fun _ _ _ h=>by cases h)) .nil))
 ·rintro ⟨e,⟨⟩⟩ hw hn
  exact KS e
theorem HM (e:Mir.Event) :(evPat (al [zP,Jb,QT,rk] Tryz.f193) (fun _=>none) Tryz.f193 qE bb (e,())).sat fun z_=>z_ =(sEv (e,())).2:=by
 refine cast (by kernel_rfl) (?_:let r1:Bool:=!inW e.1 1 16;let r2:Bool:=cond (nI e.1) (!inW e.7 0 90) false;let r3:Bool:=cond (ud e.1) (cond (!inW e.6 (loW e.1) (hiW e.1)) true r2) r2;let r4:Bool:=cond (nH e.1) (cond (!inW e.4 1 11) true r3) r3;let r5:Bool:=cond (!mJ e.1) (!(e.8.1==0&&(e.8.2==0&&(e.8.3==0&&(e.8.4==0&&(e.8.5==0&&(e.8.6==false&&(e.8.7==0&&(e.8.8==0&&(e.8.9==0&&(e.8.10==0&&(e.8.11==false&&(e.8.12==0&&true))))))))))))) false;let r6:Bool:=cond (kN e.1) (cond (!inW e.3 1 11) true r4) r4;let r7:Bool:=cond (!nI e.1) (cond (e.7 != 0) true r5) r5;let r8:Bool:=cond (pQ e.1) (cond (!inW e.2 1 2) true r6) r6;let r9:Bool:=cond (!ud e.1) (cond (e.6 != 0) true r7) r7;let r10:Bool:=cond (!LF e.1) (cond e.5 true r9) r9;let r11:Bool:=cond (!nH e.1) (cond (e.4 != 0) true r10) r10;let r12:Bool:=cond (!kN e.1) (cond (e.3 != 0) true r11) r11;let r13:Bool:=cond (!pQ e.1) (cond (e.2 != 0) true r12) r12;(r1=true→(3,()) =(bB e,()))∧(r1=false→(r13=true→(1,()) =(bB e,()))∧(r13=false→(r8=true→(2,()) =(bB e,()))∧(r8=false→(mJ e.1=true→(bZ e.8,()) =(bB e,()))∧(mJ e.1=false→(0,()) =(bB e,()))))))
 intro r1 r2 r3 r4 r5 r6 r7 r8 r9 r10 r11 r12 r13
 clear_value (hr1:r1=_) (hr2:r2=_) (hr3:r3=_) (hr4:r4=_) (hr5:r5=_) (hr6:r6=_) (hr7:r7=_) (hr8:r8=_) (hr9:r9=_) (hr10:r10=_) (hr11:r11=_) (hr12:r12=_) (hr13:r13=_)
 grind (splits:=60) [bB,JN]
def rl:FuncId×Ctr:=(193,ae KE qE bb sEv)
theorem Ah:CtrOK Tryz.prog KE 193 (ae KE qE bb sEv):=by
 refine an (C:=al [zP,Jb,QT,rk] Tryz.f193) (aj (.consU GU rfl (.consU M9 rfl (.consU SW rfl (.consU Af rfl .nil)))) _) mixed (fn:=Tryz.f193) Tryz.func193 (by kernel_rfl) (by kernel_rfl) (by kernel_rfl) (by kernel_rfl) (by kernel_rfl) (by kernel_rfl) (Λ:=fun _ _=>none) ?_ ?_
 ·exact fun _ _ _ _ _ _ _ _ h=>by cases h
 ·rintro ⟨e,⟨⟩⟩ hw hn
  exact HM e
end
section
open Go Go.Mir
attribute [local irreducible] Go.Mir.DT.sat Go.Mir.evPat Go.Mir.RT.sat Go.Mir.evFn
def aA (r:Rules) (x:Innings) (e:Mir.Event):Innings:=
 if e.Kind==2 then fo x e.Player e.Other else if e.Kind==3 then ov r x e.Player else if e.Kind==4 then ec r x e.Ball
 else if e.Kind==5 then (if e.Yes then ji x e.Player else gx x e.Player) else if e.Kind==6 then cz x e.Player e.Yes
 else if e.Kind==7 then dZ x e.Runs else if e.Kind==8 then dG x e.Player else if e.Kind==9 then gM x e.Player e.Yes
 else if e.Kind==10 then ur r x else if e.Kind==11 then lr r x e else if e.Kind==13 then qu x e else if e.Kind==14 then gI r x e.Side e.Yes else mw r x e.Runs e.Overs
def bR (r:Rules) (x:Innings) (e:Mir.Event):Int:=
 if e.Kind==2 then gi x e.Player e.Other else if e.Kind==3 then fT r x e.Player else if e.Kind==4 then di r x e.Ball
 else if e.Kind==5 then bn x e.Player else if e.Kind==6 then bI x e.Player e.Yes
 else if e.Kind==7 then fG x e.Runs else if e.Kind==8 then eG x e.Player else if e.Kind==9 then ja x e.Player e.Yes
 else if e.Kind==10 then yt r x else if e.Kind==11 then jK r x e else if e.Kind==13 then lI e else if e.Kind==14 then fI r x e.Side else nW r x e.Runs e.Overs
def xK (e:Mir.Event):Prop:=e.Kind=14→gJ e.Side
def Oc:Den (tyP gZ)→List Prop×Den (tyP q2L):=fun x=>([dW x.2.1,xK x.2.2.1],(aA x.1 x.2.1 x.2.2.1,bR x.1 x.2.1 x.2.2.1,()))
def ix (k:Int):Bool:=inW k 2 15&&k != 12
def aX (r:Rules) (x:Innings) (e:Mir.Event):Innings:=if ix e.Kind then aA r x e else x
def dx (r:Rules) (x:Innings) (e:Mir.Event):Int:=if ix e.Kind then bR r x e else 1
def S3:Den (tyP gZ)→List Prop×Den (tyP q2L):=fun x=>([dW x.2.1,xK x.2.2.1],(aX x.1 x.2.1 x.2.2.1,dx x.1 x.2.1 x.2.2.1,()))
def cc (r:Rules) (x:Innings) (e:Mir.Event):Int:=
 if !aW r x||bB e != 0 then 1 else if x.Ending != 0 then 26 else if !ix e.Kind||!cu x&&e.Kind != 2 then 1 else bR r x e
def wb (y:Innings) (e:Mir.Event):Innings:={ y with Fresh:=e.Kind==4 }
def vC (r:Rules) (y:Innings):Innings:=if y.Ending==0 then { y with Ending:=pq r y } else y
def dw (r:Rules) (x:Innings) (e:Mir.Event):Innings:=if cc r x e != 0 then x else vC r (wb (aA r x e) e)
def AI:Den (tyP gZ)→List Prop×Den (tyP q2L):=fun x=>([ai x.2.1],(dw x.1 x.2.1 x.2.2.1,cc x.1 x.2.1 x.2.2.1,()))
theorem kY {r:Rules} {x:Innings} (h:aW r x=true):dW x:=by
 unfold aW at h
 simp only [Bool.and_eq_true,beq_iff_eq] at h
 obtain ⟨hc,_,hl,_,_,_,_,h1,h2,_,_⟩:=h
 obtain ⟨⟨_,hs⟩,_⟩:=iB hc
 simp only [rq,Bool.and_eq_true,beq_iff_eq] at hl
 obtain ⟨l1,l2,l3⟩:=hl
 have k1:=th h1
 have k2:=th h2
 have e1:x.Bowlers.length≤999999:=by rcases k1 with k|k;omega;rw [k];simp
 have e2:x.Before.length≤999999:=by rcases k2 with k|k;omega;rw [k];simp
 exact ⟨by omega,e1,e2,by omega,by omega⟩
theorem OU {e:Mir.Event} (h:bB e=0):inW e.Kind 1 16=true:=by
 cases hk:inW e.Kind 1 16 with
 | true=>rfl
 | false=>unfold bB at h;simp [hk] at h
theorem IE {e:Mir.Event} (h:bB e=0):xK e:=fun hk=>by
 cases hs:inW e.Side 1 2 with
 | true=>simp only [inW,Bool.and_eq_true,decide_eq_true_eq] at hs;unfold gJ;omega
 | false=>
  have hu:pQ e.Kind=true:=by rw [hk];rfl
  unfold bB at h
  simp only [hu,hs] at h
  exfalso
  revert h
  repeat' split
  all_goals first |(intro h;exact absurd h (by decide))|simp_all
theorem aI {c:Prop} [Decidable c] {a b:Innings} (ha:ai a) (hb:ai b):ai (if c then a else b):=by
 by_cases h:c
 ·rw [if_pos h];exact ha
 ·rw [if_neg h];exact hb
theorem jF {x:Innings} (h:ai x) (p s:Int):ai (cm x p s):=by
 obtain ⟨h1,h2,h3,h4,h5⟩:=h
 simp [ai,cm,h1,h2,h3,h4,h5]
theorem xM {x:Innings} (h:ai x) (p:Int):ai (fC x p):=by
 have:ai (if aC x p then cm x p 2 else x):=aI (jF h _ _) h
 exact this
theorem rM {x:Innings} (h:ai x) (b:Bool):ai (cK x b):=aI (c:=b=true) (a:={ x with Striker:=0 }) (b:={ x with Other:=0 }) h h
theorem Ly {x:Innings} (h:ai x) (p:Int) (b:Bool):ai (G6 x p b):=by
 obtain ⟨h1,h2,h3,h4,h5⟩:=h
 simp [ai,G6,h1,h2,h3,h4,h5]
theorem qv {r:Rules} {x:Innings} (e:Mir.Event) (hj:dW x):ai (aA r x e):=by
 have h:ai x:=iP hj
 have hf :∀ y,ai y→ai (qX r y e.Ball):=fun y hy=>by
  unfold qX
  exact aI hy (aI hy hy)
 have hp:ai (ec r x e.Ball):=by
  unfold ec
  refine aI h (hf _ ?_)
  have hb:ai (aH r (vk (aP x e.Ball) (ao r e.Ball)) (ao r e.Ball).Counts):=pW _ (pb e.Ball hj)
  unfold gv EG
  exact aI hb hb
 have k2:ai (fo x e.Player e.Other):=by
  unfold fo
  exact aI h (aI h (aI h (jF (jF h _ _) _ _)))
 have k3:ai (ov r x e.Player):=by unfold ov;exact aI h h
 have k5:ai (ji x e.Player):=by unfold ji;exact aI h (xM h _)
 have k5':ai (gx x e.Player):=by unfold gx;exact aI h (aI (jF h _ _) (jF h _ _))
 have k6:ai (cz x e.Player e.Yes):=by unfold cz;exact aI h (aI (jF (rM h _) _ _) (xM (rM h _) _))
 have k7:ai (dZ x e.Runs):=by unfold dZ;exact aI h h
 have k8:ai (dG x e.Player):=by unfold dG;exact aI h (aI h (aI h h))
 have k9:ai (gM x e.Player e.Yes):=by unfold gM;exact aI h (aI h (Ly h _ _))
 have k10:ai (ur r x):=by unfold ur;exact aI h h
 have k11:ai (lr r x e):=by unfold lr;exact aI h h
 have k13:ai (qu x e):=by unfold qu;exact aI h (aI h (aI h h))
 have k14:ai (gI r x e.Side e.Yes):=by unfold gI;exact aI h (aI h h)
 have kT:ai (N0 x e.Runs):=by unfold N0;exact aI h h
 have k15:ai (mw r x e.Runs e.Overs):=by unfold mw Qt;exact aI h (aI kT kT)
 unfold aA
 exact aI k2 (aI k3 (aI hp (aI (aI k5 k5') (aI k6 (aI k7 (aI k8 (aI k9 (aI k10 (aI k11 (aI k13 (aI k14 k15)))))))))))
theorem jt {r:Rules} {x:Innings} {e:Mir.Event} (h :(cc r x e != 0)=true):dw r x e=x:=by simp only [dw,h,if_true]
theorem Ff (r:Rules) (x:Innings) (e:Mir.Event) (hs:dW x) (h2:xK e) :(evPat (al [Mj,Mp,Mq,y9,IV,DF,ze,DH,I0,QP,zk,QQ,DK,DL] Tryz.f321) (fun _=>none) Tryz.f321 gZ q2L (r,x,e,())).sat fun z_=>z_ =(Oc (r,x,e,())).2:=by
 refine cast (by kernel_rfl) (?_ :((e.1==2)=true→ai x∧(fo x e.3 e.4,gi x e.3 e.4,()) =(aA r x e,bR r x e,()))∧((e.1==2)=false→((e.1==3)=true→ai x∧(ov r x e.3,fT r x e.3,()) =(aA r x e,bR r x e,()))∧((e.1==3)=false→((e.1==4)=true→dW x∧(ec r x e.8,di r x e.8,()) =(aA r x e,bR r x e,()))∧((e.1==4)=false→((e.1==5)=true→(e.5=true→ai x∧(ji x e.3,bn x e.3,()) =(aA r x e,bR r x e,()))∧(e.5=false→ai x∧(gx x e.3,bn x e.3,()) =(aA r x e,bR r x e,())))∧((e.1==5)=false→((e.1==6)=true→ai x∧(cz x e.3 e.5,bI x e.3 e.5,()) =(aA r x e,bR r x e,()))∧((e.1==6)=false→((e.1==7)=true→ai x∧(dZ x e.6,fG x e.6,()) =(aA r x e,bR r x e,()))∧((e.1==7)=false→((e.1==8)=true→ai x∧(dG x e.3,eG x e.3,()) =(aA r x e,bR r x e,()))∧((e.1==8)=false→((e.1==9)=true→ai x∧(gM x e.3 e.5,ja x e.3 e.5,()) =(aA r x e,bR r x e,()))∧((e.1==9)=false→((e.1==10)=true→ai x∧(ur r x,yt r x,()) =(aA r x e,bR r x e,()))∧((e.1==10)=false→((e.1==11)=true→ai x∧(lr r x e,jK r x e,()) =(aA r x e,bR r x e,()))∧((e.1==11)=false→((e.1==13)=true→ai x∧(qu x e,lI e,()) =(aA r x e,bR r x e,()))∧((e.1==13)=false→((e.1==14)=true→ai x∧gJ e.2∧(gI r x e.2 e.5,fI r x e.2,()) =(aA r x e,bR r x e,()))∧((e.1==14)=false→ai x∧(mw r x e.6 e.7,nW r x e.6 e.7,()) =(aA r x e,bR r x e,()))))))))))))))
 have hi:=iP hs
 refine ⟨fun a2=>?_,fun n2=>⟨fun a3=>?_,fun n3=>⟨fun a4=>?_,fun n4=>⟨fun a5=>?_,fun n5=>⟨fun a6=>?_,fun n6=>⟨fun a7=>?_,fun n7=>⟨fun a8=>?_,fun n8=>⟨fun a9=>?_,fun n9=>⟨fun a10=>?_,fun n10=>⟨fun a11=>?_,fun n11=>⟨fun a13=>?_,fun n13=>⟨fun a14=>?_,fun n14=>?_⟩⟩⟩⟩⟩⟩⟩⟩⟩⟩⟩⟩
 ·exact ⟨hi,by simp only [aA,bR,a2];rfl⟩
 ·exact ⟨hi,by simp only [aA,bR,n2,a3];rfl⟩
 ·exact ⟨hs,by simp only [aA,bR,n2,n3,a4];rfl⟩
 ·exact ⟨fun y=>⟨hi,by simp only [aA,bR,n2,n3,n4,a5,y];rfl⟩,fun y=>⟨hi,by simp only [aA,bR,n2,n3,n4,a5,y];rfl⟩⟩
 ·exact ⟨hi,by simp only [aA,bR,n2,n3,n4,n5,a6];rfl⟩
 ·exact ⟨hi,by simp only [aA,bR,n2,n3,n4,n5,n6,a7];rfl⟩
 ·exact ⟨hi,by simp only [aA,bR,n2,n3,n4,n5,n6,n7,a8];rfl⟩
 ·exact ⟨hi,by simp only [aA,bR,n2,n3,n4,n5,n6,n7,n8,a9];rfl⟩
 ·exact ⟨hi,by simp only [aA,bR,n2,n3,n4,n5,n6,n7,n8,n9,a10];rfl⟩
 ·exact ⟨hi,by simp only [aA,bR,n2,n3,n4,n5,n6,n7,n8,n9,n10,a11];rfl⟩
 ·exact ⟨hi,by simp only [aA,bR,n2,n3,n4,n5,n6,n7,n8,n9,n10,n11,a13];rfl⟩
 ·exact ⟨hi,h2 (eq_of_beq a14),by simp only [aA,bR,n2,n3,n4,n5,n6,n7,n8,n9,n10,n11,n13,a14];rfl⟩
 ·exact ⟨hi,by simp only [aA,bR,n2,n3,n4,n5,n6,n7,n8,n9,n10,n11,n13,n14];rfl⟩
def zm:FuncId×Ctr:=(321,ae KE gZ q2L Oc)
theorem GB:CtrOK Tryz.prog KE 321 (ae KE gZ q2L Oc):=by
 refine an (C:=al [Mj,Mp,Mq,y9,IV,DF,ze,DH,I0,QP,zk,QQ,DK,DL] Tryz.f321) (aj (.consU Pt rfl (.consU Px rfl (.consU Py rfl (.consU Gu rfl (.consU MQ rfl (.consU Kl rfl (.consU Gx rfl (.consU Km rfl (.consU MU rfl (.consU SR rfl (.consU Gz rfl (.consU SS rfl (.consU Kp rfl (.consU Kq rfl .nil)))))))))))))) _) mixed (fn:=Tryz.f321) Tryz.func321 (by kernel_rfl) (by kernel_rfl) (by kernel_rfl) (by kernel_rfl) (by kernel_rfl) (by kernel_rfl) (Λ:=fun _ _=>none) ?_ ?_
 ·exact fun _ _ _ _ _ _ _ _ h=>by cases h
 ·rintro ⟨r,x,e,⟨⟩⟩ hw hn
  exact Ff r x e (hn _ List.mem_cons_self) (hn _ (List.mem_cons_of_mem _ List.mem_cons_self))
theorem Li (r:Rules) (x:Innings) (e:Mir.Event) (hs:dW x) (h2:xK e) :(evPat (al [DS,DV,DW,tG,zH,wx,wu,zb,DI,Mo,iG,wz,wA] Tryz.f315) (fun _=>none) Tryz.f315 gZ q2L (r,x,e,())).sat fun z_=>z_ =(S3 (r,x,e,())).2:=by
 refine cast (by kernel_rfl) (?_:let r1:Bool:=decide (x.2>0);((e.1==2)=true→ai x∧(fo x e.3 e.4,gi x e.3 e.4,()) =(aX r x e,dx r x e,()))∧((e.1==2)=false→((e.1==3)=true→ai x∧(ov r x e.3,fT r x e.3,()) =(aX r x e,dx r x e,()))∧((e.1==3)=false→((e.1==4)=true→dW x∧(ec r x e.8,di r x e.8,()) =(aX r x e,dx r x e,()))∧((e.1==4)=false→((e.1==5)=true→(e.5=true→ai x∧(ji x e.3,bn x e.3,()) =(aX r x e,dx r x e,()))∧(e.5=false→ai x∧(gx x e.3,bn x e.3,()) =(aX r x e,dx r x e,())))∧((e.1==5)=false→((e.1==6)=true→ai x∧(cz x e.3 e.5,bI x e.3 e.5,()) =(aX r x e,dx r x e,()))∧((e.1==6)=false→((e.1==7)=true→ai x∧(dZ x e.6,fG x e.6,()) =(aX r x e,dx r x e,()))∧((e.1==7)=false→((e.1==8)=true→ai x∧(dG x e.3,eG x e.3,()) =(aX r x e,dx r x e,()))∧((e.1==8)=false→((e.1==9)=true→ai x∧(gM x e.3 e.5,ja x e.3 e.5,()) =(aX r x e,dx r x e,()))∧((e.1==9)=false→((e.1==10)=true→ai x∧(ur r x,yt r x,()) =(aX r x e,dx r x e,()))∧((e.1==10)=false→((e.1==11)=true→((e.2 != x.1)=true→(x,2,()) =(aX r x e,dx r x e,()))∧((e.2 != x.1)=false→((r.4 != 0)=true→(x,20,()) =(aX r x e,dx r x e,()))∧((r.4 != 0)=false→(Innings.mk x.1 x.2 x.3 x.4 x.5 x.6 x.7 x.8 x.9 x.10 x.11 x.12 x.13 x.14 x.15 x.16 x.17 x.18 x.19 x.20 x.21 x.22 4,0,()) =(aX r x e,dx r x e,()))))∧((e.1==11)=false→((e.1==13)=true→((e.6 != 5)=true→(x,23,()) =(aX r x e,dx r x e,()))∧((e.6 != 5)=false→((e.2==x.1)=true→ai x∧(Innings.mk x.1 x.2 x.3 (W (x.4+5)) x.5 (Extras.mk x.6.1 x.6.2 x.6.3 x.6.4 (W (x.6.5+5))) x.7 x.8 x.9 x.10 x.11 x.12 x.13 x.14 x.15 x.16 x.17 x.18 x.19 x.20 x.21 x.22 x.23,0,()) =(aX r x e,dx r x e,()))∧((e.2==x.1)=false→(Innings.mk (cond r1 x.1 x.1) (cond r1 (IntKind.i64.wrap (x.2+5)) x.2) (cond r1 x.3 x.3) (cond r1 x.4 x.4) (cond r1 x.5 x.5) (Extras.mk (cond r1 x.6.1 x.6.1) (cond r1 x.6.2 x.6.2) (cond r1 x.6.3 x.6.3) (cond r1 x.6.4 x.6.4) (cond r1 x.6.5 x.6.5)) (cond r1 x.7 x.7) (cond r1 x.8 x.8) (cond r1 x.9 x.9) (cond r1 x.10 x.10) (cond r1 x.11 x.11) (cond r1 x.12 x.12) (cond r1 x.13 x.13) (cond r1 x.14 x.14) (cond r1 x.15 x.15) (cond r1 x.16 x.16) (cond r1 x.17 x.17) (cond r1 x.18 x.18) (cond r1 x.19 x.19) (cond r1 x.20 x.20) (cond r1 x.21 x.21) (cond r1 x.22.1 x.22.1,cond r1 x.22.2.1 x.22.2.1,()) (cond r1 x.23 x.23),0,()) =(aX r x e,dx r x e,()))))∧((e.1==13)=false→((e.1==14)=true→gJ e.2∧(gI r x e.2 e.5,fI r x e.2,()) =(aX r x e,dx r x e,()))∧((e.1==14)=false→((e.1==15)=true→(mw r x e.6 e.7,nW r x e.6 e.7,()) =(aX r x e,dx r x e,()))∧((e.1==15)=false→(x,1,()) =(aX r x e,dx r x e,())))))))))))))))
 intro r1
 clear_value (hr1:r1=_)
 have hi:=iP hs
 refine ⟨fun a2=>?_,fun n2=>⟨fun a3=>?_,fun n3=>⟨fun a4=>?_,fun n4=>⟨fun a5=>?_,fun n5=>⟨fun a6=>?_,fun n6=>⟨fun a7=>?_,fun n7=>⟨fun a8=>?_,fun n8=>⟨fun a9=>?_,fun n9=>⟨fun a10=>?_,fun n10=>⟨fun a11=>?_,fun n11=>⟨fun a13=>?_,fun n13=>⟨fun a14=>?_,fun n14=>⟨fun a15=>?_,fun n15=>?_⟩⟩⟩⟩⟩⟩⟩⟩⟩⟩⟩⟩⟩
 ·have ak:ix e.Kind=true:=by rw [eq_of_beq a2];rfl
  exact ⟨hi,by simp only [aX,dx,ak,aA,bR,a2];rfl⟩
 ·have ak:ix e.Kind=true:=by rw [eq_of_beq a3];rfl
  exact ⟨hi,by simp only [aX,dx,ak,aA,bR,n2,a3];rfl⟩
 ·have ak:ix e.Kind=true:=by rw [eq_of_beq a4];rfl
  exact ⟨hs,by simp only [aX,dx,ak,aA,bR,n2,n3,a4];rfl⟩
 ·have ak:ix e.Kind=true:=by rw [eq_of_beq a5];rfl
  exact ⟨fun y=>⟨hi,by simp only [aX,dx,ak,aA,bR,n2,n3,n4,a5,y];rfl⟩,fun y=>⟨hi,by simp only [aX,dx,ak,aA,bR,n2,n3,n4,a5,y];rfl⟩⟩
 ·have ak:ix e.Kind=true:=by rw [eq_of_beq a6];rfl
  exact ⟨hi,by simp only [aX,dx,ak,aA,bR,n2,n3,n4,n5,a6];rfl⟩
 ·have ak:ix e.Kind=true:=by rw [eq_of_beq a7];rfl
  exact ⟨hi,by simp only [aX,dx,ak,aA,bR,n2,n3,n4,n5,n6,a7];rfl⟩
 ·have ak:ix e.Kind=true:=by rw [eq_of_beq a8];rfl
  exact ⟨hi,by simp only [aX,dx,ak,aA,bR,n2,n3,n4,n5,n6,n7,a8];rfl⟩
 ·have ak:ix e.Kind=true:=by rw [eq_of_beq a9];rfl
  exact ⟨hi,by simp only [aX,dx,ak,aA,bR,n2,n3,n4,n5,n6,n7,n8,a9];rfl⟩
 ·have ak:ix e.Kind=true:=by rw [eq_of_beq a10];rfl
  exact ⟨hi,by simp only [aX,dx,ak,aA,bR,n2,n3,n4,n5,n6,n7,n8,n9,a10];rfl⟩
 ·have ak:ix e.Kind=true:=by rw [eq_of_beq a11];rfl
  have hp:aX r x e=lr r x e∧dx r x e=jK r x e:=by constructor <;>(simp only [aX,dx,ak,aA,bR,n2,n3,n4,n5,n6,n7,n8,n9,n10,a11];rfl)
  rw [hp.1,hp.2]
  refine ⟨fun b=>?_,fun b=>⟨fun c=>?_,fun c=>?_⟩⟩
  ·have e1:jK r x e=2:=by simp only [jK,b];rfl
   simp only [lr,e1];rfl
  ·have e1:jK r x e=20:=by simp only [jK,b,c];rfl
   simp only [lr,e1];rfl
  ·have e1:jK r x e=0:=by simp only [jK,b,c];rfl
   simp only [lr,e1];rfl
 ·have ak:ix e.Kind=true:=by rw [eq_of_beq a13];rfl
  have hp:aX r x e=qu x e∧dx r x e=lI e:=by constructor <;>(simp only [aX,dx,ak,aA,bR,n2,n3,n4,n5,n6,n7,n8,n9,n10,n11,a13];rfl)
  rw [hp.1,hp.2]
  simp only [Bool.cond_self]
  refine ⟨fun b=>?_,fun b=>⟨fun c=>⟨hi,?_⟩,fun c=>?_⟩⟩
  ·have e1:lI e=23:=by simp only [lI,b];rfl
   simp only [qu,e1];rfl
  ·have e1:lI e=0:=by simp only [lI,b];rfl
   simp only [qu,e1,c];rfl
  ·have e1:lI e=0:=by simp only [lI,b];rfl
   simp only [qu,e1,c]
   cases r1 with
   | true=>have:x.Target>0:=of_decide_eq_true hr1.symm;simp only [if_pos this];rfl
   | false=>have :¬ x.Target>0:=of_decide_eq_false hr1.symm;simp only [if_neg this];rfl
 ·have ak:ix e.Kind=true:=by rw [eq_of_beq a14];rfl
  exact ⟨h2 (eq_of_beq a14),by simp only [aX,dx,ak,aA,bR,n2,n3,n4,n5,n6,n7,n8,n9,n10,n11,n13,a14];rfl⟩
 ·have ak:ix e.Kind=true:=by rw [eq_of_beq a15];rfl
  exact by simp only [aX,dx,ak,aA,bR,n2,n3,n4,n5,n6,n7,n8,n9,n10,n11,n13,n14];rfl
 ·have ak:ix e.Kind=false:=by
   cases h:ix e.Kind with
   | false=>rfl
   | true=>
    simp only [ix,inW,Bool.and_eq_true,decide_eq_true_eq,bne_iff_ne,ne_eq] at h
    have q :∀ k:Int,(e.Kind==k)=false→e.Kind≠k:=fun k h=>by simpa using h
    have:=q _ n2;have:=q _ n3;have:=q _ n4;have:=q _ n5;have:=q _ n6;have:=q _ n7;have:=q _ n8;have:=q _ n9;have:=q _ n10;have:=q _ n11;have:=q _ n13;have:=q _ n14;have:=q _ n15
    omega
  simp only [aX,dx,ak];rfl
def I9:FuncId×Ctr:=(315,ae KE gZ q2L S3)
theorem M7:CtrOK Tryz.prog KE 315 (ae KE gZ q2L S3):=by
 refine an (C:=al [DS,DV,DW,tG,zH,wx,wu,zb,DI,Mo,iG,wz,wA] Tryz.f315) (aj (.consU Kw rfl (.consU Ky rfl (.consU Kz rfl (.consU BP rfl (.consU GM rfl (.consU Ep rfl (.consU Eh rfl (.consU Gw rfl (.consU Kn rfl (.consU Pw rfl (.consU ml rfl (.consU Eu rfl (.consU Ev rfl .nil))))))))))))) _) mixed (fn:=Tryz.f315) Tryz.func315 (by kernel_rfl) (by kernel_rfl) (by kernel_rfl) (by kernel_rfl) (by kernel_rfl) (by kernel_rfl) (Λ:=fun _ _=>none) ?_ ?_
 ·exact fun _ _ _ _ _ _ _ _ h=>by cases h
 ·rintro ⟨r,x,e,⟨⟩⟩ hw hn
  exact Li r x e (hn _ List.mem_cons_self) (hn _ (List.mem_cons_of_mem _ List.mem_cons_self))
theorem NQ (r:Rules) (x:Innings) (e:Mir.Event) (hs:ai x) :(evPat (al [dU,ra,uR,I3,zm,DJ] Tryz.f308) (fun _=>none) Tryz.f308 gZ q2L (r,x,e,())).sat fun z_=>z_ =(AI (r,x,e,())).2:=by
 refine cast (by kernel_rfl) (?_:let r1:Bool:=bR r x e != 0;let r2:Bool:=(aA r x e).23==0;let r3:Bool:=cond (!aW r x) true (bB e != 0);let r4:Bool:=cond (e.1==1) true (cond (e.1==12) true (cond (e.1==16) true (cond (!cu x) (e.1 != 2) false)));let r5:Innings:=Innings.mk (aA r x e).1 (aA r x e).2 (aA r x e).3 (aA r x e).4 (aA r x e).5 (aA r x e).6 (aA r x e).7 (aA r x e).8 (aA r x e).9 (aA r x e).10 (aA r x e).11 (aA r x e).12 (aA r x e).13 (aA r x e).14 (e.1==4) (aA r x e).16 (aA r x e).17 (aA r x e).18 (aA r x e).19 (aA r x e).20 (aA r x e).21 (aA r x e).22 (aA r x e).23;(ai x∧((!aW r x)=true→True)∧((!aW r x)=false→True))∧(true=true→(r3=true→ai x∧(x,1,()) =(dw r x e,cc r x e,()))∧(r3=false→((x.23 != 0)=true→ai x∧(x,26,()) =(dw r x e,cc r x e,()))∧((x.23 != 0)=false→(r4=true→ai x∧(x,1,()) =(dw r x e,cc r x e,()))∧(r4=false→dW x∧xK e∧(r1=true→ai x∧(x,bR r x e,()) =(dw r x e,cc r x e,()))∧(r1=false→((r2=true→ai r5∧True)∧(r2=false→True))∧(true=true→(Innings.mk (cond r2 (aA r x e).1 (aA r x e).1) (cond r2 (aA r x e).2 (aA r x e).2) (cond r2 (aA r x e).3 (aA r x e).3) (cond r2 (aA r x e).4 (aA r x e).4) (cond r2 (aA r x e).5 (aA r x e).5) (Extras.mk (cond r2 (aA r x e).6.1 (aA r x e).6.1) (cond r2 (aA r x e).6.2 (aA r x e).6.2) (cond r2 (aA r x e).6.3 (aA r x e).6.3) (cond r2 (aA r x e).6.4 (aA r x e).6.4) (cond r2 (aA r x e).6.5 (aA r x e).6.5)) (cond r2 (aA r x e).7 (aA r x e).7) (cond r2 (aA r x e).8 (aA r x e).8) (cond r2 (aA r x e).9 (aA r x e).9) (cond r2 (aA r x e).10 (aA r x e).10) (cond r2 (aA r x e).11 (aA r x e).11) (cond r2 (aA r x e).12 (aA r x e).12) (cond r2 (aA r x e).13 (aA r x e).13) (cond r2 (aA r x e).14 (aA r x e).14) (cond r2 (e.1==4) (e.1==4)) (cond r2 (aA r x e).16 (aA r x e).16) (cond r2 (aA r x e).17 (aA r x e).17) (cond r2 (aA r x e).18 (aA r x e).18) (cond r2 (aA r x e).19 (aA r x e).19) (cond r2 (aA r x e).20 (aA r x e).20) (cond r2 (aA r x e).21 (aA r x e).21) (cond r2 (aA r x e).22.1 (aA r x e).22.1,cond r2 (aA r x e).22.2.1 (aA r x e).22.2.1,()) (cond r2 (pq r r5) (aA r x e).23),0,()) =(dw r x e,cc r x e,()))))))))
 intro r1 r2 r3 r4 r5
 clear_value (hr1:r1=_) (hr2:r2=_) (hr3:r3=_) (hr4:r4=_) (hr5:r5=_)
 simp only [Bool.cond_self] at *
 have e3:r3 =(!aW r x||bB e != 0):=by rw [hr3];cases aW r x <;> rfl
 have hv:r3=false→aW r x=true∧bB e=0:=fun h=>by
  rw [e3] at h
  simpa using h
 have e4:r3=false→r4 =(!ix e.Kind||!cu x&&e.Kind != 2):=fun h=>by
  have hk:=OU (hv h).2
  simp only [inW,Bool.and_eq_true,decide_eq_true_eq] at hk
  have :(e.Kind==1 ||(e.Kind==12||e.Kind==16))=!ix e.Kind:=by
   unfold ix inW
   by_cases k1:e.Kind=1
   ·rw [k1];rfl
   ·by_cases k2:e.Kind=12
    ·rw [k2];rfl
    ·by_cases k3:e.Kind=16
     ·rw [k3];rfl
     ·have q1:e.Kind≥2:=by omega
      have q2:e.Kind≤15:=by omega
      have b1 :(e.Kind==1)=false:=by simpa using k1
      have b2 :(e.Kind==12)=false:=by simpa using k2
      have b3 :(e.Kind==16)=false:=by simpa using k3
      simp [b1,b2,b3,q1,q2,bne]
  rw [hr4,←this]
  cases e.Kind==1 <;> cases e.Kind==12 <;> cases e.Kind==16 <;> cases cu x <;> rfl
 have h5:r5=wb (aA r x e) e:=hr5
 clear hr3 hr4 hr5
 refine ⟨⟨hs,fun _=>trivial,fun _=>trivial⟩,fun _=>⟨fun a=>⟨hs,?_⟩,fun a=>⟨fun b=>⟨hs,?_⟩,fun b=>⟨fun c=>⟨hs,?_⟩,fun c=>⟨kY (hv a).1,IE (hv a).2,fun d=>⟨hs,?_⟩,fun d=>⟨⟨fun q=>⟨?_,trivial⟩,fun _=>trivial⟩,fun _=>?_⟩⟩⟩⟩⟩⟩
 ·have hL:cc r x e=1:=by simp only [cc,←e3,a];rfl
  rw [jt (by rw [hL];rfl),hL]
 ·have hL:cc r x e=26:=by simp only [cc,←e3,a,b];rfl
  rw [jt (by rw [hL];rfl),hL]
 ·have hL:cc r x e=1:=by simp only [cc,←e3,←e4 a,a,b,c];rfl
  rw [jt (by rw [hL];rfl),hL]
 ·have hL:cc r x e=bR r x e:=by simp only [cc,←e3,←e4 a,a,b,c];rfl
  rw [jt (by rw [hL,←hr1];exact d),hL]
 ·rw [h5];exact qv e (kY (hv a).1)
 ·have hL:cc r x e=0:=by
   have:cc r x e=bR r x e:=by simp only [cc,←e3,←e4 a,a,b,c];rfl
   rw [this]
   rw [hr1] at d
   simpa using d
  have hp:dw r x e=vC r r5:=by simp only [dw,hL,h5];rfl
  rw [hp,hL]
  have hE:r5.Ending =(aA r x e).Ending:=by rw [h5];rfl
  unfold vC
  rw [hE,←hr2]
  cases r2 with
  | true=>rw [if_pos rfl,h5];rfl
  | false=>rw [if_neg (by decide),h5];rfl
def Bv:FuncId×Ctr:=(308,ae KE gZ q2L AI)
theorem Jr:CtrOK Tryz.prog KE 308 (ae KE gZ q2L AI):=by
 refine an (C:=al [dU,ra,uR,I3,zm,DJ] Tryz.f308) (aj (.consU iI rfl (.consU wW rfl (.consU Eg rfl (.consU MX rfl (.consU GB rfl (.consU Ko rfl .nil)))))) _) mixed (fn:=Tryz.f308) Tryz.func308 (by kernel_rfl) (by kernel_rfl) (by kernel_rfl) (by kernel_rfl) (by kernel_rfl) (by kernel_rfl) (Λ:=fun _ _=>none) ?_ ?_
 ·exact fun _ _ _ _ _ _ _ _ h=>by cases h
 ·rintro ⟨r,x,e,⟨⟩⟩ hw hn
  exact NQ r x e (hn _ List.mem_cons_self)
theorem HC (r:Rules) (x:Innings) (e:Mir.Event) (hs:ai x) :(evPat (al [lD,lE,rl,gf,I9,wy] Tryz.f290) (fun _=>none) Tryz.f290 gZ q2L (r,x,e,())).sat fun z_=>z_ =(AI (r,x,e,())).2:=by
 refine cast (by kernel_rfl) (?_:let r1:Bool:=dx r x e != 0;let r2:Bool:=(aX r x e).23==0;let r3:Bool:=cond (!cu x) (e.1 != 2) false;let r4:Bool:=cond (!aW r x) true (bB e != 0);let r5:Innings:=Innings.mk (aX r x e).1 (aX r x e).2 (aX r x e).3 (aX r x e).4 (aX r x e).5 (aX r x e).6 (aX r x e).7 (aX r x e).8 (aX r x e).9 (aX r x e).10 (aX r x e).11 (aX r x e).12 (aX r x e).13 (aX r x e).14 (e.1==4) (aX r x e).16 (aX r x e).17 (aX r x e).18 (aX r x e).19 (aX r x e).20 (aX r x e).21 (aX r x e).22 (aX r x e).23;ai x∧(ai x∧((!aW r x)=true→True)∧((!aW r x)=false→True))∧(true=true→(r4=true→(x,1,()) =(dw r x e,cc r x e,()))∧(r4=false→((x.23 != 0)=true→(x,26,()) =(dw r x e,cc r x e,()))∧((x.23 != 0)=false→(r3=true→(x,1,()) =(dw r x e,cc r x e,()))∧(r3=false→ai x∧dW x∧xK e∧(r1=true→(x,dx r x e,()) =(dw r x e,cc r x e,()))∧(r1=false→((r2=true→ai r5∧True)∧(r2=false→True))∧(true=true→(Innings.mk (cond r2 (aX r x e).1 (aX r x e).1) (cond r2 (aX r x e).2 (aX r x e).2) (cond r2 (aX r x e).3 (aX r x e).3) (cond r2 (aX r x e).4 (aX r x e).4) (cond r2 (aX r x e).5 (aX r x e).5) (Extras.mk (cond r2 (aX r x e).6.1 (aX r x e).6.1) (cond r2 (aX r x e).6.2 (aX r x e).6.2) (cond r2 (aX r x e).6.3 (aX r x e).6.3) (cond r2 (aX r x e).6.4 (aX r x e).6.4) (cond r2 (aX r x e).6.5 (aX r x e).6.5)) (cond r2 (aX r x e).7 (aX r x e).7) (cond r2 (aX r x e).8 (aX r x e).8) (cond r2 (aX r x e).9 (aX r x e).9) (cond r2 (aX r x e).10 (aX r x e).10) (cond r2 (aX r x e).11 (aX r x e).11) (cond r2 (aX r x e).12 (aX r x e).12) (cond r2 (aX r x e).13 (aX r x e).13) (cond r2 (aX r x e).14 (aX r x e).14) (cond r2 (e.1==4) (e.1==4)) (cond r2 (aX r x e).16 (aX r x e).16) (cond r2 (aX r x e).17 (aX r x e).17) (cond r2 (aX r x e).18 (aX r x e).18) (cond r2 (aX r x e).19 (aX r x e).19) (cond r2 (aX r x e).20 (aX r x e).20) (cond r2 (aX r x e).21 (aX r x e).21) (cond r2 (aX r x e).22.1 (aX r x e).22.1,cond r2 (aX r x e).22.2.1 (aX r x e).22.2.1,()) (cond r2 (pq r r5) (aX r x e).23),0,()) =(dw r x e,cc r x e,()))))))))
 intro r1 r2 r3 r4 r5
 clear_value (hr1:r1=_) (hr2:r2=_) (hr3:r3=_) (hr4:r4=_) (hr5:r5=_)
 simp only [Bool.cond_self] at *
 have e4:r4 =(!aW r x||bB e != 0):=by rw [hr4];cases aW r x <;> rfl
 have hv:r4=false→aW r x=true∧bB e=0:=fun h=>by
  rw [e4] at h
  simpa using h
 have e3:r3 =(!cu x&&e.Kind != 2):=by rw [hr3];cases cu x <;> rfl
 have h5:r5=wb (aX r x e) e:=hr5
 clear hr3 hr4 hr5
 refine ⟨hs,⟨hs,fun _=>trivial,fun _=>trivial⟩,fun _=>⟨fun a=>?_,fun a=>⟨fun b=>?_,fun b=>⟨fun c=>?_,fun c=>?_⟩⟩⟩⟩
 ·have hL:cc r x e=1:=by simp only [cc,←e4,a];rfl
  rw [jt (by rw [hL];rfl),hL]
 ·have hL:cc r x e=26:=by simp only [cc,←e4,a,b];rfl
  rw [jt (by rw [hL];rfl),hL]
 ·have hL:cc r x e=1:=by simp only [cc,←e4,←e3,a,b,c];cases ix e.Kind <;> rfl
  rw [jt (by rw [hL];rfl),hL]
 ·have hL:cc r x e=dx r x e:=by simp only [cc,dx,←e4,←e3,a,b,c];cases ix e.Kind <;> rfl
  have hj:=kY (hv a).1
  refine ⟨hs,hj,IE (hv a).2,fun d=>?_,fun d=>?_⟩
  ·rw [jt (by rw [hL,←hr1];exact d),hL]
  ·have hk:ix e.Kind=true:=by
    cases hk:ix e.Kind with
    | true=>rfl
    | false=>rw [hr1,dx,hk] at d;cases d
   have hy:aX r x e=aA r x e:=by simp only [aX,hk];rfl
   have h0:dx r x e=0:=by rw [hr1] at d;simpa using d
   rw [hy] at h5 hr2 ⊢
   refine ⟨⟨fun q=>⟨?_,trivial⟩,fun _=>trivial⟩,fun _=>?_⟩
   ·rw [h5];exact qv e hj
   ·have hp:dw r x e=vC r r5:=by simp only [dw,hL,h0,h5];rfl
    rw [hp,hL,h0]
    have hE:r5.Ending =(aA r x e).Ending:=by rw [h5];rfl
    unfold vC
    rw [hE,←hr2]
    cases r2 with
    | true=>rw [if_pos rfl,h5];rfl
    | false=>rw [if_neg (by decide),h5];rfl
def ri:FuncId×Ctr:=(290,ae KE gZ q2L AI)
theorem Ad:CtrOK Tryz.prog KE 290 (ae KE gZ q2L AI):=by
 refine an (C:=al [lD,lE,rl,gf,I9,wy] Tryz.f290) (aj (.consU qo rfl (.consU qp rfl (.consU Ah rfl (.consU mj rfl (.consU M7 rfl (.consU Er rfl .nil)))))) _) mixed (fn:=Tryz.f290) Tryz.func290 (by kernel_rfl) (by kernel_rfl) (by kernel_rfl) (by kernel_rfl) (by kernel_rfl) (by kernel_rfl) (Λ:=fun _ _=>none) ?_ ?_
 ·exact fun _ _ _ _ _ _ _ _ h=>by cases h
 ·rintro ⟨r,x,e,⟨⟩⟩ hw hn
  exact HC r x e (hn _ List.mem_cons_self)
abbrev qz:Pat:=bX [.nm .Rules,I,I,I]
def vp (s t p:Int):Bool:=!inW s 1 2 ||(!inW t 0 1000000||!inW p 0 1000000)
def gS (r:Rules) (s t p:Int):Int:=if aq r != 0 then aq r else if vp s t p then 2 else 0
def gO {α:Type} (n:Int) (v:α):List α:=List.replicate n.toNat v
def OP (r:Rules) (s t p:Int):Innings:={ Innings.zero with Side:=s,Target:=t,Overs:=r.Overs,Runs:=p,Extras:={ Extras.zero with Penalties:=p },Batters:=gO r.Side 0,Bowled:=gO r.Side 0,Subs:=gO r.Side false }
def iy (r:Rules) (s t p:Int):Innings:=if gS r s t p != 0 then Innings.zero else OP r s t p
def sO:Den (tyP qz)→List Prop×Den (tyP q2L):=fun x=>([],(iy x.1 x.2.1 x.2.2.1 x.2.2.2.1,gS x.1 x.2.1 x.2.2.1 x.2.2.2.1,()))
abbrev QK:List (Nat×PB):= [(0,.cells [.h I,.h I,.h I,.h I,.h I,.h I,.h I,.h I,.h I,.h I,.h I,.h I,.h I,.h I,.c (.osl 1 2),.h I,.h Is,.h Is,.h .bool,.c (.osl 3 4),.h .bool,.h I,.h I,.h I,.c (.osl 5 6),.h I,.h I,.h U8]),(1,.row 2 U8),(3,.row 4 I),(5,.row 6 .bool),(7,.dat (.nm .Innings))]
abbrev V1:Pat:=⟨[(11,.c (.ptr 0 0)),(8,.c (.ptr 7 0)),(42,.h I),(43,.h I)],QK,8⟩
abbrev V7:List (Lf×Pat):= [(.ext 0,⟨[(11,.c (.ptr 0 0)),(8,.c (.ptr 7 0))],QK,8⟩)]
abbrev RV:Type:=Int×Int×Int×Int×Int×Int×Int×Int×Int×Int×Int×Int×Int×Int×Int×Int×Int×List Int×List Int×Bool×Bool×Int×Int×Int×Int×Int×Int×List Int×List Int×List Bool×Innings×Unit
def sm (x:RV):Prop:=(0≤x.2.1∧x.2.1≤x.1∧x.1≤11)∧((x.2.2.2.2.2.2.2.2.2.2.2.2.2.2.2.2.2.2.2.2.2.2.2.2.2.2.2.1.length:Int)≤x.2.1∧(x.2.2.2.2.2.2.2.2.2.2.2.2.2.2.2.2.2.2.2.2.2.2.2.2.2.2.2.2.1.length:Int)≤x.2.1∧(x.2.2.2.2.2.2.2.2.2.2.2.2.2.2.2.2.2.2.2.2.2.2.2.2.2.2.2.2.2.1.length:Int)≤x.2.1)
def zT (x:RV):Nat:=(x.1 - x.2.1).toNat
def ll (x:RV):=(x.2.2.1,x.2.2.2.1,x.2.2.2.2.1,x.2.2.2.2.2.1,x.2.2.2.2.2.2.1,x.2.2.2.2.2.2.2.1,x.2.2.2.2.2.2.2.2.1,x.2.2.2.2.2.2.2.2.2.1,x.2.2.2.2.2.2.2.2.2.2.1,x.2.2.2.2.2.2.2.2.2.2.2.1,x.2.2.2.2.2.2.2.2.2.2.2.2.1,x.2.2.2.2.2.2.2.2.2.2.2.2.2.1,x.2.2.2.2.2.2.2.2.2.2.2.2.2.2.1,x.2.2.2.2.2.2.2.2.2.2.2.2.2.2.2.1,x.2.2.2.2.2.2.2.2.2.2.2.2.2.2.2.2.1,x.2.2.2.2.2.2.2.2.2.2.2.2.2.2.2.2.2.1,x.2.2.2.2.2.2.2.2.2.2.2.2.2.2.2.2.2.2.1,x.2.2.2.2.2.2.2.2.2.2.2.2.2.2.2.2.2.2.2.1,x.2.2.2.2.2.2.2.2.2.2.2.2.2.2.2.2.2.2.2.2.1,x.2.2.2.2.2.2.2.2.2.2.2.2.2.2.2.2.2.2.2.2.2.1,x.2.2.2.2.2.2.2.2.2.2.2.2.2.2.2.2.2.2.2.2.2.2.1,x.2.2.2.2.2.2.2.2.2.2.2.2.2.2.2.2.2.2.2.2.2.2.2.1,x.2.2.2.2.2.2.2.2.2.2.2.2.2.2.2.2.2.2.2.2.2.2.2.2.1,x.2.2.2.2.2.2.2.2.2.2.2.2.2.2.2.2.2.2.2.2.2.2.2.2.2.1,x.2.2.2.2.2.2.2.2.2.2.2.2.2.2.2.2.2.2.2.2.2.2.2.2.2.2.1,x.2.2.2.2.2.2.2.2.2.2.2.2.2.2.2.2.2.2.2.2.2.2.2.2.2.2.2.1++gO (x.1 - x.2.1) (0:Int),x.2.2.2.2.2.2.2.2.2.2.2.2.2.2.2.2.2.2.2.2.2.2.2.2.2.2.2.2.1++gO (x.1 - x.2.1) (0:Int),x.2.2.2.2.2.2.2.2.2.2.2.2.2.2.2.2.2.2.2.2.2.2.2.2.2.2.2.2.2.1++gO (x.1 - x.2.1) false,x.2.2.2.2.2.2.2.2.2.2.2.2.2.2.2.2.2.2.2.2.2.2.2.2.2.2.2.2.2.2.1,())
theorem KX (r:Rules) (s:Int) (t:Int) (p:Int) :(evPat (al [k85,dn] Tryz.f306) (fun _=>none) Tryz.f306 qz q2L (r,s,t,p,())).sat fun z_=>z_ =(sO (r,s,t,p,())).2:=by
 refine cast (by kernel_rfl) (?_:let r1:Bool:=cond (!inW s 1 2) true (cond (!inW t 0 1000000) true (!inW p 0 1000000));let r2:Innings:=Innings.mk 0 0 0 0 0 (Extras.mk 0 0 0 0 0) 0 0 0 0 [] 0 [] [] false [] false 0 0 0 [] (0,0,()) 0;((aq r != 0)=true→(r2,aq r,()) =(iy r s t p,gS r s t p,()))∧((aq r != 0)=false→(r1=true→(r2,2,()) =(iy r s t p,gS r s t p,()))∧(r1=false→(0≤r.2∧r.2=r.2∧r.2≤17179869184)∧(0≤r.2∧r.2=r.2∧r.2≤17179869184)∧(0≤r.2∧r.2=r.2∧r.2≤17179869184)∧(Innings.mk s t r.4 p 0 (Extras.mk 0 0 0 0 p) 0 0 0 0 (List.replicate r.2.toNat 0) 0 [] [] false (List.replicate r.2.toNat 0) false 0 0 0 (List.replicate r.2.toNat false) (0,0,()) 0,0,()) =(iy r s t p,gS r s t p,()))))
 intro r1 r2
 clear_value (hr1:r1=_) (hr2:r2=_)
 have e1:r1=vp s t p:=by rw [hr1];unfold vp;cases inW s 1 2 <;> cases inW t 0 1000000 <;> rfl
 have e2:r2=Innings.zero:=hr2
 rw [e1,e2]
 refine ⟨fun h=>?_,fun h=>⟨fun h2=>?_,fun h2=>?_⟩⟩
 ·have hL:gS r s t p=aq r:=by simp only [gS,h,if_true]
  have hY:iy r s t p=Innings.zero:=by simp only [iy,hL,h,if_true]
  rw [hL,hY]
 ·have hL:gS r s t p=2:=by simp only [gS,h,h2];rfl
  have hY:iy r s t p=Innings.zero:=by simp only [iy,hL];rfl
  rw [hL,hY]
 ·have hL:gS r s t p=0:=by simp only [gS,h,h2];rfl
  have hY:iy r s t p=OP r s t p:=by simp only [iy,hL];rfl
  have hr:=(iB (r:=r) (by simpa using h)).1
  have hb:0≤r.Side∧r.Side=r.Side∧r.Side≤17179869184:=⟨by omega,rfl,by omega⟩
  rw [hL,hY]
  exact ⟨hb,hb,hb,rfl⟩
def I2:FuncId×Ctr:=(306,ae KE qz q2L sO)
theorem MW:CtrOK Tryz.prog KE 306 (ae KE qz q2L sO):=by
 refine an (C:=al [k85,dn] Tryz.f306) (aj (.consU wR rfl (.consU fV rfl .nil)) _) mixed (fn:=Tryz.f306) Tryz.func306 (by kernel_rfl) (by kernel_rfl) (by kernel_rfl) (by kernel_rfl) (by kernel_rfl) (by kernel_rfl) (Λ:=fun _ _=>none) ?_ ?_
 ·exact fun _ _ _ _ _ _ _ _ h=>by cases h
 ·rintro ⟨r,s,t,p,⟨⟩⟩ hw hn
  exact KX r s t p
theorem x4 {α:Type} {n i:Int} (h:i<n) (v:α):gO (n - i) v=v::gO (n - (i+1)) v:=by
 unfold gO
 have :(n - i).toNat =(n - (i+1)).toNat+1:=by omega
 rw [this,List.replicate_succ]
theorem A0 {α:Type} {n i:Int} (h :¬ i<n) (v:α):gO (n - i) v=[]:=by
 unfold gO
 have :(n - i).toNat=0:=by omega
 rw [this];rfl
noncomputable def lpBg:Lp:=(⟨0,al [] Tryz.f289,(fun _=>none),(az Tryz.f289 0),V1,V7⟩:Lp)
theorem Tp (n:Int) (i:Int) (a1:Int) (a2:Int) (a3:Int) (a4:Int) (a5:Int) (a6:Int) (a7:Int) (a8:Int) (a9:Int) (a10:Int) (a11:Int) (a12:Int) (a13:Int) (a14:Int) (bo:Int) (bl:List Int) (bf:List Int) (fr:Bool) (fh:Bool) (ba:Int) (ke:Int) (ou:Int) (v1:Int) (v2:Int) (en:Int) (bs:List Int) (bw:List Int) (sb:List Bool) (zi:Innings) (hi:sm (n,i,a1,a2,a3,a4,a5,a6,a7,a8,a9,a10,a11,a12,a13,a14,bo,bl,bf,fr,fh,ba,ke,ou,v1,v2,en,bs,bw,sb,zi,())) :(Go.Mir.stepG lpBg ll (fun y:Den (tyP lpBg.q)=>sm y∧zT y<zT (n,i,a1,a2,a3,a4,a5,a6,a7,a8,a9,a10,a11,a12,a13,a14,bo,bl,bf,fr,fh,ba,ke,ou,v1,v2,en,bs,bw,sb,zi,())) (n,i,a1,a2,a3,a4,a5,a6,a7,a8,a9,a10,a11,a12,a13,a14,bo,bl,bf,fr,fh,ba,ke,ou,v1,v2,en,bs,bw,sb,zi,())∧Go.Mir.stepE lpBg ll (n,i,a1,a2,a3,a4,a5,a6,a7,a8,a9,a10,a11,a12,a13,a14,bo,bl,bf,fr,fh,ba,ke,ou,v1,v2,en,bs,bw,sb,zi,())=ll (n,i,a1,a2,a3,a4,a5,a6,a7,a8,a9,a10,a11,a12,a13,a14,bo,bl,bf,fr,fh,ba,ke,ou,v1,v2,en,bs,bw,sb,zi,())):=by
 refine cast (by kernel_rfl) (?_ :((decide (i<n)=true→(bs.length+[0].length) *(1:Nat)≤(70368744177664:Nat)∧(bw.length+[0].length) *(8:Nat)≤(70368744177664:Nat)∧(sb.length+[false].length) *(1:Nat)≤(70368744177664:Nat)∧sm (n,IntKind.i64.wrap (i+1),a1,a2,a3,a4,a5,a6,a7,a8,a9,a10,a11,a12,a13,a14,bo,bl,bf,fr,fh,ba,ke,ou,v1,v2,en,bs++[0],bw++[0],sb++[false],zi,())∧zT (n,IntKind.i64.wrap (i+1),a1,a2,a3,a4,a5,a6,a7,a8,a9,a10,a11,a12,a13,a14,bo,bl,bf,fr,fh,ba,ke,ou,v1,v2,en,bs++[0],bw++[0],sb++[false],zi,())<zT (n,i,a1,a2,a3,a4,a5,a6,a7,a8,a9,a10,a11,a12,a13,a14,bo,bl,bf,fr,fh,ba,ke,ou,v1,v2,en,bs,bw,sb,zi,()))∧(decide (i<n)=false→True))∧(cond (decide (i<n)) (ll (n,IntKind.i64.wrap (i+1),a1,a2,a3,a4,a5,a6,a7,a8,a9,a10,a11,a12,a13,a14,bo,bl,bf,fr,fh,ba,ke,ou,v1,v2,en,bs++[0],bw++[0],sb++[false],zi,())) (a1,a2,a3,a4,a5,a6,a7,a8,a9,a10,a11,a12,a13,a14,bo,bl,bf,fr,fh,ba,ke,ou,v1,v2,en,bs,bw,sb,zi,()))=ll (n,i,a1,a2,a3,a4,a5,a6,a7,a8,a9,a10,a11,a12,a13,a14,bo,bl,bf,fr,fh,ba,ke,ou,v1,v2,en,bs,bw,sb,zi,()))
 obtain ⟨⟨h1,h2,h3⟩,h4,h5,h6⟩:=hi
 simp only at h1 h2 h3 h4 h5 h6
 refine ⟨⟨fun h=>?_,fun _=>trivial⟩,?_⟩
 ·have h:i<n:=of_decide_eq_true h
  rw [bc (n:=i+1) (by omega) (by omega)]
  refine ⟨by simp;omega,by simp;omega,by simp;omega,⟨⟨by simp only;omega,by simp only;omega,h3⟩,?_,?_,?_⟩,by simp only [zT];omega⟩ <;> simp only [List.length_append,List.length_cons,List.length_nil] <;> omega
 ·by_cases h:i<n
  ·rw [decide_eq_true h,cond_true,bc (n:=i+1) (by omega) (by omega)]
   simp only [ll]
   rw [x4 h (0:Int),x4 h false]
   simp
  ·rw [decide_eq_false h,cond_false]
   simp only [ll]
   rw [A0 h (0:Int),A0 h false]
   simp
noncomputable def Rx:LoopSum:=aM lpBg ll sm
noncomputable def Q6:Nat:=rid (az Tryz.f289 0)
theorem Sl:LoopOKp Tryz.prog 0 Tryz.f289.ntmps (az Tryz.f289 0) (aM lpBg ll sm):=
 bk lpBg (aj (CtrsOK.nil) _) mixed (fun b hb S hS=>by cases hS) ll sm zT (fun |⟨n,i,a1,a2,a3,a4,a5,a6,a7,a8,a9,a10,a11,a12,a13,a14,bo,bl,bf,fr,fh,ba,ke,ou,v1,v2,en,bs,bw,sb,zi,⟨⟩⟩,hi=>Tp n i a1 a2 a3 a4 a5 a6 a7 a8 a9 a10 a11 a12 a13 a14 bo bl bf fr fh ba ke ou v1 v2 en bs bw sb zi hi)
theorem Fw (r:Rules) (s:Int) (t:Int) (p:Int) :(evPat (al [k86,jU] Tryz.f289) (find [(Q6,Rx)]) Tryz.f289 qz q2L (r,s,t,p,())).sat fun z_=>z_ =(sO (r,s,t,p,())).2:=by
 refine cast (by kernel_rfl) (?_:let r1:Int:=r.2 - 0;let r2:List Int:=gO r1 0;let r3:Bool:=cond (!inW s 1 2) true (cond (!inW t 0 1000000) true (!inW p 0 1000000));let r4:Innings:=Innings.mk 0 0 0 0 0 (Extras.mk 0 0 0 0 0) 0 0 0 0 [] 0 [] [] false [] false 0 0 0 [] (0,0,()) 0;((aq r != 0)=true→(r4,aq r,()) =(iy r s t p,gS r s t p,()))∧((aq r != 0)=false→(r3=true→(r4,2,()) =(iy r s t p,gS r s t p,()))∧(r3=false→((cZ fun x=>none)∧((0:Int)≤0∧0≤r.2∧r.2≤11)∧(↑(0:Nat):Int)≤0∧(↑(0:Nat):Int)≤0∧(↑(0:Nat):Int)≤0)∧(Innings.mk s t r.4 p 0 (Extras.mk 0 0 0 0 p) 0 0 0 0 ([]++r2) 0 [] [] false ([]++r2) false 0 0 0 ([]++gO r1 false) (0,0,()) 0,0,()) =(iy r s t p,gS r s t p,()))))
 intro r1 r2 r3 r4
 clear_value (hr1:r1=_) (hr2:r2=_) (hr3:r3=_) (hr4:r4=_)
 have e3:r3=vp s t p:=by rw [hr3];unfold vp;cases inW s 1 2 <;> cases inW t 0 1000000 <;> rfl
 have e4:r4=Innings.zero:=hr4
 have e1:r1=r.Side:=by rw [hr1];omega
 rw [e3,e4]
 refine ⟨fun h=>?_,fun h=>⟨fun h2=>?_,fun h2=>?_⟩⟩
 ·have hL:gS r s t p=aq r:=by simp only [gS,h,if_true]
  have hY:iy r s t p=Innings.zero:=by simp only [iy,hL,h,if_true]
  rw [hL,hY]
 ·have hL:gS r s t p=2:=by simp only [gS,h,h2];rfl
  have hY:iy r s t p=Innings.zero:=by simp only [iy,hL];rfl
  rw [hL,hY]
 ·have hL:gS r s t p=0:=by simp only [gS,h,h2];rfl
  have hY:iy r s t p=OP r s t p:=by simp only [iy,hL];rfl
  have hr:=(iB (r:=r) (by simpa using h)).1
  rw [hL,hY,hr2,e1]
  exact ⟨⟨rfl,⟨Int.le_refl _,by omega,hr.2⟩,Int.le_refl _,Int.le_refl _,Int.le_refl _⟩,rfl⟩
def zJ:FuncId×Ctr:=(289,ae KE qz q2L sO)
theorem GO:CtrOK Tryz.prog KE 289 (ae KE qz q2L sO):=by
 refine an (C:=al [k86,jU] Tryz.f289) (aj (.consU wS rfl (.consU mm rfl .nil)) _) mixed (fn:=Tryz.f289) Tryz.func289 (by kernel_rfl) (by kernel_rfl) (by kernel_rfl) (by kernel_rfl) (by kernel_rfl) (by kernel_rfl) (Λ:=fun x=>find [(Q6,Rx)]) ?_ ?_
 ·rintro ⟨r,s,t,p,⟨⟩⟩ hw hn
  exact LoopsOKp.at (by kernel_rfl) (.cons (by kernel_rfl) (Sl) .nil)
 ·rintro ⟨r,s,t,p,⟨⟩⟩ hw hn
  exact Fw r s t p
abbrev LG:Ty:= .slice (.nm .Innings)
abbrev qM:Pat:=bX [.nm .Match]
abbrev qMI:Pat:=bX [.nm .Match,I]
def cg (s:Int):Int:=W (3 - s)
def sS:Den (tyP bb)→List Prop×Den (tyP bb):=fun x=>([],(cg x.1,()))
def vc (m:Match) (i:Int):Bool:=if m.Follow&&decide (i≥2) then i==2 else i.tmod 2==1
def vd (m:Match) (i:Int):Bool:=if m.Follow&&decide (i≥2) then !(i.tmod 2==1) else i.tmod 2==1
def cM (m:Match) (i:Int):Int:=if vc m i then cg m.First else m.First
def gF (m:Match) (i:Int):Int:=if vd m i then cg m.First else m.First
def Ci:Den (tyP qMI)→List Prop×Den (tyP bb):=fun x=>([],(cM x.1 x.2.1,()))
def Cj:Den (tyP qMI)→List Prop×Den (tyP bb):=fun x=>([],(gF x.1 x.2.1,()))
def Ir (s:Int):List Innings→Int→Int
 | [],n=>n
 | x::l,n=>Ir s l (if x.Side==s then W (n+x.Runs) else n)
def fX (m:Match) (s:Int):Int:=Ir s m.Innings 0
def AK:Den (tyP qMI)→List Prop×Den (tyP bb):=fun x=>([],(fX x.1 x.2.1,()))
def fO (m:Match) (s:Int):Int:=
 if decide (W ((m.Innings.length:Int)+1)<W (2*m.Rules.Innings)) then 0 else W (W (fX m (cg s) - fX m s)+1)
def Cp:Den (tyP qMI)→List Prop×Den (tyP bb):=fun x=>([],(fO x.1 x.2.1,()))
abbrev qTo:Pat:=⟨[(5,.h I),(1,.h I),(9,.h LG),(10,.h I),(11,.h I)],[],0⟩
abbrev xTo:List (Lf×Pat):= [(.ext 0,⟨[(5,.h I)],[],0⟩)]
abbrev TTo:Type:=Int×Int×List Innings×Int×Int×Unit
def iD (x:TTo):Prop:=x.2.2.2.1 =(x.2.2.1.length:Int)∧0≤x.2.2.2.2.1∧x.2.2.2.2.1≤x.2.2.2.1∧x.2.2.1.length≤aJ
def um (x:TTo):Nat:=(x.2.2.2.1 - x.2.2.2.2.1).toNat
def gk (x:TTo):Int×Unit:=(Ir x.2.1 (x.2.2.1.drop x.2.2.2.2.1.toNat) x.1,())
theorem rP {m:Match} (h:wfD (.nm .Match) m):m.Innings.length≤aJ:=
 cN (aU (aN (aN (aN (aN (JM h))))))
theorem K6 (s:Int) :(evPat (al [] Tryz.f279) (fun _=>none) Tryz.f279 bb bb (s,())).sat fun z_=>z_ =(sS (s,())).2:=by
 refine cast (by kernel_rfl) (?_ :(IntKind.i64.wrap (3 - s),()) =(cg s,()))
 rfl
def im:FuncId×Ctr:=(279,ae KE bb bb sS)
theorem nC:CtrOK Tryz.prog KE 279 (ae KE bb bb sS):=by
 refine an (C:=al [] Tryz.f279) (aj (CtrsOK.nil) _) mixed (fn:=Tryz.f279) Tryz.func279 (by kernel_rfl) (by kernel_rfl) (by kernel_rfl) (by kernel_rfl) (by kernel_rfl) (by kernel_rfl) (Λ:=fun _ _=>none) ?_ ?_
 ·exact fun _ _ _ _ _ _ _ _ h=>by cases h
 ·rintro ⟨s,⟨⟩⟩ hw hn
  exact K6 s
theorem FD (s:Int) :(evPat (al [] Tryz.f243) (fun _=>none) Tryz.f243 bb bb (s,())).sat fun z_=>z_ =(sS (s,())).2:=by
 refine cast (by kernel_rfl) (?_ :(IntKind.i64.wrap (3 - s),()) =(cg s,()))
 rfl
def eg:FuncId×Ctr:=(243,ae KE bb bb sS)
theorem ka:CtrOK Tryz.prog KE 243 (ae KE bb bb sS):=by
 refine an (C:=al [] Tryz.f243) (aj (CtrsOK.nil) _) mixed (fn:=Tryz.f243) Tryz.func243 (by kernel_rfl) (by kernel_rfl) (by kernel_rfl) (by kernel_rfl) (by kernel_rfl) (by kernel_rfl) (Λ:=fun _ _=>none) ?_ ?_
 ·exact fun _ _ _ _ _ _ _ _ h=>by cases h
 ·rintro ⟨s,⟨⟩⟩ hw hn
  exact FD s
theorem K5 (m:Match) (i:Int) :(evPat (al [im] Tryz.f273) (fun _=>none) Tryz.f273 qMI bb (m,i,())).sat fun z_=>z_ =(Ci (m,i,())).2:=by
 refine cast (by kernel_rfl) (?_:let r1:Bool:=cond (cond m.4 (decide (i≥2)) false) (i==2) (i.tmod (2:Int)==1);(2:Int)≠0∧(r1=true→(cg m.3,()) =(cM m i,()))∧(r1=false→(m.3,()) =(cM m i,())))
 intro r1
 clear_value (hr1:r1=_)
 grind [cM,vc]
def Bx:FuncId×Ctr:=(273,ae KE qMI bb Ci)
theorem Ek:CtrOK Tryz.prog KE 273 (ae KE qMI bb Ci):=by
 refine an (C:=al [im] Tryz.f273) (aj (.consU nC rfl .nil) _) mixed (fn:=Tryz.f273) Tryz.func273 (by kernel_rfl) (by kernel_rfl) (by kernel_rfl) (by kernel_rfl) (by kernel_rfl) (by kernel_rfl) (Λ:=fun _ _=>none) ?_ ?_
 ·exact fun _ _ _ _ _ _ _ _ h=>by cases h
 ·rintro ⟨m,i,⟨⟩⟩ hw hn
  exact K5 m i
theorem Cb (m:Match) (i:Int) :(evPat (al [eg] Tryz.f287) (fun _=>none) Tryz.f287 qMI bb (m,i,())).sat fun z_=>z_ =(Cj (m,i,())).2:=by
 refine cast (by kernel_rfl) (?_:let r1:Bool:=i.tmod (2:Int)==1;let r2:Bool:=cond (cond m.4 (decide (i≥2)) false) (!r1) r1;(2:Int)≠0∧(r2=true→(cg m.3,()) =(gF m i,()))∧(r2=false→(m.3,()) =(gF m i,())))
 intro r1 r2
 clear_value (hr1:r1=_) (hr2:r2=_)
 grind [gF,vd]
def qb:FuncId×Ctr:=(287,ae KE qMI bb Cj)
theorem tQ:CtrOK Tryz.prog KE 287 (ae KE qMI bb Cj):=by
 refine an (C:=al [eg] Tryz.f287) (aj (.consU ka rfl .nil) _) mixed (fn:=Tryz.f287) Tryz.func287 (by kernel_rfl) (by kernel_rfl) (by kernel_rfl) (by kernel_rfl) (by kernel_rfl) (by kernel_rfl) (Λ:=fun _ _=>none) ?_ ?_
 ·exact fun _ _ _ _ _ _ _ _ h=>by cases h
 ·rintro ⟨m,i,⟨⟩⟩ hw hn
  exact Cb m i
noncomputable def lpTo:Lp:=(⟨0,al [] Tryz.f283,(fun _=>none),(az Tryz.f283 0),qTo,xTo⟩:Lp)
theorem TJ (a:Int) (s:Int) (xs:List Innings) (n:Int) (i:Int) (hi:iD (a,s,xs,n,i,())) :(Go.Mir.stepG lpTo gk (fun y:Den (tyP lpTo.q)=>iD y∧um y<um (a,s,xs,n,i,())) (a,s,xs,n,i,())∧Go.Mir.stepE lpTo gk (a,s,xs,n,i,())=gk (a,s,xs,n,i,())):=by
 refine cast (by kernel_rfl) (?_:let r1:Bool:=(xs.getD i.toNat (dflt (Ty.nm Nm.Innings))).1==s;let r2:Int×Unit:=gk (cond r1 (IntKind.i64.wrap (a +(xs.getD i.toNat (dflt (Ty.nm Nm.Innings))).4)) a,s,xs,n,IntKind.i64.wrap (i+1),());((decide (i<n)=true→((0≤i∧i <(↑xs.length:Int))∧(r1=true→True)∧(r1=false→True))∧(true=true→iD (cond r1 (IntKind.i64.wrap (a +(xs.getD i.toNat (dflt (Ty.nm Nm.Innings))).4)) a,s,xs,n,IntKind.i64.wrap (i+1),())∧um (cond r1 (IntKind.i64.wrap (a +(xs.getD i.toNat (dflt (Ty.nm Nm.Innings))).4)) a,s,xs,n,IntKind.i64.wrap (i+1),())<um (a,s,xs,n,i,())))∧(decide (i<n)=false→True))∧(cond (decide (i<n)) (cond (true&&true) r2 (cond true r2 (cond r1 (dflt (I.prod Ty.unit)) (dflt (I.prod Ty.unit))))) (a,()))=gk (a,s,xs,n,i,()))
 intro r1 r2
 clear_value (hr1:r1=_) (hr2:r2=_)
 obtain ⟨h1,h2,h3,h4⟩:=hi
 simp only at h1 h2 h3 h4
 have h5 :(xs.length:Int)≤140737488355328:=by have:xs.length≤140737488355328:=h4;omega
 refine ⟨⟨fun h=>?_,fun _=>trivial⟩,?_⟩
 ·have h:i<n:=of_decide_eq_true h
  rw [bc (n:=i+1) (by omega) (by omega)]
  exact ⟨⟨⟨h2,by omega⟩,fun _=>trivial,fun _=>trivial⟩,fun _=>⟨⟨h1,by simp only;omega,by simp only;omega,h4⟩,by simp only [um];omega⟩⟩
 ·by_cases h:i<n
  ·rw [bc (n:=i+1) (by omega) (by omega)] at hr2
   have e:xs.drop i.toNat=xs.getD i.toNat (dflt (Ty.nm Nm.Innings))::xs.drop (i+1).toNat:=b8 h2 (by omega) _
   rw [decide_eq_true h]
   show r2=_
   rw [hr2,hr1]
   generalize xs.getD i.toNat (dflt (Ty.nm Nm.Innings))=v at e ⊢
   simp only [gk,e,Ir]
   cases v.Side==s <;> rfl
  ·rw [decide_eq_false h,cond_false]
   simp only [gk]
   rw [bJ (l:=xs) (by omega)]
   rfl
noncomputable def RK:LoopSum:=aM lpTo gk iD
noncomputable def Rk:Nat:=rid (az Tryz.f283 0)
theorem SA:LoopOKp Tryz.prog 0 Tryz.f283.ntmps (az Tryz.f283 0) (aM lpTo gk iD):=
 bk lpTo (aj (CtrsOK.nil) _) mixed (fun b hb S hS=>by cases hS) gk iD um (fun |⟨a,s,xs,n,i,⟨⟩⟩,hi=>TJ a s xs n i hi)
theorem K7 (m:Match) (s:Int) (hx:m.Innings.length≤aJ) :(evPat (al [] Tryz.f283) (find [(Rk,RK)]) Tryz.f283 qMI bb (m,s,())).sat fun z_=>z_ =(AK (m,s,())).2:=by
 refine cast (by kernel_rfl) (?_ :((cZ fun x=>none)∧(↑m.5.length:Int) =(↑m.5.length:Int)∧(0:Int)≤0∧0≤(↑m.5.length:Int)∧m.5.length≤aJ)∧(Ir s (List.drop (Int.toNat 0) m.5) 0,()) =(fX m s,()))
 exact ⟨⟨rfl,rfl,Int.le_refl _,by omega,hx⟩,rfl⟩
def oN:FuncId×Ctr:=(283,ae KE qMI bb AK)
theorem wX:CtrOK Tryz.prog KE 283 (ae KE qMI bb AK):=by
 refine an (C:=al [] Tryz.f283) (aj (CtrsOK.nil) _) mixed (fn:=Tryz.f283) Tryz.func283 (by kernel_rfl) (by kernel_rfl) (by kernel_rfl) (by kernel_rfl) (by kernel_rfl) (by kernel_rfl) (Λ:=fun x=>find [(Rk,RK)]) ?_ ?_
 ·rintro ⟨m,s,⟨⟩⟩ hw hn
  exact LoopsOKp.at (by kernel_rfl) (.cons (by kernel_rfl) (SA) .nil)
 ·rintro ⟨m,s,⟨⟩⟩ hw hn
  exact K7 m s (rP (aU hw))
noncomputable def lpTr:Lp:=(⟨0,al [] Tryz.f246,(fun _=>none),(az Tryz.f246 0),qTo,xTo⟩:Lp)
theorem TL (a:Int) (s:Int) (xs:List Innings) (n:Int) (i:Int) (hi:iD (a,s,xs,n,i,())) :(Go.Mir.stepG lpTr gk (fun y:Den (tyP lpTr.q)=>iD y∧um y<um (a,s,xs,n,i,())) (a,s,xs,n,i,())∧Go.Mir.stepE lpTr gk (a,s,xs,n,i,())=gk (a,s,xs,n,i,())):=by
 refine cast (by kernel_rfl) (?_:let r1:Bool:=(xs.getD i.toNat (dflt (Ty.nm Nm.Innings))).1==s;let r2:Int×Unit:=gk (cond r1 (IntKind.i64.wrap (a +(xs.getD i.toNat (dflt (Ty.nm Nm.Innings))).4)) a,s,xs,n,IntKind.i64.wrap (i+1),());((decide (i<n)=true→((0≤i∧i <(↑xs.length:Int))∧(r1=true→True)∧(r1=false→True))∧(true=true→iD (cond r1 (IntKind.i64.wrap (a +(xs.getD i.toNat (dflt (Ty.nm Nm.Innings))).4)) a,s,xs,n,IntKind.i64.wrap (i+1),())∧um (cond r1 (IntKind.i64.wrap (a +(xs.getD i.toNat (dflt (Ty.nm Nm.Innings))).4)) a,s,xs,n,IntKind.i64.wrap (i+1),())<um (a,s,xs,n,i,())))∧(decide (i<n)=false→True))∧(cond (decide (i<n)) (cond (true&&true) r2 (cond true r2 (cond r1 (dflt (I.prod Ty.unit)) (dflt (I.prod Ty.unit))))) (a,()))=gk (a,s,xs,n,i,()))
 intro r1 r2
 clear_value (hr1:r1=_) (hr2:r2=_)
 obtain ⟨h1,h2,h3,h4⟩:=hi
 simp only at h1 h2 h3 h4
 have h5 :(xs.length:Int)≤140737488355328:=by have:xs.length≤140737488355328:=h4;omega
 refine ⟨⟨fun h=>?_,fun _=>trivial⟩,?_⟩
 ·have h:i<n:=of_decide_eq_true h
  rw [bc (n:=i+1) (by omega) (by omega)]
  exact ⟨⟨⟨h2,by omega⟩,fun _=>trivial,fun _=>trivial⟩,fun _=>⟨⟨h1,by simp only;omega,by simp only;omega,h4⟩,by simp only [um];omega⟩⟩
 ·by_cases h:i<n
  ·rw [bc (n:=i+1) (by omega) (by omega)] at hr2
   have e:xs.drop i.toNat=xs.getD i.toNat (dflt (Ty.nm Nm.Innings))::xs.drop (i+1).toNat:=b8 h2 (by omega) _
   rw [decide_eq_true h]
   show r2=_
   rw [hr2,hr1]
   generalize xs.getD i.toNat (dflt (Ty.nm Nm.Innings))=v at e ⊢
   simp only [gk,e,Ir]
   cases v.Side==s <;> rfl
  ·rw [decide_eq_false h,cond_false]
   simp only [gk]
   rw [bJ (l:=xs) (by omega)]
   rfl
noncomputable def RL:LoopSum:=aM lpTr gk iD
noncomputable def Rm:Nat:=rid (az Tryz.f246 0)
theorem SB:LoopOKp Tryz.prog 0 Tryz.f246.ntmps (az Tryz.f246 0) (aM lpTr gk iD):=
 bk lpTr (aj (CtrsOK.nil) _) mixed (fun b hb S hS=>by cases hS) gk iD um (fun |⟨a,s,xs,n,i,⟨⟩⟩,hi=>TL a s xs n i hi)
theorem FA (m:Match) (s:Int) (hx:m.Innings.length≤aJ) :(evPat (al [] Tryz.f246) (find [(Rm,RL)]) Tryz.f246 qMI bb (m,s,())).sat fun z_=>z_ =(AK (m,s,())).2:=by
 refine cast (by kernel_rfl) (?_ :((cZ fun x=>none)∧(↑m.5.length:Int) =(↑m.5.length:Int)∧(0:Int)≤0∧0≤(↑m.5.length:Int)∧m.5.length≤aJ)∧(Ir s (List.drop (Int.toNat 0) m.5) 0,()) =(fX m s,()))
 exact ⟨⟨rfl,rfl,Int.le_refl _,by omega,hx⟩,rfl⟩
def jD:FuncId×Ctr:=(246,ae KE qMI bb AK)
theorem qq:CtrOK Tryz.prog KE 246 (ae KE qMI bb AK):=by
 refine an (C:=al [] Tryz.f246) (aj (CtrsOK.nil) _) mixed (fn:=Tryz.f246) Tryz.func246 (by kernel_rfl) (by kernel_rfl) (by kernel_rfl) (by kernel_rfl) (by kernel_rfl) (by kernel_rfl) (Λ:=fun x=>find [(Rm,RL)]) ?_ ?_
 ·rintro ⟨m,s,⟨⟩⟩ hw hn
  exact LoopsOKp.at (by kernel_rfl) (.cons (by kernel_rfl) (SB) .nil)
 ·rintro ⟨m,s,⟨⟩⟩ hw hn
  exact FA m s (rP (aU hw))
theorem Hu (m:Match) (s:Int) :(evPat (al [im,oN] Tryz.f307) (fun _=>none) Tryz.f307 qMI bb (m,s,())).sat fun z_=>z_ =(Cp (m,s,())).2:=by
 refine cast (by kernel_rfl) (?_:let r1:Int:=IntKind.i64.wrap (2*m.1.3);let r2:Int:=IntKind.i64.wrap ((↑m.5.length:Int)+1);let r3:Bool:=decide (r2<r1);(r3=true→(0,()) =(fO m s,()))∧(r3=false→(IntKind.i64.wrap (IntKind.i64.wrap (fX m (cg s) - fX m s)+1),()) =(fO m s,())))
 intro r1 r2 r3
 clear_value (hr1:r1=_) (hr2:r2=_) (hr3:r3=_)
 grind [fO]
def DP:FuncId×Ctr:=(307,ae KE qMI bb Cp)
theorem Kt:CtrOK Tryz.prog KE 307 (ae KE qMI bb Cp):=by
 refine an (C:=al [im,oN] Tryz.f307) (aj (.consU nC rfl (.consU wX rfl .nil)) _) mixed (fn:=Tryz.f307) Tryz.func307 (by kernel_rfl) (by kernel_rfl) (by kernel_rfl) (by kernel_rfl) (by kernel_rfl) (by kernel_rfl) (Λ:=fun _ _=>none) ?_ ?_
 ·exact fun _ _ _ _ _ _ _ _ h=>by cases h
 ·rintro ⟨m,s,⟨⟩⟩ hw hn
  exact Hu m s
def wE (st n i:Int):Bool:=st==3&&i==W (n - 1)
def x8 (st n:Int):List Innings→Int→Bool
 | [],_=>true
 | x::l,i=>if (x.Ending==0) != wE st n i then false else x8 st n l (i+1)
def kZ (m:Match):Bool:=x8 m.Stage m.Innings.length m.Innings 0&&(m.Stage != 3||decide ((m.Innings.length:Int)>0))
def HU:Den (tyP qM)→List Prop×Den (tyP ax):=fun x=>([],(kZ x.1,()))
abbrev qEn:Pat:=⟨[(1,.c (.ptr 0 0)),(3,.h I),(10,.h LG),(11,.h I),(12,.h I)],[(0,.dat (.nm .Match))],1⟩
abbrev xEn:List (Lf×Pat):= [(.ret,⟨[(2,.h .bool)],[],0⟩),(.ext 0,⟨[(1,.c (.ptr 0 0)),(3,.h I)],[(0,.dat (.nm .Match))],1⟩)]
abbrev TEn:Type:=Int×List Innings×Int×Int×Match×Unit
def yZ (x:TEn):Prop:=iD (0,0,x.2.1,x.2.2.1,x.2.2.2.1,())
def J9 (x:TEn):Nat:=(x.2.2.1 - x.2.2.2.1).toNat
def QY (n:Int) (m:Match) (b:Bool):Sum (Bool×Unit) (Int×Match×Unit):=if b then .inr (n,m,()) else .inl (false,())
def kP (x:TEn):Sum (Bool×Unit) (Int×Match×Unit):=QY x.1 x.2.2.2.2.1 (x8 x.2.2.2.2.1.Stage x.1 (x.2.1.drop x.2.2.2.1.toNat) x.2.2.2.1)
noncomputable def lpEn:Lp:=(⟨0,al [] Tryz.f274,(fun _=>none),(az Tryz.f274 0),qEn,xEn⟩:Lp)
theorem Tx (k:Int) (xs:List Innings) (n:Int) (i:Int) (m:Match) (hi:yZ (k,xs,n,i,m,())) :(Go.Mir.stepG lpEn kP (fun y:Den (tyP lpEn.q)=>yZ y∧J9 y<J9 (k,xs,n,i,m,())) (k,xs,n,i,m,())∧Go.Mir.stepE lpEn kP (k,xs,n,i,m,())=kP (k,xs,n,i,m,())):=by
 refine cast (by kernel_rfl) (?_:let r1:Bool:=(xs.getD i.toNat (dflt (Ty.nm Nm.Innings))).23==0;let r2:Bool:=cond (m.2==3) (!r1 ==(i==IntKind.i64.wrap (k - 1))) (!r1==false);((decide (i<n)=true→(0≤i∧i <(↑xs.length:Int))∧(r2=true→True)∧(r2=false→yZ (k,xs,n,IntKind.i64.wrap (i+1),m,())∧J9 (k,xs,n,IntKind.i64.wrap (i+1),m,())<J9 (k,xs,n,i,m,())))∧(decide (i<n)=false→True))∧(cond (decide (i<n)) (cond r2 (Sum.inl (false,())) (kP (k,xs,n,IntKind.i64.wrap (i+1),m,()))) (Sum.inr (k,m,())))=kP (k,xs,n,i,m,()))
 intro r1 r2
 clear_value (hr1:r1=_) (hr2:r2=_)
 obtain ⟨h1,h2,h3,h4⟩:=hi
 simp only at h1 h2 h3 h4
 have h5 :(xs.length:Int)≤140737488355328:=by have:xs.length≤140737488355328:=h4;omega
 refine ⟨⟨fun h=>?_,fun _=>trivial⟩,?_⟩
 ·have h:i<n:=of_decide_eq_true h
  rw [bc (n:=i+1) (by omega) (by omega)]
  exact ⟨⟨h2,by omega⟩,fun _=>trivial,fun _=>⟨⟨h1,by simp only;omega,by simp only;omega,h4⟩,by simp only [J9];omega⟩⟩
 ·by_cases h:i<n
  ·have e:xs.drop i.toNat=xs.getD i.toNat (dflt (Ty.nm Nm.Innings))::xs.drop (i+1).toNat:=b8 h2 (by omega) _
   rw [decide_eq_true h,cond_true,bc (n:=i+1) (by omega) (by omega)]
   generalize xs.getD i.toNat (dflt (Ty.nm Nm.Innings))=v at e hr1
   have e2:r2 =((v.Ending==0) != wE m.Stage k i):=by
    rw [hr2,hr1]
    unfold wE
    cases m.Stage==3 <;> cases v.Ending==0 <;> cases i==IntKind.i64.wrap (k - 1) <;> rfl
   simp only [kP,e,x8]
   rw [←e2]
   cases r2 <;> rfl
  ·rw [decide_eq_false h,cond_false]
   simp only [kP]
   rw [bJ (l:=xs) (by omega)]
   rfl
noncomputable def RC:LoopSum:=aM lpEn kP yZ
noncomputable def Rb:Nat:=rid (az Tryz.f274 0)
theorem Sq:LoopOKp Tryz.prog 0 Tryz.f274.ntmps (az Tryz.f274 0) (aM lpEn kP yZ):=
 bk lpEn (aj (CtrsOK.nil) _) mixed (fun b hb S hS=>by cases hS) kP yZ J9 (fun |⟨k,xs,n,i,m,⟨⟩⟩,hi=>Tx k xs n i m hi)
theorem K4 (m:Match) (hx:m.Innings.length≤aJ) :(evPat (al [] Tryz.f274) (find [(Rb,RC)]) Tryz.f274 qM ax (m,())).sat fun z_=>z_ =(HU (m,())).2:=by
 refine cast (by kernel_rfl) (?_:let r1:Bool:=isL (kP ((↑m.5.length:Int),m.5,(↑m.5.length:Int),0,m,()));let r2:Int×Match×PUnit:=si (dflt (I.prod ((Ty.nm Nm.Match).prod Ty.unit))) (kP ((↑m.5.length:Int),m.5,(↑m.5.length:Int),0,m,()));((cZ fun x=>none)∧(↑m.5.length:Int) =(↑m.5.length:Int)∧(0:Int)≤0∧0≤(↑m.5.length:Int)∧m.5.length≤aJ)∧(r1=true→jm (dflt (Ty.bool.prod Ty.unit)) (kP ((↑m.5.length:Int),m.5,(↑m.5.length:Int),0,m,())) =(kZ m,()))∧(r1=false→(cond (r2.2.1.2 != 3) true (decide (r2.1>0)),()) =(kZ m,())))
 intro r1 r2
 clear_value (hr1:r1=_) (hr2:r2=_)
 have er:kP ((m.Innings.length:Int),m.Innings,(m.Innings.length:Int),0,m,())=QY m.Innings.length m (x8 m.Stage m.Innings.length m.Innings 0):=rfl
 rw [er] at hr1 hr2 ⊢
 refine ⟨⟨rfl,rfl,Int.le_refl _,by omega,hx⟩,fun h=>?_,fun h=>?_⟩
 ·cases hE:x8 m.Stage m.Innings.length m.Innings 0 with
  | true=>rw [hE] at hr1;rw [hr1] at h;cases h
  | false=>simp only [kZ,hE];rfl
 ·cases hE:x8 m.Stage m.Innings.length m.Innings 0 with
  | false=>rw [hE] at hr1;rw [hr1] at h;cases h
  | true=>
   rw [hE] at hr2
   have e2:r2 =((m.Innings.length:Int),m,()):=hr2
   rw [e2]
   simp only [kZ,hE]
   cases m.Stage != 3 <;> rfl
def uS:FuncId×Ctr:=(274,ae KE qM ax HU)
theorem Ej:CtrOK Tryz.prog KE 274 (ae KE qM ax HU):=by
 refine an (C:=al [] Tryz.f274) (aj (CtrsOK.nil) _) mixed (fn:=Tryz.f274) Tryz.func274 (by kernel_rfl) (by kernel_rfl) (by kernel_rfl) (by kernel_rfl) (by kernel_rfl) (by kernel_rfl) (Λ:=fun x=>find [(Rb,RC)]) ?_ ?_
 ·rintro ⟨m,⟨⟩⟩ hw hn
  exact LoopsOKp.at (by kernel_rfl) (.cons (by kernel_rfl) (Sq) .nil)
 ·rintro ⟨m,⟨⟩⟩ hw hn
  exact K4 m (rP (aU hw))
def eu (l:List Innings):Prop:=∀ z∈l,ai z
def dd (m:Match):Prop:=eu m.Innings
def okF (m:Match):List Innings→Int→Bool
 | [],_=>true
 | x::l,i=>if !aW m.Rules x||x.Side != cM m i then false else okF m l (i+1)
abbrev qVa:Pat:=⟨[(1,.c (.ptr 0 0)),(122,.h LG),(123,.h I),(124,.h I)],[(0,.dat (.nm .Match))],1⟩
abbrev xVa:List (Lf×Pat):= [(.ret,⟨[(2,.h .bool)],[],0⟩),(.ext 3,⟨[(1,.c (.ptr 0 0))],[(0,.dat (.nm .Match))],1⟩)]
abbrev TVa:Type:=List Innings×Int×Int×Match×Unit
def mO (x:TVa):Prop:=iD (0,0,x.1,x.2.1,x.2.2.1,())∧eu x.1
def uo (x:TVa):Nat:=(x.2.1 - x.2.2.1).toNat
def Jw (m:Match) (b:Bool):Sum (Bool×Unit) (Match×Unit):=if b then .inr (m,()) else .inl (false,())
def ki (x:TVa):Sum (Bool×Unit) (Match×Unit):=Jw x.2.2.2.1 (okF x.2.2.2.1 (x.1.drop x.2.2.1.toNat) x.2.2.1)
def gK (m:Match):Bool:=
 let n:Int:=m.Innings.length
 (decide (m.First<0) ||(decide (m.First>2)||decide (n>W (2*m.Rules.Innings))))
 ||(m.First==0&&(decide (n>0)||m.Stage != 1&&m.Stage != 5))
 ||(m.Stage==1&&m.First != 0)
 ||(m.Stage==2&&n==W (2*m.Rules.Innings))
 ||(m.Stage==4&&(!(m.Rules.Innings==2)||n != 2))
 ||(m.Follow&&(!(m.Rules.Innings==2)||decide (n<2)))
def sI (m:Match):Bool:=!inW m.Penalty.1 0 1000000||!inW m.Penalty.2.1 0 1000000
def aR (m:Match):Bool:=aq m.Rules==0&&(inW m.Stage 1 5&&(!sI m&&(!gK m&&(okF m m.Innings 0&&kZ m))))
def Cr:Den (tyP qM)→List Prop×Den (tyP ax):=fun x=>([dd x.1],(aR x.1,()))
theorem iC {α:Type} {xs:List α} {i:Nat} (h:i<xs.length) (d:α):xs.getD i d∈xs:=by
 rw [List.getD_eq_getElem?_getD,List.getElem?_eq_getElem h]
 exact List.getElem_mem h
noncomputable def lpVa:Lp:=(⟨0,al [ra,Bx] Tryz.f233,(fun _=>none),(az Tryz.f233 1),qVa,xVa⟩:Lp)
theorem TN (xs:List Innings) (n:Int) (i:Int) (m:Match) (hi:mO (xs,n,i,m,())) :(Go.Mir.stepG lpVa ki (fun y:Den (tyP lpVa.q)=>mO y∧uo y<uo (xs,n,i,m,())) (xs,n,i,m,())∧Go.Mir.stepE lpVa ki (xs,n,i,m,())=ki (xs,n,i,m,())):=by
 refine cast (by kernel_rfl) (?_:let r1:Bool:=!aW m.1 (xs.getD i.toNat (dflt (Ty.nm Nm.Innings)));let r2:Bool:=cond r1 true ((xs.getD i.toNat (dflt (Ty.nm Nm.Innings))).1 != cM m i);((decide (i<n)=true→(0≤i∧i <(↑xs.length:Int))∧(ai (xs.getD i.toNat (dflt (Ty.nm Nm.Innings)))∧(r1=true→True)∧(r1=false→True))∧(true=true→(r2=true→True)∧(r2=false→mO (xs,n,IntKind.i64.wrap (i+1),m,())∧uo (xs,n,IntKind.i64.wrap (i+1),m,())<uo (xs,n,i,m,()))))∧(decide (i<n)=false→True))∧(cond (decide (i<n)) (cond (true&&true) (cond r2 (Sum.inl (false,())) (ki (xs,n,IntKind.i64.wrap (i+1),m,()))) (cond true (cond r2 (Sum.inl (false,())) (ki (xs,n,IntKind.i64.wrap (i+1),m,()))) (cond r1 (Sum.inl (dflt (Ty.bool.prod Ty.unit))) (Sum.inl (dflt (Ty.bool.prod Ty.unit)))))) (Sum.inr (m,())))=ki (xs,n,i,m,()))
 intro r1 r2
 clear_value (hr1:r1=_) (hr2:r2=_)
 obtain ⟨⟨h1,h2,h3,h4⟩,hs⟩:=hi
 simp only at h1 h2 h3 h4 hs
 have h5 :(xs.length:Int)≤140737488355328:=by have:xs.length≤140737488355328:=h4;omega
 refine ⟨⟨fun h=>?_,fun _=>trivial⟩,?_⟩
 ·have h:i<n:=of_decide_eq_true h
  rw [bc (n:=i+1) (by omega) (by omega)]
  refine ⟨⟨h2,by omega⟩,⟨hs _ ?_,fun _=>trivial,fun _=>trivial⟩,fun _=>⟨fun _=>trivial,fun _=>⟨⟨⟨h1,by simp only;omega,by simp only;omega,h4⟩,hs⟩,by simp only [uo];omega⟩⟩⟩
  have hl:i.toNat<xs.length:=by omega
  exact iC hl _
 ·by_cases h:i<n
  ·have e:xs.drop i.toNat=xs.getD i.toNat (dflt (Ty.nm Nm.Innings))::xs.drop (i+1).toNat:=b8 h2 (by omega) _
   rw [decide_eq_true h,bc (n:=i+1) (by omega) (by omega)]
   generalize xs.getD i.toNat (dflt (Ty.nm Nm.Innings))=v at e hr1 hr2
   have e2:r2 =(!aW m.Rules v||v.Side != cM m i):=by
    rw [hr2,hr1]
    cases aW m.Rules v <;> rfl
   simp only [ki,e,okF]
   rw [←e2]
   cases r2 <;> rfl
  ·rw [decide_eq_false h,cond_false]
   simp only [ki]
   rw [bJ (l:=xs) (by omega)]
   rfl
noncomputable def RM:LoopSum:=aM lpVa ki mO
noncomputable def Rn:Nat:=rid (az Tryz.f233 1)
theorem SC:LoopOKp Tryz.prog 0 Tryz.f233.ntmps (az Tryz.f233 1) (aM lpVa ki mO):=
 bk lpVa (aj (.consU wW rfl (.consU Ek rfl .nil)) _) mixed (fun b hb S hS=>by cases hS) ki mO uo (fun |⟨xs,n,i,m,⟨⟩⟩,hi=>TN xs n i m hi)
theorem K9 (m:Match) (hm:dd m) (hx:m.Innings.length≤aJ) :(evPat (al [k85,uS] Tryz.f233) (find [(rid (az Tryz.f233 0),c7 3 (al [k85,uS] Tryz.f233) (fun _=>none) (az Tryz.f233 0)),(Rn,RM)]) Tryz.f233 qM ax (m,())).sat fun z_=>z_ =(Cr (m,())).2:=by
 refine cast (by kernel_rfl) (?_:let r1:Bool:=!m.1.3==2;let r2:Int:=IntKind.i64.wrap (2*m.1.3);let r3:Int:=IntKind.i64.wrap ((0:Int)+1);let r4:Bool:=cond (m.2==1) (m.3 != 0) false;let r5:Bool:=cond (decide (m.6.1<0)) true (decide (m.6.1>1000000));let r6:Bool:=cond (m.2==2) ((↑m.5.length:Int)==r2) false;let r7:Bool:=cond (decide (m.6.2.1<0)) true (decide (m.6.2.1>1000000));let r8:Bool:=cond (m.2==4) (cond r1 true ((↑m.5.length:Int) != 2)) false;let r9:Bool:=cond m.4 (cond r1 true (decide ((↑m.5.length:Int)<2))) false;let r10:Bool:=cond (aq m.1 != 0) true (cond (decide (m.2<1)) true (decide (m.2>5)));let r11:Bool:=cond (m.3==0) (cond (decide ((↑m.5.length:Int)>0)) true (cond (m.2 != 1) (m.2 != 5) false)) false;let r12:Bool:=cond (decide (m.3<0)) true (cond (decide (m.3>2)) true (decide ((↑m.5.length:Int)>r2)));let r13:Bool:=isL (ki (m.5,(↑m.5.length:Int),0,m,()));(r10=true→(false,()) =(aR m,()))∧(r10=false→True∧((0:Int)≤0∧0 <(↑(2:Nat):Int))∧(r5=true→(false,()) =(aR m,()))∧(r5=false→(0≤r3∧r3 <(↑(2:Nat):Int))∧(r7=true→(false,()) =(aR m,()))∧(r7=false→(r12=true→(false,()) =(aR m,()))∧(r12=false→(r11=true→(false,()) =(aR m,()))∧(r11=false→(r4=true→(false,()) =(aR m,()))∧(r4=false→(r6=true→(false,()) =(aR m,()))∧(r6=false→(r8=true→(false,()) =(aR m,()))∧(r8=false→(r9=true→(false,()) =(aR m,()))∧(r9=false→((cZ fun x=>none)∧iD (0,0,m.5,(↑m.5.length:Int),0,())∧eu m.5)∧(r13=true→jm (dflt (Ty.bool.prod Ty.unit)) (ki (m.5,(↑m.5.length:Int),0,m,())) =(aR m,()))∧(r13=false→(kZ (si (dflt ((Ty.nm Nm.Match).prod Ty.unit)) (ki (m.5,(↑m.5.length:Int),0,m,()))).1,()) =(aR m,()))))))))))))
 intro r1 r2 r3 r4 r5 r6 r7 r8 r9 r10 r11 r12 r13
 clear_value (hr1:r1=_) (hr2:r2=_) (hr3:r3=_) (hr4:r4=_) (hr5:r5=_) (hr6:r6=_) (hr7:r7=_) (hr8:r8=_) (hr9:r9=_) (hr10:r10=_) (hr11:r11=_) (hr12:r12=_) (hr13:r13=_)
 have er:ki (m.Innings,(m.Innings.length:Int),0,m,())=Jw m (okF m m.Innings 0):=rfl
 have n3:r3=1:=by rw [hr3];rfl
 have e10:r10=!(aq m.Rules==0&&inW m.Stage 1 5):=by
  have h1:decide (m.Stage<1)=!decide (m.Stage≥1):=by by_cases h:m.Stage≥1 <;> simp [h] <;> omega
  have h2:decide (m.Stage>5)=!decide (m.Stage≤5):=by by_cases h:m.Stage≤5 <;> simp [h] <;> omega
  rw [hr10,h1,h2]
  unfold inW
  cases hc:aq m.Rules==0 <;> cases decide (m.Stage≥1) <;> cases decide (m.Stage≤5) <;> simp [bne,hc]
 have hq :∀ k:Int,(bif decide (k<0) then true else decide (k>1000000))=!inW k 0 1000000:=fun k=>by
  have h1:decide (k<0)=!decide (k≥0):=by by_cases h:k≥0 <;> simp [h] <;> omega
  have h2:decide (k>1000000)=!decide (k≤1000000):=by by_cases h:k≤1000000 <;> simp [h] <;> omega
  rw [h1,h2]
  unfold inW
  cases decide (k≥0) <;> cases decide (k≤1000000) <;> rfl
 have ep:sI m =(r5||r7):=by rw [hr5,hr7,hq,hq];rfl
 have es:gK m =(((((r12||r11)||r4)||r6)||r8)||r9):=by
  rw [hr12,hr11,hr4,hr6,hr8,hr9,hr1,hr2]
  simp only [gK,Bool.cond_true_left,Bool.cond_false_right]
 have hv:aR m =(!r10&&(!sI m&&(!gK m&&(okF m m.Innings 0&&kZ m)))):=by rw [e10];unfold aR;simp only [Bool.not_not,Bool.and_assoc]
 rw [er] at hr13
 rw [er,hv,ep,es,n3]
 clear hr1 hr2 hr3 hr4 hr5 hr6 hr7 hr8 hr9 hr10 hr11 hr12 ep es hv e10 hq
 have hi:iD (0,0,m.Innings,(m.Innings.length:Int),0,()):=⟨rfl,Int.le_refl _,by simp only;omega,hx⟩
 have hm':eu m.Innings:=hm
 cases r10 with
 | true=>simp
 | false=>
 cases r5 with
 | true=>simp
 | false=>
 cases r7 with
 | true=>simp
 | false=>
 cases r12 with
 | true=>simp
 | false=>
 cases r11 with
 | true=>simp
 | false=>
 cases r4 with
 | true=>simp
 | false=>
 cases r6 with
 | true=>simp
 | false=>
 cases r8 with
 | true=>simp
 | false=>
 cases r9 with
 | true=>simp
 | false=>
 cases hF:okF m m.Innings 0 with
 | true=>rw [hF] at hr13;have e:r13=false:=hr13;simp [e,Jw,si,cZ,hi,hm']
 | false=>rw [hF] at hr13;have e:r13=true:=hr13;simp [e,Jw,jm,cZ,hi,hm'];rfl
def uT:FuncId×Ctr:=(233,ae KE qM ax Cr)
theorem El:CtrOK Tryz.prog KE 233 (ae KE qM ax Cr):=by
 refine an (C:=al [k85,uS] Tryz.f233) (aj (.consU wR rfl (.consU Ej rfl .nil)) _) mixed (fn:=Tryz.f233) Tryz.func233 (by kernel_rfl) (by kernel_rfl) (by kernel_rfl) (by kernel_rfl) (by kernel_rfl) (by kernel_rfl) (Λ:=fun x=>find [(rid (az Tryz.f233 0),c7 3 (al [k85,uS] Tryz.f233) (fun _=>none) (az Tryz.f233 0)),(Rn,RM)]) ?_ ?_
 ·rintro ⟨m,⟨⟩⟩ hw hn
  exact LoopsOKp.at (by kernel_rfl) (.cons (by kernel_rfl) (jG 3 (aj (.consU wR rfl (.consU Ej rfl .nil)) _) mixed (Λ:=fun _=>none) (b:=az Tryz.f233 0) rfl (fun _ _ _ h=>by cases h)) (.cons (by kernel_rfl) (SC) .nil))
 ·rintro ⟨m,⟨⟩⟩ hw hn
  exact K9 m (hn _ List.mem_cons_self) (rP (aU hw))
def okR (m:Match):List Innings→Int→Bool
 | [],_=>true
 | x::l,i=>if !aW m.Rules x ||(x.Side != gF m i ||(x.Ending==0) != wE m.Stage m.Innings.length i) then false else okR m l (i+1)
def S8:Den (tyP qM)→List Prop×Den (tyP ax):=fun x=>([dd x.1],(okR x.1 x.1.Innings 0,()))
abbrev qVr:Pat:=⟨[(1,.c (.ptr 0 0)),(7,.h LG),(8,.h I),(9,.h I)],[(0,.dat (.nm .Match))],1⟩
abbrev xVr:List (Lf×Pat):= [(.ret,⟨[(2,.h .bool)],[],0⟩),(.ext 0,⟨[],[],0⟩)]
def kU (x:TVa):Sum (Bool×Unit) Unit:=yu (okR x.2.2.2.1 (x.1.drop x.2.2.1.toNat) x.2.2.1)
noncomputable def lpVr:Lp:=(⟨0,al [lE,qb] Tryz.f239,(fun _=>none),(az Tryz.f239 0),qVr,xVr⟩:Lp)
theorem TP (xs:List Innings) (n:Int) (i:Int) (m:Match) (hi:mO (xs,n,i,m,())) :(Go.Mir.stepG lpVr kU (fun y:Den (tyP lpVr.q)=>mO y∧uo y<uo (xs,n,i,m,())) (xs,n,i,m,())∧Go.Mir.stepE lpVr kU (xs,n,i,m,())=kU (xs,n,i,m,())):=by
 refine cast (by kernel_rfl) (?_:let r1:Bool:=!aW m.1 (xs.getD i.toNat (dflt (Ty.nm Nm.Innings)));let r2:Bool:=(xs.getD i.toNat (dflt (Ty.nm Nm.Innings))).1 != gF m i;let r3:Bool:=cond r1 true (cond r2 true (!((xs.getD i.toNat (dflt (Ty.nm Nm.Innings))).23==0)==cond (m.2==3) (i==IntKind.i64.wrap ((↑m.5.length:Int) - 1)) false));((decide (i<n)=true→(0≤i∧i <(↑xs.length:Int))∧(ai (xs.getD i.toNat (dflt (Ty.nm Nm.Innings)))∧(r1=true→True)∧(r1=false→(r2=true→True)∧(r2=false→True)))∧(true=true→(r3=true→True)∧(r3=false→mO (xs,n,IntKind.i64.wrap (i+1),m,())∧uo (xs,n,IntKind.i64.wrap (i+1),m,())<uo (xs,n,i,m,()))))∧(decide (i<n)=false→True))∧(cond (decide (i<n)) (cond (true&&(true&&true)) (cond r3 (Sum.inl (false,())) (kU (xs,n,IntKind.i64.wrap (i+1),m,()))) (cond true (cond r3 (Sum.inl (false,())) (kU (xs,n,IntKind.i64.wrap (i+1),m,()))) (cond r1 (Sum.inl (dflt (Ty.bool.prod Ty.unit))) (cond r2 (Sum.inl (dflt (Ty.bool.prod Ty.unit))) (Sum.inl (dflt (Ty.bool.prod Ty.unit))))))) (Sum.inr ()))=kU (xs,n,i,m,()))
 intro r1 r2 r3
 clear_value (hr1:r1=_) (hr2:r2=_) (hr3:r3=_)
 obtain ⟨⟨h1,h2,h3,h4⟩,hs⟩:=hi
 simp only at h1 h2 h3 h4 hs
 have h5 :(xs.length:Int)≤140737488355328:=by have:xs.length≤140737488355328:=h4;omega
 refine ⟨⟨fun h=>?_,fun _=>trivial⟩,?_⟩
 ·have h:i<n:=of_decide_eq_true h
  rw [bc (n:=i+1) (by omega) (by omega)]
  refine ⟨⟨h2,by omega⟩,⟨hs _ ?_,fun _=>trivial,fun _=>⟨fun _=>trivial,fun _=>trivial⟩⟩,fun _=>⟨fun _=>trivial,fun _=>⟨⟨⟨h1,by simp only;omega,by simp only;omega,h4⟩,hs⟩,by simp only [uo];omega⟩⟩⟩
  have hl:i.toNat<xs.length:=by omega
  exact iC hl _
 ·by_cases h:i<n
  ·have e:xs.drop i.toNat=xs.getD i.toNat (dflt (Ty.nm Nm.Innings))::xs.drop (i+1).toNat:=b8 h2 (by omega) _
   rw [decide_eq_true h,bc (n:=i+1) (by omega) (by omega)]
   generalize xs.getD i.toNat (dflt (Ty.nm Nm.Innings))=v at e hr1 hr2 hr3
   have e3:r3 =(!aW m.Rules v ||(v.Side != gF m i ||(v.Ending==0) != wE m.Stage m.Innings.length i)):=by
    rw [hr3,hr2,hr1]
    unfold wE
    cases aW m.Rules v <;> cases v.Side != gF m i <;> cases m.Stage==3 <;> cases v.Ending==0 <;> cases i==IntKind.i64.wrap ((m.Innings.length:Int) - 1) <;> rfl
   simp only [kU,e,okR]
   rw [←e3]
   cases r3 <;> rfl
  ·rw [decide_eq_false h,cond_false]
   simp only [kU]
   rw [bJ (l:=xs) (by omega)]
   rfl
noncomputable def RN:LoopSum:=aM lpVr kU mO
noncomputable def Ro:Nat:=rid (az Tryz.f239 0)
theorem SD:LoopOKp Tryz.prog 0 Tryz.f239.ntmps (az Tryz.f239 0) (aM lpVr kU mO):=
 bk lpVr (aj (.consU qp rfl (.consU tQ rfl .nil)) _) mixed (fun b hb S hS=>by cases hS) kU mO uo (fun |⟨xs,n,i,m,⟨⟩⟩,hi=>TP xs n i m hi)
theorem uE (m:Match) (hm:dd m) (hx:m.Innings.length≤aJ) :(evPat (al [] Tryz.f239) (find [(Ro,RN)]) Tryz.f239 qM ax (m,())).sat fun z_=>z_ =(S8 (m,())).2:=by
 refine cast (by kernel_rfl) (?_:let r1:Bool:=isL (kU (m.5,(↑m.5.length:Int),0,m,()));((cZ fun x=>none)∧iD (0,0,m.5,(↑m.5.length:Int),0,())∧eu m.5)∧(r1=true→jm (dflt (Ty.bool.prod Ty.unit)) (kU (m.5,(↑m.5.length:Int),0,m,())) =(okR m m.5 0,()))∧(r1=false→(true,()) =(okR m m.5 0,())))
 intro r1
 clear_value (hr1:r1=_)
 have er:kU (m.Innings,(m.Innings.length:Int),0,m,())=yu (okR m m.Innings 0):=rfl
 rw [er] at hr1 ⊢
 refine ⟨⟨rfl,⟨rfl,Int.le_refl _,by simp only;omega,hx⟩,hm⟩,fun h=>?_,fun h=>?_⟩
 ·cases hE:okR m m.Innings 0 with
  | true=>rw [hE] at hr1;rw [hr1] at h;cases h
  | false=>rfl
 ·cases hE:okR m m.Innings 0 with
  | true=>rfl
  | false=>rw [hE] at hr1;rw [hr1] at h;cases h
def iq:FuncId×Ctr:=(239,ae KE qM ax S8)
theorem nE:CtrOK Tryz.prog KE 239 (ae KE qM ax S8):=by
 refine an (C:=al [] Tryz.f239) (aj (CtrsOK.nil) _) mixed (fn:=Tryz.f239) Tryz.func239 (by kernel_rfl) (by kernel_rfl) (by kernel_rfl) (by kernel_rfl) (by kernel_rfl) (by kernel_rfl) (Λ:=fun x=>find [(Ro,RN)]) ?_ ?_
 ·rintro ⟨m,⟨⟩⟩ hw hn
  exact LoopsOKp.at (by kernel_rfl) (.cons (by kernel_rfl) (SD) .nil)
 ·rintro ⟨m,⟨⟩⟩ hw hn
  exact uE m (hn _ List.mem_cons_self) (rP (aU hw))
def ny (m:Match):Int:=W (2*m.Rules.Innings)
def C9 (m:Match):Bool:=aq m.Rules != 0 ||(decide (m.Stage<1) ||(decide (m.Stage>5)||decide ((m.Innings.length:Int)>ny m)))
def Iy (m:Match):Bool:=decide (m.First<0) ||(decide (m.First>2) ||(m.First==0&&(decide ((m.Innings.length:Int)>0)||m.Stage != 1&&m.Stage != 5)||m.Stage==1&&m.First != 0))
def Iz (m:Match):Bool:=
 m.Stage==3&&(m.Innings.length:Int)==0 ||(m.Stage==2&&(m.Innings.length:Int)==ny m ||(m.Stage==4&&((m.Innings.length:Int) != 2||ny m != 4)||m.Follow&&(decide ((m.Innings.length:Int)<2)||ny m != 4)))
def cW (m:Match):Bool:=!C9 m&&(!sI m&&(!Iy m&&(!Iz m&&okR m m.Innings 0)))
def xF:Den (tyP qM)→List Prop×Den (tyP ax):=fun x=>([dd x.1],(cW x.1,()))
theorem FB (m:Match) (hm:dd m) :(evPat (al [k86,iq] Tryz.f192) (find [(rid (az Tryz.f192 0),c7 3 (al [k86,iq] Tryz.f192) (fun _=>none) (az Tryz.f192 0))]) Tryz.f192 qM ax (m,())).sat fun z_=>z_ =(xF (m,())).2:=by
 refine cast (by kernel_rfl) (?_:let r1:Int:=IntKind.i64.wrap (2*m.1.3);let r2:Int:=IntKind.i64.wrap ((0:Int)+1);let r3:Bool:=cond (m.2==1) (m.3 != 0) false;let r4:Bool:=r1 != 4;let r5:Bool:=cond (decide (m.6.1<0)) true (decide (m.6.1>1000000));let r6:Bool:=cond (decide (m.6.2.1<0)) true (decide (m.6.2.1>1000000));let r7:Bool:=cond m.4 (cond (decide ((↑m.5.length:Int)<2)) true r4) false;let r8:Bool:=cond (aq m.1 != 0) true (cond (decide (m.2<1)) true (cond (decide (m.2>5)) true (decide ((↑m.5.length:Int)>r1))));let r9:Bool:=cond (m.2==4) (cond ((↑m.5.length:Int) != 2) true (cond r4 true r7)) r7;let r10:Bool:=cond (decide (m.3<0)) true (cond (decide (m.3>2)) true (cond (m.3==0) (cond (decide ((↑m.5.length:Int)>0)) true (cond (m.2 != 1) (cond (m.2 != 5) true r3) r3)) r3));let r11:Bool:=cond (m.2==2) (cond ((↑m.5.length:Int)==r1) true r9) r9;let r12:Bool:=cond (m.2==3) (cond ((↑m.5.length:Int)==0) true r11) r11;(r8=true→(false,()) =(cW m,()))∧(r8=false→True∧((0:Int)≤0∧0 <(↑(2:Nat):Int))∧(r5=true→(false,()) =(cW m,()))∧(r5=false→(0≤r2∧r2 <(↑(2:Nat):Int))∧(r6=true→(false,()) =(cW m,()))∧(r6=false→(r10=true→(false,()) =(cW m,()))∧(r10=false→(r12=true→(false,()) =(cW m,()))∧(r12=false→dd m∧(okR m m.5 0,()) =(cW m,())))))))
 intro r1 r2 r3 r4 r5 r6 r7 r8 r9 r10 r11 r12
 clear_value (hr1:r1=_) (hr2:r2=_) (hr3:r3=_) (hr4:r4=_) (hr5:r5=_) (hr6:r6=_) (hr7:r7=_) (hr8:r8=_) (hr9:r9=_) (hr10:r10=_) (hr11:r11=_) (hr12:r12=_)
 have n2:r2=1:=by rw [hr2];rfl
 have hq :∀ k:Int,(bif decide (k<0) then true else decide (k>1000000))=!inW k 0 1000000:=fun k=>by
  have h1:decide (k<0)=!decide (k≥0):=by by_cases h:k≥0 <;> simp [h] <;> omega
  have h2:decide (k>1000000)=!decide (k≤1000000):=by by_cases h:k≤1000000 <;> simp [h] <;> omega
  rw [h1,h2]
  unfold inW
  cases decide (k≥0) <;> cases decide (k≤1000000) <;> rfl
 have ep:sI m =(r5||r6):=by rw [hr5,hr6,hq,hq];rfl
 have e8:C9 m=r8:=by
  rw [hr8,hr1];unfold C9 ny
  cases aq m.Rules != 0 <;> cases decide (m.Stage<1) <;> cases decide (m.Stage>5) <;> rfl
 have e10:Iy m=r10:=by
  rw [hr10,hr3];unfold Iy
  cases decide (m.First<0) <;> cases decide (m.First>2) <;> cases m.First==0 <;> cases decide ((m.Innings.length:Int)>0) <;> cases m.Stage != 1 <;> cases m.Stage != 5 <;> cases m.Stage==1 <;> rfl
 have e12:Iz m=r12:=by
  rw [hr12,hr11,hr9,hr7,hr4,hr1];unfold Iz ny W
  generalize IntKind.i64.wrap (2*m.Rules.Innings)=k
  cases m.Stage==3 <;> cases (m.Innings.length:Int)==0 <;> cases m.Stage==2 <;> cases (m.Innings.length:Int)==k <;> cases m.Stage==4 <;> cases (m.Innings.length:Int) != 2 <;> cases k != 4 <;> cases m.Follow <;> cases decide ((m.Innings.length:Int)<2) <;> rfl
 unfold cW
 rw [e8,ep,e10,e12,n2]
 clear hr1 hr2 hr3 hr4 hr5 hr6 hr7 hr8 hr9 hr10 hr11 hr12 ep e8 e10 e12 hq
 cases r8 with
 | true=>simp
 | false=>
 cases r5 with
 | true=>simp
 | false=>
 cases r6 with
 | true=>simp
 | false=>
 cases r10 with
 | true=>simp
 | false=>
 cases r12 with
 | true=>simp
 | false=>
 simp [hm]
def jE:FuncId×Ctr:=(192,ae KE qM ax xF)
theorem qt:CtrOK Tryz.prog KE 192 (ae KE qM ax xF):=by
 refine an (C:=al [k86,iq] Tryz.f192) (aj (.consU wS rfl (.consU nE rfl .nil)) _) mixed (fn:=Tryz.f192) Tryz.func192 (by kernel_rfl) (by kernel_rfl) (by kernel_rfl) (by kernel_rfl) (by kernel_rfl) (by kernel_rfl) (Λ:=fun x=>find [(rid (az Tryz.f192 0),c7 3 (al [k86,iq] Tryz.f192) (fun _=>none) (az Tryz.f192 0))]) ?_ ?_
 ·rintro ⟨m,⟨⟩⟩ hw hn
  exact LoopsOKp.at (by kernel_rfl) (.cons (by kernel_rfl) (jG 3 (aj (.consU wS rfl (.consU nE rfl .nil)) _) mixed (Λ:=fun _=>none) (b:=az Tryz.f192 0) rfl (fun _ _ _ h=>by cases h)) .nil)
 ·rintro ⟨m,⟨⟩⟩ hw hn
  exact FB m (hn _ List.mem_cons_self)
end
section
open Go Go.Mir
theorem EF (m:Match) {i:Int} (h0:0≤i) (h:i<4):cM m i=gF m i:=by
 have hs:vc m i=vd m i:=by
  unfold vc vd
  have:i=0∨i=1∨i=2∨i=3:=by omega
  rcases this with rfl|rfl|rfl|rfl <;> cases m.Follow <;> rfl
 unfold cM gF
 rw [hs]
theorem QX (m:Match) :∀ (l:List Innings) (i:Int),0≤i→i+l.length≤4→okR m l i =(okF m l i&&x8 m.Stage m.Innings.length l i)
 | [],_,_,_=>rfl
 | x::l,i,h0,h=>by
  simp only [List.length_cons] at h
  have ih:=QX m l (i+1) (by omega) (by omega)
  unfold okR okF x8
  rw [EF m h0 (by omega),ih]
  cases aW m.Rules x <;> cases x.Side != gF m i <;> cases (x.Ending==0) != wE m.Stage m.Innings.length i <;> simp
theorem JW {r:Rules} (h:aq r=0):1≤r.Innings∧r.Innings≤2:=by
 have hr:cC r=true:=by
  cases hr:cC r with
  | true=>rfl
  | false=>
   unfold aq at h
   cases hn:iH r.Name <;> simp [hn,hr] at h
 simp only [cC,ay,Bool.and_eq_true,decide_eq_true_eq] at hr
 omega
theorem s6 (m:Match):aR m=cW m:=by
 by_cases hc:aq m.Rules=0
 ·obtain ⟨i1,i2⟩:=JW hc
  have hw:W (2*m.Rules.Innings)=2*m.Rules.Innings:=bc (by omega) (by omega)
  have hb :(aq m.Rules==0)=true:=by simp [hc]
  have hb2 :(aq m.Rules != 0)=false:=by simp [hc]
  unfold aR cW C9 Iy Iz gK kZ ny inW
  rw [hw,hb,hb2]
  by_cases hn :(m.Innings.length:Int)>2*m.Rules.Innings
  ·simp [hn]
  ·rw [QX m m.Innings 0 (Int.le_refl _) (by omega)]
   have hm:m.Rules.Innings=1∨m.Rules.Innings=2:=by omega
   generalize okF m m.Innings 0=A
   generalize x8 m.Stage m.Innings.length m.Innings 0=B
   generalize sI m=C
   have hl :(0:Int)≤(m.Innings.length:Int):=by omega
   generalize (m.Innings.length:Int)=n at *
   cases A <;> cases B <;> cases C <;> simp
   grind
 ·have hb :(aq m.Rules==0)=false:=by simp [hc]
  have hb2 :(aq m.Rules != 0)=true:=by simp [hc]
  unfold aR cW C9
  rw [hb,hb2]
  rfl
end
section
open Go Go.Mir
attribute [local irreducible] Go.Mir.DT.sat Go.Mir.evPat Go.Mir.RT.sat Go.Mir.evFn
abbrev qRu:Pat:=bX [.nm .Rules]
def cR (r:Rules):Int:=if r.Overs==0 then 5 else 6
def Ig:Den (tyP qRu)→List Prop×Den (tyP qH):=fun x=>([],(cR x.1,()))
theorem xz (r:Rules) :(evPat (al [] Tryz.f309) (fun _=>none) Tryz.f309 qRu qH (r,())).sat fun z_=>z_ =(Ig (r,())).2:=by
 refine cast (by kernel_rfl) (?_ :((r.4==0)=true→(5,()) =(cR r,()))∧((r.4==0)=false→(6,()) =(cR r,())))
 grind [cR]
def jq:FuncId×Ctr:=(309,ae KE qRu qH Ig)
theorem pK:CtrOK Tryz.prog KE 309 (ae KE qRu qH Ig):=by
 refine an (C:=al [] Tryz.f309) (aj (CtrsOK.nil) _) mixed (fn:=Tryz.f309) Tryz.func309 (by kernel_rfl) (by kernel_rfl) (by kernel_rfl) (by kernel_rfl) (by kernel_rfl) (by kernel_rfl) (Λ:=fun _ _=>none) ?_ ?_
 ·exact fun _ _ _ _ _ _ _ _ h=>by cases h
 ·rintro ⟨r,⟨⟩⟩ hw hn
  exact xz r
end
end Go.Proofs.YtffdpnmioidloaaGreatDoor
