/- Texts of the mirror and contracts, put together. -/
import Derived.Test.YtffdpnmioidloaaGreatDoorPW3
namespace Go.Proofs.YtffdpnmioidloaaGreatDoor
section
open Go Go.Mir
attribute [local irreducible] Go.Mir.DT.sat Go.Mir.evPat
abbrev I:Ty:= .int .i64
abbrev U8:Ty:= .int .u8
abbrev qD:Pat:=bX [.nm .Delivery]
abbrev bb:Pat:=bX [I]
abbrev ax:Pat:=bX [.bool]
def FP (d:Delivery):Bool:=
 if d.Typ==2 then d.Source==0&&d.Boundary != 6 else if d.Source==0 then d.Runs==0&&d.Boundary==0 else if d.Source==1 then d.Boundary != 6||d.Runs==0 else d.Boundary != 6&&(decide (d.Runs>0)||d.Boundary != 0)
def xX (d:Delivery):Bool:=
 if d.Typ==2 then d.Source==0&&d.Boundary != 6 else if d.Source==0 then d.Runs==0&&d.Boundary==0 else if d.Boundary==0 then decide (d.Runs>0) else if d.Boundary==6 then d.Source==1&&d.Runs==0 else true
def inW (n lo hi:Int):Bool:=decide (n≥lo)&&decide (n≤hi)
def bP (d:Delivery):Int:=
 if decide (d.Typ<1) ||(decide (d.Typ>3) ||(decide (d.Source>3) ||(decide (d.How>10)||!inW d.Sector 0 8))) then 11
 else if !inW d.Runs 0 7 ||(!inW d.Short 0 d.Runs ||(d.Boundary != 0&&(d.Boundary != 4&&d.Boundary != 6))) then 12
 else if !xX d then 11
 else if d.Sector != 0&&(d.Source != 1&&d.How != 2) then 11
 else if d.Boundary != 0&&d.How != 0 then 11
 else if d.Crossed&&(d.How != 6&&d.How != 8) then 11 else 0
def jJ (h:Int):Bool:=decide (h≥1)&&decide (h≤5)
def fb (d:Delivery):Bool:=(d.Runs.tmod 2 != 0) != d.Crossed
def Oi:Den (tyP qD)→List Prop×Den (tyP ax):=fun x=>([],(FP x.1,()))
def Oj:Den (tyP qD)→List Prop×Den (tyP ax):=fun x=>([],(xX x.1,()))
abbrev q3:Pat:=bX [I,I,I]
def sIn:Den (tyP q3)→List Prop×Den (tyP ax):=fun x=>([],(inW x.1 x.2.1 x.2.2.1,()))
def sR:Den (tyP qD)→List Prop×Den (tyP bb):=fun x=>([],(bP x.1,()))
abbrev qH:Pat:=bX [U8]
def AB:Den (tyP qH)→List Prop×Den (tyP ax):=fun x=>([],(jJ x.1,()))
def Ib:Den (tyP qD)→List Prop×Den (tyP ax):=fun x=>([],(fb x.1,()))
abbrev W (n:Int):Int:=IntKind.i64.wrap n
def AA (d:Delivery):Int:=W (W (d.Runs - d.Short)+d.Boundary)
def uI (d:Delivery):Int:=if d.Typ != 2&&d.Source==1 then AA d else 0
def C1 (r:Rules) (d:Delivery):Int:=if d.Typ==2 then W (r.Wide+AA d) else 0
def noW (r:Rules) (d:Delivery):Int:=if d.Typ==3 then r.NoBall else 0
def LL (d:Delivery):Int:=if d.Typ != 2&&d.Source==2 then AA d else 0
def wI (d:Delivery):Int:=if d.Typ != 2&&d.Source==3 then AA d else 0
def ao (r:Rules) (d:Delivery):Credit:=
 if bP d==0 then ⟨uI d,C1 r d,noW r d,LL d,wI d,W (W (uI d+C1 r d)+noW r d),d.Typ==1,d.Typ != 2,jJ d.How,fb d⟩ else Credit.zero
abbrev qRD:Pat:=bX [.nm .Rules,.nm .Delivery]
abbrev qC:Pat:=bX [.nm .Credit]
def pg:Den (tyP qRD)→List Prop×Den (tyP qC):=fun x=>([],(ao x.1 x.2.1,()))
def mH (c:Credit):Int:=W (W (W (W (c.Batter+c.Wides)+c.NoBalls)+c.Byes)+c.LegByes)
def sX:Den (tyP qC)→List Prop×Den (tyP bb):=fun x=>([],(mH x.1,()))
theorem Ql (d:Delivery) :(evPat (al [] Tryz.f162) (fun _=>none) Tryz.f162 qD ax (d,())).sat fun z_=>z_ =(Oi (d,())).2:=by
 refine cast (by kernel_rfl) (?_ :((d.1==2)=true→(cond (d.2==0) (d.5 != 6) false,()) =(FP d,()))∧((d.1==2)=false→((d.2==0)=true→(cond (d.3==0) (d.5==0) false,()) =(FP d,()))∧((d.2==0)=false→((d.2==1)=true→(cond (d.5 != 6) true (d.3==0),()) =(FP d,()))∧((d.2==1)=false→(cond (d.5 != 6) (cond (decide (d.3>0)) true (d.5 != 0)) false,()) =(FP d,())))))
 grind [FP]
def QN:FuncId×Ctr:=(162,ae KE qD ax Oi)
theorem SQ:CtrOK Tryz.prog KE 162 (ae KE qD ax Oi):=by
 refine an (C:=al [] Tryz.f162) (aj (CtrsOK.nil) _) mixed (fn:=Tryz.f162) Tryz.func162 (by kernel_rfl) (by kernel_rfl) (by kernel_rfl) (by kernel_rfl) (by kernel_rfl) (by kernel_rfl) (Λ:=fun _ _=>none) ?_ ?_
 ·exact fun _ _ _ _ _ _ _ _ h=>by cases h
 ·rintro ⟨d,⟨⟩⟩ hw hn
  exact Ql d
theorem Qs (d:Delivery) :(evPat (al [] Tryz.f249) (fun _=>none) Tryz.f249 qD ax (d,())).sat fun z_=>z_ =(Oj (d,())).2:=by
 refine cast (by kernel_rfl) (?_ :((d.1==2)=true→(cond (d.2==0) (d.5 != 6) false,()) =(xX d,()))∧((d.1==2)=false→((d.2==0)=true→(cond (d.3==0) (d.5==0) false,()) =(xX d,()))∧((d.2==0)=false→((d.5==0)=true→(decide (d.3>0),()) =(xX d,()))∧((d.5==0)=false→((d.5==6)=true→(cond (d.2==1) (d.3==0) false,()) =(xX d,()))∧((d.5==6)=false→(true,()) =(xX d,()))))))
 grind [xX]
def QU:FuncId×Ctr:=(249,ae KE qD ax Oj)
theorem SX:CtrOK Tryz.prog KE 249 (ae KE qD ax Oj):=by
 refine an (C:=al [] Tryz.f249) (aj (CtrsOK.nil) _) mixed (fn:=Tryz.f249) Tryz.func249 (by kernel_rfl) (by kernel_rfl) (by kernel_rfl) (by kernel_rfl) (by kernel_rfl) (by kernel_rfl) (Λ:=fun _ _=>none) ?_ ?_
 ·exact fun _ _ _ _ _ _ _ _ h=>by cases h
 ·rintro ⟨d,⟨⟩⟩ hw hn
  exact Qs d
theorem S2 (n:Int) (lo:Int) (hi:Int) :(evPat (al [] Tryz.f248) (fun _=>none) Tryz.f248 q3 ax (n,lo,hi,())).sat fun z_=>z_ =(sIn (n,lo,hi,())).2:=by
 refine cast (by kernel_rfl) (?_ :(cond (decide (n≥lo)) (decide (n≤hi)) false,()) =(inW n lo hi,()))
 grind [inW]
def Uo:FuncId×Ctr:=(248,ae KE q3 ax sIn)
theorem UD:CtrOK Tryz.prog KE 248 (ae KE q3 ax sIn):=by
 refine an (C:=al [] Tryz.f248) (aj (CtrsOK.nil) _) mixed (fn:=Tryz.f248) Tryz.func248 (by kernel_rfl) (by kernel_rfl) (by kernel_rfl) (by kernel_rfl) (by kernel_rfl) (by kernel_rfl) (Λ:=fun _ _=>none) ?_ ?_
 ·exact fun _ _ _ _ _ _ _ _ h=>by cases h
 ·rintro ⟨n,lo,hi,⟨⟩⟩ hw hn
  exact S2 n lo hi
theorem NI (h:Int) :(evPat (al [] Tryz.f163) (fun _=>none) Tryz.f163 qH ax (h,())).sat fun z_=>z_ =(AB (h,())).2:=by
 refine cast (by kernel_rfl) (?_ :(cond (decide (h≥1)) (decide (h≤5)) false,()) =(jJ h,()))
 grind [jJ]
def Mk:FuncId×Ctr:=(163,ae KE qH ax AB)
theorem Pu:CtrOK Tryz.prog KE 163 (ae KE qH ax AB):=by
 refine an (C:=al [] Tryz.f163) (aj (CtrsOK.nil) _) mixed (fn:=Tryz.f163) Tryz.func163 (by kernel_rfl) (by kernel_rfl) (by kernel_rfl) (by kernel_rfl) (by kernel_rfl) (by kernel_rfl) (Λ:=fun _ _=>none) ?_ ?_
 ·exact fun _ _ _ _ _ _ _ _ h=>by cases h
 ·rintro ⟨h,⟨⟩⟩ hw hn
  exact NI h
theorem NZ (h:Int) :(evPat (al [] Tryz.f198) (fun _=>none) Tryz.f198 qH ax (h,())).sat fun z_=>z_ =(AB (h,())).2:=by
 refine cast (by kernel_rfl) (?_:let r1:Bool:=cond (h==1) (h==1) (cond (h==2) (h==2) (cond (h==3) (h==3) (cond (h==4) (h==4) (h==5))));(r1=true→(true,()) =(jJ h,()))∧(r1=false→(false,()) =(jJ h,())))
 intro r1
 clear_value (hr1:r1=_)
 grind [jJ]
def MA:FuncId×Ctr:=(198,ae KE qH ax AB)
theorem PI:CtrOK Tryz.prog KE 198 (ae KE qH ax AB):=by
 refine an (C:=al [] Tryz.f198) (aj (CtrsOK.nil) _) mixed (fn:=Tryz.f198) Tryz.func198 (by kernel_rfl) (by kernel_rfl) (by kernel_rfl) (by kernel_rfl) (by kernel_rfl) (by kernel_rfl) (Λ:=fun _ _=>none) ?_ ?_
 ·exact fun _ _ _ _ _ _ _ _ h=>by cases h
 ·rintro ⟨h,⟨⟩⟩ hw hn
  exact NZ h
theorem Lo (d:Delivery) :(evPat (al [] Tryz.f199) (fun _=>none) Tryz.f199 qD ax (d,())).sat fun z_=>z_ =(Ib (d,())).2:=by
 refine cast (by kernel_rfl) (?_ :(2:Int)≠0∧(!(d.3.tmod (2:Int) != 0)==d.6,()) =(fb d,()))
 grind [fb]
def Jc:FuncId×Ctr:=(199,ae KE qD ax Ib)
theorem Na:CtrOK Tryz.prog KE 199 (ae KE qD ax Ib):=by
 refine an (C:=al [] Tryz.f199) (aj (CtrsOK.nil) _) mixed (fn:=Tryz.f199) Tryz.func199 (by kernel_rfl) (by kernel_rfl) (by kernel_rfl) (by kernel_rfl) (by kernel_rfl) (by kernel_rfl) (Λ:=fun _ _=>none) ?_ ?_
 ·exact fun _ _ _ _ _ _ _ _ h=>by cases h
 ·rintro ⟨d,⟨⟩⟩ hw hn
  exact Lo d
theorem KQ (d:Delivery) :(evPat (al [QN] Tryz.f93) (fun _=>none) Tryz.f93 qD bb (d,())).sat fun z_=>z_ =(sR (d,())).2:=by
 refine cast (by kernel_rfl) (?_:let r1:Bool:=cond (d.5 != 0) (d.7 != 0) false;let r2:Bool:=cond d.6 (cond (d.7 != 6) (d.7 != 8) false) false;let r3:Bool:=cond (d.12 != 0) (cond (d.2 != 1) (d.7 != 2) false) false;let r4:Bool:=cond (!FP d) true (cond (d.1 != 2) (cond (d.2==1) (cond (d.3==0) (d.5==0) false) false) false);let r5:Bool:=cond (decide (d.3<0)) true (cond (decide (d.3>7)) true (cond (decide (d.4<0)) true (cond (decide (d.4>d.3)) true (cond (d.5 != 0) (cond (d.5 != 4) (d.5 != 6) false) false))));let r6:Bool:=cond (decide (d.1<1)) true (cond (decide (d.1>3)) true (cond (decide (d.2>3)) true (cond (decide (d.7>10)) true (cond (decide (d.12<0)) true (decide (d.12>8))))));(r6=true→(11,()) =(bP d,()))∧(r6=false→(r5=true→(12,()) =(bP d,()))∧(r5=false→(r4=true→(11,()) =(bP d,()))∧(r4=false→(r3=true→(11,()) =(bP d,()))∧(r3=false→(r1=true→(11,()) =(bP d,()))∧(r1=false→(r2=true→(11,()) =(bP d,()))∧(r2=false→(0,()) =(bP d,()))))))))
 intro r1 r2 r3 r4 r5 r6
 clear_value (hr1:r1=_) (hr2:r2=_) (hr3:r3=_) (hr4:r4=_) (hr5:r5=_) (hr6:r6=_)
 repeat' (first|refine And.intro ?_ ?_|intro h)
 all_goals grind (splits:=40) [bP,FP,xX,inW]
def jo:FuncId×Ctr:=(93,ae KE qD bb sR)
theorem nB:CtrOK Tryz.prog KE 93 (ae KE qD bb sR):=by
 refine an (C:=al [QN] Tryz.f93) (aj (.consU SQ rfl .nil) _) mixed (fn:=Tryz.f93) Tryz.func93 (by kernel_rfl) (by kernel_rfl) (by kernel_rfl) (by kernel_rfl) (by kernel_rfl) (by kernel_rfl) (Λ:=fun _ _=>none) ?_ ?_
 ·exact fun _ _ _ _ _ _ _ _ h=>by cases h
 ·rintro ⟨d,⟨⟩⟩ hw hn
  exact KQ d
theorem Ln (d:Delivery) :(evPat (al [QU,Uo] Tryz.f197) (fun _=>none) Tryz.f197 qD bb (d,())).sat fun z_=>z_ =(sR (d,())).2:=by
 refine cast (by kernel_rfl) (?_:let r1:Bool:=cond (d.5 != 0) (d.7 != 0) false;let r2:Bool:=cond d.6 (cond (d.7 != 6) (d.7 != 8) false) false;let r3:Bool:=cond (d.12 != 0) (cond (d.2 != 1) (d.7 != 2) false) false;let r4:Bool:=cond (!inW d.3 0 7) true (cond (!inW d.4 0 d.3) true (cond (d.5 != 0) (cond (d.5 != 4) (d.5 != 6) false) false));let r5:Bool:=cond (decide (d.1<1)) true (cond (decide (d.1>3)) true (cond (decide (d.2>3)) true (cond (decide (d.7>10)) true (!inW d.12 0 8))));(r5=true→(11,()) =(bP d,()))∧(r5=false→(r4=true→(12,()) =(bP d,()))∧(r4=false→((!xX d)=true→(11,()) =(bP d,()))∧((!xX d)=false→(r3=true→(11,()) =(bP d,()))∧(r3=false→(r1=true→(11,()) =(bP d,()))∧(r1=false→(r2=true→(11,()) =(bP d,()))∧(r2=false→(0,()) =(bP d,()))))))))
 intro r1 r2 r3 r4 r5
 clear_value (hr1:r1=_) (hr2:r2=_) (hr3:r3=_) (hr4:r4=_) (hr5:r5=_)
 repeat' (first|refine And.intro ?_ ?_|intro h)
 all_goals grind (splits:=40) [bP]
def uX:FuncId×Ctr:=(197,ae KE qD bb sR)
theorem Ez:CtrOK Tryz.prog KE 197 (ae KE qD bb sR):=by
 refine an (C:=al [QU,Uo] Tryz.f197) (aj (.consU SX rfl (.consU UD rfl .nil)) _) mixed (fn:=Tryz.f197) Tryz.func197 (by kernel_rfl) (by kernel_rfl) (by kernel_rfl) (by kernel_rfl) (by kernel_rfl) (by kernel_rfl) (Λ:=fun _ _=>none) ?_ ?_
 ·exact fun _ _ _ _ _ _ _ _ h=>by cases h
 ·rintro ⟨d,⟨⟩⟩ hw hn
  exact Ln d
theorem OB {d:Delivery} (h:bP d=0) :((bif d.Crossed then W (d.Runs+1) else d.Runs).tmod 2==1)=fb d:=by
 have hr:0≤d.Runs∧d.Runs≤7:=by grind [bP,inW]
 have hw:W (d.Runs+1)=d.Runs+1:=de (by omega) (by omega)
 unfold fb
 rw [hw,Int.tmod_eq_emod_of_nonneg hr.1]
 cases d.Crossed
 ·rw [cond_false,Int.tmod_eq_emod_of_nonneg hr.1]
  grind
 ·rw [cond_true,Int.tmod_eq_emod_of_nonneg (by omega)]
  grind
theorem Hj (r:Rules) (d:Delivery) :(evPat (al [jo,Mk] Tryz.f95) (fun _=>none) Tryz.f95 qRD qC (r,d,())).sat fun z_=>z_ =(pg (r,d,())).2:=by
 refine cast (by kernel_rfl) (?_:let r1:Int:=IntKind.i64.wrap (IntKind.i64.wrap (d.3 - d.4)+d.5);let r2:Int:=cond (d.1==3) 0 0;let r3:Bool:=cond (d.1==2) (jJ d.7) (cond (d.1==3) (jJ d.7) (jJ d.7));let r4:Bool:=(cond d.6 (IntKind.i64.wrap (d.3+1)) d.3).tmod (2:Int)==1;let r5:Int:=cond (d.1==2) 0 (cond (d.1==3) r.8 0);let r6:Int:=cond (d.1==2) 0 r2;let r7:Bool:=cond (d.1==2) (d.1==1) (cond (d.1==3) (d.1==1) (d.1==1));let r8:Bool:=cond (d.1==2) (d.1 != 2) (cond (d.1==3) (d.1 != 2) (d.1 != 2));let r9:Int:=cond (d.1==2) (IntKind.i64.wrap (r.7+r1)) r2;let r10:Int:=cond (d.2==3) r6 r6;let r11:Bool:=cond (d.1==2) r4 (cond (d.1==3) r4 r4);let r12:Int:=cond (d.1 != 2) (cond (d.2==1) r1 (cond (d.2==2) r6 r10)) r6;let r13:Int:=cond (d.1 != 2) (cond (d.2==1) r5 (cond (d.2==2) r5 (cond (d.2==3) r5 r5))) r5;let r14:Int:=cond (d.1 != 2) (cond (d.2==1) r9 (cond (d.2==2) r9 (cond (d.2==3) r9 r9))) r9;((bP d != 0)=true→(Credit.mk 0 0 0 0 0 0 false false false false,()) =(ao r d,()))∧((bP d != 0)=false→(2:Int)≠0∧(Credit.mk r12 r14 r13 (cond (d.1 != 2) (cond (d.2==1) r6 (cond (d.2==2) r1 r10)) r6) (cond (d.1 != 2) (cond (d.2==1) r6 (cond (d.2==2) r6 (cond (d.2==3) r1 r6))) r6) (IntKind.i64.wrap (IntKind.i64.wrap (r12+r14)+r13)) (cond (d.1 != 2) (cond (d.2==1) r7 (cond (d.2==2) r7 (cond (d.2==3) r7 r7))) r7) (cond (d.1 != 2) (cond (d.2==1) r8 (cond (d.2==2) r8 (cond (d.2==3) r8 r8))) r8) (cond (d.1 != 2) (cond (d.2==1) r3 (cond (d.2==2) r3 (cond (d.2==3) r3 r3))) r3) (cond (d.1 != 2) (cond (d.2==1) r11 (cond (d.2==2) r11 (cond (d.2==3) r11 r11))) r11),()) =(ao r d,())))
 intro r1 r2 r3 r4 r5 r6 r7 r8 r9 r10 r11 r12 r13 r14
 clear_value (hr1:r1=_) (hr2:r2=_) (hr3:r3=_) (hr4:r4=_) (hr5:r5=_) (hr6:r6=_) (hr7:r7=_) (hr8:r8=_) (hr9:r9=_) (hr10:r10=_) (hr11:r11=_) (hr12:r12=_) (hr13:r13=_) (hr14:r14=_)
 refine ⟨fun h=>?_,fun h=>⟨by decide,?_⟩⟩
 ·grind [ao,Credit.zero]
 ·have h:bP d=0:=by simpa using h
  have e:=OB h
  simp only [W] at e
  simp only [ao,h,uI,C1,noW,LL,wI,AA,W,←e]
  grind
def jS:FuncId×Ctr:=(95,ae KE qRD qC pg)
theorem o0:CtrOK Tryz.prog KE 95 (ae KE qRD qC pg):=by
 refine an (C:=al [jo,Mk] Tryz.f95) (aj (.consU nB rfl (.consU Pu rfl .nil)) _) mixed (fn:=Tryz.f95) Tryz.func95 (by kernel_rfl) (by kernel_rfl) (by kernel_rfl) (by kernel_rfl) (by kernel_rfl) (by kernel_rfl) (Λ:=fun _ _=>none) ?_ ?_
 ·exact fun _ _ _ _ _ _ _ _ h=>by cases h
 ·rintro ⟨r,d,⟨⟩⟩ hw hn
  exact Hj r d
theorem HN (r:Rules) (d:Delivery) :(evPat (al [uX,MA,Jc] Tryz.f146) (fun _=>none) Tryz.f146 qRD qC (r,d,())).sat fun z_=>z_ =(pg (r,d,())).2:=by
 refine cast (by kernel_rfl) (?_:let r1:Int:=IntKind.i64.wrap (IntKind.i64.wrap (d.3 - d.4)+d.5);let r2:Int:=cond (d.2==3) 0 0;let r3:Int:=cond (d.2==2) 0 r2;let r4:Int:=cond (d.2==1) 0 r3;let r5:Bool:=cond (d.1==2) (fb d) (cond (d.2==1) (fb d) (cond (d.2==2) (fb d) (cond (d.2==3) (fb d) (fb d))));let r6:Bool:=cond (d.1==2) (jJ d.7) (cond (d.2==1) (jJ d.7) (cond (d.2==2) (jJ d.7) (cond (d.2==3) (jJ d.7) (jJ d.7))));let r7:Int:=cond (d.1==3) r.8 (cond (d.1==2) 0 r4);let r8:Int:=cond (d.1==2) 0 (cond (d.2==1) r1 r3);let r9:Int:=cond (d.1==2) 0 (cond (d.2==1) 0 (cond (d.2==2) r1 r2));let r10:Int:=cond (d.1==2) 0 (cond (d.2==1) 0 (cond (d.2==2) 0 (cond (d.2==3) r1 0)));let r11:Int:=cond (d.1==2) (IntKind.i64.wrap (r.7+r1)) r4;let r12:Bool:=cond (d.1==2) (d.1==1) (cond (d.2==1) (d.1==1) (cond (d.2==2) (d.1==1) (cond (d.2==3) (d.1==1) (d.1==1))));let r13:Bool:=cond (d.1==2) (d.1 != 2) (cond (d.2==1) (d.1 != 2) (cond (d.2==2) (d.1 != 2) (cond (d.2==3) (d.1 != 2) (d.1 != 2))));let r14:Int:=cond (d.1==3) r8 r8;let r15:Int:=cond (d.1==3) r11 r11;((bP d != 0)=true→(Credit.mk 0 0 0 0 0 0 false false false false,()) =(ao r d,()))∧((bP d != 0)=false→(Credit.mk r14 r15 r7 (cond (d.1==3) r9 r9) (cond (d.1==3) r10 r10) (IntKind.i64.wrap (IntKind.i64.wrap (r14+r15)+r7)) (cond (d.1==3) r12 r12) (cond (d.1==3) r13 r13) (cond (d.1==3) r6 r6) (cond (d.1==3) r5 r5),()) =(ao r d,())))
 intro r1 r2 r3 r4 r5 r6 r7 r8 r9 r10 r11 r12 r13 r14 r15
 clear_value (hr1:r1=_) (hr2:r2=_) (hr3:r3=_) (hr4:r4=_) (hr5:r5=_) (hr6:r6=_) (hr7:r7=_) (hr8:r8=_) (hr9:r9=_) (hr10:r10=_) (hr11:r11=_) (hr12:r12=_) (hr13:r13=_) (hr14:r14=_) (hr15:r15=_)
 grind [ao,uI,C1,noW,LL,wI,AA,Credit.zero]
def nu:FuncId×Ctr:=(146,ae KE qRD qC pg)
theorem sH:CtrOK Tryz.prog KE 146 (ae KE qRD qC pg):=by
 refine an (C:=al [uX,MA,Jc] Tryz.f146) (aj (.consU Ez rfl (.consU PI rfl (.consU Na rfl .nil))) _) mixed (fn:=Tryz.f146) Tryz.func146 (by kernel_rfl) (by kernel_rfl) (by kernel_rfl) (by kernel_rfl) (by kernel_rfl) (by kernel_rfl) (Λ:=fun _ _=>none) ?_ ?_
 ·exact fun _ _ _ _ _ _ _ _ h=>by cases h
 ·rintro ⟨r,d,⟨⟩⟩ hw hn
  exact HN r d
theorem KR (c:Credit) :(evPat (al [] Tryz.f96) (fun _=>none) Tryz.f96 qC bb (c,())).sat fun z_=>z_ =(sX (c,())).2:=by
 refine cast (by kernel_rfl) (?_ :(IntKind.i64.wrap (IntKind.i64.wrap (IntKind.i64.wrap (IntKind.i64.wrap (c.1+c.2)+c.3)+c.4)+c.5),()) =(mH c,()))
 rfl
def q9:FuncId×Ctr:=(96,ae KE qC bb sX)
theorem wV:CtrOK Tryz.prog KE 96 (ae KE qC bb sX):=by
 refine an (C:=al [] Tryz.f96) (aj (CtrsOK.nil) _) mixed (fn:=Tryz.f96) Tryz.func96 (by kernel_rfl) (by kernel_rfl) (by kernel_rfl) (by kernel_rfl) (by kernel_rfl) (by kernel_rfl) (Λ:=fun _ _=>none) ?_ ?_
 ·exact fun _ _ _ _ _ _ _ _ h=>by cases h
 ·rintro ⟨c,⟨⟩⟩ hw hn
  exact KR c
theorem Lq (c:Credit) :(evPat (al [] Tryz.f140) (fun _=>none) Tryz.f140 qC bb (c,())).sat fun z_=>z_ =(sX (c,())).2:=by
 refine cast (by kernel_rfl) (?_ :(IntKind.i64.wrap (IntKind.i64.wrap (IntKind.i64.wrap (IntKind.i64.wrap (c.1+c.2)+c.3)+c.4)+c.5),()) =(mH c,()))
 rfl
def Jd:FuncId×Ctr:=(140,ae KE qC bb sX)
theorem Nb:CtrOK Tryz.prog KE 140 (ae KE qC bb sX):=by
 refine an (C:=al [] Tryz.f140) (aj (CtrsOK.nil) _) mixed (fn:=Tryz.f140) Tryz.func140 (by kernel_rfl) (by kernel_rfl) (by kernel_rfl) (by kernel_rfl) (by kernel_rfl) (by kernel_rfl) (Λ:=fun _ _=>none) ?_ ?_
 ·exact fun _ _ _ _ _ _ _ _ h=>by cases h
 ·rintro ⟨c,⟨⟩⟩ hw hn
  exact Lq c
def da (p:Int→Bool):List Int→Int→Option Int
 | [],_=>none
 | x::r,i=>if p x then some i else da p r (i+1)
def cQ (s:Int):Bool:=s != 0
def Ma:Option Int→Sum (Int×Unit) Unit
 | some k=> .inl (k,())
 | none=> .inr ()
def rD (o:Option Int):Int:=o.getD (-1)
def dT (l:List Int):Bool:=l.any cQ
abbrev U8s:Ty:= .slice U8
abbrev qU1:Pat:=bX [U8]
def sZ:Den (tyP qU1)→List Prop×Den (tyP ax):=fun x=>([],(cQ x.1,()))
abbrev qLI (f:Nat):Pat:=⟨[(0,.h U8s),(1,.c (.fn f [])),(7,.h I),(8,.h I)],[],0⟩
abbrev xLI:List (Lf×Pat):= [(.ret,⟨[(4,.h I)],[],0⟩),(.ext 0,⟨[],[],0⟩)]
def cH (x:List Int×Int×Int×Unit):Prop:=x.2.1=x.1.length∧0≤x.2.2.1∧x.2.2.1≤x.2.1∧x.1.length≤aJ
def mX (x:List Int×Int×Int×Unit):Nat:=(x.2.1 - x.2.2.1).toNat
def dR (x:List Int×Int×Int×Unit):Sum (Int×Unit) Unit:=Ma (da cQ (x.1.drop x.2.2.1.toNat) x.2.2.1)
abbrev qF (f:Nat):Pat:=⟨[(0,.h U8s),(1,.c (.fn f []))],[],0⟩
def sIF (f:Nat):Den (tyP (qF f))→List Prop×Den (tyP bb):=fun x=>([],(rD (da cQ x.1 0),()))
def sCF (f:Nat):Den (tyP (qF f))→List Prop×Den (tyP ax):=fun x=>([],(dT x.1,()))
abbrev qIn:Pat:=bX [.nm .Innings]
def cu (x:Innings):Bool:=dT x.Batters
def my:Den (tyP qIn)→List Prop×Den (tyP ax):=fun x=>([],(cu x.1,()))
theorem l6 {p:Int→Bool} :∀ {l:List Int} {i:Int},(da p l i).isSome=l.any p
 | [],_=>rfl
 | x::r,i=>by
  simp only [da,List.any_cons]
  cases hp:p x with
  | true=>simp
  | false=>simpa using l6
theorem qR {p:Int→Bool} :∀ {l:List Int} {i k:Int},da p l i=some k→i≤k
 | [],_,_,h=>by simp [da] at h
 | x::r,i,k,h=>by
  simp only [da] at h
  split at h
  ·cases h;exact Int.le_refl _
  ·have:=qR h;omega
theorem b8 {α:Type} {l:List α} {i:Int} (h0:0≤i) (h:i<l.length) (d:α):l.drop i.toNat=l.getD i.toNat d::l.drop (i+1).toNat:=by
 have h1:i.toNat<l.length:=by omega
 rw [List.drop_eq_getElem_cons h1,show (i+1).toNat=i.toNat+1 by omega,List.getD_eq_getElem?_getD,List.getElem?_eq_getElem h1]
 rfl
theorem JK {α:Type} {l:List α} {i:Int} (h0:0≤i) (h:i<l.length) (d:α):l.take (i+1).toNat=l.take i.toNat++[l.getD i.toNat d]:=by
 have h1:i.toNat<l.length:=by omega
 have:l.getD i.toNat d=l[i.toNat]:=by rw [List.getD_eq_getElem?_getD,List.getElem?_eq_getElem h1];rfl
 rw [this,show (i+1).toNat=i.toNat+1 by omega,List.take_succ_eq_append_getElem h1]
theorem bJ {α:Type} {l:List α} {i:Int} (h :(l.length:Int)≤i):l.drop i.toNat=[]:=List.drop_of_length_le (by omega)
theorem bc {n:Int} (h1:-9223372036854775808≤n) (h2:n≤9223372036854775807):IntKind.i64.wrap n=n:=de h1 h2
theorem Hf (s:Int) :(evPat (al [] Tryz.f392) (fun _=>none) Tryz.f392 qU1 ax (s,())).sat fun z_=>z_ =(sZ (s,())).2:=by
 refine cast (by kernel_rfl) (?_ :(s != 0,()) =(cQ s,()))
 rfl
def wt:FuncId×Ctr:=(392,ae KE qU1 ax sZ)
theorem zZ:CtrOK Tryz.prog KE 392 (ae KE qU1 ax sZ):=by
 refine an (C:=al [] Tryz.f392) (aj (CtrsOK.nil) _) mixed (fn:=Tryz.f392) Tryz.func392 (by kernel_rfl) (by kernel_rfl) (by kernel_rfl) (by kernel_rfl) (by kernel_rfl) (by kernel_rfl) (Λ:=fun _ _=>none) ?_ ?_
 ·exact fun _ _ _ _ _ _ _ _ h=>by cases h
 ·rintro ⟨s,⟨⟩⟩ hw hn
  exact Hf s
theorem Hn (s:Int) :(evPat (al [] Tryz.f340) (fun _=>none) Tryz.f340 qU1 ax (s,())).sat fun z_=>z_ =(sZ (s,())).2:=by
 refine cast (by kernel_rfl) (?_ :(s != 0,()) =(cQ s,()))
 rfl
def wv:FuncId×Ctr:=(340,ae KE qU1 ax sZ)
theorem Aa:CtrOK Tryz.prog KE 340 (ae KE qU1 ax sZ):=by
 refine an (C:=al [] Tryz.f340) (aj (CtrsOK.nil) _) mixed (fn:=Tryz.f340) Tryz.func340 (by kernel_rfl) (by kernel_rfl) (by kernel_rfl) (by kernel_rfl) (by kernel_rfl) (by kernel_rfl) (Λ:=fun _ _=>none) ?_ ?_
 ·exact fun _ _ _ _ _ _ _ _ h=>by cases h
 ·rintro ⟨s,⟨⟩⟩ hw hn
  exact Hn s
noncomputable def lpLIc:Lp:=(⟨0,al [wt] Tryz.f369,(fun _=>none),(az Tryz.f369 0),(qLI 392),xLI⟩:Lp)
theorem Qw (xs:List Int) (n:Int) (i:Int) (hi:cH (xs,n,i,())) :(Go.Mir.stepG lpLIc dR (fun y:Den (tyP lpLIc.q)=>cH y∧mX y<mX (xs,n,i,())) (xs,n,i,())∧Go.Mir.stepE lpLIc dR (xs,n,i,())=dR (xs,n,i,())):=by
 refine cast (by kernel_rfl) (?_ :((decide (i<n)=true→(0≤i∧i <(↑xs.length:Int))∧(cQ (xs.getD i.toNat (dflt (Ty.int IntKind.u8)))=true→True)∧(cQ (xs.getD i.toNat (dflt (Ty.int IntKind.u8)))=false→cH (xs,n,IntKind.i64.wrap (i+1),())∧mX (xs,n,IntKind.i64.wrap (i+1),())<mX (xs,n,i,())))∧(decide (i<n)=false→True))∧(cond (decide (i<n)) (cond (cQ (xs.getD i.toNat (dflt (Ty.int IntKind.u8)))) (Sum.inl (i,())) (dR (xs,n,IntKind.i64.wrap (i+1),()))) (Sum.inr ()))=dR (xs,n,i,()))
 obtain ⟨h1,h2,h3,h4⟩:=hi
 simp only at h1 h2 h3 h4
 have h5 :(xs.length:Int)≤140737488355328:=by have:xs.length≤140737488355328:=h4;omega
 refine ⟨⟨fun h=>?_,fun _=>trivial⟩,?_⟩
 ·have h:i<n:=of_decide_eq_true h
  rw [bc (n:=i+1) (by omega) (by omega)]
  refine ⟨⟨h2,by omega⟩,fun _=>trivial,fun _=>⟨⟨h1,by simp only;omega,by simp only;omega,h4⟩,by simp only [mX];omega⟩⟩
 ·by_cases h:i<n
  ·rw [decide_eq_true h,cond_true,bc (n:=i+1) (by omega) (by omega)]
   have e:xs.drop i.toNat=xs.getD i.toNat (dflt (Ty.int IntKind.u8))::xs.drop (i+1).toNat:=b8 h2 (by omega) _
   generalize xs.getD i.toNat (dflt (Ty.int IntKind.u8))=v at e ⊢
   simp only [dR,e,da]
   cases cQ v <;> rfl
  ·rw [decide_eq_false h,cond_false]
   simp only [dR]
   rw [bJ (l:=xs) (by omega)]
   rfl
noncomputable def Ow:LoopSum:=aM lpLIc dR cH
noncomputable def Nr:Nat:=rid (az Tryz.f369 0)
theorem O0:LoopOKp Tryz.prog 0 Tryz.f369.ntmps (az Tryz.f369 0) (aM lpLIc dR cH):=
 bk lpLIc (aj (.consU zZ rfl .nil) _) mixed (fun b hb S hS=>by cases hS) dR cH mX (fun |⟨xs,n,i,⟨⟩⟩,hi=>Qw xs n i hi)
noncomputable def lpLIi:Lp:=(⟨0,al [wv] Tryz.f369,(fun _=>none),(az Tryz.f369 0),(qLI 340),xLI⟩:Lp)
theorem Qx (xs:List Int) (n:Int) (i:Int) (hi:cH (xs,n,i,())) :(Go.Mir.stepG lpLIi dR (fun y:Den (tyP lpLIi.q)=>cH y∧mX y<mX (xs,n,i,())) (xs,n,i,())∧Go.Mir.stepE lpLIi dR (xs,n,i,())=dR (xs,n,i,())):=by
 refine cast (by kernel_rfl) (?_ :((decide (i<n)=true→(0≤i∧i <(↑xs.length:Int))∧(cQ (xs.getD i.toNat (dflt (Ty.int IntKind.u8)))=true→True)∧(cQ (xs.getD i.toNat (dflt (Ty.int IntKind.u8)))=false→cH (xs,n,IntKind.i64.wrap (i+1),())∧mX (xs,n,IntKind.i64.wrap (i+1),())<mX (xs,n,i,())))∧(decide (i<n)=false→True))∧(cond (decide (i<n)) (cond (cQ (xs.getD i.toNat (dflt (Ty.int IntKind.u8)))) (Sum.inl (i,())) (dR (xs,n,IntKind.i64.wrap (i+1),()))) (Sum.inr ()))=dR (xs,n,i,()))
 obtain ⟨h1,h2,h3,h4⟩:=hi
 simp only at h1 h2 h3 h4
 have h5 :(xs.length:Int)≤140737488355328:=by have:xs.length≤140737488355328:=h4;omega
 refine ⟨⟨fun h=>?_,fun _=>trivial⟩,?_⟩
 ·have h:i<n:=of_decide_eq_true h
  rw [bc (n:=i+1) (by omega) (by omega)]
  refine ⟨⟨h2,by omega⟩,fun _=>trivial,fun _=>⟨⟨h1,by simp only;omega,by simp only;omega,h4⟩,by simp only [mX];omega⟩⟩
 ·by_cases h:i<n
  ·rw [decide_eq_true h,cond_true,bc (n:=i+1) (by omega) (by omega)]
   have e:xs.drop i.toNat=xs.getD i.toNat (dflt (Ty.int IntKind.u8))::xs.drop (i+1).toNat:=b8 h2 (by omega) _
   generalize xs.getD i.toNat (dflt (Ty.int IntKind.u8))=v at e ⊢
   simp only [dR,e,da]
   cases cQ v <;> rfl
  ·rw [decide_eq_false h,cond_false]
   simp only [dR]
   rw [bJ (l:=xs) (by omega)]
   rfl
noncomputable def Ox:LoopSum:=aM lpLIi dR cH
noncomputable def Ns:Nat:=rid (az Tryz.f369 0)
theorem O1:LoopOKp Tryz.prog 0 Tryz.f369.ntmps (az Tryz.f369 0) (aM lpLIi dR cH):=
 bk lpLIi (aj (.consU Aa rfl .nil) _) mixed (fun b hb S hS=>by cases hS) dR cH mX (fun |⟨xs,n,i,⟨⟩⟩,hi=>Qx xs n i hi)
theorem ND (xs:List Int) (hx:xs.length≤aJ) :(evPat (al [wt] Tryz.f369) (find [(Nr,Ow)]) Tryz.f369 (qF 392) bb (xs,())).sat fun z_=>z_ =((sIF 392) (xs,())).2:=by
 refine cast (by kernel_rfl) (?_:let r1:Bool:=isL (dR (xs,(↑xs.length:Int),0,()));((cZ fun x=>none)∧(↑xs.length:Int) =(↑xs.length:Int)∧(0:Int)≤0∧0≤(↑xs.length:Int)∧xs.length≤aJ)∧(r1=true→jm (dflt (I.prod Ty.unit)) (dR (xs,(↑xs.length:Int),0,())) =(rD (da cQ xs 0),()))∧(r1=false→((-1:Int),()) =(rD (da cQ xs 0),())))
 intro r1
 clear_value (hr1:r1=_)
 have e:dR (xs,(xs.length:Int),0,())=Ma (da cQ xs 0):=rfl
 try subst hr1
 rw [e]
 refine ⟨⟨rfl,rfl,Int.le_refl _,by omega,hx⟩,fun h=>?_,fun h=>?_⟩ <;> cases hf:da cQ xs 0 <;> rw [hf] at h <;> first|rfl|cases h
def Mh:FuncId×Ctr:=(369,ae KE (qF 392) bb (sIF 392))
theorem Pp:CtrOK Tryz.prog KE 369 (ae KE (qF 392) bb (sIF 392)):=by
 refine an (C:=al [wt] Tryz.f369) (aj (.consU zZ rfl .nil) _) mixed (fn:=Tryz.f369) Tryz.func369 (by kernel_rfl) (by kernel_rfl) (by kernel_rfl) (by kernel_rfl) (by kernel_rfl) (by kernel_rfl) (Λ:=fun x=>find [(Nr,Ow)]) ?_ ?_
 ·rintro ⟨xs,⟨⟩⟩ hw hn
  exact LoopsOKp.at (by kernel_rfl) (.cons (by kernel_rfl) (O0) .nil)
 ·rintro ⟨xs,⟨⟩⟩ hw hn
  exact ND xs (cN (aU hw))
theorem Nz (xs:List Int) :(evPat (al [Mh] Tryz.f339) (fun _=>none) Tryz.f339 (qF 392) ax (xs,())).sat fun z_=>z_ =((sCF 392) (xs,())).2:=by
 refine cast (by kernel_rfl) (?_ :(decide (rD (da cQ xs 0)≥0),()) =(dT xs,()))
 have e:=l6 (p:=cQ) (l:=xs) (i:=0)
 unfold dT
 rw [←e]
 cases hf:da cQ xs 0 with
 | none=>rfl
 | some k=>
  have:=qR hf
  simp [this,rD]
def Me:FuncId×Ctr:=(339,ae KE (qF 392) ax (sCF 392))
theorem Pm:CtrOK Tryz.prog KE 339 (ae KE (qF 392) ax (sCF 392)):=by
 refine an (C:=al [Mh] Tryz.f339) (aj (.consU Pp rfl .nil) _) mixed (fn:=Tryz.f339) Tryz.func339 (by kernel_rfl) (by kernel_rfl) (by kernel_rfl) (by kernel_rfl) (by kernel_rfl) (by kernel_rfl) (Λ:=fun _ _=>none) ?_ ?_
 ·exact fun _ _ _ _ _ _ _ _ h=>by cases h
 ·rintro ⟨xs,⟨⟩⟩ hw hn
  exact Nz xs
theorem NF (xs:List Int) (hx:xs.length≤aJ) :(evPat (al [wv] Tryz.f369) (find [(Ns,Ox)]) Tryz.f369 (qF 340) bb (xs,())).sat fun z_=>z_ =((sIF 340) (xs,())).2:=by
 refine cast (by kernel_rfl) (?_:let r1:Bool:=isL (dR (xs,(↑xs.length:Int),0,()));((cZ fun x=>none)∧(↑xs.length:Int) =(↑xs.length:Int)∧(0:Int)≤0∧0≤(↑xs.length:Int)∧xs.length≤aJ)∧(r1=true→jm (dflt (I.prod Ty.unit)) (dR (xs,(↑xs.length:Int),0,())) =(rD (da cQ xs 0),()))∧(r1=false→((-1:Int),()) =(rD (da cQ xs 0),())))
 intro r1
 clear_value (hr1:r1=_)
 have e:dR (xs,(xs.length:Int),0,())=Ma (da cQ xs 0):=rfl
 try subst hr1
 rw [e]
 refine ⟨⟨rfl,rfl,Int.le_refl _,by omega,hx⟩,fun h=>?_,fun h=>?_⟩ <;> cases hf:da cQ xs 0 <;> rw [hf] at h <;> first|rfl|cases h
def Mi:FuncId×Ctr:=(369,ae KE (qF 340) bb (sIF 340))
theorem Pq:CtrOK Tryz.prog KE 369 (ae KE (qF 340) bb (sIF 340)):=by
 refine an (C:=al [wv] Tryz.f369) (aj (.consU Aa rfl .nil) _) mixed (fn:=Tryz.f369) Tryz.func369 (by kernel_rfl) (by kernel_rfl) (by kernel_rfl) (by kernel_rfl) (by kernel_rfl) (by kernel_rfl) (Λ:=fun x=>find [(Ns,Ox)]) ?_ ?_
 ·rintro ⟨xs,⟨⟩⟩ hw hn
  exact LoopsOKp.at (by kernel_rfl) (.cons (by kernel_rfl) (O1) .nil)
 ·rintro ⟨xs,⟨⟩⟩ hw hn
  exact NF xs (cN (aU hw))
theorem NA (xs:List Int) :(evPat (al [Mi] Tryz.f339) (fun _=>none) Tryz.f339 (qF 340) ax (xs,())).sat fun z_=>z_ =((sCF 340) (xs,())).2:=by
 refine cast (by kernel_rfl) (?_ :(decide (rD (da cQ xs 0)≥0),()) =(dT xs,()))
 have e:=l6 (p:=cQ) (l:=xs) (i:=0)
 unfold dT
 rw [←e]
 cases hf:da cQ xs 0 with
 | none=>rfl
 | some k=>
  have:=qR hf
  simp [this,rD]
def Mf:FuncId×Ctr:=(339,ae KE (qF 340) ax (sCF 340))
theorem Pn:CtrOK Tryz.prog KE 339 (ae KE (qF 340) ax (sCF 340)):=by
 refine an (C:=al [Mi] Tryz.f339) (aj (.consU Pq rfl .nil) _) mixed (fn:=Tryz.f339) Tryz.func339 (by kernel_rfl) (by kernel_rfl) (by kernel_rfl) (by kernel_rfl) (by kernel_rfl) (by kernel_rfl) (Λ:=fun _ _=>none) ?_ ?_
 ·exact fun _ _ _ _ _ _ _ _ h=>by cases h
 ·rintro ⟨xs,⟨⟩⟩ hw hn
  exact NA xs
theorem KM (x:Innings) :(evPat (al [Me] Tryz.f371) (fun _=>none) Tryz.f371 qIn ax (x,())).sat fun z_=>z_ =(my (x,())).2:=by
 refine cast (by kernel_rfl) (?_ :(dT x.11,()) =(cu x,()))
 rfl
def uQ:FuncId×Ctr:=(371,ae KE qIn ax my)
theorem Ef:CtrOK Tryz.prog KE 371 (ae KE qIn ax my):=by
 refine an (C:=al [Me] Tryz.f371) (aj (.consU Pm rfl .nil) _) mixed (fn:=Tryz.f371) Tryz.func371 (by kernel_rfl) (by kernel_rfl) (by kernel_rfl) (by kernel_rfl) (by kernel_rfl) (by kernel_rfl) (Λ:=fun _ _=>none) ?_ ?_
 ·exact fun _ _ _ _ _ _ _ _ h=>by cases h
 ·rintro ⟨x,⟨⟩⟩ hw hn
  exact KM x
theorem KY (x:Innings) :(evPat (al [Mf] Tryz.f320) (fun _=>none) Tryz.f320 qIn ax (x,())).sat fun z_=>z_ =(my (x,())).2:=by
 refine cast (by kernel_rfl) (?_ :(dT x.11,()) =(cu x,()))
 rfl
def I3:FuncId×Ctr:=(320,ae KE qIn ax my)
theorem MX:CtrOK Tryz.prog KE 320 (ae KE qIn ax my):=by
 refine an (C:=al [Mf] Tryz.f320) (aj (.consU Pn rfl .nil) _) mixed (fn:=Tryz.f320) Tryz.func320 (by kernel_rfl) (by kernel_rfl) (by kernel_rfl) (by kernel_rfl) (by kernel_rfl) (by kernel_rfl) (Λ:=fun _ _=>none) ?_ ?_
 ·exact fun _ _ _ _ _ _ _ _ h=>by cases h
 ·rintro ⟨x,⟨⟩⟩ hw hn
  exact KY x
end
section
open Go Go.Mir
abbrev K8:Nat:=8
def T8 (l:vg) (n:Nat):Cfg:=⟨tbl,find l,K8,n⟩
def cf8 (l:vg) (fn:Func):Cfg:=T8 l fn.ntmps
theorem bK {l:vg} (h:CtrsOK Tryz.prog K8 l) (n:Nat):CfgOK Tryz.prog (T8 l n):=⟨Iq,by show 1≤K8;decide,h⟩
def KG:Nat→List V→List V×List RowD
 | _,[]=>([],[])
 | k,.fsl t xs::r=>(.osl k k ::(KG (k+1) r).1,⟨t,xs⟩ ::(KG (k+1) r).2)
 | k,v::r=>(v ::(KG k r).1,(KG k r).2)
def UG (x:Innings):V:= .agg (KG 0 (flat fP (.nm .Innings) x)).1
def Rr (x:Innings):List RowD:=(KG 0 (flat fP (.nm .Innings) x)).2
def bC (x:Innings) (p:Int):Bool:=decide (p≥1)&&decide (p≤(x.Subs.length:Int))
def Vr (x:Innings) (p:Int):Bool:=x.Subs.getD (p - 1).toNat false
def aG (x:Innings) (p:Int):Bool:=bC x p&&Vr x p
def cG (over:Int) (p:Phase):Bool:=decide (p.From≤IntKind.i64.wrap (over+1))&&decide (IntKind.i64.wrap (over+1)≤p.To)
def bV (r:Rules) (over:Int):Int:=((r.Power.find? (cG over)).map Phase.Outside).getD r.Outside
def eY (r:Rules) (x:Innings):Int:=
 if !bC x x.Keeper||aG x x.Keeper||x.Keeper==x.Bowler then 17 else if x.Outside>bV r x.Complete then 16 else 0
def BI (x:Innings) (d:Delivery):Int:=
 if d.Fielder>0 then (if !bC x d.Fielder then 3 else if aG x d.Fielder != d.Sub then 18 else 0) else 0
def BJ (x:Innings) (d:Delivery):Int:=
 if d.Second>0 then (if !bC x d.Second then 3 else if aG x d.Second then 18 else 0) else 0
def cV (x:Innings) (d:Delivery):Int:=
 if BI x d != 0 then BI x d else if BJ x d != 0 then BJ x d
 else if d.How==4&&wQ d.Fielder 0 != x.Keeper then 17 else 0
def dG (x:Innings) (p:Int):Innings:=if !bC x p then x else if aG x p then x else if p==x.Bowler||p==x.Keeper then x else { x with Keeper:=p }
def eG (x:Innings) (p:Int):Int:=if !bC x p then 3 else if aG x p then 18 else if p==x.Bowler||p==x.Keeper then 17 else 0
def G6 (x:Innings) (p:Int) (on:Bool):Innings:=
 { x with Subs:=x.Subs.set (p - 1).toNat on,Keeper:=bif on&&x.Keeper==p then 0 else x.Keeper,Bowler:=bif on&&x.Bowler==p then 0 else x.Bowler }
def gM (x:Innings) (p:Int) (on:Bool):Innings:=if !bC x p then x else if aG x p==on then x else G6 x p on
def ja (x:Innings) (p:Int) (on:Bool):Int:=if !bC x p then 3 else if aG x p==on then 18 else 0
def s5 (x:Innings) (n:Int):Bool:=decide (n<0)||decide (n >(x.Subs.length:Int) - 2)
def dZ (x:Innings) (n:Int):Innings:=if s5 x n then x else { x with Outside:=n }
def fG (x:Innings) (n:Int):Int:=if s5 x n then 16 else 0
def ai (x:Innings):Prop:=x.Batters.length≤1000000∧x.Bowlers.length≤1000000∧x.Before.length≤1000000∧x.Bowled.length≤1000000∧x.Subs.length≤1000000
def psI:Ty:= .prod (.nm .Innings) .unit
def lj:Ty:= .prod (.nm .Innings) (.prod (.int .i64) .unit)
def psR:Ty:= .prod (.nm .Rules) (.prod (.int .i64) .unit)
def G4:Ty:= .prod (.nm .Rules) (.prod (.nm .Innings) .unit)
def G3:Ty:= .prod (.nm .Innings) (.prod (.nm .Delivery) .unit)
def od:Den lj→PRes:=fun x=>⟨[],.bool (bC x.1 x.2.1),[]⟩
def oe:Den lj→PRes:=fun x=>⟨[],.bool (aG x.1 x.2.1),[]⟩
def og:Den psR→PRes:=fun x=>⟨[],.int .i64 (bV x.1 x.2.1),[]⟩
def oa:Den G4→PRes:=fun x=>⟨[],.int .i64 (eY x.1 x.2.1),[]⟩
def ob:Den G3→PRes:=fun x=>⟨[],.int .i64 (cV x.1 x.2.1),[]⟩
def fw:Den psI→PRes:=fun x=>⟨[ai x.1],UG x.1,Rr x.1⟩
def PO:Ty:= .prod (.slice .bool) .unit
def CB:Den PO→PRes:=fun x=>⟨[x.1.length≤1000000],.osl 0 0,[⟨.bool,x.1⟩]⟩
def PT:Ty:= .prod (.slice (.int .u8)) .unit
def CN:Den PT→PRes:=fun x=>⟨[x.1.length≤1000000],.osl 0 0,[⟨.int .u8,x.1⟩]⟩
def PU:Ty:= .prod (.slice (.int .i64)) .unit
def CO:Den PU→PRes:=fun x=>⟨[x.1.length≤1000000],.osl 0 0,[⟨.int .i64,x.1⟩]⟩
def k73:FuncId×Ctr:=(382,au K8 lj od)
def k76:FuncId×Ctr:=(366,au K8 lj od)
def k74:FuncId×Ctr:=(383,au K8 lj oe)
def k72:FuncId×Ctr:=(367,au K8 lj oe)
def k75:FuncId×Ctr:=(397,au K8 psR og)
def k77:FuncId×Ctr:=(388,au K8 psR og)
def k40:FuncId×Ctr:=(395,au K8 G4 oa)
def k41:FuncId×Ctr:=(359,au K8 G4 oa)
def k42:FuncId×Ctr:=(396,au K8 G3 ob)
def k43:FuncId×Ctr:=(361,au K8 G3 ob)
def k78:FuncId×Ctr:=(381,au K8 psI fw)
def k44:FuncId×Ctr:=(285,au K8 psI fw)
def k45:FuncId×Ctr:=(305,au K8 PO CB)
def k90:FuncId×Ctr:=(303,au K8 PT CN)
def k91:FuncId×Ctr:=(304,au K8 PU CO)
def xj:Ty:= .prod (.slice (.int .i64)) (.prod (.int .i64) .unit)
def cO (xs:List Int) (v:Int):Bool:=xs.contains v
def oc:Den xj→PRes:=fun x=>⟨[],.bool (cO x.1 x.2.1),[]⟩
def CJ:Den xj→PRes:=fun x=>⟨[],.int .i64 (idx x.1 x.2.1 0),[]⟩
def k47:FuncId×Ctr:=(318,au K8 xj oc)
def k79:FuncId×Ctr:=(338,au K8 xj CJ)
def IQ (xs:List Int) (v:Int) (i:Nat):Prop:=i≤xs.length∧v∉xs.take i
def L79 (i:Nat):List (Lspec Nat):= [.out [true] [] [],.next (i+1) [] [],.out [false] [] []]
def J79 (xs:List Int) (v:Int) (i:Nat):St:=⟨[(0,.fsl (.int .i64) xs),(1,.int .i64 v),(7,.int .i64 xs.length),(8,.int .i64 i)],[],fun _=>none,0⟩
def T79 (xs:List Int) (v:Int):Tr:= .br (xs.contains v) (.leaf .ret ⟨[(4,.int .i64 (idx xs v 0))],[]⟩ 0) (.leaf (.ext 0) ⟨[],[]⟩ 0)
def Λ79 (xs:List Int) (v:Int):Nat→Option LoopSum:=find [(2,ck ⟨[],[],0⟩ (J79 xs v 0) (T79 xs v))]
def tA (r:Rules) (o:Int) (i:Nat):Prop:=i≤r.Power.length∧∀ p∈r.Power.take i,cG o p=false
def L75 (i:Nat):List (Lspec Nat):= [.out [true] [] [],.next (i+1) [] [],.out [false] [] []]
def T75 (r:Rules) (o:Int):Tr:= .br (r.Power.any (cG o)) (.leaf .ret ⟨[(4,.int .i64 (bV r o))],[]⟩ 48) (.leaf (.ext 0) ⟨[(2,.ptr 0 0)],[(0,.cells (flat fP (.nm .Rules) r))]⟩ 48)
def J75 (r:Rules) (o:Int) (i:Nat):St:=⟨[(1,.int .i64 o),(2,.ptr 0 0),(8,.fsl (.nm .Phase) r.Power),(9,.int .i64 r.Power.length),(10,.int .i64 i)],[(0,.cells (flat fP (.nm .Rules) r))],fun _=>none,48⟩
def Λ75 (r:Rules) (o:Int):Nat→Option LoopSum:=find [(2,ck ⟨[],[],48⟩ (J75 r o 0) (T75 r o))]
def wtab:List dismissal_way:=
 [{ how:=0,name:={ data:=#[78,79,84,79,85,84] },fair:=false,wide:=false,no:=false,fielder:=false,either:=false },
  { how:=1,name:={ data:=#[66,79,87,76,69,68] },fair:=true,wide:=false,no:=false,fielder:=false,either:=false },
  { how:=2,name:={ data:=#[67,65,85,71,72,84] },fair:=true,wide:=false,no:=false,fielder:=true,either:=false },
  { how:=3,name:={ data:=#[76,66,87] },fair:=true,wide:=false,no:=false,fielder:=false,either:=false },
  { how:=4,name:={ data:=#[83,84,85,77,80,69,68] },fair:=true,wide:=true,no:=false,fielder:=true,either:=false },
  { how:=5,name:={ data:=#[72,73,84,87,73,67,75,69,84] },fair:=true,wide:=true,no:=false,fielder:=false,either:=false },
  { how:=6,name:={ data:=#[82,85,78,79,85,84] },fair:=true,wide:=true,no:=true,fielder:=true,either:=true },
  { how:=7,name:={ data:=#[72,73,84,84,87,73,67,69] },fair:=true,wide:=false,no:=true,fielder:=false,either:=false },
  { how:=8,name:={ data:=#[79,66,83,84,82,85,67,84,73,78,71] },fair:=true,wide:=true,no:=true,fielder:=false,either:=true },
  { how:=9,name:={ data:=#[84,73,77,69,68,79,85,84] },fair:=false,wide:=false,no:=false,fielder:=false,either:=false },
  { how:=10,name:={ data:=#[82,69,84,73,82,69,68] },fair:=false,wide:=false,no:=false,fielder:=false,either:=false }]
def onW (w:dismissal_way) (t:Int):Bool:=(t==1&&w.fair) ||(t==2&&w.wide) ||(t==3&&w.no)
def ofW (h:Int):dismissal_way:=(wtab.find? fun w=>w.how==h).getD dismissal_way.zero
def qW (w:dismissal_way) (t:Int) (free:Bool):Bool:=onW w t&&(!free||w.how==6||w.how==7||w.how==8)
def jj (t:Int) (free:Bool):List Int:=(wtab.filter fun w=>qW w t free).map dismissal_way.how
def mr (n:Int):Bool:=decide (n≥1)&&decide (n≤11)
def gd (d:Delivery) (w:dismissal_way):Bool:=
 !((w.fielder != mr d.Fielder) ||(!w.fielder&&d.Fielder != 0))&&(d.Second==0 ||(d.How==6&&mr d.Second&&d.Second != d.Fielder))
def ca (d:Delivery) (free:Bool):Int:=
 if d.How==0 then (if d.Victim != 0 then 14 else if d.Fielder != 0||d.Second != 0||d.Sub then 15 else 0)
 else if !(jj d.Typ free).contains d.How then 13
 else if !(d.How==6||d.How==8)&&(d.Source != 0||d.Runs != 0) then 12
 else if d.Victim != 1&&(d.Victim != 2||!(ofW d.How).either) then 14
 else if !gd d (ofW d.How) then 15
 else if d.Sub&&d.How != 2&&d.How != 6 then 18
 else 0
def gE (h:Int):Bool:=h==6||h==7||h==8
def onR (h t:Int):Bool:=
 if h==1||h==2||h==3 then t==1
 else if h==4||h==5 then t==1||t==2
 else if h==7 then t==1||t==3
 else if h==6||h==8 then t==1||t==2||t==3
 else false
def y8 (h:Int):Bool:=h==6
def pz (h:Int):Bool:=h==2||h==4||h==6
def cr (d:Delivery) (free:Bool):Int:=
 if d.How==0 then (if d.Victim != 0 then 14 else if d.Fielder != 0||d.Second != 0||d.Sub then 15 else 0)
 else if !onR d.How d.Typ ||(free&&!gE d.How) then 13
 else if !(d.How==6||d.How==8)&&(d.Source != 0||d.Runs != 0) then 12
 else if d.Victim != 1&&!(d.Victim==2&&(d.How==6||d.How==8)) then 14
 else if (pz d.How&&(decide (d.Fielder<1)||decide (d.Fielder>11))) ||(!pz d.How&&d.Fielder != 0) then 15
 else if d.Second != 0&&(!(d.How==6)||decide (d.Second<1)||decide (d.Second>11)||d.Second==d.Fielder) then 15
 else if d.Sub&&d.How != 2&&d.How != 6 then 18
 else 0
def qa (xs:List Int) (v:Int):Bool:=xs.contains v
def PQ:Ty:= .unit
def CG:Den PQ→PRes:=fun _=>⟨[],.osl 0 0,[⟨.nm .dismissal_way,wtab⟩]⟩
def PR:Ty:= .prod (.nm .dismissal_way) (.prod (.int .u8) .unit)
def CH:Den PR→PRes:=fun x=>⟨[],.bool (onW x.1 x.2.1),[]⟩
def uy:Ty:= .prod (.int .u8) .unit
def CC:Den uy→PRes:=fun x=>⟨[],.agg (flat fP (.nm .dismissal_way) (ofW x.1)),[]⟩
def PM:Ty:= .prod (.int .u8) (.prod .bool .unit)
def Cy:Den PM→PRes:=fun x=>⟨[],.osl 0 0,[⟨.int .u8,jj x.1 x.2.1⟩]⟩
def PN:Ty:=KI
def Cz:Den PN→PRes:=fun x=>⟨[],.bool (qa x.1 x.2.1),[]⟩
def PS:Ty:= .prod (.int .i64) .unit
def CM:Den PS→PRes:=fun x=>⟨[],.bool (mr x.1),[]⟩
def PP:Ty:= .prod (.nm .Delivery) (.prod (.nm .dismissal_way) .unit)
def CD:Den PP→PRes:=fun x=>⟨[],.bool (gd x.1 x.2.1),[]⟩
def psP:Ty:= .prod (.nm .Delivery) (.prod .bool .unit)
def Cw:Den psP→PRes:=fun x=>⟨[],.int .i64 (ca x.1 x.2.1),[]⟩
def Cx:Den psP→PRes:=fun x=>⟨[],.int .i64 (cr x.1 x.2.1),[]⟩
def CF:Den uy→PRes:=fun x=>⟨[],.bool (gE x.1),[]⟩
def PW:Ty:= .prod (.int .u8) (.prod (.int .u8) .unit)
def CE:Den PW→PRes:=fun x=>⟨[],.bool (onR x.1 x.2.1),[]⟩
def CA:Den uy→PRes:=fun x=>⟨[],.tup [.bool (pz x.1),.bool (pz x.1),.bool (y8 x.1)],[]⟩
def k61:FuncId×Ctr:=(168,au KK PQ CG)
def k62:FuncId×Ctr:=(251,au KK PR CH)
def k57:FuncId×Ctr:=(104,au KK uy CC)
def k20:FuncId×Ctr:=(207,au KK PM Cy)
def k63:FuncId×Ctr:=(250,au KK KI CI)
def k21:FuncId×Ctr:=(206,au KK PN Cz)
def k89:FuncId×Ctr:=(252,au KK PS CM)
def k58:FuncId×Ctr:=(208,au KK PP CD)
def k17:FuncId×Ctr:=(164,au KK psP Cw)
def k18:FuncId×Ctr:=(360,au KK psP Cx)
def k60:FuncId×Ctr:=(391,au KK uy CF)
def k59:FuncId×Ctr:=(390,au KK PW CE)
def k29:FuncId×Ctr:=(389,au KK uy CA)
def J57 (h:Int) (i:Nat):St:=⟨[(0,.int .u8 h),(2,.ptr 0 0),(5,.osl 4 4),(6,.int .i64 wtab.length),(7,.int .i64 i)],
 [(4,.row 4 true (.nm .dismissal_way) wtab),(0,.cells (flat fP (.nm .dismissal_way) dismissal_way.zero))],fun _=>none,16⟩
def T57 (h:Int):Tr:= .br (wtab.any fun w=>w.how==h) (.leaf .ret ⟨[(2,.ptr 0 0)],[(0,.cells (flat fP (.nm .dismissal_way) (ofW h)))]⟩ 16)
 (.leaf (.ext 0) ⟨[(2,.ptr 0 0)],[(0,.cells (flat fP (.nm .dismissal_way) dismissal_way.zero))]⟩ 16)
def IM (h:Int) (i:Nat):Prop:=i≤11∧∀ w∈wtab.take i,(w.how==h)=false
def L57 (i:Nat):List (Lspec Nat):= [.out [true] [] [],.next (i+1) [] [],.out [false] [] []]
def Λ57 (h:Int):Nat→Option LoopSum:=find [(2,ck ⟨[],[],16⟩ (J57 h 0) (T57 h))]
def fY (t:Int) (free:Bool) (i:Nat):List Int:=((wtab.take i).filter fun w=>qW w t free).map dismissal_way.how
def J20 (t:Int) (free:Bool) (i:Nat):St:=⟨[(0,.int .u8 t),(1,.bool free),(5,.osl 16 17),(8,.osl 8 8),(9,.int .i64 wtab.length),(10,.int .i64 i)],
 [(8,.row 8 true (.nm .dismissal_way) wtab),(16,.row 17 true (.int .u8) (fY t free i))],fun _=>none,20⟩
def T20 (t:Int) (free:Bool):Tr:= .leaf (.ext 0) ⟨[(5,.osl 16 17)],[(16,.row 17 true (.int .u8) (jj t free))]⟩ 20
def L20 (i:Nat):List (Lspec Nat):= [.next (i+1) [(17,144)] [],.next (i+1) [] [],.out [] [] []]
def wj (i:Nat):Prop:=i≤11
def Λ20 (t:Int) (free:Bool):Nat→Option LoopSum:=find [(3,ck ⟨[],[16],20⟩ (J20 t free 0) (T20 t free))]
end
section
open Go Go.Mir
attribute [local irreducible] Go.Mir.RT.sat Go.Mir.evFn Go.Mir.stepObl
theorem UX :(evFn (iA [] Tryz.f168) (fun _=>none) Tryz.f168 (bF PQ ())).sat fun v' rows=>leV v' (CG ()).v∧rows =(CG ()).rows:=by
 refine cast (by kernel_rfl) (?_ :(nat_lit 0=nat_lit 0∧nat_lit 0=nat_lit 0)∧ [RowD.mk (Ty.nm Nm.dismissal_way) [dismissal_way.mk 0 (ByteArray.mk #[78,79,84,79,85,84]) false false false false false,dismissal_way.mk 1 (ByteArray.mk #[66,79,87,76,69,68]) true false false false false,dismissal_way.mk 2 (ByteArray.mk #[67,65,85,71,72,84]) true false false true false,dismissal_way.mk 3 (ByteArray.mk #[76,66,87]) true false false false false,dismissal_way.mk 4 (ByteArray.mk #[83,84,85,77,80,69,68]) true true false true false,dismissal_way.mk 5 (ByteArray.mk #[72,73,84,87,73,67,75,69,84]) true true false false false,dismissal_way.mk 6 (ByteArray.mk #[82,85,78,79,85,84]) true true true true true,dismissal_way.mk 7 (ByteArray.mk #[72,73,84,84,87,73,67,69]) true false true false false,dismissal_way.mk 8 (ByteArray.mk #[79,66,83,84,82,85,67,84,73,78,71]) true true true false true,dismissal_way.mk 9 (ByteArray.mk #[84,73,77,69,68,79,85,84]) false false false false false,dismissal_way.mk 10 (ByteArray.mk #[82,69,84,73,82,69,68]) false false false false false]]=[RowD.mk (Ty.nm Nm.dismissal_way) wtab])
 exact ⟨⟨rfl,rfl⟩,by kernel_rfl⟩
theorem Pg:CtrOK Tryz.prog KK 168 (au KK PQ CG):=by
 refine aV (C:=iA [] Tryz.f168) (jc CtrsOK.nil _) mixed (fn:=Tryz.f168) Tryz.func168 (by kernel_rfl) (by kernel_rfl) (by kernel_rfl) (Λ:=fun _ _=>none) ?_ ?_ ?_
 ·exact fun _ _ _ _ _ _ _ _ h=>by cases h
 ·rintro ⟨⟩
  exact of_decide_eq_true (by kernel_rfl)
 ·rintro ⟨⟩ _ _
  exact UX
theorem UY (w:dismissal_way) (t:Int) :(evFn (iA [] Tryz.f251) (fun _=>none) Tryz.f251 (bF PR (w,t,()))).sat fun v' rows=>leV v' (CH (w,t,())).v∧rows =(CH (w,t,())).rows:=by
 refine cast (by kernel_rfl) (?_ :(cond (t==1) (cond w.3 true (cond (t==2) (cond w.4 true (cond (t==3) w.5 false)) (cond (t==3) w.5 false))) (cond (t==2) (cond w.4 true (cond (t==3) w.5 false)) (cond (t==3) w.5 false)))=onW w t∧([]:List RowD)=[])
 simp only [onW];grind
theorem Uz:CtrOK Tryz.prog KK 251 (au KK PR CH):=by
 refine aV (C:=iA [] Tryz.f251) (jc CtrsOK.nil _) mixed (fn:=Tryz.f251) Tryz.func251 (by kernel_rfl) (by kernel_rfl) (by kernel_rfl) (Λ:=fun _ _=>none) ?_ ?_ ?_
 ·exact fun _ _ _ _ _ _ _ _ h=>by cases h
 ·rintro ⟨w,t,⟨⟩⟩
  exact of_decide_eq_true (by kernel_rfl)
 ·rintro ⟨w,t,⟨⟩⟩ _ _
  exact UY w t
theorem Vh (n:Int) :(evFn (iA [] Tryz.f252) (fun _=>none) Tryz.f252 (bF PS (n,()))).sat fun v' rows=>leV v' (CM (n,())).v∧rows =(CM (n,())).rows:=by
 refine cast (by kernel_rfl) (?_ :(cond (decide (n≥1)) (decide (n≤11)) false)=mr n∧([]:List RowD)=[])
 simp only [mr];grind
theorem VW:CtrOK Tryz.prog KK 252 (au KK PS CM):=by
 refine aV (C:=iA [] Tryz.f252) (jc CtrsOK.nil _) mixed (fn:=Tryz.f252) Tryz.func252 (by kernel_rfl) (by kernel_rfl) (by kernel_rfl) (Λ:=fun _ _=>none) ?_ ?_ ?_
 ·exact fun _ _ _ _ _ _ _ _ h=>by cases h
 ·rintro ⟨n,⟨⟩⟩
  exact of_decide_eq_true (by kernel_rfl)
 ·rintro ⟨n,⟨⟩⟩ _ _
  exact Vh n
theorem UW (n:Int) :(evFn (iA [] Tryz.f391) (fun _=>none) Tryz.f391 (bF uy (n,()))).sat fun v' rows=>leV v' (CF (n,())).v∧rows =(CF (n,())).rows:=by
 refine cast (by kernel_rfl) (?_ :(cond (n==6) true (cond (n==7) true (n==8)))=gE n∧([]:List RowD)=[])
 simp only [gE];grind
theorem VP:CtrOK Tryz.prog KK 391 (au KK uy CF):=by
 refine aV (C:=iA [] Tryz.f391) (jc CtrsOK.nil _) mixed (fn:=Tryz.f391) Tryz.func391 (by kernel_rfl) (by kernel_rfl) (by kernel_rfl) (Λ:=fun _ _=>none) ?_ ?_ ?_
 ·exact fun _ _ _ _ _ _ _ _ h=>by cases h
 ·rintro ⟨n,⟨⟩⟩
  exact of_decide_eq_true (by kernel_rfl)
 ·rintro ⟨n,⟨⟩⟩ _ _
  exact UW n
theorem UV (n:Int) (t:Int) :(evFn (iA [] Tryz.f390) (fun _=>none) Tryz.f390 (bF PW (n,t,()))).sat fun v' rows=>leV v' (CE (n,t,())).v∧rows =(CE (n,t,())).rows:=by
 refine cast (by kernel_rfl) (?_ :((cond (n==1) (n==1) (cond (n==2) (n==2) (n==3)))=true→(t==1)=onR n t∧([]:List RowD)=[])∧((cond (n==1) (n==1) (cond (n==2) (n==2) (n==3)))=false→((cond (n==4) (n==4) (n==5))=true→(cond (t==1) true (t==2))=onR n t∧([]:List RowD)=[])∧((cond (n==4) (n==4) (n==5))=false→((n==7)=true→(cond (t==1) true (t==3))=onR n t∧([]:List RowD)=[])∧((n==7)=false→((cond (n==6) (n==6) (n==8))=true→(cond (t==1) true (cond (t==2) true (t==3)))=onR n t∧([]:List RowD)=[])∧((cond (n==6) (n==6) (n==8))=false→false=onR n t∧([]:List RowD)=[])))))
 simp only [onR];grind
theorem VO:CtrOK Tryz.prog KK 390 (au KK PW CE):=by
 refine aV (C:=iA [] Tryz.f390) (jc CtrsOK.nil _) mixed (fn:=Tryz.f390) Tryz.func390 (by kernel_rfl) (by kernel_rfl) (by kernel_rfl) (Λ:=fun _ _=>none) ?_ ?_ ?_
 ·exact fun _ _ _ _ _ _ _ _ h=>by cases h
 ·rintro ⟨n,t,⟨⟩⟩
  exact of_decide_eq_true (by kernel_rfl)
 ·rintro ⟨n,t,⟨⟩⟩ _ _
  exact UV n t
theorem UL (n:Int) :(evFn (iA [] Tryz.f389) (fun _=>none) Tryz.f389 (bF uy (n,()))).sat fun v' rows=>leV v' (CA (n,())).v∧rows =(CA (n,())).rows:=by
 refine cast (by kernel_rfl) (?_ :((cond (n==2) true (cond (n==4) true (n==6)))=pz n∧(cond (n==2) true (cond (n==4) true (n==6)))=pz n∧(n==6)=y8 n∧True)∧([]:List RowD)=[])
 simp only [pz,y8];grind
theorem VJ:CtrOK Tryz.prog KK 389 (au KK uy CA):=by
 refine aV (C:=iA [] Tryz.f389) (jc CtrsOK.nil _) mixed (fn:=Tryz.f389) Tryz.func389 (by kernel_rfl) (by kernel_rfl) (by kernel_rfl) (Λ:=fun _ _=>none) ?_ ?_ ?_
 ·exact fun _ _ _ _ _ _ _ _ h=>by cases h
 ·rintro ⟨n,⟨⟩⟩
  exact of_decide_eq_true (by kernel_rfl)
 ·rintro ⟨n,⟨⟩⟩ _ _
  exact UL n
theorem QF:wtab.length=11:=rfl
theorem uN {α:Type} (p:α→Bool) :∀ (xs:List α) (i:Nat) (x:α),xs[i]?=some x→p x=true→(∀ y∈xs.take i,p y=false)→xs.find? p=some x
 | [],_,_,h,_,_=>by simp at h
 | y::xs,0,x,h,hp,_=>by simp at h;subst h;simp [hp]
 | y::xs,i+1,x,h,hp,hn=>by
  have h0:p y=false:=hn y (by simp)
  rw [List.find?_cons_of_neg (by simp [h0])]
  exact uN p xs i x (by simpa using h) hp (fun z hz=>hn z (by simp [hz]))
theorem oG {α:Type} {xs:List α} {i:Nat} (z:α) (h:i<xs.length):xs[i]?=some (xs.getD i z):=by
 rw [List.getD_eq_getElem?_getD,List.getElem?_eq_getElem h];rfl
theorem Tb (h:Int) (i:Nat) (hi:IM h i) :(stepObl (J57 h) (IM h) (fun i=>11 - i) i (T57 h) (bL (iA [k61] Tryz.f104) (fun _=>none) (az Tryz.f104 0) (J57 h i)) (L57 i)).1:=by
 refine cast (by kernel_rfl) (?_ :(decide ((↑i:Int) <(↑wtab.length:Int))=true→(0≤(↑i:Int)∧(↑i:Int) <(↑wtab.length:Int))∧(((wtab.getD (↑i:Int).toNat (dflt (Ty.nm Nm.dismissal_way))).1==h)=true→(wtab.any fun w=>w.1==h)=true∧(True∧True)∧((wtab.getD (↑i:Int).toNat (dflt (Ty.nm Nm.dismissal_way))).1 =(ofW h).1∧(wtab.getD (↑i:Int).toNat (dflt (Ty.nm Nm.dismissal_way))).2 =(ofW h).2∧(wtab.getD (↑i:Int).toNat (dflt (Ty.nm Nm.dismissal_way))).3 =(ofW h).3∧(wtab.getD (↑i:Int).toNat (dflt (Ty.nm Nm.dismissal_way))).4 =(ofW h).4∧(wtab.getD (↑i:Int).toNat (dflt (Ty.nm Nm.dismissal_way))).5 =(ofW h).5∧(wtab.getD (↑i:Int).toNat (dflt (Ty.nm Nm.dismissal_way))).6 =(ofW h).6∧(wtab.getD (↑i:Int).toNat (dflt (Ty.nm Nm.dismissal_way))).7 =(ofW h).7∧True)∧True)∧(((wtab.getD (↑i:Int).toNat (dflt (Ty.nm Nm.dismissal_way))).1==h)=false→IM h (i +(1:Nat))∧(11:Nat) - (i +(1:Nat)) <(11:Nat) - i∧(h=h∧True∧True∧(↑wtab.length:Int) =(↑wtab.length:Int)∧IntKind.i64.wrap ((↑i:Int)+1) =(↑(i +(1:Nat)):Int)∧True)∧RowD.mk (Ty.nm Nm.dismissal_way) wtab=RowD.mk (Ty.nm Nm.dismissal_way) wtab∧((0:Int)=0∧ByteArray.empty=ByteArray.empty∧false=false∧false=false∧false=false∧false=false∧false=false∧True)∧True))∧(decide ((↑i:Int) <(↑wtab.length:Int))=false→(wtab.any fun w=>w.1==h)=false∧(True∧True)∧((0:Int)=0∧ByteArray.empty=ByteArray.empty∧false=false∧false=false∧false=false∧false=false∧false=false∧True)∧True))
 have e :(i:Int).toNat=i:=by simp
 rw [e]
 generalize hw:wtab.getD i (dflt (Ty.nm Nm.dismissal_way))=w
 refine ⟨fun h1=>?_,fun h1=>?_⟩
 ·have h1:i<wtab.length:=by simpa using h1
  have h3:wtab[i]?=some w:=by rw [←hw];exact oG _ h1
  refine ⟨⟨by omega,by omega⟩,fun h2=>?_,fun h2=>?_⟩
  ·have h4:ofW h=w:=by
    unfold ofW
    rw [uN (fun w=>w.how==h) wtab i w h3 h2 hi.2];rfl
   have h5 :(wtab.any fun w=>w.1==h)=true:=List.any_eq_true.2 ⟨w,List.mem_of_getElem? h3,h2⟩
   rw [h4]
   exact ⟨h5,⟨trivial,trivial⟩,⟨rfl,rfl,rfl,rfl,rfl,rfl,rfl,trivial⟩,trivial⟩
  ·rw [QF] at h1
   refine ⟨⟨by omega,fun y hy=>?_⟩,by omega,⟨rfl,trivial,trivial,rfl,?_,trivial⟩,rfl,⟨rfl,rfl,rfl,rfl,rfl,rfl,rfl,trivial⟩,trivial⟩
   ·rw [List.take_add_one,h3] at hy
    rcases List.mem_append.1 hy with hy|hy
    ·exact hi.2 y hy
    ·simp at hy;subst hy;exact h2
   ·rw [de (by omega) (by omega)];omega
 ·have h1:wtab.length≤i:=by simpa using h1
  refine ⟨?_,⟨trivial,trivial⟩,⟨rfl,rfl,rfl,rfl,rfl,rfl,rfl,trivial⟩,trivial⟩
  rw [List.any_eq_false]
  intro x hx
  have:=hi.2 x (by rw [List.take_of_length_le h1];exact hx)
  simpa using this
theorem O7 (h:Int):LoopsOK Tryz.prog Tryz.f104.ntmps [az Tryz.f104 0] (Λ57 h):=
 .cons (L:=ck ⟨[],[],16⟩ (J57 h 0) (T57 h)) (by kernel_rfl) (gD (jc (.cons Pg .nil) _) mixed (J57 h) (fun _=>rfl) (IM h) (fun i=>11 - i) (fun _ _=>none) (fun _ _ _ _ _ h=>by cases h) (T57 h) [] [] 0 ⟨Nat.zero_le _,by simp⟩ L57 (Tb h)) .nil
theorem UT (h:Int) :(evFn (iA [k61] Tryz.f104) (Λ57 h) Tryz.f104 (bF uy (h,()))).sat fun v' rows=>leV v' (CC (h,())).v∧rows =(CC (h,())).rows:=by
 refine cast (by kernel_rfl) (?_ :((cZ fun x=>none)∧(h=h∧True∧True∧(↑wtab.length:Int) =(↑wtab.length:Int)∧0 =(↑(0:Nat):Int)∧True)∧RowD.mk (Ty.nm Nm.dismissal_way) wtab=RowD.mk (Ty.nm Nm.dismissal_way) wtab∧((0:Int)=0∧ByteArray.empty=ByteArray.empty∧false=false∧false=false∧false=false∧false=false∧false=false∧True)∧True)∧((wtab.any fun w=>w.1==h)=true→((ofW h).1 =(ofW h).1∧(ofW h).2 =(ofW h).2∧(ofW h).3 =(ofW h).3∧(ofW h).4 =(ofW h).4∧(ofW h).5 =(ofW h).5∧(ofW h).6 =(ofW h).6∧(ofW h).7 =(ofW h).7∧True)∧([]:List RowD)=[])∧((wtab.any fun w=>w.1==h)=false→(0 =(ofW h).1∧ByteArray.empty =(ofW h).2∧false =(ofW h).3∧false =(ofW h).4∧false =(ofW h).5∧false =(ofW h).6∧false =(ofW h).7∧True)∧([]:List RowD)=[]))
 refine ⟨⟨rfl,⟨rfl,trivial,trivial,rfl,rfl,trivial⟩,rfl,⟨rfl,rfl,rfl,rfl,rfl,rfl,rfl,trivial⟩,trivial⟩,fun _=>⟨⟨rfl,rfl,rfl,rfl,rfl,rfl,rfl,trivial⟩,rfl⟩,fun h1=>?_⟩
 have h2:ofW h=dismissal_way.zero:=by
  unfold ofW
  rw [List.find?_eq_none.2]
  ·rfl
  ·intro x hx hp
   have:=(List.any_eq_false.1 h1) x hx
   exact this hp
 rw [h2]
 exact ⟨⟨rfl,rfl,rfl,rfl,rfl,rfl,rfl,trivial⟩,rfl⟩
theorem VM:CtrOK Tryz.prog KK 104 (au KK uy CC):=by
 refine aV (C:=iA [k61] Tryz.f104) (jc (.cons Pg .nil) _) mixed (fn:=Tryz.f104) Tryz.func104 (by kernel_rfl) (by kernel_rfl) (by kernel_rfl) (Λ:=fun x=>Λ57 x.1) ?_ ?_ ?_
 ·rintro ⟨h,⟨⟩⟩ _ _
  exact LoopsOK.at (by kernel_rfl) (O7 h)
 ·rintro ⟨h,⟨⟩⟩
  exact of_decide_eq_true (by kernel_rfl)
 ·rintro ⟨h,⟨⟩⟩ _ _
  exact UT h
theorem L0 (w:dismissal_way) (t:Int) (free:Bool) :(bif onW w t then bif !free then true else bif w.1 ==(6:Int) then true else bif w.1 ==(7:Int) then true else w.1 ==(8:Int) else false)=qW w t free:=by
 simp only [qW];cases onW w t <;> cases free <;> simp <;> grind
theorem FV (t:Int) (free:Bool) (i:Nat) {w:dismissal_way} (h:wtab[i]?=some w):fY t free (i+1)=fY t free i ++(bif qW w t free then [w.how] else []):=by
 unfold fY
 rw [List.take_add_one,h,List.filter_append,List.map_append]
 congr 1
 cases hf:qW w t free <;> simp [hf]
theorem Iu (t:Int) (free:Bool) (i:Nat) :(fY t free i).length≤11:=by
 unfold fY
 rw [List.length_map]
 have h1:=List.length_filter_le (fun w=>qW w t free) (wtab.take i)
 have h2 :(wtab.take i).length≤wtab.length:=List.length_take_le' _ _
 rw [QF] at h2
 omega
theorem Ta (t:Int) (free:Bool) (i:Nat) (hi:wj i) :(stepObl (J20 t free) wj (fun i=>11 - i) i (T20 t free) (bL (iA [k61,k62] Tryz.f207) (fun _=>none) (az Tryz.f207 0) (J20 t free i)) (L20 i)).1:=by
 refine cast (by kernel_rfl) (?_ :(decide ((↑i:Int) <(↑wtab.length:Int))=true→(0≤(↑i:Int)∧(↑i:Int) <(↑wtab.length:Int))∧((cond (onW (wtab.getD (↑i:Int).toNat (dflt (Ty.nm Nm.dismissal_way))) t) (cond (!free) true (cond ((wtab.getD (↑i:Int).toNat (dflt (Ty.nm Nm.dismissal_way))).1==6) true (cond ((wtab.getD (↑i:Int).toNat (dflt (Ty.nm Nm.dismissal_way))).1==7) true ((wtab.getD (↑i:Int).toNat (dflt (Ty.nm Nm.dismissal_way))).1==8)))) false)=true→((fY t free i).length+[(wtab.getD (↑i:Int).toNat (dflt (Ty.nm Nm.dismissal_way))).1].length) *(1:Nat)≤(70368744177664:Nat)∧wj (i +(1:Nat))∧(11:Nat) - (i +(1:Nat)) <(11:Nat) - i∧(t=t∧free=free∧True∧True∧(↑wtab.length:Int) =(↑wtab.length:Int)∧IntKind.i64.wrap ((↑i:Int)+1) =(↑(i +(1:Nat)):Int)∧True)∧RowD.mk (Ty.nm Nm.dismissal_way) wtab=RowD.mk (Ty.nm Nm.dismissal_way) wtab∧RowD.mk (Ty.int IntKind.u8) (fY t free i++[(wtab.getD (↑i:Int).toNat (dflt (Ty.nm Nm.dismissal_way))).1])=RowD.mk (Ty.int IntKind.u8) (fY t free (i +(1:Nat)))∧True)∧((cond (onW (wtab.getD (↑i:Int).toNat (dflt (Ty.nm Nm.dismissal_way))) t) (cond (!free) true (cond ((wtab.getD (↑i:Int).toNat (dflt (Ty.nm Nm.dismissal_way))).1==6) true (cond ((wtab.getD (↑i:Int).toNat (dflt (Ty.nm Nm.dismissal_way))).1==7) true ((wtab.getD (↑i:Int).toNat (dflt (Ty.nm Nm.dismissal_way))).1==8)))) false)=false→wj (i +(1:Nat))∧(11:Nat) - (i +(1:Nat)) <(11:Nat) - i∧(t=t∧free=free∧True∧True∧(↑wtab.length:Int) =(↑wtab.length:Int)∧IntKind.i64.wrap ((↑i:Int)+1) =(↑(i +(1:Nat)):Int)∧True)∧RowD.mk (Ty.nm Nm.dismissal_way) wtab=RowD.mk (Ty.nm Nm.dismissal_way) wtab∧RowD.mk (Ty.int IntKind.u8) (fY t free i)=RowD.mk (Ty.int IntKind.u8) (fY t free (i +(1:Nat)))∧True))∧(decide ((↑i:Int) <(↑wtab.length:Int))=false→True∧(True∧True)∧RowD.mk (Ty.int IntKind.u8) (fY t free i)=RowD.mk (Ty.int IntKind.u8) (jj t free)∧True))
 have e :(i:Int).toNat=i:=by simp
 rw [e]
 generalize hw:wtab.getD i (dflt (Ty.nm Nm.dismissal_way))=w
 rw [L0]
 refine ⟨fun h1=>?_,fun h1=>?_⟩
 ·have h1:i<wtab.length:=by simpa using h1
  have h3:wtab[i]?=some w:=by rw [←hw];exact oG _ h1
  have hu:=FV t free i h3
  rw [QF] at h1
  have hwr:IntKind.i64.wrap ((i:Int)+1) =((i+1:Nat):Int):=by rw [de (by omega) (by omega)];omega
  refine ⟨⟨by omega,by rw [QF];omega⟩,fun h2=>?_,fun h2=>?_⟩
  ·rw [h2] at hu
   refine ⟨?_,(by unfold wj;omega),by omega,⟨rfl,rfl,trivial,trivial,rfl,hwr,trivial⟩,rfl,by rw [hu];rfl,trivial⟩
   have:=Iu t free i
   simp only [List.length_cons,List.length_nil]
   omega
  ·rw [h2] at hu
   refine ⟨(by unfold wj;omega),by omega,⟨rfl,rfl,trivial,trivial,rfl,hwr,trivial⟩,rfl,by rw [hu];simp,trivial⟩
 ·have h1:wtab.length≤i:=by simpa using h1
  have hu:fY t free i=jj t free:=by unfold fY jj;rw [List.take_of_length_le h1]
  exact ⟨trivial,⟨trivial,trivial⟩,by rw [hu],trivial⟩
theorem O6 (t:Int) (free:Bool):LoopsOK Tryz.prog Tryz.f207.ntmps [az Tryz.f207 0] (Λ20 t free):=
 .cons (L:=ck ⟨[],[16],20⟩ (J20 t free 0) (T20 t free)) (by kernel_rfl) (gD (jc (.cons Pg (.cons Uz .nil)) _) mixed (J20 t free) (fun _=>rfl) wj (fun i=>11 - i) (fun _ _=>none) (fun _ _ _ _ _ h=>by cases h) (T20 t free) [] [16] 0 (Nat.zero_le _) L20 (Ta t free)) .nil
theorem UJ (t:Int) (free:Bool) :(evFn (iA [k61,k62] Tryz.f207) (Λ20 t free) Tryz.f207 (bF PM (t,free,()))).sat fun v' rows=>leV v' (Cy (t,free,())).v∧rows =(Cy (t,free,())).rows:=by
 refine cast (by kernel_rfl) (?_ :((cZ fun x=>none)∧(t=t∧free=free∧True∧True∧(↑wtab.length:Int) =(↑wtab.length:Int)∧0 =(↑(0:Nat):Int)∧True)∧RowD.mk (Ty.nm Nm.dismissal_way) wtab=RowD.mk (Ty.nm Nm.dismissal_way) wtab∧fY t free (0:Nat)=[]∧True)∧(nat_lit 0=nat_lit 0∧nat_lit 0=nat_lit 0)∧ [RowD.mk (Ty.int IntKind.u8) (jj t free)]=[RowD.mk (Ty.int IntKind.u8) (jj t free)])
 exact ⟨⟨rfl,⟨rfl,rfl,trivial,trivial,rfl,rfl,trivial⟩,rfl,rfl,trivial⟩,⟨rfl,rfl⟩,rfl⟩
theorem VH:CtrOK Tryz.prog KK 207 (au KK PM Cy):=by
 refine aV (C:=iA [k61,k62] Tryz.f207) (jc (.cons Pg (.cons Uz .nil)) _) mixed (fn:=Tryz.f207) Tryz.func207 (by kernel_rfl) (by kernel_rfl) (by kernel_rfl) (Λ:=fun x=>Λ20 x.1 x.2.1) ?_ ?_ ?_
 ·rintro ⟨t,free,⟨⟩⟩ _ _
  exact LoopsOK.at (by kernel_rfl) (O6 t free)
 ·rintro ⟨t,free,⟨⟩⟩
  exact of_decide_eq_true (by kernel_rfl)
 ·rintro ⟨t,free,⟨⟩⟩ _ _
  exact UJ t free
theorem IL (xs:List Int) (v i:Int) (hi:0≤i):decide (idx xs v i≥0)=qa xs v:=by
 induction xs generalizing i with
 | nil=>simp [idx,qa]
 | cons x xs ih=>
  by_cases hv:v=x
  ·subst hv;simp [idx,qa,hi]
  ·have h1 :(v==x)=false:=by simpa using hv
   have h2:=ih (i+1) (by omega)
   simp only [idx,h1,cond_false]
   rw [h2]
   simp [qa,hv]
theorem UK (xs:List Int) (v:Int) :(evFn (iA [k63] Tryz.f206) (fun _=>none) Tryz.f206 (bF PN (xs,v,()))).sat fun v' rows=>leV v' (Cz (xs,v,())).v∧rows =(Cz (xs,v,())).rows:=by
 refine cast (by kernel_rfl) (?_:decide (idx xs v (0:Int)≥0)=qa xs v∧([]:List RowD)=[])
 exact ⟨IL xs v 0 (Int.le_refl 0),rfl⟩
theorem VI:CtrOK Tryz.prog KK 206 (au KK PN Cz):=by
 refine aV (C:=iA [k63] Tryz.f206) (jc (.cons VQ .nil) _) mixed (fn:=Tryz.f206) Tryz.func206 (by kernel_rfl) (by kernel_rfl) (by kernel_rfl) (Λ:=fun _ _=>none) ?_ ?_ ?_
 ·exact fun _ _ _ _ _ _ _ _ h=>by cases h
 ·rintro ⟨xs,v,⟨⟩⟩
  exact of_decide_eq_true (by kernel_rfl)
 ·rintro ⟨xs,v,⟨⟩⟩ _ _
  exact UK xs v
theorem UU (d:Delivery) (w:dismissal_way) :(evFn (iA [k89] Tryz.f208) (fun _=>none) Tryz.f208 (bF PP (d,w,()))).sat fun v' rows=>leV v' (CD (d,w,())).v∧rows =(CD (d,w,())).rows:=by
 refine cast (by kernel_rfl) (?_ :((cond (!w.6==mr d.9) true (cond (!w.6) (d.9 != 0) false))=true→false=gd d w∧([]:List RowD)=[])∧((cond (!w.6==mr d.9) true (cond (!w.6) (d.9 != 0) false))=false→(cond (d.10==0) true (cond (d.7==6) (cond (mr d.10) (d.10 != d.9) false) false))=gd d w∧([]:List RowD)=[]))
 simp only [gd];grind
theorem VN:CtrOK Tryz.prog KK 208 (au KK PP CD):=by
 refine aV (C:=iA [k89] Tryz.f208) (jc (.cons VW .nil) _) mixed (fn:=Tryz.f208) Tryz.func208 (by kernel_rfl) (by kernel_rfl) (by kernel_rfl) (Λ:=fun _ _=>none) ?_ ?_ ?_
 ·exact fun _ _ _ _ _ _ _ _ h=>by cases h
 ·rintro ⟨d,w,⟨⟩⟩
  exact of_decide_eq_true (by kernel_rfl)
 ·rintro ⟨d,w,⟨⟩⟩ _ _
  exact UU d w
theorem UH (d:Delivery) (free:Bool) :(evFn (iA [k57,k20,k21,k58] Tryz.f164) (fun _=>none) Tryz.f164 (bF psP (d,free,()))).sat fun v' rows=>leV v' (Cw (d,free,())).v∧rows =(Cw (d,free,())).rows:=by
 refine cast (by kernel_rfl) (?_ :((d.7==0)=true→((d.8 != 0)=true→14=ca d free∧([]:List RowD)=[])∧((d.8 != 0)=false→((cond (d.9 != 0) true (cond (d.10 != 0) true d.11))=true→15=ca d free∧([]:List RowD)=[])∧((cond (d.9 != 0) true (cond (d.10 != 0) true d.11))=false→0=ca d free∧([]:List RowD)=[])))∧((d.7==0)=false→((!qa (jj d.1 free) d.7)=true→13=ca d free∧([]:List RowD)=[])∧((!qa (jj d.1 free) d.7)=false→((cond (!cond (d.7==6) true (d.7==8)) (cond (d.2 != 0) true (d.3 != 0)) false)=true→12=ca d free∧([]:List RowD)=[])∧((cond (!cond (d.7==6) true (d.7==8)) (cond (d.2 != 0) true (d.3 != 0)) false)=false→((cond (d.8 != 1) (cond (d.8 != 2) true (!(ofW d.7).7)) false)=true→14=ca d free∧([]:List RowD)=[])∧((cond (d.8 != 1) (cond (d.8 != 2) true (!(ofW d.7).7)) false)=false→((!gd d (ofW d.7))=true→15=ca d free∧([]:List RowD)=[])∧((!gd d (ofW d.7))=false→((cond d.11 (cond (d.7 != 2) (d.7 != 6) false) false)=true→18=ca d free∧([]:List RowD)=[])∧((cond d.11 (cond (d.7 != 2) (d.7 != 6) false) false)=false→0=ca d free∧([]:List RowD)=[])))))))
 simp only [ca,qa]
 repeat' first|refine And.intro ?_ ?_|intro _
 all_goals grind
theorem Uw:CtrOK Tryz.prog KK 164 (au KK psP Cw):=by
 refine aV (C:=iA [k57,k20,k21,k58] Tryz.f164) (jc (.cons VM (.cons VH (.cons VI (.cons VN .nil)))) _) mixed (fn:=Tryz.f164) Tryz.func164 (by kernel_rfl) (by kernel_rfl) (by kernel_rfl) (Λ:=fun _ _=>none) ?_ ?_ ?_
 ·exact fun _ _ _ _ _ _ _ _ h=>by cases h
 ·rintro ⟨d,free,⟨⟩⟩
  exact of_decide_eq_true (by kernel_rfl)
 ·rintro ⟨d,free,⟨⟩⟩ _ _
  exact UH d free
theorem UI (d:Delivery) (free:Bool) :(evFn (iA [k29,k59,k60] Tryz.f360) (fun _=>none) Tryz.f360 (bF psP (d,free,()))).sat fun v' rows=>leV v' (Cx (d,free,())).v∧rows =(Cx (d,free,())).rows:=by
 refine cast (by kernel_rfl) (?_ :((d.7==0)=true→((d.8 != 0)=true→14=cr d free∧([]:List RowD)=[])∧((d.8 != 0)=false→((cond (d.9 != 0) true (cond (d.10 != 0) true d.11))=true→15=cr d free∧([]:List RowD)=[])∧((cond (d.9 != 0) true (cond (d.10 != 0) true d.11))=false→0=cr d free∧([]:List RowD)=[])))∧((d.7==0)=false→((cond (!onR d.7 d.1) true (cond free (!gE d.7) false))=true→13=cr d free∧([]:List RowD)=[])∧((cond (!onR d.7 d.1) true (cond free (!gE d.7) false))=false→((cond (!cond (d.7==6) true (d.7==8)) (cond (d.2 != 0) true (d.3 != 0)) false)=true→12=cr d free∧([]:List RowD)=[])∧((cond (!cond (d.7==6) true (d.7==8)) (cond (d.2 != 0) true (d.3 != 0)) false)=false→((cond (d.8 != 1) (cond (d.8==2) (!cond (d.7==6) true (d.7==8)) (!false)) false)=true→14=cr d free∧([]:List RowD)=[])∧((cond (d.8 != 1) (cond (d.8==2) (!cond (d.7==6) true (d.7==8)) (!false)) false)=false→((cond (pz d.7) (cond (decide (d.9<1)) true (cond (decide (d.9>11)) true (cond (!pz d.7) (d.9 != 0) false))) (cond (!pz d.7) (d.9 != 0) false))=true→15=cr d free∧([]:List RowD)=[])∧((cond (pz d.7) (cond (decide (d.9<1)) true (cond (decide (d.9>11)) true (cond (!pz d.7) (d.9 != 0) false))) (cond (!pz d.7) (d.9 != 0) false))=false→((cond (d.10 != 0) (cond (!y8 d.7) true (cond (decide (d.10<1)) true (cond (decide (d.10>11)) true (d.10==d.9)))) false)=true→15=cr d free∧([]:List RowD)=[])∧((cond (d.10 != 0) (cond (!y8 d.7) true (cond (decide (d.10<1)) true (cond (decide (d.10>11)) true (d.10==d.9)))) false)=false→((cond d.11 (cond (d.7 != 2) (d.7 != 6) false) false)=true→18=cr d free∧([]:List RowD)=[])∧((cond d.11 (cond (d.7 != 2) (d.7 != 6) false) false)=false→0=cr d free∧([]:List RowD)=[]))))))))
 simp only [cr,y8,Bool.cond_true_left,Bool.cond_false_right,Bool.not_false]
 repeat' first|refine And.intro ?_ ?_|intro _
 all_goals first|rfl |(simp_all;done)|grind
theorem VG:CtrOK Tryz.prog KK 360 (au KK psP Cx):=by
 refine aV (C:=iA [k29,k59,k60] Tryz.f360) (jc (.cons VJ (.cons VO (.cons VP .nil))) _) mixed (fn:=Tryz.f360) Tryz.func360 (by kernel_rfl) (by kernel_rfl) (by kernel_rfl) (Λ:=fun _ _=>none) ?_ ?_ ?_
 ·exact fun _ _ _ _ _ _ _ _ h=>by cases h
 ·rintro ⟨d,free,⟨⟩⟩
  exact of_decide_eq_true (by kernel_rfl)
 ·rintro ⟨d,free,⟨⟩⟩ _ _
  exact UI d free
def gP (n:Int):Prop:= -9223372036854775808≤n∧n≤9223372036854775807
theorem dk {n:Int} (h:wfD (.int .i64) n):gP n:=by
 obtain ⟨S,w,cs,h⟩:=h
 cases h with|int h=>exact ⟨by have:=h.1;simpa [IntKind.min,IntKind.max,IntKind.signed,IntKind.bits] using this,by have:=h.2;simpa [IntKind.min,IntKind.max,IntKind.signed,IntKind.bits] using this⟩
theorem sj {x:Innings} {p:Int} (hp:gP p) (h:bC x p=true):IntKind.i64.wrap (p - 1)=p - 1∧0≤p - 1∧p - 1 <(x.Subs.length:Int):=by
 simp only [bC,Bool.and_eq_true,decide_eq_true_eq] at h
 have:=hp.2
 exact ⟨de (by omega) (by omega),by omega,by omega⟩
theorem U1 (x:Innings) (p:Int) :(evFn (cf8 [] Tryz.f382) (fun _=>none) Tryz.f382 (bF lj (x,p,()))).sat fun v' rows=>leV v' (od (x,p,())).v∧rows =(od (x,p,())).rows:=by
 refine cast (by kernel_rfl) (?_ :(cond (decide (p≥1)) (decide (p≤(↑x.21.length:Int))) false)=bC x p∧([]:List RowD)=[])
 simp only [bC];grind
theorem ML:CtrOK Tryz.prog K8 382 (au K8 lj od):=by
 refine aV (C:=cf8 [] Tryz.f382) (bK (CtrsOK.nil) _) mixed (fn:=Tryz.f382) Tryz.func382 (by kernel_rfl) (by kernel_rfl) (by kernel_rfl) (Λ:=fun _ _=>none) ?_ ?_ ?_
 ·exact fun _ _ _ _ _ _ _ _ h=>by cases h
 ·rintro ⟨x,p,⟨⟩⟩
  exact of_decide_eq_true (by kernel_rfl)
 ·rintro ⟨x,p,⟨⟩⟩ hw hn
  exact U1 x p
theorem U4 (x:Innings) (p:Int) :(evFn (cf8 [] Tryz.f366) (fun _=>none) Tryz.f366 (bF lj (x,p,()))).sat fun v' rows=>leV v' (od (x,p,())).v∧rows =(od (x,p,())).rows:=by
 refine cast (by kernel_rfl) (?_ :(cond (decide (p≥1)) (decide (p≤(↑x.21.length:Int))) false)=bC x p∧([]:List RowD)=[])
 simp only [bC];grind
theorem Pi:CtrOK Tryz.prog K8 366 (au K8 lj od):=by
 refine aV (C:=cf8 [] Tryz.f366) (bK (CtrsOK.nil) _) mixed (fn:=Tryz.f366) Tryz.func366 (by kernel_rfl) (by kernel_rfl) (by kernel_rfl) (Λ:=fun _ _=>none) ?_ ?_ ?_
 ·exact fun _ _ _ _ _ _ _ _ h=>by cases h
 ·rintro ⟨x,p,⟨⟩⟩
  exact of_decide_eq_true (by kernel_rfl)
 ·rintro ⟨x,p,⟨⟩⟩ hw hn
  exact U4 x p
theorem U2 (x:Innings) (p:Int) (hp:gP p) :(evFn (cf8 [k73] Tryz.f383) (fun _=>none) Tryz.f383 (bF lj (x,p,()))).sat fun v' rows=>leV v' (oe (x,p,())).v∧rows =(oe (x,p,())).rows:=by
 refine cast (by kernel_rfl) (?_ :((bC x p=true→(0≤IntKind.i64.wrap (p - 1)∧IntKind.i64.wrap (p - 1) <(↑x.21.length:Int))∧True)∧(bC x p=false→True))∧(true=true→(cond (bC x p) (x.21.getD (IntKind.i64.wrap (p - 1)).toNat (dflt Ty.bool)) false)=aG x p∧([]:List RowD)=[]))
 refine ⟨⟨fun h=>⟨?_,trivial⟩,fun _=>trivial⟩,fun _=>⟨?_,rfl⟩⟩
 ·obtain ⟨e,h1,h2⟩:=sj hp h
  rw [e];exact ⟨h1,h2⟩
 ·cases h:bC x p with
  | false=>simp [aG,h]
  | true=>
   obtain ⟨e,h1,h2⟩:=sj hp h
   rw [e];simp only [cond_true,aG,h,Bool.true_and];rfl
theorem Ph:CtrOK Tryz.prog K8 383 (au K8 lj oe):=by
 refine aV (C:=cf8 [k73] Tryz.f383) (bK (.cons ML .nil) _) mixed (fn:=Tryz.f383) Tryz.func383 (by kernel_rfl) (by kernel_rfl) (by kernel_rfl) (Λ:=fun _ _=>none) ?_ ?_ ?_
 ·exact fun _ _ _ _ _ _ _ _ h=>by cases h
 ·rintro ⟨x,p,⟨⟩⟩
  exact of_decide_eq_true (by kernel_rfl)
 ·rintro ⟨x,p,⟨⟩⟩ hw hn
  exact U2 x p (dk (aU (aN hw)))
theorem U0 (x:Innings) (p:Int) (hp:gP p) :(evFn (cf8 [] Tryz.f367) (fun _=>none) Tryz.f367 (bF lj (x,p,()))).sat fun v' rows=>leV v' (oe (x,p,())).v∧rows =(oe (x,p,())).rows:=by
 refine cast (by kernel_rfl) (?_ :((decide (p≥1)=true→(decide (p≤(↑x.21.length:Int))=true→(0≤IntKind.i64.wrap (p - 1)∧IntKind.i64.wrap (p - 1) <(↑x.21.length:Int))∧True)∧(decide (p≤(↑x.21.length:Int))=false→True))∧(decide (p≥1)=false→True))∧(true=true→(cond (decide (p≥1)) (cond (decide (p≤(↑x.21.length:Int))) (x.21.getD (IntKind.i64.wrap (p - 1)).toNat (dflt Ty.bool)) false) false)=aG x p∧([]:List RowD)=[]))
 have hk :∀ b c:Bool,decide (p≥1)=b→decide (p≤(x.Subs.length:Int))=c→bC x p =(b&&c):=fun b c hb hc=>by simp only [bC,hb,hc]
 refine ⟨⟨fun h1=>⟨fun h2=>⟨?_,trivial⟩,fun _=>trivial⟩,fun _=>trivial⟩,fun _=>⟨?_,rfl⟩⟩
 ·obtain ⟨e,h1,h2⟩:=sj hp (hk _ _ h1 h2)
  rw [e];exact ⟨h1,h2⟩
 ·cases h1:decide (p≥1) with
  | false=>simp only [cond_false,aG,hk _ _ h1 rfl,Bool.false_and]
  | true=>
   cases h2:decide (p≤(x.Subs.length:Int)) with
   | false=>simp only [cond_true,cond_false,aG,hk _ _ h1 h2,Bool.and_false,Bool.false_and]
   | true=>
    obtain ⟨e,h3,h4⟩:=sj hp (hk _ _ h1 h2)
    rw [e];simp only [cond_true,aG,hk _ _ h1 h2,Bool.true_and];rfl
theorem MK:CtrOK Tryz.prog K8 367 (au K8 lj oe):=by
 refine aV (C:=cf8 [] Tryz.f367) (bK (CtrsOK.nil) _) mixed (fn:=Tryz.f367) Tryz.func367 (by kernel_rfl) (by kernel_rfl) (by kernel_rfl) (Λ:=fun _ _=>none) ?_ ?_ ?_
 ·exact fun _ _ _ _ _ _ _ _ h=>by cases h
 ·rintro ⟨x,p,⟨⟩⟩
  exact of_decide_eq_true (by kernel_rfl)
 ·rintro ⟨x,p,⟨⟩⟩ hw hn
  exact U0 x p (dk (aU (aN hw)))
theorem JM {n:Nm} {x:n.T} (h:wfD (.nm n) x):wfD n.flds (n.to x):=by
 obtain ⟨S,w,cs,h⟩:=h
 cases h with|nm h=>exact ⟨_,_,_,h⟩
theorem iQ {r:Rules} (h:wfD (.nm .Rules) r):r.Power.length≤aJ:=
 cN (aU (aN (aN (aN (aN (aN (aN (aN (aN (aN (aN (aN (aN (aN (JM h)))))))))))))))
theorem Td (r:Rules) (o:Int) (hx:r.Power.length≤aJ) (i:Nat) (hi:tA r o i) :(stepObl (J75 r o) (tA r o) (fun i=>r.Power.length - i) i (T75 r o) (bL (cf8 [] Tryz.f397) (fun _=>none) (az Tryz.f397 0) (J75 r o i)) (L75 i)).1:=by
 refine cast (by kernel_rfl) (?_ :(decide ((↑i:Int) <(↑r.14.length:Int))=true→(0≤(↑i:Int)∧(↑i:Int) <(↑r.14.length:Int))∧((cond (decide ((r.14.getD (↑i:Int).toNat (dflt (Ty.nm Nm.Phase))).1≤IntKind.i64.wrap (o+1))) (decide (IntKind.i64.wrap (o+1)≤(r.14.getD (↑i:Int).toNat (dflt (Ty.nm Nm.Phase))).2)) false)=true→r.14.any (cG o)=true∧((r.14.getD (↑i:Int).toNat (dflt (Ty.nm Nm.Phase))).3=bV r o∧True)∧True)∧((cond (decide ((r.14.getD (↑i:Int).toNat (dflt (Ty.nm Nm.Phase))).1≤IntKind.i64.wrap (o+1))) (decide (IntKind.i64.wrap (o+1)≤(r.14.getD (↑i:Int).toNat (dflt (Ty.nm Nm.Phase))).2)) false)=false→tA r o (i +(1:Nat))∧r.14.length - (i +(1:Nat))<r.14.length - i∧(o=o∧True∧RowD.mk (Ty.nm Nm.Phase) r.14=RowD.mk (Ty.nm Nm.Phase) r.14∧(↑r.14.length:Int) =(↑r.14.length:Int)∧IntKind.i64.wrap ((↑i:Int)+1) =(↑(i +(1:Nat)):Int)∧True)∧(r.1=r.1∧r.2=r.2∧r.3=r.3∧r.4=r.4∧r.5=r.5∧r.6=r.6∧r.7=r.7∧r.8=r.8∧r.9=r.9∧r.10=r.10∧r.11=r.11∧r.12=r.12∧r.13=r.13∧RowD.mk (Ty.nm Nm.Phase) r.14=RowD.mk (Ty.nm Nm.Phase) r.14∧True)∧True))∧(decide ((↑i:Int) <(↑r.14.length:Int))=false→r.14.any (cG o)=false∧(True∧True)∧(r.1=r.1∧r.2=r.2∧r.3=r.3∧r.4=r.4∧r.5=r.5∧r.6=r.6∧r.7=r.7∧r.8=r.8∧r.9=r.9∧r.10=r.10∧r.11=r.11∧r.12=r.12∧r.13=r.13∧RowD.mk (Ty.nm Nm.Phase) r.14=RowD.mk (Ty.nm Nm.Phase) r.14∧True)∧True))
 have e :(i:Int).toNat=i:=by simp
 rw [e]
 generalize hw:r.Power.getD i (dflt (Ty.nm Nm.Phase))=w
 have hc :(bif decide (w.From≤IntKind.i64.wrap (o+1)) then decide (IntKind.i64.wrap (o+1)≤w.To) else false)=cG o w:=by simp only [cG];cases decide (w.From≤IntKind.i64.wrap (o+1)) <;> rfl
 have hb:r.Power.length≤140737488355328:=hx
 refine ⟨fun h1=>?_,fun h1=>?_⟩
 ·have h1:i<r.Power.length:=by simpa using h1
  have h3:r.Power[i]?=some w:=by rw [←hw];exact oG _ h1
  refine ⟨⟨by omega,by omega⟩,fun h2=>?_,fun h2=>?_⟩
  ·have h2:cG o w=true:=by rw [←hc];exact h2
   have h4:bV r o=w.Outside:=by
    unfold bV
    rw [uN (cG o) r.Power i w h3 h2 hi.2];rfl
   have h5:r.Power.any (cG o)=true:=List.any_eq_true.2 ⟨w,List.mem_of_getElem? h3,h2⟩
   rw [h4]
   simp [h5]
  ·have h2:cG o w=false:=by rw [←hc];exact h2
   refine ⟨⟨by omega,fun y hy=>?_⟩,by omega,⟨rfl,trivial,rfl,rfl,?_,trivial⟩,by simp⟩
   ·rw [List.take_add_one,h3] at hy
    rcases List.mem_append.1 hy with hy|hy
    ·exact hi.2 y hy
    ·simp at hy;subst hy;exact h2
   ·rw [de (by omega) (by omega)];omega
 ·have h1:r.Power.length≤i:=by simpa using h1
  have:r.Power.any (cG o)=false:=by
   rw [List.any_eq_false]
   intro x hx
   have:=hi.2 x (by rw [List.take_of_length_le h1];exact hx)
   simpa using this
  simp [this]
theorem R9 (r:Rules) (o:Int) (hx:r.Power.length≤aJ):LoopOK Tryz.prog Tryz.f397.ntmps (az Tryz.f397 0) (ck ⟨[],[],48⟩ (J75 r o 0) (T75 r o)):=
 gD (bK (CtrsOK.nil) _) mixed (J75 r o) (fun _=>rfl) (tA r o) (fun i=>r.Power.length - i) (fun _ _=>none) (fun _ _ _ _ _ h=>by cases h) (T75 r o) [] [] 0 (⟨Nat.zero_le _,by simp⟩) L75 (fun i hi=>Td r o hx i hi)
theorem U3 (r:Rules) (o:Int) (hx:r.Power.length≤aJ) :(evFn (cf8 [] Tryz.f397) (Λ75 r o) Tryz.f397 (bF psR (r,o,()))).sat fun v' rows=>leV v' (og (r,o,())).v∧rows =(og (r,o,())).rows:=by
 refine cast (by kernel_rfl) (?_ :((cZ fun x=>none)∧(o=o∧True∧RowD.mk (Ty.nm Nm.Phase) r.14=RowD.mk (Ty.nm Nm.Phase) r.14∧(↑r.14.length:Int) =(↑r.14.length:Int)∧0 =(↑(0:Nat):Int)∧True)∧(r.1=r.1∧r.2=r.2∧r.3=r.3∧r.4=r.4∧r.5=r.5∧r.6=r.6∧r.7=r.7∧r.8=r.8∧r.9=r.9∧r.10=r.10∧r.11=r.11∧r.12=r.12∧r.13=r.13∧RowD.mk (Ty.nm Nm.Phase) r.14=RowD.mk (Ty.nm Nm.Phase) r.14∧True)∧True)∧(r.14.any (cG o)=true→bV r o=bV r o∧([]:List RowD)=[])∧(r.14.any (cG o)=false→r.13=bV r o∧([]:List RowD)=[]))
 have hN:r.Power.any (cG o)=false→bV r o=r.Outside:=fun h1=>by
  unfold bV
  rw [List.find?_eq_none.2 fun x hx=>(List.any_eq_false.1 h1) x hx];rfl
 refine ⟨⟨rfl,⟨rfl,trivial,rfl,rfl,rfl,trivial⟩,by simp⟩,fun _=>by simp,fun h=>by rw [hN h];simp⟩
theorem VR:CtrOK Tryz.prog K8 397 (au K8 psR og):=by
 refine aV (C:=cf8 [] Tryz.f397) (bK (CtrsOK.nil) _) mixed (fn:=Tryz.f397) Tryz.func397 (by kernel_rfl) (by kernel_rfl) (by kernel_rfl) (Λ:=fun x=>Λ75 x.1 x.2.1) ?_ ?_ ?_
 ·rintro ⟨r,o,⟨⟩⟩ hw hn
  exact LoopsOK.at (by kernel_rfl) (.cons (by kernel_rfl) (R9 r o (iQ (aU hw))) .nil)
 ·rintro ⟨r,o,⟨⟩⟩
  exact of_decide_eq_true (by kernel_rfl)
 ·rintro ⟨r,o,⟨⟩⟩ hw hn
  exact U3 r o (iQ (aU hw))
theorem Te (r:Rules) (o:Int) (hx:r.Power.length≤aJ) (i:Nat) (hi:tA r o i) :(stepObl (J75 r o) (tA r o) (fun i=>r.Power.length - i) i (T75 r o) (bL (cf8 [] Tryz.f388) (fun _=>none) (az Tryz.f388 0) (J75 r o i)) (L75 i)).1:=by
 refine cast (by kernel_rfl) (?_ :(decide ((↑i:Int) <(↑r.14.length:Int))=true→(0≤(↑i:Int)∧(↑i:Int) <(↑r.14.length:Int))∧((cond (decide ((r.14.getD (↑i:Int).toNat (dflt (Ty.nm Nm.Phase))).1≤IntKind.i64.wrap (o+1))) (decide (IntKind.i64.wrap (o+1)≤(r.14.getD (↑i:Int).toNat (dflt (Ty.nm Nm.Phase))).2)) false)=true→r.14.any (cG o)=true∧((r.14.getD (↑i:Int).toNat (dflt (Ty.nm Nm.Phase))).3=bV r o∧True)∧True)∧((cond (decide ((r.14.getD (↑i:Int).toNat (dflt (Ty.nm Nm.Phase))).1≤IntKind.i64.wrap (o+1))) (decide (IntKind.i64.wrap (o+1)≤(r.14.getD (↑i:Int).toNat (dflt (Ty.nm Nm.Phase))).2)) false)=false→tA r o (i +(1:Nat))∧r.14.length - (i +(1:Nat))<r.14.length - i∧(o=o∧True∧RowD.mk (Ty.nm Nm.Phase) r.14=RowD.mk (Ty.nm Nm.Phase) r.14∧(↑r.14.length:Int) =(↑r.14.length:Int)∧IntKind.i64.wrap ((↑i:Int)+1) =(↑(i +(1:Nat)):Int)∧True)∧(r.1=r.1∧r.2=r.2∧r.3=r.3∧r.4=r.4∧r.5=r.5∧r.6=r.6∧r.7=r.7∧r.8=r.8∧r.9=r.9∧r.10=r.10∧r.11=r.11∧r.12=r.12∧r.13=r.13∧RowD.mk (Ty.nm Nm.Phase) r.14=RowD.mk (Ty.nm Nm.Phase) r.14∧True)∧True))∧(decide ((↑i:Int) <(↑r.14.length:Int))=false→r.14.any (cG o)=false∧(True∧True)∧(r.1=r.1∧r.2=r.2∧r.3=r.3∧r.4=r.4∧r.5=r.5∧r.6=r.6∧r.7=r.7∧r.8=r.8∧r.9=r.9∧r.10=r.10∧r.11=r.11∧r.12=r.12∧r.13=r.13∧RowD.mk (Ty.nm Nm.Phase) r.14=RowD.mk (Ty.nm Nm.Phase) r.14∧True)∧True))
 have e :(i:Int).toNat=i:=by simp
 rw [e]
 generalize hw:r.Power.getD i (dflt (Ty.nm Nm.Phase))=w
 have hc :(bif decide (w.From≤IntKind.i64.wrap (o+1)) then decide (IntKind.i64.wrap (o+1)≤w.To) else false)=cG o w:=by simp only [cG];cases decide (w.From≤IntKind.i64.wrap (o+1)) <;> rfl
 have hb:r.Power.length≤140737488355328:=hx
 refine ⟨fun h1=>?_,fun h1=>?_⟩
 ·have h1:i<r.Power.length:=by simpa using h1
  have h3:r.Power[i]?=some w:=by rw [←hw];exact oG _ h1
  refine ⟨⟨by omega,by omega⟩,fun h2=>?_,fun h2=>?_⟩
  ·have h2:cG o w=true:=by rw [←hc];exact h2
   have h4:bV r o=w.Outside:=by
    unfold bV
    rw [uN (cG o) r.Power i w h3 h2 hi.2];rfl
   have h5:r.Power.any (cG o)=true:=List.any_eq_true.2 ⟨w,List.mem_of_getElem? h3,h2⟩
   rw [h4]
   simp [h5]
  ·have h2:cG o w=false:=by rw [←hc];exact h2
   refine ⟨⟨by omega,fun y hy=>?_⟩,by omega,⟨rfl,trivial,rfl,rfl,?_,trivial⟩,by simp⟩
   ·rw [List.take_add_one,h3] at hy
    rcases List.mem_append.1 hy with hy|hy
    ·exact hi.2 y hy
    ·simp at hy;subst hy;exact h2
   ·rw [de (by omega) (by omega)];omega
 ·have h1:r.Power.length≤i:=by simpa using h1
  have:r.Power.any (cG o)=false:=by
   rw [List.any_eq_false]
   intro x hx
   have:=hi.2 x (by rw [List.take_of_length_le h1];exact hx)
   simpa using this
  simp [this]
theorem Sa (r:Rules) (o:Int) (hx:r.Power.length≤aJ):LoopOK Tryz.prog Tryz.f388.ntmps (az Tryz.f388 0) (ck ⟨[],[],48⟩ (J75 r o 0) (T75 r o)):=
 gD (bK (CtrsOK.nil) _) mixed (J75 r o) (fun _=>rfl) (tA r o) (fun i=>r.Power.length - i) (fun _ _=>none) (fun _ _ _ _ _ h=>by cases h) (T75 r o) [] [] 0 (⟨Nat.zero_le _,by simp⟩) L75 (fun i hi=>Te r o hx i hi)
theorem U5 (r:Rules) (o:Int) (hx:r.Power.length≤aJ) :(evFn (cf8 [] Tryz.f388) (Λ75 r o) Tryz.f388 (bF psR (r,o,()))).sat fun v' rows=>leV v' (og (r,o,())).v∧rows =(og (r,o,())).rows:=by
 refine cast (by kernel_rfl) (?_ :((cZ fun x=>none)∧(o=o∧True∧RowD.mk (Ty.nm Nm.Phase) r.14=RowD.mk (Ty.nm Nm.Phase) r.14∧(↑r.14.length:Int) =(↑r.14.length:Int)∧0 =(↑(0:Nat):Int)∧True)∧(r.1=r.1∧r.2=r.2∧r.3=r.3∧r.4=r.4∧r.5=r.5∧r.6=r.6∧r.7=r.7∧r.8=r.8∧r.9=r.9∧r.10=r.10∧r.11=r.11∧r.12=r.12∧r.13=r.13∧RowD.mk (Ty.nm Nm.Phase) r.14=RowD.mk (Ty.nm Nm.Phase) r.14∧True)∧True)∧(r.14.any (cG o)=true→bV r o=bV r o∧([]:List RowD)=[])∧(r.14.any (cG o)=false→r.13=bV r o∧([]:List RowD)=[]))
 have hN:r.Power.any (cG o)=false→bV r o=r.Outside:=fun h1=>by
  unfold bV
  rw [List.find?_eq_none.2 fun x hx=>(List.any_eq_false.1 h1) x hx];rfl
 refine ⟨⟨rfl,⟨rfl,trivial,rfl,rfl,rfl,trivial⟩,by simp⟩,fun _=>by simp,fun h=>by rw [hN h];simp⟩
theorem VS:CtrOK Tryz.prog K8 388 (au K8 psR og):=by
 refine aV (C:=cf8 [] Tryz.f388) (bK (CtrsOK.nil) _) mixed (fn:=Tryz.f388) Tryz.func388 (by kernel_rfl) (by kernel_rfl) (by kernel_rfl) (Λ:=fun x=>Λ75 x.1 x.2.1) ?_ ?_ ?_
 ·rintro ⟨r,o,⟨⟩⟩ hw hn
  exact LoopsOK.at (by kernel_rfl) (.cons (by kernel_rfl) (Sa r o (iQ (aU hw))) .nil)
 ·rintro ⟨r,o,⟨⟩⟩
  exact of_decide_eq_true (by kernel_rfl)
 ·rintro ⟨r,o,⟨⟩⟩ hw hn
  exact U5 r o (iQ (aU hw))
theorem UM (r:Rules) (x:Innings) :(evFn (cf8 [k73,k74,k75] Tryz.f395) (fun _=>none) Tryz.f395 (bF G4 (r,x,()))).sat fun v' rows=>leV v' (oa (r,x,())).v∧rows =(oa (r,x,())).rows:=by
 refine cast (by kernel_rfl) (?_ :((cond (!bC x x.19) true (cond (aG x x.19) true (x.19==x.12)))=true→17=eY r x∧([]:List RowD)=[])∧((cond (!bC x x.19) true (cond (aG x x.19) true (x.19==x.12)))=false→(decide (x.20>bV r x.7)=true→16=eY r x∧([]:List RowD)=[])∧(decide (x.20>bV r x.7)=false→0=eY r x∧([]:List RowD)=[])))
 simp only [eY]
 repeat' first|refine And.intro ?_ ?_|intro _
 all_goals first|rfl|grind
theorem Ux:CtrOK Tryz.prog K8 395 (au K8 G4 oa):=by
 refine aV (C:=cf8 [k73,k74,k75] Tryz.f395) (bK (.cons ML (.cons Ph (.cons VR .nil))) _) mixed (fn:=Tryz.f395) Tryz.func395 (by kernel_rfl) (by kernel_rfl) (by kernel_rfl) (Λ:=fun _ _=>none) ?_ ?_ ?_
 ·exact fun _ _ _ _ _ _ _ _ h=>by cases h
 ·rintro ⟨r,x,⟨⟩⟩
  exact of_decide_eq_true (by kernel_rfl)
 ·rintro ⟨r,x,⟨⟩⟩ hw hn
  exact UM r x
theorem UN (r:Rules) (x:Innings) :(evFn (cf8 [k72,k76,k77] Tryz.f359) (fun _=>none) Tryz.f359 (bF G4 (r,x,()))).sat fun v' rows=>leV v' (oa (r,x,())).v∧rows =(oa (r,x,())).rows:=by
 refine cast (by kernel_rfl) (?_ :((cond (!bC x x.19) true (cond (aG x x.19) true (x.19==x.12)))=true→17=eY r x∧([]:List RowD)=[])∧((cond (!bC x x.19) true (cond (aG x x.19) true (x.19==x.12)))=false→(decide (x.20>bV r x.7)=true→16=eY r x∧([]:List RowD)=[])∧(decide (x.20>bV r x.7)=false→0=eY r x∧([]:List RowD)=[])))
 simp only [eY]
 repeat' first|refine And.intro ?_ ?_|intro _
 all_goals first|rfl|grind
theorem VK:CtrOK Tryz.prog K8 359 (au K8 G4 oa):=by
 refine aV (C:=cf8 [k72,k76,k77] Tryz.f359) (bK (.cons MK (.cons Pi (.cons VS .nil))) _) mixed (fn:=Tryz.f359) Tryz.func359 (by kernel_rfl) (by kernel_rfl) (by kernel_rfl) (Λ:=fun _ _=>none) ?_ ?_ ?_
 ·exact fun _ _ _ _ _ _ _ _ h=>by cases h
 ·rintro ⟨r,x,⟨⟩⟩
  exact of_decide_eq_true (by kernel_rfl)
 ·rintro ⟨r,x,⟨⟩⟩ hw hn
  exact UN r x
theorem UO (x:Innings) (d:Delivery) :(evFn (cf8 [k73,k74] Tryz.f396) (fun _=>none) Tryz.f396 (bF G3 (x,d,()))).sat fun v' rows=>leV v' (ob (x,d,())).v∧rows =(ob (x,d,())).rows:=by
 refine cast (by kernel_rfl) (?_ :((decide (d.9>0)=true→((!bC x d.9)=true→3=cV x d∧([]:List RowD)=[])∧((!bC x d.9)=false→((!d.11==aG x d.9)=true→18=cV x d∧([]:List RowD)=[])∧((!d.11==aG x d.9)=false→True)))∧(decide (d.9>0)=false→True))∧((cond (decide (d.9>0)) (cond (!bC x d.9) false (!!d.11==aG x d.9)) true)=true→((decide (d.10>0)=true→((!bC x d.10)=true→3=cV x d∧([]:List RowD)=[])∧((!bC x d.10)=false→(aG x d.10=true→18=cV x d∧([]:List RowD)=[])∧(aG x d.10=false→True)))∧(decide (d.10>0)=false→True))∧((cond (decide (d.10>0)) (cond (!bC x d.10) false (!aG x d.10)) true)=true→((cond (d.7==4) ((if 0>d.9 then 0 else d.9) != x.19) false)=true→17=cV x d∧([]:List RowD)=[])∧((cond (d.7==4) ((if 0>d.9 then 0 else d.9) != x.19) false)=false→0=cV x d∧([]:List RowD)=[]))))
 have hm:wQ d.Fielder 0=if (0:Int)>d.Fielder then 0 else d.Fielder:=rfl
 simp only [cV,BI,BJ,hm]
 repeat' first|refine And.intro ?_ ?_|intro _
 all_goals first|trivial|rfl|grind
theorem Uy:CtrOK Tryz.prog K8 396 (au K8 G3 ob):=by
 refine aV (C:=cf8 [k73,k74] Tryz.f396) (bK (.cons ML (.cons Ph .nil)) _) mixed (fn:=Tryz.f396) Tryz.func396 (by kernel_rfl) (by kernel_rfl) (by kernel_rfl) (Λ:=fun _ _=>none) ?_ ?_ ?_
 ·exact fun _ _ _ _ _ _ _ _ h=>by cases h
 ·rintro ⟨x,d,⟨⟩⟩
  exact of_decide_eq_true (by kernel_rfl)
 ·rintro ⟨x,d,⟨⟩⟩ hw hn
  exact UO x d
theorem UP (x:Innings) (d:Delivery) :(evFn (cf8 [k72,k76] Tryz.f361) (fun _=>none) Tryz.f361 (bF G3 (x,d,()))).sat fun v' rows=>leV v' (ob (x,d,())).v∧rows =(ob (x,d,())).rows:=by
 refine cast (by kernel_rfl) (?_ :((decide (d.9>0)=true→((!bC x d.9)=true→3=cV x d∧([]:List RowD)=[])∧((!bC x d.9)=false→((!aG x d.9==d.11)=true→18=cV x d∧([]:List RowD)=[])∧((!aG x d.9==d.11)=false→True)))∧(decide (d.9>0)=false→True))∧((cond (decide (d.9>0)) (cond (!bC x d.9) false (!!aG x d.9==d.11)) true)=true→((decide (d.10>0)=true→((!bC x d.10)=true→3=cV x d∧([]:List RowD)=[])∧((!bC x d.10)=false→(aG x d.10=true→18=cV x d∧([]:List RowD)=[])∧(aG x d.10=false→True)))∧(decide (d.10>0)=false→True))∧((cond (decide (d.10>0)) (cond (!bC x d.10) false (!aG x d.10)) true)=true→((cond (d.7==4) ((if 0>d.9 then 0 else d.9) != x.19) false)=true→17=cV x d∧([]:List RowD)=[])∧((cond (d.7==4) ((if 0>d.9 then 0 else d.9) != x.19) false)=false→0=cV x d∧([]:List RowD)=[]))))
 have hm:wQ d.Fielder 0=if (0:Int)>d.Fielder then 0 else d.Fielder:=rfl
 simp only [cV,BI,BJ,hm]
 repeat' first|refine And.intro ?_ ?_|intro _
 all_goals first|trivial|rfl|grind
theorem VL:CtrOK Tryz.prog K8 361 (au K8 G3 ob):=by
 refine aV (C:=cf8 [k72,k76] Tryz.f361) (bK (.cons MK (.cons Pi .nil)) _) mixed (fn:=Tryz.f361) Tryz.func361 (by kernel_rfl) (by kernel_rfl) (by kernel_rfl) (Λ:=fun _ _=>none) ?_ ?_ ?_
 ·exact fun _ _ _ _ _ _ _ _ h=>by cases h
 ·rintro ⟨x,d,⟨⟩⟩
  exact of_decide_eq_true (by kernel_rfl)
 ·rintro ⟨x,d,⟨⟩⟩ hw hn
  exact UP x d
theorem UR (x:List Bool) (hs:x.length≤1000000) :(evFn (cf8 [] Tryz.f305) (fun _=>none) Tryz.f305 (bF PO (x,()))).sat fun v' rows=>leV v' (CB (x,())).v∧rows =(CB (x,())).rows:=by
 refine cast (by kernel_rfl) (?_ :(x.isEmpty=true→(nat_lit 0=nat_lit 0∧nat_lit 0=nat_lit 0)∧ [RowD.mk Ty.bool []]=[RowD.mk Ty.bool x])∧((0:Nat)+x.length) *(1:Nat)≤(70368744177664:Nat)∧(nat_lit 0=nat_lit 0∧nat_lit 0=nat_lit 0)∧ [RowD.mk Ty.bool ([]++x)]=[RowD.mk Ty.bool x])
 refine ⟨fun h=>⟨⟨rfl,rfl⟩,?_⟩,?_,⟨rfl,rfl⟩,rfl⟩
 ·have:x=[]:=List.isEmpty_iff.1 h
  subst this;rfl
 ·omega
theorem Pe:CtrOK Tryz.prog K8 305 (au K8 PO CB):=by
 refine aV (C:=cf8 [] Tryz.f305) (bK (CtrsOK.nil) _) mixed (fn:=Tryz.f305) Tryz.func305 (by kernel_rfl) (by kernel_rfl) (by kernel_rfl) (Λ:=fun _ _=>none) ?_ ?_ ?_
 ·exact fun _ _ _ _ _ _ _ _ h=>by cases h
 ·rintro ⟨x,⟨⟩⟩
  exact of_decide_eq_true (by kernel_rfl)
 ·rintro ⟨x,⟨⟩⟩ hw hn
  exact UR x (hn _ (List.mem_singleton.2 rfl))
theorem Vi (x:List Int) (hs:x.length≤1000000) :(evFn (cf8 [] Tryz.f303) (fun _=>none) Tryz.f303 (bF PT (x,()))).sat fun v' rows=>leV v' (CN (x,())).v∧rows =(CN (x,())).rows:=by
 refine cast (by kernel_rfl) (?_ :(x.isEmpty=true→(nat_lit 0=nat_lit 0∧nat_lit 0=nat_lit 0)∧ [RowD.mk (Ty.int IntKind.u8) []]=[RowD.mk (Ty.int IntKind.u8) x])∧((0:Nat)+x.length) *(1:Nat)≤(70368744177664:Nat)∧(nat_lit 0=nat_lit 0∧nat_lit 0=nat_lit 0)∧ [RowD.mk (Ty.int IntKind.u8) ([]++x)]=[RowD.mk (Ty.int IntKind.u8) x])
 refine ⟨fun h=>⟨⟨rfl,rfl⟩,?_⟩,?_,⟨rfl,rfl⟩,rfl⟩
 ·have:x=[]:=List.isEmpty_iff.1 h
  subst this;rfl
 ·omega
theorem Pj:CtrOK Tryz.prog K8 303 (au K8 PT CN):=by
 refine aV (C:=cf8 [] Tryz.f303) (bK (CtrsOK.nil) _) mixed (fn:=Tryz.f303) Tryz.func303 (by kernel_rfl) (by kernel_rfl) (by kernel_rfl) (Λ:=fun _ _=>none) ?_ ?_ ?_
 ·exact fun _ _ _ _ _ _ _ _ h=>by cases h
 ·rintro ⟨x,⟨⟩⟩
  exact of_decide_eq_true (by kernel_rfl)
 ·rintro ⟨x,⟨⟩⟩ hw hn
  exact Vi x (hn _ (List.mem_singleton.2 rfl))
theorem Vj (x:List Int) (hs:x.length≤1000000) :(evFn (cf8 [] Tryz.f304) (fun _=>none) Tryz.f304 (bF PU (x,()))).sat fun v' rows=>leV v' (CO (x,())).v∧rows =(CO (x,())).rows:=by
 refine cast (by kernel_rfl) (?_ :(x.isEmpty=true→(nat_lit 0=nat_lit 0∧nat_lit 0=nat_lit 0)∧ [RowD.mk (Ty.int IntKind.i64) []]=[RowD.mk (Ty.int IntKind.i64) x])∧((0:Nat)+x.length) *(8:Nat)≤(70368744177664:Nat)∧(nat_lit 0=nat_lit 0∧nat_lit 0=nat_lit 0)∧ [RowD.mk (Ty.int IntKind.i64) ([]++x)]=[RowD.mk (Ty.int IntKind.i64) x])
 refine ⟨fun h=>⟨⟨rfl,rfl⟩,?_⟩,?_,⟨rfl,rfl⟩,rfl⟩
 ·have:x=[]:=List.isEmpty_iff.1 h
  subst this;rfl
 ·omega
theorem Pk:CtrOK Tryz.prog K8 304 (au K8 PU CO):=by
 refine aV (C:=cf8 [] Tryz.f304) (bK (CtrsOK.nil) _) mixed (fn:=Tryz.f304) Tryz.func304 (by kernel_rfl) (by kernel_rfl) (by kernel_rfl) (Λ:=fun _ _=>none) ?_ ?_ ?_
 ·exact fun _ _ _ _ _ _ _ _ h=>by cases h
 ·rintro ⟨x,⟨⟩⟩
  exact of_decide_eq_true (by kernel_rfl)
 ·rintro ⟨x,⟨⟩⟩ hw hn
  exact Vj x (hn _ (List.mem_singleton.2 rfl))
theorem U6 (x:Innings) (hs:ai x) :(evFn (cf8 [k45,k90,k91] Tryz.f381) (fun _=>none) Tryz.f381 (bF psI (x,()))).sat fun v' rows=>leV v' (fw (x,())).v∧rows =(fw (x,())).rows:=by
 refine cast (by kernel_rfl) (?_:x.11.length≤(1000000:Nat)∧x.13.length≤(1000000:Nat)∧x.14.length≤(1000000:Nat)∧x.16.length≤(1000000:Nat)∧x.21.length≤(1000000:Nat)∧(x.1=x.1∧x.2=x.2∧x.3=x.3∧x.4=x.4∧x.5=x.5∧x.6.1=x.6.1∧x.6.2=x.6.2∧x.6.3=x.6.3∧x.6.4=x.6.4∧x.6.5=x.6.5∧x.7=x.7∧x.8=x.8∧x.9=x.9∧x.10=x.10∧(nat_lit 0=nat_lit 0∧nat_lit 0=nat_lit 0)∧x.12=x.12∧(nat_lit 1=nat_lit 1∧nat_lit 1=nat_lit 1)∧(nat_lit 2=nat_lit 2∧nat_lit 2=nat_lit 2)∧x.15=x.15∧(nat_lit 3=nat_lit 3∧nat_lit 3=nat_lit 3)∧x.17=x.17∧x.18=x.18∧x.19=x.19∧x.20=x.20∧(nat_lit 4=nat_lit 4∧nat_lit 4=nat_lit 4)∧x.22.1=x.22.1∧x.22.2.1=x.22.2.1∧x.23=x.23∧True)∧ [RowD.mk (Ty.int IntKind.u8) x.11,RowD.mk (Ty.int IntKind.i64) x.13,RowD.mk (Ty.int IntKind.i64) x.14,RowD.mk (Ty.int IntKind.i64) x.16,RowD.mk Ty.bool x.21]=[RowD.mk (Ty.int IntKind.u8) x.11,RowD.mk (Ty.int IntKind.i64) x.13,RowD.mk (Ty.int IntKind.i64) x.14,RowD.mk (Ty.int IntKind.i64) x.16,RowD.mk Ty.bool x.21])
 obtain ⟨h1,h2,h3,h4,h5⟩:=hs
 simp [h1,h2,h3,h4,h5]
theorem SI:CtrOK Tryz.prog K8 381 (au K8 psI fw):=by
 refine aV (C:=cf8 [k45,k90,k91] Tryz.f381) (bK (.cons Pe (.cons Pj (.cons Pk .nil))) _) mixed (fn:=Tryz.f381) Tryz.func381 (by kernel_rfl) (by kernel_rfl) (by kernel_rfl) (Λ:=fun _ _=>none) ?_ ?_ ?_
 ·exact fun _ _ _ _ _ _ _ _ h=>by cases h
 ·rintro ⟨x,⟨⟩⟩
  exact of_decide_eq_true (by kernel_rfl)
 ·rintro ⟨x,⟨⟩⟩ hw hn
  exact U6 x (hn _ (List.mem_singleton.2 rfl))
theorem UQ (x:Innings) (hs:ai x) :(evFn (cf8 [] Tryz.f285) (fun _=>none) Tryz.f285 (bF psI (x,()))).sat fun v' rows=>leV v' (fw (x,())).v∧rows =(fw (x,())).rows:=by
 refine cast (by kernel_rfl) (?_ :((0:Nat)+x.11.length) *(1:Nat)≤(70368744177664:Nat)∧((0:Nat)+x.13.length) *(8:Nat)≤(70368744177664:Nat)∧((0:Nat)+x.14.length) *(8:Nat)≤(70368744177664:Nat)∧((0:Nat)+x.16.length) *(8:Nat)≤(70368744177664:Nat)∧((0:Nat)+x.21.length) *(1:Nat)≤(70368744177664:Nat)∧(x.1=x.1∧x.2=x.2∧x.3=x.3∧x.4=x.4∧x.5=x.5∧x.6.1=x.6.1∧x.6.2=x.6.2∧x.6.3=x.6.3∧x.6.4=x.6.4∧x.6.5=x.6.5∧x.7=x.7∧x.8=x.8∧x.9=x.9∧x.10=x.10∧(nat_lit 0=nat_lit 0∧nat_lit 0=nat_lit 0)∧x.12=x.12∧(nat_lit 1=nat_lit 1∧nat_lit 1=nat_lit 1)∧(nat_lit 2=nat_lit 2∧nat_lit 2=nat_lit 2)∧x.15=x.15∧(nat_lit 3=nat_lit 3∧nat_lit 3=nat_lit 3)∧x.17=x.17∧x.18=x.18∧x.19=x.19∧x.20=x.20∧(nat_lit 4=nat_lit 4∧nat_lit 4=nat_lit 4)∧x.22.1=x.22.1∧x.22.2.1=x.22.2.1∧x.23=x.23∧True)∧ [RowD.mk (Ty.int IntKind.u8) ([]++x.11),RowD.mk (Ty.int IntKind.i64) ([]++x.13),RowD.mk (Ty.int IntKind.i64) ([]++x.14),RowD.mk (Ty.int IntKind.i64) ([]++x.16),RowD.mk Ty.bool ([]++x.21)]=[RowD.mk (Ty.int IntKind.u8) x.11,RowD.mk (Ty.int IntKind.i64) x.13,RowD.mk (Ty.int IntKind.i64) x.14,RowD.mk (Ty.int IntKind.i64) x.16,RowD.mk Ty.bool x.21])
 obtain ⟨h1,h2,h3,h4,h5⟩:=hs
 exact ⟨by omega,by omega,by omega,by omega,by omega,by simp,rfl⟩
theorem sC:CtrOK Tryz.prog K8 285 (au K8 psI fw):=by
 refine aV (C:=cf8 [] Tryz.f285) (bK (CtrsOK.nil) _) mixed (fn:=Tryz.f285) Tryz.func285 (by kernel_rfl) (by kernel_rfl) (by kernel_rfl) (Λ:=fun _ _=>none) ?_ ?_ ?_
 ·exact fun _ _ _ _ _ _ _ _ h=>by cases h
 ·rintro ⟨x,⟨⟩⟩
  exact of_decide_eq_true (by kernel_rfl)
 ·rintro ⟨x,⟨⟩⟩ hw hn
  exact UQ x (hn _ (List.mem_singleton.2 rfl))
end
section
open Go Go.Mir
attribute [local irreducible] Go.Mir.DT.sat Go.Mir.evPat Go.Mir.RT.sat Go.Mir.evFn
abbrev Is:Ty:= .slice I
abbrev Bs:Ty:= .slice .bool
abbrev L6:List (Nat×PB):= [(0,.cells [.h I,.h I,.h I,.h I,.h I,.h I,.h I,.h I,.h I,.h I,.h I,.h I,.h I,.h I,.c (.osl 1 2),.h I,.c (.osl 3 4),.c (.osl 5 6),.h .bool,.c (.osl 7 8),.h .bool,.h I,.h I,.h I,.c (.osl 9 10),.h I,.h I,.h U8]),(1,.row 2 U8),(3,.row 4 I),(5,.row 6 I),(7,.row 8 I),(9,.row 10 .bool)]
abbrev RQ:Ty:=gn L6 .unit
def inn (x:Den RQ):Innings:=⟨x.1,x.2.1,x.2.2.1,x.2.2.2.1,x.2.2.2.2.1,⟨x.2.2.2.2.2.1,x.2.2.2.2.2.2.1,x.2.2.2.2.2.2.2.1,x.2.2.2.2.2.2.2.2.1,x.2.2.2.2.2.2.2.2.2.1⟩,x.2.2.2.2.2.2.2.2.2.2.1,x.2.2.2.2.2.2.2.2.2.2.2.1,x.2.2.2.2.2.2.2.2.2.2.2.2.1,x.2.2.2.2.2.2.2.2.2.2.2.2.2.1,x.2.2.2.2.2.2.2.2.2.2.2.2.2.2.2.2.2.2.2.2.2.2.2.1,x.2.2.2.2.2.2.2.2.2.2.2.2.2.2.1,x.2.2.2.2.2.2.2.2.2.2.2.2.2.2.2.2.2.2.2.2.2.2.2.2.1,x.2.2.2.2.2.2.2.2.2.2.2.2.2.2.2.2.2.2.2.2.2.2.2.2.2.1,x.2.2.2.2.2.2.2.2.2.2.2.2.2.2.2.1,x.2.2.2.2.2.2.2.2.2.2.2.2.2.2.2.2.2.2.2.2.2.2.2.2.2.2.1,x.2.2.2.2.2.2.2.2.2.2.2.2.2.2.2.2.1,x.2.2.2.2.2.2.2.2.2.2.2.2.2.2.2.2.2.1,x.2.2.2.2.2.2.2.2.2.2.2.2.2.2.2.2.2.2.1,x.2.2.2.2.2.2.2.2.2.2.2.2.2.2.2.2.2.2.2.1,x.2.2.2.2.2.2.2.2.2.2.2.2.2.2.2.2.2.2.2.2.2.2.2.2.2.2.2.1,(x.2.2.2.2.2.2.2.2.2.2.2.2.2.2.2.2.2.2.2.2.1,x.2.2.2.2.2.2.2.2.2.2.2.2.2.2.2.2.2.2.2.2.2.1,()),x.2.2.2.2.2.2.2.2.2.2.2.2.2.2.2.2.2.2.2.2.2.2.1⟩
def AX (y:Innings):Den RQ:=(y.Side,y.Target,y.Overs,y.Runs,y.Wickets,y.Extras.Wides,y.Extras.NoBalls,y.Extras.Byes,y.Extras.LegByes,y.Extras.Penalties,y.Complete,y.InOver,y.Striker,y.Other,y.Bowler,y.Fresh,y.FreeHit,y.BallAge,y.Keeper,y.Outside,y.Reviews.1,y.Reviews.2.1,y.Ending,y.Batters,y.Bowlers,y.Before,y.Bowled,y.Subs,())
abbrev fH:Pat:=bX [.nm .Innings,I]
def aC (x:Innings) (p:Int):Bool:=decide (p≥1)&&decide (p≤(x.Batters.length:Int))
def ph:Den (tyP fH)→List Prop×Den (tyP ax):=fun x=>([],(aC x.1 x.2.1,()))
def cm (x:Innings) (p s:Int):Innings:={ x with Batters:=x.Batters.set (p - 1).toNat s }
def fC (x:Innings) (p:Int):Innings:={(if aC x p then cm x p 2 else x) with Wickets:=W (x.Wickets+1) }
abbrev P8:Pat:=⟨[(0,.c (.ptr 0 0)),(1,.h I)],L6,11⟩
abbrev JA:Pat:=⟨[],L6,11⟩
def S4:Den (tyP P8)→List Prop×Den (tyP JA):=fun x=>([],AX (fC (inn x.2) x.1))
def cf (x:Innings):Bool:=cu x&&(x.Striker==0||x.Other==0)
def pn:Den (tyP qIn)→List Prop×Den (tyP ax):=fun x=>([],(cf x.1,()))
def IA (x:Innings) (p:Int):Int:=x.Batters.getD (p - 1).toNat 0
def bn (x:Innings) (p:Int):Int:=if !aC x p then 3 else if !cf x||IA x p==1 then 4 else if IA x p==2 then 5 else 0
def sP:Den (tyP fH)→List Prop×Den (tyP bb):=fun x=>([],(bn x.1 x.2.1,()))
def fo (x:Innings) (s o:Int):Innings:=
 if cu x then x else if !aC x s||!aC x o then x else if s==o then x else { cm (cm x s 1) o 1 with Striker:=s,Other:=o }
def gi (x:Innings) (s o:Int):Int:=if cu x then 1 else if !aC x s||!aC x o then 3 else if s==o then 4 else 0
def ij (x:Innings):Innings:={ x with Striker:=x.Other,Other:=x.Striker }
def fF (x:Innings) (d:Delivery):Int:=if d.How != 0 then (if d.Victim==1&&x.Striker != 0 then 1 else if d.Victim==2&&x.Other != 0 then 2 else 0) else 0
def cP (x:Innings) (d:Delivery):Innings:=if fb d then ij x else x
def cK (x:Innings) (b:Bool):Innings:=if b then { x with Striker:=0 } else { x with Other:=0 }
def aP (x:Innings) (d:Delivery):Innings:=
 if fF x d==0 then cP x d else fC (cK (cP x d) ((fF x d==1) != fb d)) (if fF x d==1 then x.Striker else x.Other)
def gx (x:Innings) (p:Int):Innings:=if bn x p != 0 then x else if x.Striker==0 then { cm x p 1 with Striker:=p } else { cm x p 1 with Other:=p }
def ji (x:Innings) (p:Int):Innings:=if bn x p != 0 then x else fC x p
def xP (s:Int):Bool:=s==0||s==3
def pH:List Int→Int→List Int
 | [],_=> []
 | s::r,i=>if xP s then (i+1)::pH r (i+1) else pH r (i+1)
def Up (l:List Int):List Int:=pH l 0
def tK (x:Innings):List Int:=Up x.Batters
def jZ (x:Innings):Bool:=((tK x).length:Int)==0
def bI (x:Innings) (p:Int) (hurt:Bool):Int:=
 if !aC x p then 3 else if x.Striker==0||x.Other==0 then 6 else if p != x.Striker&&p != x.Other then 4 else if hurt&&jZ x then 19 else 0
def cz (x:Innings) (p:Int) (hurt:Bool):Innings:=
 if bI x p hurt != 0 then x else if hurt then cm (cK x (p==x.Striker)) p 3 else fC (cK x (p==x.Striker)) p
def mQ:FuncId×Ctr:=(370,au KE psI fw)
def mB:Den psI→PRes:=fun x=>⟨[ai x.1],UG (ij x.1),Rr (ij x.1)⟩
def l9:FuncId×Ctr:=(364,au KE psI mB)
abbrev xp:Pat:=bX [.nm .Innings,I,I]
abbrev xn:Pat:=bX [.nm .Innings,I,.bool]
abbrev G8:Pat:=bX [.nm .Innings,.nm .Delivery]
abbrev q2L:Pat:=bX [.nm .Innings,I]
def AF:Den (tyP xp)→List Prop×Den (tyP q2L):=fun x=>([ai x.1],(fo x.1 x.2.1 x.2.2.1,gi x.1 x.2.1 x.2.2.1,()))
def Lw:Den (tyP G8)→List Prop×Den (tyP qIn):=fun x=>([ai x.1],(aP x.1 x.2.1,()))
def Cf:Den (tyP qIn)→List Prop×Den (tyP qIn):=fun x=>([ai x.1],(ij x.1,()))
def sQ:Den (tyP fH)→List Prop×Den (tyP q2L):=fun x=>([ai x.1],(gx x.1 x.2.1,bn x.1 x.2.1,()))
def AJ:Den (tyP fH)→List Prop×Den (tyP q2L):=fun x=>([ai x.1],(ji x.1 x.2.1,bn x.1 x.2.1,()))
abbrev qIs:Pat:=⟨[(0,.c (.osl 0 1))],[(0,.row 1 I)],2⟩
def AE:Den (tyP qIn)→List Prop×Den (tyP qIs):=fun x=>([ai x.1],(tK x.1,()))
def pk:Den (tyP xn)→List Prop×Den (tyP q2L):=fun x=>([ai x.1],(cz x.1 x.2.1 x.2.2.1,bI x.1 x.2.1 x.2.2.1,()))
abbrev UE:Pat:=⟨[(7,.h I),(8,.h I),(6,.h U8s)],[],0⟩
abbrev Vx:List (Lf×Pat):= [(.ret,⟨[(2,.h .bool)],[],0⟩),(.ext 0,⟨[],[],0⟩)]
def oM (x:Int×Int×List Int×Unit):Prop:=cH (x.2.2.1,x.1,x.2.1,())
def sy (x:Int×Int×List Int×Unit):Nat:=(x.1 - x.2.1).toNat
def LK (b:Bool):Sum (Bool×Unit) Unit:=if b then .inl (true,()) else .inr ()
def fi (x:Int×Int×List Int×Unit):Sum (Bool×Unit) Unit:=LK (dT (x.2.2.1.drop x.2.1.toNat))
theorem QE {x:Innings} (h:wfD (.nm .Innings) x):x.Batters.length≤aJ:=
 cN (aU (aN (aN (aN (aN (aN (aN (aN (aN (aN (aN (JM h))))))))))))
theorem fM {p:Int} (h1:1≤p) (h2:gP p):IntKind.i64.wrap (p - 1)=p - 1:=by
 obtain ⟨a,b⟩:=h2
 exact de (by omega) (by omega)
theorem Qj (x:Innings) (hs:ai x) :(evFn (al [k45,k90,k91] Tryz.f370) (fun _=>none) Tryz.f370 (bF psI (x,()))).sat fun v' rows=>leV v' (fw (x,())).v∧rows =(fw (x,())).rows:=by
 refine cast (by kernel_rfl) (?_:x.11.length≤(1000000:Nat)∧x.13.length≤(1000000:Nat)∧x.14.length≤(1000000:Nat)∧x.16.length≤(1000000:Nat)∧x.21.length≤(1000000:Nat)∧(x.1=x.1∧x.2=x.2∧x.3=x.3∧x.4=x.4∧x.5=x.5∧x.6.1=x.6.1∧x.6.2=x.6.2∧x.6.3=x.6.3∧x.6.4=x.6.4∧x.6.5=x.6.5∧x.7=x.7∧x.8=x.8∧x.9=x.9∧x.10=x.10∧(nat_lit 0=nat_lit 0∧nat_lit 0=nat_lit 0)∧x.12=x.12∧(nat_lit 1=nat_lit 1∧nat_lit 1=nat_lit 1)∧(nat_lit 2=nat_lit 2∧nat_lit 2=nat_lit 2)∧x.15=x.15∧(nat_lit 3=nat_lit 3∧nat_lit 3=nat_lit 3)∧x.17=x.17∧x.18=x.18∧x.19=x.19∧x.20=x.20∧(nat_lit 4=nat_lit 4∧nat_lit 4=nat_lit 4)∧x.22.1=x.22.1∧x.22.2.1=x.22.2.1∧x.23=x.23∧True)∧ [RowD.mk (Ty.int IntKind.u8) x.11,RowD.mk (Ty.int IntKind.i64) x.13,RowD.mk (Ty.int IntKind.i64) x.14,RowD.mk (Ty.int IntKind.i64) x.16,RowD.mk Ty.bool x.21]=[RowD.mk (Ty.int IntKind.u8) x.11,RowD.mk (Ty.int IntKind.i64) x.13,RowD.mk (Ty.int IntKind.i64) x.14,RowD.mk (Ty.int IntKind.i64) x.16,RowD.mk Ty.bool x.21])
 obtain ⟨h1,h2,h3,h4,h5⟩:=hs
 simp [h1,h2,h3,h4,h5]
theorem sE:CtrOK Tryz.prog KE 370 (au KE psI fw):=by
 refine aV (C:=al [k45,k90,k91] Tryz.f370) (aj (.consU Pe rfl (.consU Pj rfl (.consU Pk rfl .nil))) _) mixed (fn:=Tryz.f370) Tryz.func370 (by kernel_rfl) (by kernel_rfl) (by kernel_rfl) (Λ:=fun _ _=>none) ?_ ?_ ?_
 ·exact fun _ _ _ _ _ _ _ _ h=>by cases h
 ·rintro ⟨x,⟨⟩⟩
  exact of_decide_eq_true (by kernel_rfl)
 ·rintro ⟨x,⟨⟩⟩ hw hn
  exact Qj x (hn _ (List.mem_singleton.2 rfl))
theorem KP (x:Innings) (p:Int) :(evPat (al [] Tryz.f372) (fun _=>none) Tryz.f372 fH ax (x,p,())).sat fun z_=>z_ =(ph (x,p,())).2:=by
 refine cast (by kernel_rfl) (?_ :(cond (decide (p≥(1:Int))) (decide (p≤(↑x.11.length:Int))) false,()) =(aC x p,()))
 grind [aC]
def kI:FuncId×Ctr:=(372,ae KE fH ax ph)
theorem rE:CtrOK Tryz.prog KE 372 (ae KE fH ax ph):=by
 refine an (C:=al [] Tryz.f372) (aj (CtrsOK.nil) _) mixed (fn:=Tryz.f372) Tryz.func372 (by kernel_rfl) (by kernel_rfl) (by kernel_rfl) (by kernel_rfl) (by kernel_rfl) (by kernel_rfl) (Λ:=fun _ _=>none) ?_ ?_
 ·exact fun _ _ _ _ _ _ _ _ h=>by cases h
 ·rintro ⟨x,p,⟨⟩⟩ hw hn
  exact KP x p
theorem B6 (x:Innings) (p:Int) :(evPat (al [] Tryz.f357) (fun _=>none) Tryz.f357 fH ax (x,p,())).sat fun z_=>z_ =(ph (x,p,())).2:=by
 refine cast (by kernel_rfl) (?_ :(cond (decide (p≥(1:Int))) (decide (p≤(↑x.11.length:Int))) false,()) =(aC x p,()))
 grind [aC]
def eT:FuncId×Ctr:=(357,ae KE fH ax ph)
theorem kL:CtrOK Tryz.prog KE 357 (ae KE fH ax ph):=by
 refine an (C:=al [] Tryz.f357) (aj (CtrsOK.nil) _) mixed (fn:=Tryz.f357) Tryz.func357 (by kernel_rfl) (by kernel_rfl) (by kernel_rfl) (by kernel_rfl) (by kernel_rfl) (by kernel_rfl) (Λ:=fun _ _=>none) ?_ ?_
 ·exact fun _ _ _ _ _ _ _ _ h=>by cases h
 ·rintro ⟨x,p,⟨⟩⟩ hw hn
  exact B6 x p
theorem E3 (p:Int) (y:Innings) (hp:gP p) :(evPat (al [kI] Tryz.f380) (fun _=>none) Tryz.f380 P8 JA (p,AX y)).sat fun z_=>z_ =(S4 (p,AX y)).2:=by
 refine cast (by kernel_rfl) (?_:let r1:Int:=IntKind.i64.wrap (p - (1:Int));((aC y p=true→((0:Int)≤r1∧r1 <(↑y.11.length:Int))∧True)∧(aC y p=false→True))∧(true=true→(y.1,y.2,y.3,y.4,IntKind.i64.wrap (y.5 +(1:Int)),y.6.1,y.6.2,y.6.3,y.6.4,y.6.5,y.7,y.8,y.9,y.10,y.12,y.15,y.17,y.18,y.19,y.20,y.22.1,y.22.2.1,y.23,cond (aC y p) (y.11.set r1.toNat (2:Int)) y.11,y.13,y.14,y.16,y.21,())=AX (fC (inn (AX y)) p)))
 intro r1
 clear_value (hr1:r1=_)
 have e1:aC y p=true→r1=p - 1:=fun h=>by
  rw [hr1]
  simp only [aC,Bool.and_eq_true,decide_eq_true_eq] at h
  exact fM h.1 hp
 refine ⟨⟨fun h=>⟨?_,trivial⟩,fun _=>trivial⟩,fun _=>?_⟩
 ·have:=e1 h
  simp only [aC,Bool.and_eq_true,decide_eq_true_eq] at h
  omega
 ·show _=AX (fC y p)
  cases h:aC y p with
  | true=>
   have e:fC y p={ cm y p 2 with Wickets:=W (y.Wickets+1) }:=by simp [fC,h,cm]
   rw [e,e1 h];rfl
  | false=>
   have e:fC y p={ y with Wickets:=W (y.Wickets+1) }:=by simp [fC,h]
   rw [e];rfl
def jB:FuncId×Ctr:=(380,ae KE P8 JA S4)
theorem ql:CtrOK Tryz.prog KE 380 (ae KE P8 JA S4):=by
 refine an (C:=al [kI] Tryz.f380) (aj (.consU rE rfl .nil) _) mixed (fn:=Tryz.f380) Tryz.func380 (by kernel_rfl) (by kernel_rfl) (by kernel_rfl) (by kernel_rfl) (by kernel_rfl) (by kernel_rfl) (Λ:=fun _ _=>none) ?_ ?_
 ·exact fun _ _ _ _ _ _ _ _ h=>by cases h
 ·rintro ⟨p,z⟩ hw hn
  exact E3 p (inn z) (dk (aU hw))
theorem Hi (x:Innings) :(evPat (al [uQ] Tryz.f355) (fun _=>none) Tryz.f355 qIn ax (x,())).sat fun z_=>z_ =(pn (x,())).2:=by
 refine cast (by kernel_rfl) (?_ :(cond (cu x) (cond (x.9 ==(0:Int)) true (x.10 ==(0:Int))) false,()) =(cf x,()))
 grind [cf]
def iE:FuncId×Ctr:=(355,ae KE qIn ax pn)
theorem oZ:CtrOK Tryz.prog KE 355 (ae KE qIn ax pn):=by
 refine an (C:=al [uQ] Tryz.f355) (aj (.consU Ef rfl .nil) _) mixed (fn:=Tryz.f355) Tryz.func355 (by kernel_rfl) (by kernel_rfl) (by kernel_rfl) (by kernel_rfl) (by kernel_rfl) (by kernel_rfl) (Λ:=fun _ _=>none) ?_ ?_
 ·exact fun _ _ _ _ _ _ _ _ h=>by cases h
 ·rintro ⟨x,⟨⟩⟩ hw hn
  exact Hi x
theorem Qi (x:Innings) (p:Int) (hp:gP p) :(evPat (al [kI,iE] Tryz.f379) (fun _=>none) Tryz.f379 fH bb (x,p,())).sat fun z_=>z_ =(sP (x,p,())).2:=by
 refine cast (by kernel_rfl) (?_:let r1:Int:=IntKind.i64.wrap (p - (1:Int));let r2:Int:=x.11.getD r1.toNat (dflt (Ty.int IntKind.u8));let r3:Bool:=r2 ==(2:Int);let r4:Bool:=cond (!cf x) true (r2 ==(1:Int));((!aC x p)=true→((3:Int),()) =(bn x p,()))∧((!aC x p)=false→(((!cf x)=true→True)∧((!cf x)=false→((0:Int)≤r1∧r1 <(↑x.11.length:Int))∧True))∧(true=true→(r4=true→((4:Int),()) =(bn x p,()))∧(r4=false→((0:Int)≤r1∧r1 <(↑x.11.length:Int))∧(r3=true→((5:Int),()) =(bn x p,()))∧(r3=false→((0:Int),()) =(bn x p,()))))))
 intro r1 r2 r3 r4
 clear_value (hr1:r1=_) (hr2:r2=_) (hr3:r3=_) (hr4:r4=_)
 cases h:aC x p with
 | false=>simp [bn,h]
 | true=>
  have k:1≤p∧p≤x.Batters.length:=by simpa [aC] using h
  have e1:r1=p - 1:=by rw [hr1];exact fM k.1 hp
  have e2:r2=IA x p:=by rw [hr2,e1];rfl
  have b :(0:Int)≤r1∧r1 <(x.Batters.length:Int):=by omega
  refine ⟨(fun h=>by cases h),fun _=>⟨⟨fun _=>trivial,fun _=>⟨b,trivial⟩⟩,fun _=>⟨fun h4=>?_,fun h4=>⟨b,fun h3=>?_,fun h3=>?_⟩⟩⟩⟩ <;> grind [bn]
def IW:FuncId×Ctr:=(379,ae KE fH bb sP)
theorem MR:CtrOK Tryz.prog KE 379 (ae KE fH bb sP):=by
 refine an (C:=al [kI,iE] Tryz.f379) (aj (.consU rE rfl (.consU oZ rfl .nil)) _) mixed (fn:=Tryz.f379) Tryz.func379 (by kernel_rfl) (by kernel_rfl) (by kernel_rfl) (by kernel_rfl) (by kernel_rfl) (by kernel_rfl) (Λ:=fun _ _=>none) ?_ ?_
 ·exact fun _ _ _ _ _ _ _ _ h=>by cases h
 ·rintro ⟨x,p,⟨⟩⟩ hw hn
  exact Qi x p (dk (aU (aN hw)))
theorem Qk (x:Innings) (d:Delivery) (hs:ai x) :(evPat (al [mQ,jB] Tryz.f376) (fun _=>none) Tryz.f376 G8 qIn (x,d,())).sat fun z_=>z_ =(Lw (x,d,())).2:=by
 refine cast (by kernel_rfl) (?_:let r1:Bool:=d.3.tmod (2:Int) !=(0:Int);let r2:Bool:=cond (d.8 ==(1:Int)) (x.9 !=(0:Int)) false;let r3:Bool:=cond (d.8 ==(2:Int)) (x.10 !=(0:Int)) false;let r4:Bool:=cond d.6 (!r1) r1;let r5:Int:=cond r4 x.1 x.1;let r6:Int:=cond r4 x.2 x.2;let r7:Int:=cond r4 x.3 x.3;let r8:Int:=cond r4 x.4 x.4;let r9:Int:=cond r4 x.5 x.5;let r10:Int:=cond r4 x.7 x.7;let r11:Int:=cond r4 x.8 x.8;let r12:Int:=cond r4 x.10 x.9;let r13:Int:=cond r4 x.9 x.10;let r14:Int:=cond r4 x.12 x.12;let r15:Bool:=cond r4 x.15 x.15;let r16:Bool:=cond r4 x.17 x.17;let r17:Int:=cond r4 x.18 x.18;let r18:Int:=cond r4 x.19 x.19;let r19:Int:=cond r4 x.20 x.20;let r20:Int:=cond r4 x.23 x.23;let r21:Int:=cond r4 x.6.1 x.6.1;let r22:Int:=cond r4 x.6.2 x.6.2;let r23:Int:=cond r4 x.6.3 x.6.3;let r24:Int:=cond r4 x.6.4 x.6.4;let r25:Int:=cond r4 x.6.5 x.6.5;let r26:Int:=cond r4 x.22.1 x.22.1;let r27:Int:=cond r4 x.22.2.1 x.22.2.1;let r28:Int:=cond (d.7 !=(0:Int)) (cond r2 x.9 (cond r3 x.10 (0:Int))) (0:Int);let r29:Int:=cond (d.7 !=(0:Int)) (cond r2 (1:Int) (cond r3 (2:Int) (0:Int))) (0:Int);let r30:Bool:=r29 ==(0:Int);let r31:Bool:=!(r29 ==(1:Int))==r4;let r32:Int:=cond r31 r9 r9;let r33:Innings:=inn (cond r31 r5 r5,cond r31 r6 r6,cond r31 r7 r7,cond r31 r8 r8,r32,cond r31 r21 r21,cond r31 r22 r22,cond r31 r23 r23,cond r31 r24 r24,cond r31 r25 r25,cond r31 r10 r10,cond r31 r11 r11,cond r31 (0:Int) r12,cond r31 r13 (0:Int),cond r31 r14 r14,cond r31 r15 r15,cond r31 r16 r16,cond r31 r17 r17,cond r31 r18 r18,cond r31 r19 r19,cond r31 r26 r26,cond r31 r27 r27,cond r31 r20 r20,x.11,x.13,x.14,x.16,x.21,());let r34:Bool:=aC r33 r28;let r35:Innings:=if r34=true then cm r33 r28 (2:Int) else r33;ai x∧(2:Int)≠(0:Int)∧(r30=true→(Innings.mk r5 r6 r7 r8 r9 (Extras.mk r21 r22 r23 r24 r25) r10 r11 r12 r13 x.11 r14 x.13 x.14 r15 x.16 r16 r17 r18 r19 x.21 (r26,r27,()) r20,()) =(aP x d,()))∧(r30=false→(Innings.mk r35.1 r35.2 r35.3 r35.4 (W (r32 +(1:Int))) r35.6 r35.7 r35.8 r35.9 r35.10 r35.11 r35.12 r35.13 r35.14 r35.15 r35.16 r35.17 r35.18 r35.19 r35.20 r35.21 r35.22 r35.23,()) =(aP x d,())))
 intro r1 r2 r3 r4 r5 r6 r7 r8 r9 r10 r11 r12 r13 r14 r15 r16 r17 r18 r19 r20 r21 r22 r23 r24 r25 r26 r27 r28 r29 r30 r31 r32 r33 r34 r35
 clear_value (hr1:r1=_) (hr2:r2=_) (hr3:r3=_) (hr4:r4=_) (hr5:r5=_) (hr6:r6=_) (hr7:r7=_) (hr8:r8=_) (hr9:r9=_) (hr10:r10=_) (hr11:r11=_) (hr12:r12=_) (hr13:r13=_) (hr14:r14=_) (hr15:r15=_) (hr16:r16=_) (hr17:r17=_) (hr18:r18=_) (hr19:r19=_) (hr20:r20=_) (hr21:r21=_) (hr22:r22=_) (hr23:r23=_) (hr24:r24=_) (hr25:r25=_) (hr26:r26=_) (hr27:r27=_) (hr28:r28=_) (hr29:r29=_) (hr30:r30=_) (hr31:r31=_) (hr32:r32=_) (hr33:r33=_) (hr34:r34=_) (hr35:r35=_)
 simp only [Bool.cond_self] at *
 have hs4:r4=fb d:=by rw [hr4,hr1];unfold fb;cases d.Crossed <;> cases (d.Runs.tmod 2 != 0) <;> rfl
 have ho:r29=fF x d:=by rw [hr29,hr2,hr3];grind [fF]
 have hp:r28=if fF x d==1 then x.Striker else if fF x d==2 then x.Other else 0:=by rw [hr28,hr2,hr3];grind [fF]
 have h012:fF x d=0∨fF x d=1∨fF x d=2:=by grind [fF]
 subst hs4
 clear hr1 hr2 hr3 hr4 hr28 hr29
 subst hr5 hr6 hr7 hr8 hr9 hr10 hr11 hr12 hr13 hr14 hr15 hr16 hr17 hr18 hr19 hr20 hr21 hr22 hr23 hr24 hr25 hr26 hr27 hr32
 refine ⟨hs,by decide,fun h=>?_,fun h=>?_⟩
 ·have h0:fF x d=0:=by grind
  simp only [aP,h0,cP]
  cases fb d <;> rfl
 ·have h0:fF x d=1∨fF x d=2:=by grind
  have e33:r33=cK (cP x d) ((fF x d==1) != fb d):=by
   rw [hr33,hr31,ho]
   simp only [cP,cK]
   rcases h0 with h0|h0 <;> rw [h0] <;> cases fb d <;> rfl
  have e28:r28=if fF x d==1 then x.Striker else x.Other:=by rw [hp];rcases h0 with h0|h0 <;> rw [h0] <;> rfl
  have ew:r33.Wickets=x.Wickets:=by
   rw [e33];simp only [cP,cK];cases fb d <;> cases (fF x d==1) <;> rfl
  have e0 :(fF x d==0)=false:=by rcases h0 with h0|h0 <;> rw [h0] <;> rfl
  simp only [aP,e0]
  rw [←e33,←e28]
  simp only [fC]
  rw [←hr34,←hr35]
  rw [ew]
  rfl
def QM:FuncId×Ctr:=(376,ae KE G8 qIn Lw)
theorem SP:CtrOK Tryz.prog KE 376 (ae KE G8 qIn Lw):=by
 refine an (C:=al [mQ,jB] Tryz.f376) (aj (.consU sE rfl (.consU ql rfl .nil)) _) mixed (fn:=Tryz.f376) Tryz.func376 (by kernel_rfl) (by kernel_rfl) (by kernel_rfl) (by kernel_rfl) (by kernel_rfl) (by kernel_rfl) (Λ:=fun _ _=>none) ?_ ?_
 ·exact fun _ _ _ _ _ _ _ _ h=>by cases h
 ·rintro ⟨x,d,⟨⟩⟩ hw hn
  exact Qk x d (hn _ List.mem_cons_self)
theorem Hg (x:Innings) (hs:ai x) :(evPat (al [mQ] Tryz.f378) (fun _=>none) Tryz.f378 qIn qIn (x,())).sat fun z_=>z_ =(Cf (x,())).2:=by
 refine cast (by kernel_rfl) (?_:ai x∧(Innings.mk x.1 x.2 x.3 x.4 x.5 x.6 x.7 x.8 x.10 x.9 x.11 x.12 x.13 x.14 x.15 x.16 x.17 x.18 x.19 x.20 x.21 x.22 x.23,()) =(ij x,()))
 exact ⟨hs,rfl⟩
def DE:FuncId×Ctr:=(378,ae KE qIn qIn Cf)
theorem Kk:CtrOK Tryz.prog KE 378 (ae KE qIn qIn Cf):=by
 refine an (C:=al [mQ] Tryz.f378) (aj (.consU sE rfl .nil) _) mixed (fn:=Tryz.f378) Tryz.func378 (by kernel_rfl) (by kernel_rfl) (by kernel_rfl) (by kernel_rfl) (by kernel_rfl) (by kernel_rfl) (Λ:=fun _ _=>none) ?_ ?_
 ·exact fun _ _ _ _ _ _ _ _ h=>by cases h
 ·rintro ⟨x,⟨⟩⟩ hw hn
  exact Hg x (hn _ List.mem_cons_self)
theorem KO (x:Innings) (p:Int) (hs:ai x) (hp:gP p) :(evPat (al [mQ,IW] Tryz.f345) (fun _=>none) Tryz.f345 fH q2L (x,p,())).sat fun z_=>z_ =(sQ (x,p,())).2:=by
 refine cast (by kernel_rfl) (?_:let r1:Int:=IntKind.i64.wrap (p - (1:Int));ai x∧((bn x p !=(0:Int))=true→(x,bn x p,()) =(gx x p,bn x p,()))∧((bn x p !=(0:Int))=false→((0:Int)≤r1∧r1 <(↑x.11.length:Int))∧(Innings.mk (cond (x.9 ==(0:Int)) x.1 x.1) (cond (x.9 ==(0:Int)) x.2 x.2) (cond (x.9 ==(0:Int)) x.3 x.3) (cond (x.9 ==(0:Int)) x.4 x.4) (cond (x.9 ==(0:Int)) x.5 x.5) (Extras.mk (cond (x.9 ==(0:Int)) x.6.1 x.6.1) (cond (x.9 ==(0:Int)) x.6.2 x.6.2) (cond (x.9 ==(0:Int)) x.6.3 x.6.3) (cond (x.9 ==(0:Int)) x.6.4 x.6.4) (cond (x.9 ==(0:Int)) x.6.5 x.6.5)) (cond (x.9 ==(0:Int)) x.7 x.7) (cond (x.9 ==(0:Int)) x.8 x.8) (cond (x.9 ==(0:Int)) p x.9) (cond (x.9 ==(0:Int)) x.10 p) (x.11.set r1.toNat (1:Int)) (cond (x.9 ==(0:Int)) x.12 x.12) x.13 x.14 (cond (x.9 ==(0:Int)) x.15 x.15) x.16 (cond (x.9 ==(0:Int)) x.17 x.17) (cond (x.9 ==(0:Int)) x.18 x.18) (cond (x.9 ==(0:Int)) x.19 x.19) (cond (x.9 ==(0:Int)) x.20 x.20) x.21 (cond (x.9 ==(0:Int)) x.22.1 x.22.1,cond (x.9 ==(0:Int)) x.22.2.1 x.22.2.1,()) (cond (x.9 ==(0:Int)) x.23 x.23),(0:Int),()) =(gx x p,bn x p,())))
 intro r1
 clear_value (hr1:r1=_)
 refine ⟨hs,fun h=>?_,fun h=>?_⟩
 ·simp only [gx,h];rfl
 ·have h0:bn x p=0:=by simpa using h
  have k:aC x p=true:=by grind [bn]
  have k2:1≤p∧p≤x.Batters.length:=by simpa [aC] using k
  have e1:r1=p - 1:=by rw [hr1];exact fM k2.1 hp
  refine ⟨by omega,?_⟩
  rw [h0,e1]
  simp only [gx,h0]
  cases hb:x.Striker==0 <;> rfl
def IV:FuncId×Ctr:=(345,ae KE fH q2L sQ)
theorem MQ:CtrOK Tryz.prog KE 345 (ae KE fH q2L sQ):=by
 refine an (C:=al [mQ,IW] Tryz.f345) (aj (.consU sE rfl (.consU MR rfl .nil)) _) mixed (fn:=Tryz.f345) Tryz.func345 (by kernel_rfl) (by kernel_rfl) (by kernel_rfl) (by kernel_rfl) (by kernel_rfl) (by kernel_rfl) (Λ:=fun _ _=>none) ?_ ?_
 ·exact fun _ _ _ _ _ _ _ _ h=>by cases h
 ·rintro ⟨x,p,⟨⟩⟩ hw hn
  exact KO x p (hn _ List.mem_cons_self) (dk (aU (aN hw)))
theorem E4 (x:Innings) (p:Int) (hs:ai x) (hp:gP p) :(evPat (al [mQ,IW,jB] Tryz.f344) (fun _=>none) Tryz.f344 fH q2L (x,p,())).sat fun z_=>z_ =(AJ (x,p,())).2:=by
 refine cast (by kernel_rfl) (?_:let r1:Innings:=inn (x.1,x.2,x.3,x.4,x.5,x.6.1,x.6.2,x.6.3,x.6.4,x.6.5,x.7,x.8,x.9,x.10,x.12,x.15,x.17,x.18,x.19,x.20,x.22.1,x.22.2.1,x.23,x.11,x.13,x.14,x.16,x.21,());let r2:Bool:=aC r1 p;let r3:Innings:=if r2=true then cm r1 p (2:Int) else r1;ai x∧((bn x p !=(0:Int))=true→(x,bn x p,()) =(ji x p,bn x p,()))∧((bn x p !=(0:Int))=false→(Innings.mk r3.1 r3.2 r3.3 r3.4 (W (x.5 +(1:Int))) r3.6 r3.7 r3.8 r3.9 r3.10 r3.11 r3.12 r3.13 r3.14 r3.15 r3.16 r3.17 r3.18 r3.19 r3.20 r3.21 r3.22 r3.23,(0:Int),()) =(ji x p,bn x p,())))
 intro r1 r2 r3
 clear_value (hr1:r1=_) (hr2:r2=_) (hr3:r3=_)
 refine ⟨hs,fun h=>?_,fun h=>?_⟩
 ·simp only [ji,h];rfl
 ·have h0:bn x p=0:=by simpa using h
  have k:aC x p=true:=by grind [bn]
  have e1:r1=x:=hr1
  have e2:r2=true:=by rw [hr2,e1];exact k
  have e3:r3=cm x p 2:=by rw [hr3,e2,e1];rfl
  rw [h0,e3]
  have e4:ji x p={ cm x p 2 with Wickets:=W (x.Wickets+1) }:=by simp [ji,h0,fC,k,cm]
  rw [e4]
def y9:FuncId×Ctr:=(344,ae KE fH q2L AJ)
theorem Gu:CtrOK Tryz.prog KE 344 (ae KE fH q2L AJ):=by
 refine an (C:=al [mQ,IW,jB] Tryz.f344) (aj (.consU sE rfl (.consU MR rfl (.consU ql rfl .nil))) _) mixed (fn:=Tryz.f344) Tryz.func344 (by kernel_rfl) (by kernel_rfl) (by kernel_rfl) (by kernel_rfl) (by kernel_rfl) (by kernel_rfl) (Λ:=fun _ _=>none) ?_ ?_
 ·exact fun _ _ _ _ _ _ _ _ h=>by cases h
 ·rintro ⟨x,p,⟨⟩⟩ hw hn
  exact E4 x p (hn _ List.mem_cons_self) (dk (aU (aN hw)))
theorem B3 (x:Innings) (hs:ai x) :(evFn (al [k44] Tryz.f364) (fun _=>none) Tryz.f364 (bF psI (x,()))).sat fun v' rows=>leV v' (mB (x,())).v∧rows =(mB (x,())).rows:=by
 refine cast (by kernel_rfl) (?_:ai x∧(x.1=x.1∧x.2=x.2∧x.3=x.3∧x.4=x.4∧x.5=x.5∧x.6.1=x.6.1∧x.6.2=x.6.2∧x.6.3=x.6.3∧x.6.4=x.6.4∧x.6.5=x.6.5∧x.7=x.7∧x.8=x.8∧x.10=x.10∧x.9=x.9∧(nat_lit 0=nat_lit 0∧nat_lit 0=nat_lit 0)∧x.12=x.12∧(nat_lit 1=nat_lit 1∧nat_lit 1=nat_lit 1)∧(nat_lit 2=nat_lit 2∧nat_lit 2=nat_lit 2)∧x.15=x.15∧(nat_lit 3=nat_lit 3∧nat_lit 3=nat_lit 3)∧x.17=x.17∧x.18=x.18∧x.19=x.19∧x.20=x.20∧(nat_lit 4=nat_lit 4∧nat_lit 4=nat_lit 4)∧x.22.1=x.22.1∧x.22.2.1=x.22.2.1∧x.23=x.23∧True)∧ [RowD.mk (Ty.int IntKind.u8) x.11,RowD.mk (Ty.int IntKind.i64) x.13,RowD.mk (Ty.int IntKind.i64) x.14,RowD.mk (Ty.int IntKind.i64) x.16,RowD.mk Ty.bool x.21]=[RowD.mk (Ty.int IntKind.u8) x.11,RowD.mk (Ty.int IntKind.i64) x.13,RowD.mk (Ty.int IntKind.i64) x.14,RowD.mk (Ty.int IntKind.i64) x.16,RowD.mk Ty.bool x.21])
 exact ⟨hs,by simp [ij],rfl⟩
theorem tP:CtrOK Tryz.prog KE 364 (au KE psI mB):=by
 refine aV (C:=al [k44] Tryz.f364) (aj (.consU sC rfl .nil) _) mixed (fn:=Tryz.f364) Tryz.func364 (by kernel_rfl) (by kernel_rfl) (by kernel_rfl) (Λ:=fun _ _=>none) ?_ ?_ ?_
 ·exact fun _ _ _ _ _ _ _ _ h=>by cases h
 ·rintro ⟨x,⟨⟩⟩
  exact of_decide_eq_true (by kernel_rfl)
 ·rintro ⟨x,⟨⟩⟩ hw hn
  exact B3 x (hn _ List.mem_cons_self)
noncomputable def lpLB12:Lp:=(⟨0,al [] Tryz.f314,(fun _=>none),(az Tryz.f314 0),UE,Vx⟩:Lp)
theorem Ou (n:Int) (i:Int) (xs:List Int) (hi:oM (n,i,xs,())) :(Go.Mir.stepG lpLB12 fi (fun y:Den (tyP lpLB12.q)=>oM y∧sy y<sy (n,i,xs,())) (n,i,xs,())∧Go.Mir.stepE lpLB12 fi (n,i,xs,())=fi (n,i,xs,())):=by
 refine cast (by kernel_rfl) (?_:let r1:Bool:=xs.getD i.toNat (dflt (Ty.int IntKind.u8)) !=(0:Int);((decide (i<n)=true→((0:Int)≤i∧i <(↑xs.length:Int))∧(r1=true→True)∧(r1=false→oM (n,IntKind.i64.wrap (i +(1:Int)),xs,())∧sy (n,IntKind.i64.wrap (i +(1:Int)),xs,())<sy (n,i,xs,())))∧(decide (i<n)=false→True))∧(cond (decide (i<n)) (cond r1 (Sum.inl (true,())) (fi (n,IntKind.i64.wrap (i +(1:Int)),xs,()))) (Sum.inr ()))=fi (n,i,xs,()))
 intro r1
 clear_value (hr1:r1=_)
 obtain ⟨h1,h2,h3,h4⟩:=hi
 simp only at h1 h2 h3 h4
 have h5 :(xs.length:Int)≤140737488355328:=by have:xs.length≤140737488355328:=h4;omega
 refine ⟨⟨fun h=>?_,fun _=>trivial⟩,?_⟩
 ·have h:i<n:=of_decide_eq_true h
  rw [bc (n:=i+1) (by omega) (by omega)]
  refine ⟨⟨h2,by omega⟩,fun _=>trivial,fun _=>⟨⟨h1,by simp only;omega,by simp only;omega,h4⟩,by simp only [sy];omega⟩⟩
 ·by_cases h:i<n
  ·rw [decide_eq_true h,cond_true,bc (n:=i+1) (by omega) (by omega)]
   have e:xs.drop i.toNat=xs.getD i.toNat (dflt (Ty.int IntKind.u8))::xs.drop (i+1).toNat:=b8 h2 (by omega) _
   rw [hr1]
   generalize xs.getD i.toNat (dflt (Ty.int IntKind.u8))=v at e ⊢
   simp only [fi,e,dT,List.any_cons]
   show _=LK (cQ v||_)
   change (bif cQ v then _ else _)=_
   cases cQ v <;> rfl
  ·rw [decide_eq_false h,cond_false]
   simp only [fi]
   rw [bJ (l:=xs) (by omega)]
   rfl
noncomputable def JJ:LoopSum:=aM lpLB12 fi oM
noncomputable def JF:Nat:=rid (az Tryz.f314 0)
theorem ME:LoopOKp Tryz.prog 0 Tryz.f314.ntmps (az Tryz.f314 0) (aM lpLB12 fi oM):=
 bk lpLB12 (aj (CtrsOK.nil) _) mixed (fun b hb S hS=>by cases hS) fi oM sy (fun |⟨n,i,xs,⟨⟩⟩,hi=>Ou n i xs hi)
theorem Fs (x:Innings) (hx:x.Batters.length≤aJ) :(evPat (al [] Tryz.f314) (find [(JF,JJ)]) Tryz.f314 qIn ax (x,())).sat fun z_=>z_ =(my (x,())).2:=by
 refine cast (by kernel_rfl) (?_:let r1:Bool:=isL (fi ((↑x.11.length:Int),(0:Int),x.11,()));((cZ fun x=>none)∧(↑x.11.length:Int) =(↑x.11.length:Int)∧(0:Int)≤(0:Int)∧(0:Int)≤(↑x.11.length:Int)∧x.11.length≤aJ)∧(r1=true→jm (dflt (Ty.bool.prod Ty.unit)) (fi ((↑x.11.length:Int),(0:Int),x.11,())) =(cu x,()))∧(r1=false→(false,()) =(cu x,())))
 intro r1
 clear_value (hr1:r1=_)
 have e:fi ((x.Batters.length:Int),0,x.Batters,())=LK (cu x):=rfl
 try subst hr1
 rw [e]
 refine ⟨⟨rfl,rfl,Int.le_refl _,by omega,hx⟩,fun h=>?_,fun h=>?_⟩ <;> cases hf:cu x <;> rw [hf] at h <;> first|rfl|cases h
def gf:FuncId×Ctr:=(314,ae KE qIn ax my)
theorem mj:CtrOK Tryz.prog KE 314 (ae KE qIn ax my):=by
 refine an (C:=al [] Tryz.f314) (aj (CtrsOK.nil) _) mixed (fn:=Tryz.f314) Tryz.func314 (by kernel_rfl) (by kernel_rfl) (by kernel_rfl) (by kernel_rfl) (by kernel_rfl) (by kernel_rfl) (Λ:=fun x=>find [(JF,JJ)]) ?_ ?_
 ·rintro ⟨x,⟨⟩⟩ hw hn
  exact LoopsOKp.at (by kernel_rfl) (.cons (by kernel_rfl) (ME) .nil)
 ·rintro ⟨x,⟨⟩⟩ hw hn
  exact Fs x (QE (aU hw))
theorem B5 (x:Innings) :(evPat (al [gf] Tryz.f336) (fun _=>none) Tryz.f336 qIn ax (x,())).sat fun z_=>z_ =(pn (x,())).2:=by
 refine cast (by kernel_rfl) (?_ :(cond (cu x) (cond (x.9 ==(0:Int)) true (x.10 ==(0:Int))) false,()) =(cf x,()))
 grind [cf]
def gX:FuncId×Ctr:=(336,ae KE qIn ax pn)
theorem nD:CtrOK Tryz.prog KE 336 (ae KE qIn ax pn):=by
 refine an (C:=al [gf] Tryz.f336) (aj (.consU mj rfl .nil) _) mixed (fn:=Tryz.f336) Tryz.func336 (by kernel_rfl) (by kernel_rfl) (by kernel_rfl) (by kernel_rfl) (by kernel_rfl) (by kernel_rfl) (Λ:=fun _ _=>none) ?_ ?_
 ·exact fun _ _ _ _ _ _ _ _ h=>by cases h
 ·rintro ⟨x,⟨⟩⟩ hw hn
  exact B5 x
theorem Fu (x:Innings) (p:Int) (hp:gP p) :(evPat (al [eT,gX] Tryz.f365) (fun _=>none) Tryz.f365 fH bb (x,p,())).sat fun z_=>z_ =(sP (x,p,())).2:=by
 refine cast (by kernel_rfl) (?_:let r1:Int:=IntKind.i64.wrap (p - (1:Int));let r2:Int:=x.11.getD r1.toNat (dflt (Ty.int IntKind.u8));let r3:Bool:=r2 ==(2:Int);let r4:Bool:=cond (!cf x) true (r2 ==(1:Int));((!aC x p)=true→((3:Int),()) =(bn x p,()))∧((!aC x p)=false→(((!cf x)=true→True)∧((!cf x)=false→((0:Int)≤r1∧r1 <(↑x.11.length:Int))∧True))∧(true=true→(r4=true→((4:Int),()) =(bn x p,()))∧(r4=false→((0:Int)≤r1∧r1 <(↑x.11.length:Int))∧(r3=true→((5:Int),()) =(bn x p,()))∧(r3=false→((0:Int),()) =(bn x p,()))))))
 intro r1 r2 r3 r4
 clear_value (hr1:r1=_) (hr2:r2=_) (hr3:r3=_) (hr4:r4=_)
 cases h:aC x p with
 | false=>simp [bn,h]
 | true=>
  have k:1≤p∧p≤x.Batters.length:=by simpa [aC] using h
  have e1:r1=p - 1:=by rw [hr1];exact fM k.1 hp
  have e2:r2=IA x p:=by rw [hr2,e1];rfl
  have b :(0:Int)≤r1∧r1 <(x.Batters.length:Int):=by omega
  refine ⟨(fun h=>by cases h),fun _=>⟨⟨fun _=>trivial,fun _=>⟨b,trivial⟩⟩,fun _=>⟨fun h4=>?_,fun h4=>⟨b,fun h3=>?_,fun h3=>?_⟩⟩⟩⟩ <;> grind [bn]
def oQ:FuncId×Ctr:=(365,ae KE fH bb sP)
theorem w6:CtrOK Tryz.prog KE 365 (ae KE fH bb sP):=by
 refine an (C:=al [eT,gX] Tryz.f365) (aj (.consU kL rfl (.consU nD rfl .nil)) _) mixed (fn:=Tryz.f365) Tryz.func365 (by kernel_rfl) (by kernel_rfl) (by kernel_rfl) (by kernel_rfl) (by kernel_rfl) (by kernel_rfl) (Λ:=fun _ _=>none) ?_ ?_
 ·exact fun _ _ _ _ _ _ _ _ h=>by cases h
 ·rintro ⟨x,p,⟨⟩⟩ hw hn
  exact Fu x p (dk (aU (aN hw)))
theorem Ft (x:Innings) (p:Int) (hs:ai x) (hp:gP p) :(evPat (al [k44,oQ] Tryz.f328) (fun _=>none) Tryz.f328 fH q2L (x,p,())).sat fun z_=>z_ =(sQ (x,p,())).2:=by
 refine cast (by kernel_rfl) (?_:let r1:Int:=IntKind.i64.wrap (p - (1:Int));ai x∧((bn x p !=(0:Int))=true→(x,bn x p,()) =(gx x p,bn x p,()))∧((bn x p !=(0:Int))=false→((0:Int)≤r1∧r1 <(↑x.11.length:Int))∧(Innings.mk (cond (x.9 ==(0:Int)) x.1 x.1) (cond (x.9 ==(0:Int)) x.2 x.2) (cond (x.9 ==(0:Int)) x.3 x.3) (cond (x.9 ==(0:Int)) x.4 x.4) (cond (x.9 ==(0:Int)) x.5 x.5) (Extras.mk (cond (x.9 ==(0:Int)) x.6.1 x.6.1) (cond (x.9 ==(0:Int)) x.6.2 x.6.2) (cond (x.9 ==(0:Int)) x.6.3 x.6.3) (cond (x.9 ==(0:Int)) x.6.4 x.6.4) (cond (x.9 ==(0:Int)) x.6.5 x.6.5)) (cond (x.9 ==(0:Int)) x.7 x.7) (cond (x.9 ==(0:Int)) x.8 x.8) (cond (x.9 ==(0:Int)) p x.9) (cond (x.9 ==(0:Int)) x.10 p) (x.11.set r1.toNat (1:Int)) (cond (x.9 ==(0:Int)) x.12 x.12) x.13 x.14 (cond (x.9 ==(0:Int)) x.15 x.15) x.16 (cond (x.9 ==(0:Int)) x.17 x.17) (cond (x.9 ==(0:Int)) x.18 x.18) (cond (x.9 ==(0:Int)) x.19 x.19) (cond (x.9 ==(0:Int)) x.20 x.20) x.21 (cond (x.9 ==(0:Int)) x.22.1 x.22.1,cond (x.9 ==(0:Int)) x.22.2.1 x.22.2.1,()) (cond (x.9 ==(0:Int)) x.23 x.23),(0:Int),()) =(gx x p,bn x p,())))
 intro r1
 clear_value (hr1:r1=_)
 refine ⟨hs,fun h=>?_,fun h=>?_⟩
 ·simp only [gx,h];rfl
 ·have h0:bn x p=0:=by simpa using h
  have k:aC x p=true:=by grind [bn]
  have k2:1≤p∧p≤x.Batters.length:=by simpa [aC] using k
  have e1:r1=p - 1:=by rw [hr1];exact fM k2.1 hp
  refine ⟨by omega,?_⟩
  rw [h0,e1]
  simp only [gx,h0]
  cases hb:x.Striker==0 <;> rfl
def zH:FuncId×Ctr:=(328,ae KE fH q2L sQ)
theorem GM:CtrOK Tryz.prog KE 328 (ae KE fH q2L sQ):=by
 refine an (C:=al [k44,oQ] Tryz.f328) (aj (.consU sC rfl (.consU w6 rfl .nil)) _) mixed (fn:=Tryz.f328) Tryz.func328 (by kernel_rfl) (by kernel_rfl) (by kernel_rfl) (by kernel_rfl) (by kernel_rfl) (by kernel_rfl) (Λ:=fun _ _=>none) ?_ ?_
 ·exact fun _ _ _ _ _ _ _ _ h=>by cases h
 ·rintro ⟨x,p,⟨⟩⟩ hw hn
  exact Ft x p (hn _ List.mem_cons_self) (dk (aU (aN hw)))
theorem yC (x:Innings) (p:Int) (hs:ai x) (hp:gP p) :(evPat (al [k44,oQ] Tryz.f327) (fun _=>none) Tryz.f327 fH q2L (x,p,())).sat fun z_=>z_ =(AJ (x,p,())).2:=by
 refine cast (by kernel_rfl) (?_:let r1:Int:=IntKind.i64.wrap (p - (1:Int));ai x∧((bn x p !=(0:Int))=true→(x,bn x p,()) =(ji x p,bn x p,()))∧((bn x p !=(0:Int))=false→((0:Int)≤r1∧r1 <(↑x.11.length:Int))∧(Innings.mk x.1 x.2 x.3 x.4 (IntKind.i64.wrap (x.5 +(1:Int))) x.6 x.7 x.8 x.9 x.10 (x.11.set r1.toNat (2:Int)) x.12 x.13 x.14 x.15 x.16 x.17 x.18 x.19 x.20 x.21 x.22 x.23,(0:Int),()) =(ji x p,bn x p,())))
 intro r1
 clear_value (hr1:r1=_)
 refine ⟨hs,fun h=>?_,fun h=>?_⟩
 ·simp only [ji,h];rfl
 ·have h0:bn x p=0:=by simpa using h
  have k:aC x p=true:=by grind [bn]
  have k2:1≤p∧p≤x.Batters.length:=by simpa [aC] using k
  have e1:r1=p - 1:=by rw [hr1];exact fM k2.1 hp
  have e4:ji x p={ cm x p 2 with Wickets:=W (x.Wickets+1) }:=by simp [ji,h0,fC,k,cm]
  refine ⟨by omega,?_⟩
  rw [h0,e1,e4];rfl
def tG:FuncId×Ctr:=(327,ae KE fH q2L AJ)
theorem BP:CtrOK Tryz.prog KE 327 (ae KE fH q2L AJ):=by
 refine an (C:=al [k44,oQ] Tryz.f327) (aj (.consU sC rfl (.consU w6 rfl .nil)) _) mixed (fn:=Tryz.f327) Tryz.func327 (by kernel_rfl) (by kernel_rfl) (by kernel_rfl) (by kernel_rfl) (by kernel_rfl) (by kernel_rfl) (Λ:=fun _ _=>none) ?_ ?_
 ·exact fun _ _ _ _ _ _ _ _ h=>by cases h
 ·rintro ⟨x,p,⟨⟩⟩ hw hn
  exact yC x p (hn _ List.mem_cons_self) (dk (aU (aN hw)))
theorem Hz (x:Innings) (s:Int) (o:Int) (hs:ai x) (h1:gP s) (h2:gP o) :(evPat (al [k44,gf,eT] Tryz.f324) (fun _=>none) Tryz.f324 xp q2L (x,s,o,())).sat fun z_=>z_ =(AF (x,s,o,())).2:=by
 refine cast (by kernel_rfl) (?_:let r1:Int:=IntKind.i64.wrap (s - (1:Int));let r2:Int:=IntKind.i64.wrap (o - (1:Int));let r3:List Int:=x.11.set r1.toNat (1:Int);ai x∧(cu x=true→(x,(1:Int),()) =(fo x s o,gi x s o,()))∧(cu x=false→((cond (!aC x s) true (!aC x o))=true→(x,(3:Int),()) =(fo x s o,gi x s o,()))∧((cond (!aC x s) true (!aC x o))=false→((s==o)=true→(x,(4:Int),()) =(fo x s o,gi x s o,()))∧((s==o)=false→((0:Int)≤r1∧r1 <(↑x.11.length:Int))∧((0:Int)≤r2∧r2 <(↑r3.length:Int))∧(Innings.mk x.1 x.2 x.3 x.4 x.5 x.6 x.7 x.8 s o (r3.set r2.toNat (1:Int)) x.12 x.13 x.14 x.15 x.16 x.17 x.18 x.19 x.20 x.21 x.22 x.23,(0:Int),()) =(fo x s o,gi x s o,())))))
 intro r1 r2 r3
 clear_value (hr1:r1=_) (hr2:r2=_) (hr3:r3=_)
 refine ⟨hs,fun hb=>?_,fun hb=>⟨fun hk=>?_,fun hk=>⟨fun he=>?_,fun he=>?_⟩⟩⟩
 ·simp [fo,gi,hb]
 ·have hk :(!aC x s||!aC x o)=true:=by grind
  simp only [fo,gi,hb,hk];rfl
 ·have hk :(!aC x s||!aC x o)=false:=by grind
  simp only [fo,gi,hb,hk,he];rfl
 ·have hk2 :(!aC x s||!aC x o)=false:=by grind
  have k1:1≤s∧s≤x.Batters.length:=by
   have:aC x s=true:=by grind
   simpa [aC] using this
  have k2:1≤o∧o≤x.Batters.length:=by
   have:aC x o=true:=by grind
   simpa [aC] using this
  have e1:r1=s - 1:=by rw [hr1];exact fM k1.1 h1
  have e2:r2=o - 1:=by rw [hr2];exact fM k2.1 h2
  have e3:r3 =(cm x s 1).Batters:=by rw [hr3,e1];rfl
  have e4:r3.length=x.Batters.length:=by rw [e3];simp [cm]
  refine ⟨by omega,by omega,?_⟩
  rw [e3,e2]
  simp only [fo,gi,hb,hk2,he];rfl
def DS:FuncId×Ctr:=(324,ae KE xp q2L AF)
theorem Kw:CtrOK Tryz.prog KE 324 (ae KE xp q2L AF):=by
 refine an (C:=al [k44,gf,eT] Tryz.f324) (aj (.consU sC rfl (.consU mj rfl (.consU kL rfl .nil))) _) mixed (fn:=Tryz.f324) Tryz.func324 (by kernel_rfl) (by kernel_rfl) (by kernel_rfl) (by kernel_rfl) (by kernel_rfl) (by kernel_rfl) (Λ:=fun _ _=>none) ?_ ?_
 ·exact fun _ _ _ _ _ _ _ _ h=>by cases h
 ·rintro ⟨x,s,o,⟨⟩⟩ hw hn
  exact Hz x s o (hn _ List.mem_cons_self) (dk (aU (aN hw))) (dk (aU (aN (aN hw))))
theorem NH (x:Innings) (s:Int) (o:Int) (hs:ai x) (h1:gP s) (h2:gP o) :(evPat (al [mQ,uQ,kI] Tryz.f341) (fun _=>none) Tryz.f341 xp q2L (x,s,o,())).sat fun z_=>z_ =(AF (x,s,o,())).2:=by
 refine cast (by kernel_rfl) (?_:let r1:Int:=IntKind.i64.wrap (s - (1:Int));let r2:Int:=IntKind.i64.wrap (o - (1:Int));let r3:List Int:=x.11.set r1.toNat (1:Int);ai x∧(cu x=true→(x,(1:Int),()) =(fo x s o,gi x s o,()))∧(cu x=false→((cond (!aC x s) true (!aC x o))=true→(x,(3:Int),()) =(fo x s o,gi x s o,()))∧((cond (!aC x s) true (!aC x o))=false→((s==o)=true→(x,(4:Int),()) =(fo x s o,gi x s o,()))∧((s==o)=false→((0:Int)≤r1∧r1 <(↑x.11.length:Int))∧((0:Int)≤r2∧r2 <(↑r3.length:Int))∧(Innings.mk x.1 x.2 x.3 x.4 x.5 x.6 x.7 x.8 s o (r3.set r2.toNat (1:Int)) x.12 x.13 x.14 x.15 x.16 x.17 x.18 x.19 x.20 x.21 x.22 x.23,(0:Int),()) =(fo x s o,gi x s o,())))))
 intro r1 r2 r3
 clear_value (hr1:r1=_) (hr2:r2=_) (hr3:r3=_)
 refine ⟨hs,fun hb=>?_,fun hb=>⟨fun hk=>?_,fun hk=>⟨fun he=>?_,fun he=>?_⟩⟩⟩
 ·simp [fo,gi,hb]
 ·have hk :(!aC x s||!aC x o)=true:=by grind
  simp only [fo,gi,hb,hk];rfl
 ·have hk :(!aC x s||!aC x o)=false:=by grind
  simp only [fo,gi,hb,hk,he];rfl
 ·have hk2 :(!aC x s||!aC x o)=false:=by grind
  have k1:1≤s∧s≤x.Batters.length:=by
   have:aC x s=true:=by grind
   simpa [aC] using this
  have k2:1≤o∧o≤x.Batters.length:=by
   have:aC x o=true:=by grind
   simpa [aC] using this
  have e1:r1=s - 1:=by rw [hr1];exact fM k1.1 h1
  have e2:r2=o - 1:=by rw [hr2];exact fM k2.1 h2
  have e3:r3 =(cm x s 1).Batters:=by rw [hr3,e1];rfl
  have e4:r3.length=x.Batters.length:=by rw [e3];simp [cm]
  refine ⟨by omega,by omega,?_⟩
  rw [e3,e2]
  simp only [fo,gi,hb,hk2,he];rfl
def Mj:FuncId×Ctr:=(341,ae KE xp q2L AF)
theorem Pt:CtrOK Tryz.prog KE 341 (ae KE xp q2L AF):=by
 refine an (C:=al [mQ,uQ,kI] Tryz.f341) (aj (.consU sE rfl (.consU Ef rfl (.consU rE rfl .nil))) _) mixed (fn:=Tryz.f341) Tryz.func341 (by kernel_rfl) (by kernel_rfl) (by kernel_rfl) (by kernel_rfl) (by kernel_rfl) (by kernel_rfl) (Λ:=fun _ _=>none) ?_ ?_
 ·exact fun _ _ _ _ _ _ _ _ h=>by cases h
 ·rintro ⟨x,s,o,⟨⟩⟩ hw hn
  exact NH x s o (hn _ List.mem_cons_self) (dk (aU (aN hw))) (dk (aU (aN (aN hw))))
theorem tp (x:Innings) (d:Delivery) (b:Bool) (p:Int):fC (cK (cP x d) b) p={ cK (cP x d) b with Batters:=(bif aC x p then x.Batters.set (p - 1).toNat 2 else x.Batters),Wickets:=W (x.Wickets+1) }:=by
 have e :(cK (cP x d) b).Batters=x.Batters∧(cK (cP x d) b).Wickets=x.Wickets:=by
  simp only [cK,cP];cases b <;> cases fb d <;> exact ⟨rfl,rfl⟩
 have k:aC (cK (cP x d) b) p=aC x p:=by unfold aC;rw [e.1]
 unfold fC
 rw [k]
 cases h:aC x p with
 | true=>simp [cm,e.1,e.2]
 | false=>simp [←e.1,e.2]
theorem Lg (x:Innings) (d:Delivery) (hs:ai x) :(evPat (al [k44,l9,eT] Tryz.f362) (fun _=>none) Tryz.f362 G8 qIn (x,d,())).sat fun z_=>z_ =(Lw (x,d,())).2:=by
 refine cast (by kernel_rfl) (?_:let r1:Bool:=!(d.3.tmod (2:Int) !=(0:Int))==d.6;let r2:Bool:=cond (d.7 ==(0:Int)) true (cond (d.8 ==(1:Int)) true (!d.8 ==(2:Int)));let r3:Bool:=!r2;let r4:Int:=cond r2 x.1 x.1;let r5:Int:=cond r2 x.2 x.2;let r6:Int:=cond r2 x.3 x.3;let r7:Int:=cond r2 x.4 x.4;let r8:Int:=cond r2 x.5 x.5;let r9:Int:=cond r2 x.7 x.7;let r10:Int:=cond r2 x.8 x.8;let r11:Int:=cond r2 x.12 x.12;let r12:Bool:=cond r2 x.15 x.15;let r13:Bool:=cond r2 x.17 x.17;let r14:Int:=cond r2 x.18 x.18;let r15:Int:=cond r2 x.19 x.19;let r16:Int:=cond r2 x.20 x.20;let r17:Int:=cond r2 x.23 x.23;let r18:Int:=cond r3 x.1 x.1;let r19:Int:=cond r3 x.2 x.2;let r20:Int:=cond r3 x.3 x.3;let r21:Int:=cond r3 x.4 x.4;let r22:Int:=cond r3 x.5 x.5;let r23:Int:=cond r3 x.7 x.7;let r24:Int:=cond r3 x.8 x.8;let r25:Int:=cond r3 x.12 x.12;let r26:Bool:=cond r3 x.15 x.15;let r27:Bool:=cond r3 x.17 x.17;let r28:Int:=cond r3 x.18 x.18;let r29:Int:=cond r3 x.19 x.19;let r30:Int:=cond r3 x.20 x.20;let r31:Int:=cond r3 x.23 x.23;let r32:Int:=cond r2 (0:Int) x.9;let r33:Int:=cond r2 x.10 (0:Int);let r34:Int:=cond r3 (0:Int) x.10;let r35:Int:=cond r3 x.9 (0:Int);let r36:Int:=cond (d.7 ==(0:Int)) (0:Int) (cond (d.8 ==(1:Int)) x.9 (cond (d.8 ==(2:Int)) x.10 (0:Int)));let r37:Bool:=r36 ==(0:Int);let r38:Int:=IntKind.i64.wrap (r36 - (1:Int));let r39:List Int:=x.11.set r38.toNat (2:Int);let r40:Extras:=Extras.mk (cond r2 x.6.1 x.6.1) (cond r2 x.6.2 x.6.2) (cond r2 x.6.3 x.6.3) (cond r2 x.6.4 x.6.4) (cond r2 x.6.5 x.6.5);let r41:Extras:=Extras.mk (cond r3 x.6.1 x.6.1) (cond r3 x.6.2 x.6.2) (cond r3 x.6.3 x.6.3) (cond r3 x.6.4 x.6.4) (cond r3 x.6.5 x.6.5);let r42:Bool:=aC (Innings.mk r4 r5 r6 r7 r8 r40 r9 r10 r32 r33 x.11 r11 x.13 x.14 r12 x.16 r13 r14 r15 r16 x.21 (cond r2 x.22.1 x.22.1,cond r2 x.22.2.1 x.22.2.1,()) r17) r36;let r43:Bool:=aC (Innings.mk r18 r19 r20 r21 r22 r41 r23 r24 r34 r35 x.11 r25 x.13 x.14 r26 x.16 r27 r28 r29 r30 x.21 (cond r3 x.22.1 x.22.1,cond r3 x.22.2.1 x.22.2.1,()) r31) r36;ai x∧(2:Int)≠(0:Int)∧(r1=true→ai x∧(r37=true→(Innings.mk x.1 x.2 x.3 x.4 x.5 x.6 x.7 x.8 x.10 x.9 x.11 x.12 x.13 x.14 x.15 x.16 x.17 x.18 x.19 x.20 x.21 x.22 x.23,()) =(aP x d,()))∧(r37=false→((r43=true→((0:Int)≤r38∧r38 <(↑x.11.length:Int))∧True)∧(r43=false→True))∧(true=true→(Innings.mk r18 r19 r20 r21 (IntKind.i64.wrap (r22 +(1:Int))) r41 r23 r24 r34 r35 (cond r43 r39 x.11) r25 x.13 x.14 r26 x.16 r27 r28 r29 r30 x.21 (cond r3 x.22.1 x.22.1,cond r3 x.22.2.1 x.22.2.1,()) r31,()) =(aP x d,()))))∧(r1=false→(r37=true→(x,()) =(aP x d,()))∧(r37=false→((r42=true→((0:Int)≤r38∧r38 <(↑x.11.length:Int))∧True)∧(r42=false→True))∧(true=true→(Innings.mk r4 r5 r6 r7 (IntKind.i64.wrap (r8 +(1:Int))) r40 r9 r10 r32 r33 (cond r42 r39 x.11) r11 x.13 x.14 r12 x.16 r13 r14 r15 r16 x.21 (cond r2 x.22.1 x.22.1,cond r2 x.22.2.1 x.22.2.1,()) r17,()) =(aP x d,())))))
 intro r1 r2 r3 r4 r5 r6 r7 r8 r9 r10 r11 r12 r13 r14 r15 r16 r17 r18 r19 r20 r21 r22 r23 r24 r25 r26 r27 r28 r29 r30 r31 r32 r33 r34 r35 r36 r37 r38 r39 r40 r41 r42 r43
 clear_value (hr1:r1=_) (hr2:r2=_) (hr3:r3=_) (hr4:r4=_) (hr5:r5=_) (hr6:r6=_) (hr7:r7=_) (hr8:r8=_) (hr9:r9=_) (hr10:r10=_) (hr11:r11=_) (hr12:r12=_) (hr13:r13=_) (hr14:r14=_) (hr15:r15=_) (hr16:r16=_) (hr17:r17=_) (hr18:r18=_) (hr19:r19=_) (hr20:r20=_) (hr21:r21=_) (hr22:r22=_) (hr23:r23=_) (hr24:r24=_) (hr25:r25=_) (hr26:r26=_) (hr27:r27=_) (hr28:r28=_) (hr29:r29=_) (hr30:r30=_) (hr31:r31=_) (hr32:r32=_) (hr33:r33=_) (hr34:r34=_) (hr35:r35=_) (hr36:r36=_) (hr37:r37=_) (hr38:r38=_) (hr39:r39=_) (hr40:r40=_) (hr41:r41=_) (hr42:r42=_) (hr43:r43=_)
 simp only [Bool.cond_self] at *
 have hs4:r1=fb d:=hr1
 subst hs4
 have k43:r43=aC x r36:=by rw [hr43];rfl
 have k42:r42=aC x r36:=by rw [hr42];rfl
 have ho:r37 =(fF x d==0):=by rw [hr37,hr36];grind [fF]
 have hp:r37=false→r36 =(if fF x d==1 then x.Striker else x.Other)∧r2 =(fF x d==1):=fun h=>by
  have h0 :¬ r36=0:=by grind
  rw [hr36] at h0 ⊢
  rw [hr2]
  grind [fF]
 have hb:r37=false→aC x r36=true→(0:Int)≤r38∧r38 <(x.Batters.length:Int)∧r38=r36 - 1:=fun h hk=>by
  have k2:1≤r36∧r36≤x.Batters.length:=by simpa [aC] using hk
  have e1:r38=r36 - 1:=by
   rw [hr38]
   have:=hs.1
   exact de (by omega) (by omega)
  omega
 have hB:r37=false→(bif aC x r36 then r39 else x.Batters) =(bif aC x r36 then x.Batters.set (r36 - 1).toNat 2 else x.Batters):=fun h=>by
  cases hk:aC x r36 with
  | false=>rfl
  | true=>rw [hr39,(hb h hk).2.2]
 subst hr4 hr5 hr6 hr7 hr8 hr9 hr10 hr11 hr12 hr13 hr14 hr15 hr16 hr17 hr18 hr19 hr20 hr21 hr22 hr23 hr24 hr25 hr26 hr27 hr28 hr29 hr30 hr31
 refine ⟨hs,by decide,fun h1=>⟨hs,fun h=>?_,fun h=>⟨⟨fun hk=>?_,fun _=>trivial⟩,fun _=>?_⟩⟩,fun h1=>⟨fun h=>?_,fun h=>⟨⟨fun hk=>?_,fun _=>trivial⟩,fun _=>?_⟩⟩⟩
 ·have h0 :(fF x d==0)=true:=by rw [←ho];exact h
  simp only [aP,h0,cP,h1];rfl
 ·rw [k43] at hk
  exact ⟨⟨(hb h hk).1,(hb h hk).2.1⟩,trivial⟩
 ·have h0 :(fF x d==0)=false:=by rw [←ho];exact h
  have e:aP x d=fC (cK (cP x d) ((fF x d==1) != fb d)) (if fF x d==1 then x.Striker else x.Other):=by simp only [aP,h0];rfl
  obtain ⟨p1,p2⟩:=hp h
  rw [e,tp,←p1,←p2,←hB h,k43,h1]
  simp only [cP,h1,cK]
  subst hr32 hr33 hr34 hr35 hr3
  rw [hr41]
  cases r2 <;> rfl
 ·have h0 :(fF x d==0)=true:=by rw [←ho];exact h
  simp only [aP,h0,cP,h1];rfl
 ·rw [k42] at hk
  exact ⟨⟨(hb h hk).1,(hb h hk).2.1⟩,trivial⟩
 ·have h0 :(fF x d==0)=false:=by rw [←ho];exact h
  have e:aP x d=fC (cK (cP x d) ((fF x d==1) != fb d)) (if fF x d==1 then x.Striker else x.Other):=by simp only [aP,h0];rfl
  obtain ⟨p1,p2⟩:=hp h
  rw [e,tp,←p1,←p2,←hB h,k42,h1]
  simp only [cP,h1,cK]
  subst hr32 hr33 hr34 hr35 hr3
  rw [hr40]
  cases r2 <;> rfl
def I7:FuncId×Ctr:=(362,ae KE G8 qIn Lw)
theorem M5:CtrOK Tryz.prog KE 362 (ae KE G8 qIn Lw):=by
 refine an (C:=al [k44,l9,eT] Tryz.f362) (aj (.consU sC rfl (.consU tP rfl (.consU kL rfl .nil))) _) mixed (fn:=Tryz.f362) Tryz.func362 (by kernel_rfl) (by kernel_rfl) (by kernel_rfl) (by kernel_rfl) (by kernel_rfl) (by kernel_rfl) (Λ:=fun _ _=>none) ?_ ?_
 ·exact fun _ _ _ _ _ _ _ _ h=>by cases h
 ·rintro ⟨x,d,⟨⟩⟩ hw hn
  exact Lg x d (hn _ List.mem_cons_self)
abbrev Q2:Pat:=⟨[(8,.h I),(9,.h I),(7,.h U8s),(3,.c (.osl 1 2))],[(1,.row 2 I)],3⟩
abbrev RS:List (Lf×Pat):= [(.ext 0,⟨[(3,.c (.osl 1 2))],[(1,.row 2 I)],3⟩)]
def eB (x:Int×Int×List Int×List Int×Unit):Prop:=cH (x.2.2.1,x.1,x.2.1,())∧x.2.2.1.length≤1000000∧x.2.2.2.1.length≤x.2.1
def ej (x:Int×Int×List Int×List Int×Unit):Nat:=(x.1 - x.2.1).toNat
def cy (x:Int×Int×List Int×List Int×Unit):List Int×Unit:=(x.2.2.2.1++pH (x.2.2.1.drop x.2.1.toNat) x.2.1,())
noncomputable def lpLLc:Lp:=(⟨0,al [] Tryz.f356,(fun _=>none),(az Tryz.f356 0),Q2,RS⟩:Lp)
theorem Qy (n:Int) (i:Int) (xs:List Int) (out:List Int) (hi:eB (n,i,xs,out,())) :(Go.Mir.stepG lpLLc cy (fun y:Den (tyP lpLLc.q)=>eB y∧ej y<ej (n,i,xs,out,())) (n,i,xs,out,())∧Go.Mir.stepE lpLLc cy (n,i,xs,out,())=cy (n,i,xs,out,())):=by
 refine cast (by kernel_rfl) (?_:let r1:Int:=IntKind.i64.wrap (i+1);let r2:List Int:= [r1];let r3:Bool:=cond (xs.getD i.toNat (dflt (Ty.int IntKind.u8))==0) true (xs.getD i.toNat (dflt (Ty.int IntKind.u8))==3);((decide (i<n)=true→(0≤i∧i <(↑xs.length:Int))∧(r3=true→(out.length+r2.length) *(8:Nat)≤(70368744177664:Nat)∧eB (n,r1,xs,out++r2,())∧ej (n,r1,xs,out++r2,())<ej (n,i,xs,out,()))∧(r3=false→eB (n,r1,xs,out,())∧ej (n,r1,xs,out,())<ej (n,i,xs,out,())))∧(decide (i<n)=false→True))∧(cond (decide (i<n)) (cond r3 (cy (n,r1,xs,out++r2,())) (cy (n,r1,xs,out,()))) (out,()))=cy (n,i,xs,out,()))
 intro r1 r2 r3
 clear_value (hr1:r1=_) (hr2:r2=_) (hr3:r3=_)
 obtain ⟨⟨h1,h2,h3,h4⟩,h6,h7⟩:=hi
 simp only at h1 h2 h3 h4 h6 h7
 have hw:i<n→r1=i+1:=fun h=>by rw [hr1];exact bc (by omega) (by omega)
 have hl:r2.length=1:=by rw [hr2];rfl
 refine ⟨⟨fun h=>?_,fun _=>trivial⟩,?_⟩
 ·have h:i<n:=of_decide_eq_true h
  have hw:=hw h
  refine ⟨⟨h2,by omega⟩,fun _=>⟨by omega,⟨⟨h1,by simp only;omega,by simp only;omega,h4⟩,h6,by simp only [List.length_append];omega⟩,by simp only [ej];omega⟩,fun _=>⟨⟨⟨h1,by simp only;omega,by simp only;omega,h4⟩,h6,by simp only;omega⟩,by simp only [ej];omega⟩⟩
 ·by_cases h:i<n
  ·have hw:=hw h
   have e:xs.drop i.toNat=xs.getD i.toNat (dflt (Ty.int IntKind.u8))::xs.drop (i+1).toNat:=b8 h2 (by omega) _
   have e3:r3=xP (xs.getD i.toNat (dflt (Ty.int IntKind.u8))):=by
    rw [hr3]
    generalize xs.getD i.toNat (dflt (Ty.int IntKind.u8))=v
    simp only [xP]
    cases v==0 <;> rfl
   rw [decide_eq_true h,cond_true,e3,hr2,hw]
   generalize xs.getD i.toNat (dflt (Ty.int IntKind.u8))=v at e ⊢
   simp only [cy,e,pH]
   cases xP v <;> simp
  ·rw [decide_eq_false h,cond_false]
   simp only [cy]
   rw [bJ (l:=xs) (by omega)]
   simp [pH]
noncomputable def Oy:LoopSum:=aM lpLLc cy eB
noncomputable def Nt:Nat:=rid (az Tryz.f356 0)
theorem O2:LoopOKp Tryz.prog 0 Tryz.f356.ntmps (az Tryz.f356 0) (aM lpLLc cy eB):=
 bk lpLLc (aj (CtrsOK.nil) _) mixed (fun b hb S hS=>by cases hS) cy eB ej (fun |⟨n,i,xs,out,⟨⟩⟩,hi=>Qy n i xs out hi)
theorem NG (x:Innings) (hs:ai x) :(evPat (al [] Tryz.f356) (find [(Nt,Oy)]) Tryz.f356 qIn qIs (x,())).sat fun z_=>z_ =(AE (x,())).2:=by
 refine cast (by kernel_rfl) (?_ :((cZ fun x=>none)∧cH (x.11,(↑x.11.length:Int),0,())∧x.11.length≤(1000000:Nat)∧(↑(0:Nat):Int)≤0)∧([]++pH (List.drop (Int.toNat 0) x.11) 0,()) =(tK x,()))
 refine ⟨⟨rfl,⟨rfl,Int.le_refl _,by simp only;omega,?_⟩,hs.1,Int.le_refl _⟩,rfl⟩
 have:=hs.1
 show x.Batters.length≤140737488355328
 omega
def Bu:FuncId×Ctr:=(356,ae KE qIn qIs AE)
theorem Jp:CtrOK Tryz.prog KE 356 (ae KE qIn qIs AE):=by
 refine an (C:=al [] Tryz.f356) (aj (CtrsOK.nil) _) mixed (fn:=Tryz.f356) Tryz.func356 (by kernel_rfl) (by kernel_rfl) (by kernel_rfl) (by kernel_rfl) (by kernel_rfl) (by kernel_rfl) (Λ:=fun x=>find [(Nt,Oy)]) ?_ ?_
 ·rintro ⟨x,⟨⟩⟩ hw hn
  exact LoopsOKp.at (by kernel_rfl) (.cons (by kernel_rfl) (O2) .nil)
 ·rintro ⟨x,⟨⟩⟩ hw hn
  exact NG x (hn _ List.mem_cons_self)
noncomputable def lpLLr:Lp:=(⟨0,al [] Tryz.f337,(fun _=>none),(az Tryz.f337 0),Q2,RS⟩:Lp)
theorem Qz (n:Int) (i:Int) (xs:List Int) (out:List Int) (hi:eB (n,i,xs,out,())) :(Go.Mir.stepG lpLLr cy (fun y:Den (tyP lpLLr.q)=>eB y∧ej y<ej (n,i,xs,out,())) (n,i,xs,out,())∧Go.Mir.stepE lpLLr cy (n,i,xs,out,())=cy (n,i,xs,out,())):=by
 refine cast (by kernel_rfl) (?_:let r1:Int:=IntKind.i64.wrap (i+1);let r2:List Int:= [r1];let r3:Bool:=cond (xs.getD i.toNat (dflt (Ty.int IntKind.u8))==0) true (xs.getD i.toNat (dflt (Ty.int IntKind.u8))==3);((decide (i<n)=true→(0≤i∧i <(↑xs.length:Int))∧(r3=true→(out.length+r2.length) *(8:Nat)≤(70368744177664:Nat)∧eB (n,r1,xs,out++r2,())∧ej (n,r1,xs,out++r2,())<ej (n,i,xs,out,()))∧(r3=false→eB (n,r1,xs,out,())∧ej (n,r1,xs,out,())<ej (n,i,xs,out,())))∧(decide (i<n)=false→True))∧(cond (decide (i<n)) (cond r3 (cy (n,r1,xs,out++r2,())) (cy (n,r1,xs,out,()))) (out,()))=cy (n,i,xs,out,()))
 intro r1 r2 r3
 clear_value (hr1:r1=_) (hr2:r2=_) (hr3:r3=_)
 obtain ⟨⟨h1,h2,h3,h4⟩,h6,h7⟩:=hi
 simp only at h1 h2 h3 h4 h6 h7
 have hw:i<n→r1=i+1:=fun h=>by rw [hr1];exact bc (by omega) (by omega)
 have hl:r2.length=1:=by rw [hr2];rfl
 refine ⟨⟨fun h=>?_,fun _=>trivial⟩,?_⟩
 ·have h:i<n:=of_decide_eq_true h
  have hw:=hw h
  refine ⟨⟨h2,by omega⟩,fun _=>⟨by omega,⟨⟨h1,by simp only;omega,by simp only;omega,h4⟩,h6,by simp only [List.length_append];omega⟩,by simp only [ej];omega⟩,fun _=>⟨⟨⟨h1,by simp only;omega,by simp only;omega,h4⟩,h6,by simp only;omega⟩,by simp only [ej];omega⟩⟩
 ·by_cases h:i<n
  ·have hw:=hw h
   have e:xs.drop i.toNat=xs.getD i.toNat (dflt (Ty.int IntKind.u8))::xs.drop (i+1).toNat:=b8 h2 (by omega) _
   have e3:r3=xP (xs.getD i.toNat (dflt (Ty.int IntKind.u8))):=by
    rw [hr3]
    generalize xs.getD i.toNat (dflt (Ty.int IntKind.u8))=v
    simp only [xP]
    cases v==0 <;> rfl
   rw [decide_eq_true h,cond_true,e3,hr2,hw]
   generalize xs.getD i.toNat (dflt (Ty.int IntKind.u8))=v at e ⊢
   simp only [cy,e,pH]
   cases xP v <;> simp
  ·rw [decide_eq_false h,cond_false]
   simp only [cy]
   rw [bJ (l:=xs) (by omega)]
   simp [pH]
noncomputable def Oz:LoopSum:=aM lpLLr cy eB
noncomputable def Nu:Nat:=rid (az Tryz.f337 0)
theorem O3:LoopOKp Tryz.prog 0 Tryz.f337.ntmps (az Tryz.f337 0) (aM lpLLr cy eB):=
 bk lpLLr (aj (CtrsOK.nil) _) mixed (fun b hb S hS=>by cases hS) cy eB ej (fun |⟨n,i,xs,out,⟨⟩⟩,hi=>Qz n i xs out hi)
theorem Hy (x:Innings) (hs:ai x) :(evPat (al [] Tryz.f337) (find [(Nu,Oz)]) Tryz.f337 qIn qIs (x,())).sat fun z_=>z_ =(AE (x,())).2:=by
 refine cast (by kernel_rfl) (?_ :((cZ fun x=>none)∧cH (x.11,(↑x.11.length:Int),0,())∧x.11.length≤(1000000:Nat)∧(↑(0:Nat):Int)≤0)∧([]++pH (List.drop (Int.toNat 0) x.11) 0,()) =(tK x,()))
 refine ⟨⟨rfl,⟨rfl,Int.le_refl _,by simp only;omega,?_⟩,hs.1,Int.le_refl _⟩,rfl⟩
 have:=hs.1
 show x.Batters.length≤140737488355328
 omega
def rh:FuncId×Ctr:=(337,ae KE qIn qIs AE)
theorem Ac:CtrOK Tryz.prog KE 337 (ae KE qIn qIs AE):=by
 refine an (C:=al [] Tryz.f337) (aj (CtrsOK.nil) _) mixed (fn:=Tryz.f337) Tryz.func337 (by kernel_rfl) (by kernel_rfl) (by kernel_rfl) (by kernel_rfl) (by kernel_rfl) (by kernel_rfl) (Λ:=fun x=>find [(Nu,Oz)]) ?_ ?_
 ·rintro ⟨x,⟨⟩⟩ hw hn
  exact LoopsOKp.at (by kernel_rfl) (.cons (by kernel_rfl) (O3) .nil)
 ·rintro ⟨x,⟨⟩⟩ hw hn
  exact Hy x (hn _ List.mem_cons_self)
theorem uc {x:Innings} {p:Int} {hurt:Bool} (h1:aC x p=true) (h2 :(x.Striker==0||x.Other==0)=false) (h3 :(p != x.Striker&&p != x.Other)=false) (h4 :(hurt&&jZ x)=false) :
  bI x p hurt=0∧cz x p hurt={ cK x (p==x.Striker) with Batters:=x.Batters.set (p - 1).toNat (bif hurt then 3 else 2),Wickets:=(bif hurt then x.Wickets else W (x.Wickets+1)) }:=by
 have e:bI x p hurt=0:=by simp only [bI,h1,h2,h3,h4];rfl
 refine ⟨e,?_⟩
 have kb :∀ b,(cK x b).Batters=x.Batters∧(cK x b).Wickets=x.Wickets:=fun b=>by cases b <;> exact ⟨rfl,rfl⟩
 simp only [cz,e]
 obtain ⟨k1,k2⟩:=kb (p==x.Striker)
 have kk:aC (cK x (p==x.Striker)) p=true:=by unfold aC at h1 ⊢;rw [k1];exact h1
 cases hurt with
 | true=>simp [cm,k1,←k2]
 | false=>simp [fC,kk,cm,k1,k2]
theorem Hh (x:Innings) (p:Int) (hurt:Bool) (hs:ai x) (hp:gP p) :(evPat (al [mQ,kI,Bu,jB] Tryz.f346) (fun _=>none) Tryz.f346 xn q2L (x,p,hurt,())).sat fun z_=>z_ =(pk (x,p,hurt,())).2:=by
 refine cast (by kernel_rfl) (?_:let r1:Int:=cond (p==x.9) x.1 x.1;let r2:Int:=cond (p==x.9) x.2 x.2;let r3:Int:=cond (p==x.9) x.3 x.3;let r4:Int:=cond (p==x.9) x.4 x.4;let r5:Int:=cond (p==x.9) x.5 x.5;let r6:Int:=cond (p==x.9) x.7 x.7;let r7:Int:=cond (p==x.9) x.8 x.8;let r8:Int:=cond (p==x.9) x.12 x.12;let r9:Bool:=cond (p==x.9) x.15 x.15;let r10:Bool:=cond (p==x.9) x.17 x.17;let r11:Int:=cond (p==x.9) x.18 x.18;let r12:Int:=cond (p==x.9) x.19 x.19;let r13:Int:=cond (p==x.9) x.20 x.20;let r14:Int:=cond (p==x.9) x.23 x.23;let r15:Int:=IntKind.i64.wrap (p - 1);let r16:Int:=cond (p==x.9) x.6.1 x.6.1;let r17:Int:=cond (p==x.9) x.6.2 x.6.2;let r18:Int:=cond (p==x.9) x.6.3 x.6.3;let r19:Int:=cond (p==x.9) x.6.4 x.6.4;let r20:Int:=cond (p==x.9) x.6.5 x.6.5;let r21:Int:=cond (p==x.9) x.22.1 x.22.1;let r22:Int:=cond (p==x.9) 0 x.9;let r23:Int:=cond (p==x.9) x.10 0;let r24:Int:=cond (p==x.9) x.22.2.1 x.22.2.1;let r25:Bool:=cond (p != x.9) (p != x.10) false;let r26:Bool:=cond hurt ((↑(tK x).length:Int)==0) false;let r27:Bool:=cond (x.9==0) true (x.10==0);let r28:Innings:=inn (r1,r2,r3,r4,r5,r16,r17,r18,r19,r20,r6,r7,r22,r23,r8,r9,r10,r11,r12,r13,r21,r24,r14,x.11,x.13,x.14,x.16,x.21,());let r29:Bool:=aC r28 p;let r30:Innings:=if r29=true then cm r28 p 2 else r28;ai x∧((!aC x p)=true→(x,3,()) =(cz x p hurt,bI x p hurt,()))∧((!aC x p)=false→(r27=true→(x,6,()) =(cz x p hurt,bI x p hurt,()))∧(r27=false→(r25=true→(x,4,()) =(cz x p hurt,bI x p hurt,()))∧(r25=false→((hurt=true→ai x∧True)∧(hurt=false→True))∧(true=true→(r26=true→(x,19,()) =(cz x p hurt,bI x p hurt,()))∧(r26=false→((hurt=true→(0≤r15∧r15 <(↑x.11.length:Int))∧True)∧(hurt=false→True))∧(true=true→(Innings.mk (cond hurt r1 r30.1) (cond hurt r2 r30.2) (cond hurt r3 r30.3) (cond hurt r4 r30.4) (cond hurt r5 (W (r5+1))) (Extras.mk (cond hurt r16 r30.6.1) (cond hurt r17 r30.6.2) (cond hurt r18 r30.6.3) (cond hurt r19 r30.6.4) (cond hurt r20 r30.6.5)) (cond hurt r6 r30.7) (cond hurt r7 r30.8) (cond hurt r22 r30.9) (cond hurt r23 r30.10) (cond hurt (x.11.set r15.toNat 3) r30.11) (cond hurt r8 r30.12) (cond hurt x.13 r30.13) (cond hurt x.14 r30.14) (cond hurt r9 r30.15) (cond hurt x.16 r30.16) (cond hurt r10 r30.17) (cond hurt r11 r30.18) (cond hurt r12 r30.19) (cond hurt r13 r30.20) (cond hurt x.21 r30.21) (cond hurt r21 r30.22.1,cond hurt r24 r30.22.2.1,()) (cond hurt r14 r30.23),0,()) =(cz x p hurt,bI x p hurt,()))))))))
 intro r1 r2 r3 r4 r5 r6 r7 r8 r9 r10 r11 r12 r13 r14 r15 r16 r17 r18 r19 r20 r21 r22 r23 r24 r25 r26 r27 r28 r29 r30
 clear_value (hr1:r1=_) (hr2:r2=_) (hr3:r3=_) (hr4:r4=_) (hr5:r5=_) (hr6:r6=_) (hr7:r7=_) (hr8:r8=_) (hr9:r9=_) (hr10:r10=_) (hr11:r11=_) (hr12:r12=_) (hr13:r13=_) (hr14:r14=_) (hr15:r15=_) (hr16:r16=_) (hr17:r17=_) (hr18:r18=_) (hr19:r19=_) (hr20:r20=_) (hr21:r21=_) (hr22:r22=_) (hr23:r23=_) (hr24:r24=_) (hr25:r25=_) (hr26:r26=_) (hr27:r27=_) (hr28:r28=_) (hr29:r29=_) (hr30:r30=_)
 simp only [Bool.cond_self] at *
 have t1 :∀ a b:Bool,(bif a then true else b) =(a||b):=by decide
 have t2 :∀ a b:Bool,(bif a then b else false) =(a&&b):=by decide
 have e27:r27 =(x.Striker==0||x.Other==0):=by rw [hr27,t1]
 have e26:r26 =(hurt&&jZ x):=by rw [hr26,t2];rfl
 have e25:r25 =(p != x.Striker&&p != x.Other):=by rw [hr25,t2]
 have kb:aC x p=true→(0:Int)≤r15∧r15 <(x.Batters.length:Int)∧r15=p - 1:=fun k=>by
  have k2:1≤p∧p≤x.Batters.length:=by simpa [aC] using k
  have e1:r15=p - 1:=by rw [hr15];exact fM k2.1 hp
  omega
 have f1 :∀ {k:Int},k≠0→bI x p hurt=k→(x,k,()) =(cz x p hurt,bI x p hurt,()):=fun {k} hk e=>by
  have :(bI x p hurt != 0)=true:=by rw [e];simpa using hk
  rw [e]
  simp only [cz,this];rfl
 refine ⟨hs,fun h=>f1 (by decide) ?_,fun h1=>⟨fun h=>f1 (by decide) ?_,fun h2=>⟨fun h=>f1 (by decide) ?_,fun h3=>⟨⟨fun _=>⟨hs,trivial⟩,fun _=>trivial⟩,fun _=>⟨fun h=>f1 (by decide) ?_,fun h4=>⟨⟨fun _=>⟨?_,trivial⟩,fun _=>trivial⟩,fun _=>?_⟩⟩⟩⟩⟩⟩
 ·simp only [bI,h];rfl
 ·rw [e27] at h;simp only [bI,h1,h];rfl
 ·rw [e27] at h2;rw [e25] at h;simp only [bI,h1,h2,h];rfl
 ·rw [e27] at h2;rw [e25] at h3;rw [e26] at h;simp only [bI,h1,h2,h3,h];rfl
 ·have k1:aC x p=true:=by simpa using h1
  exact ⟨(kb k1).1,(kb k1).2.1⟩
 ·have k1:aC x p=true:=by simpa using h1
  obtain ⟨e,ey⟩:=uc k1 (e27▸h2) (e25▸h3) (e26▸h4)
  have e28:r28=cK x (p==x.Striker):=by
   rw [hr28,hr22,hr23];simp only [cK];cases p==x.Striker <;> simp only [*] <;> rfl
  have k29:r29=true:=by
   rw [hr29,e28]
   unfold aC at k1 ⊢
   cases p==x.Striker <;> exact k1
  have e30:r30=cm (cK x (p==x.Striker)) p 2:=by rw [hr30,k29,e28];rfl
  rw [e,ey,e30,(kb k1).2.2]
  subst hr1 hr2 hr3 hr4 hr5 hr6 hr7 hr8 hr9 hr10 hr11 hr12 hr13 hr14 hr16 hr17 hr18 hr19 hr20 hr21 hr24
  rw [hr22,hr23]
  cases hurt <;> cases p==x.Striker <;> rfl
def DF:FuncId×Ctr:=(346,ae KE xn q2L pk)
theorem Kl:CtrOK Tryz.prog KE 346 (ae KE xn q2L pk):=by
 refine an (C:=al [mQ,kI,Bu,jB] Tryz.f346) (aj (.consU sE rfl (.consU rE rfl (.consU Jp rfl (.consU ql rfl .nil)))) _) mixed (fn:=Tryz.f346) Tryz.func346 (by kernel_rfl) (by kernel_rfl) (by kernel_rfl) (by kernel_rfl) (by kernel_rfl) (by kernel_rfl) (Λ:=fun _ _=>none) ?_ ?_
 ·exact fun _ _ _ _ _ _ _ _ h=>by cases h
 ·rintro ⟨x,p,hurt,⟨⟩⟩ hw hn
  exact Hh x p hurt (hn _ List.mem_cons_self) (dk (aU (aN hw)))
theorem B4 (x:Innings) (p:Int) (hurt:Bool) (hs:ai x) (hp:gP p) :(evPat (al [k44,eT,rh] Tryz.f329) (fun _=>none) Tryz.f329 xn q2L (x,p,hurt,())).sat fun z_=>z_ =(pk (x,p,hurt,())).2:=by
 refine cast (by kernel_rfl) (?_:let r1:Int:=cond (x.9==p) x.1 x.1;let r2:Int:=cond (x.9==p) x.2 x.2;let r3:Int:=cond (x.9==p) x.3 x.3;let r4:Int:=cond (x.9==p) x.4 x.4;let r5:Int:=cond (x.9==p) x.5 x.5;let r6:Int:=cond (x.9==p) x.7 x.7;let r7:Int:=cond (x.9==p) x.8 x.8;let r8:Int:=cond (x.9==p) x.12 x.12;let r9:Bool:=cond (x.9==p) x.15 x.15;let r10:Bool:=cond (x.9==p) x.17 x.17;let r11:Int:=cond (x.9==p) x.18 x.18;let r12:Int:=cond (x.9==p) x.19 x.19;let r13:Int:=cond (x.9==p) x.20 x.20;let r14:Int:=cond (x.9==p) x.23 x.23;let r15:Int:=IntKind.i64.wrap (p - 1);let r16:Int:=cond (x.9==p) x.6.1 x.6.1;let r17:Int:=cond (x.9==p) x.6.2 x.6.2;let r18:Int:=cond (x.9==p) x.6.3 x.6.3;let r19:Int:=cond (x.9==p) x.6.4 x.6.4;let r20:Int:=cond (x.9==p) x.6.5 x.6.5;let r21:Int:=cond (x.9==p) x.22.1 x.22.1;let r22:Int:=cond (x.9==p) 0 x.9;let r23:Int:=cond (x.9==p) x.10 0;let r24:Int:=cond (x.9==p) x.22.2.1 x.22.2.1;let r25:Bool:=cond (x.9 != p) (x.10 != p) false;let r26:Bool:=cond hurt ((↑(tK x).length:Int)==0) false;let r27:Bool:=cond (x.9==0) true (x.10==0);let r28:List Int:=x.11.set r15.toNat 3;ai x∧((!aC x p)=true→(x,3,()) =(cz x p hurt,bI x p hurt,()))∧((!aC x p)=false→(r27=true→(x,6,()) =(cz x p hurt,bI x p hurt,()))∧(r27=false→(r25=true→(x,4,()) =(cz x p hurt,bI x p hurt,()))∧(r25=false→((hurt=true→ai x∧True)∧(hurt=false→True))∧(true=true→(r26=true→(x,19,()) =(cz x p hurt,bI x p hurt,()))∧(r26=false→(0≤r15∧r15 <(↑x.11.length:Int))∧(((!hurt)=true→(0≤r15∧r15 <(↑r28.length:Int))∧True)∧((!hurt)=false→True))∧(true=true→(Innings.mk (cond (!hurt) r1 r1) (cond (!hurt) r2 r2) (cond (!hurt) r3 r3) (cond (!hurt) r4 r4) (cond (!hurt) (IntKind.i64.wrap (r5+1)) r5) (Extras.mk (cond (!hurt) r16 r16) (cond (!hurt) r17 r17) (cond (!hurt) r18 r18) (cond (!hurt) r19 r19) (cond (!hurt) r20 r20)) (cond (!hurt) r6 r6) (cond (!hurt) r7 r7) (cond (!hurt) r22 r22) (cond (!hurt) r23 r23) (cond (!hurt) (r28.set r15.toNat 2) r28) (cond (!hurt) r8 r8) x.13 x.14 (cond (!hurt) r9 r9) x.16 (cond (!hurt) r10 r10) (cond (!hurt) r11 r11) (cond (!hurt) r12 r12) (cond (!hurt) r13 r13) x.21 (cond (!hurt) r21 r21,cond (!hurt) r24 r24,()) (cond (!hurt) r14 r14),0,()) =(cz x p hurt,bI x p hurt,()))))))))
 intro r1 r2 r3 r4 r5 r6 r7 r8 r9 r10 r11 r12 r13 r14 r15 r16 r17 r18 r19 r20 r21 r22 r23 r24 r25 r26 r27 r28
 clear_value (hr1:r1=_) (hr2:r2=_) (hr3:r3=_) (hr4:r4=_) (hr5:r5=_) (hr6:r6=_) (hr7:r7=_) (hr8:r8=_) (hr9:r9=_) (hr10:r10=_) (hr11:r11=_) (hr12:r12=_) (hr13:r13=_) (hr14:r14=_) (hr15:r15=_) (hr16:r16=_) (hr17:r17=_) (hr18:r18=_) (hr19:r19=_) (hr20:r20=_) (hr21:r21=_) (hr22:r22=_) (hr23:r23=_) (hr24:r24=_) (hr25:r25=_) (hr26:r26=_) (hr27:r27=_) (hr28:r28=_)
 simp only [Bool.cond_self] at *
 have t1 :∀ a b:Bool,(bif a then true else b) =(a||b):=by decide
 have t2 :∀ a b:Bool,(bif a then b else false) =(a&&b):=by decide
 have e27:r27 =(x.Striker==0||x.Other==0):=by rw [hr27,t1]
 have e26:r26 =(hurt&&jZ x):=by rw [hr26,t2];rfl
 have e25:r25 =(p != x.Striker&&p != x.Other):=by rw [hr25,t2];rw [show (x.Striker != p) =(p != x.Striker) from by simp only [bne,BEq.comm],show (x.Other != p) =(p != x.Other) from by simp only [bne,BEq.comm]]
 have kb:aC x p=true→(0:Int)≤r15∧r15 <(x.Batters.length:Int)∧r15=p - 1:=fun k=>by
  have k2:1≤p∧p≤x.Batters.length:=by simpa [aC] using k
  have e1:r15=p - 1:=by rw [hr15];exact fM k2.1 hp
  omega
 have f1 :∀ {k:Int},k≠0→bI x p hurt=k→(x,k,()) =(cz x p hurt,bI x p hurt,()):=fun {k} hk e=>by
  have :(bI x p hurt != 0)=true:=by rw [e];simpa using hk
  rw [e]
  simp only [cz,this];rfl
 have eS :(x.Striker==p) =(p==x.Striker):=BEq.comm
 refine ⟨hs,fun h=>f1 (by decide) ?_,fun h1=>⟨fun h=>f1 (by decide) ?_,fun h2=>⟨fun h=>f1 (by decide) ?_,fun h3=>⟨⟨fun _=>⟨hs,trivial⟩,fun _=>trivial⟩,fun _=>⟨fun h=>f1 (by decide) ?_,fun h4=>?_⟩⟩⟩⟩⟩
 ·simp only [bI,h];rfl
 ·rw [e27] at h;simp only [bI,h1,h];rfl
 ·rw [e27] at h2;rw [e25] at h;simp only [bI,h1,h2,h];rfl
 ·rw [e27] at h2;rw [e25] at h3;rw [e26] at h;simp only [bI,h1,h2,h3,h];rfl
 ·have k1:aC x p=true:=by simpa using h1
  obtain ⟨e,ey⟩:=uc k1 (e27▸h2) (e25▸h3) (e26▸h4)
  obtain ⟨b1,b2,b3⟩:=kb k1
  have hl:r28.length=x.Batters.length:=by rw [hr28];simp
  refine ⟨⟨b1,b2⟩,⟨fun _=>⟨⟨b1,by rw [hl];exact b2⟩,trivial⟩,fun _=>trivial⟩,fun _=>?_⟩
  rw [e,ey,hr28,b3]
  have ss :((x.Batters.set (p - 1).toNat 3).set (p - 1).toNat 2)=x.Batters.set (p - 1).toNat 2:=by simp
  subst hr1 hr2 hr3 hr4 hr5 hr6 hr7 hr8 hr9 hr10 hr11 hr12 hr13 hr14 hr16 hr17 hr18 hr19 hr20 hr21 hr24
  rw [hr22,hr23,eS,ss]
  cases hurt <;> cases p==x.Striker <;> rfl
def wx:FuncId×Ctr:=(329,ae KE xn q2L pk)
theorem Ep:CtrOK Tryz.prog KE 329 (ae KE xn q2L pk):=by
 refine an (C:=al [k44,eT,rh] Tryz.f329) (aj (.consU sC rfl (.consU kL rfl (.consU Ac rfl .nil))) _) mixed (fn:=Tryz.f329) Tryz.func329 (by kernel_rfl) (by kernel_rfl) (by kernel_rfl) (by kernel_rfl) (by kernel_rfl) (by kernel_rfl) (Λ:=fun _ _=>none) ?_ ?_
 ·exact fun _ _ _ _ _ _ _ _ h=>by cases h
 ·rintro ⟨x,p,hurt,⟨⟩⟩ hw hn
  exact B4 x p hurt (hn _ List.mem_cons_self) (dk (aU (aN hw)))
end
section
open Go Go.Mir
attribute [local irreducible] Go.Mir.RT.sat Go.Mir.evFn Go.Mir.stepObl
theorem Tf (xs:List Int) (v:Int) (hx:xs.length≤aJ) (i:Nat) (hi:IQ xs v i) :(stepObl (J79 xs v) (IQ xs v) (fun i=>xs.length - i) i (T79 xs v) (bL (cf8 [] Tryz.f338) (fun _=>none) (az Tryz.f338 0) (J79 xs v i)) (L79 i)).1:=by
 refine cast (by kernel_rfl) (?_ :(decide ((↑i:Int) <(↑xs.length:Int))=true→(0≤(↑i:Int)∧(↑i:Int) <(↑xs.length:Int))∧((v==xs.getD (↑i:Int).toNat (dflt (Ty.int IntKind.i64)))=true→xs.contains v=true∧((↑i:Int)=idx xs v 0∧True)∧True)∧((v==xs.getD (↑i:Int).toNat (dflt (Ty.int IntKind.i64)))=false→IQ xs v (i +(1:Nat))∧xs.length - (i +(1:Nat))<xs.length - i∧(RowD.mk (Ty.int IntKind.i64) xs=RowD.mk (Ty.int IntKind.i64) xs∧v=v∧(↑xs.length:Int) =(↑xs.length:Int)∧IntKind.i64.wrap ((↑i:Int)+1) =(↑(i +(1:Nat)):Int)∧True)∧True))∧(decide ((↑i:Int) <(↑xs.length:Int))=false→xs.contains v=false∧True∧True))
 have e :(i:Int).toNat=i:=by simp
 rw [e]
 refine ⟨fun h1=>?_,fun h1=>?_⟩
 ·have h1:i<xs.length:=by simpa using h1
  refine ⟨⟨by omega,by omega⟩,fun h2=>?_,fun h2=>?_⟩
  ·have h2:v=xs.getD i (dflt (Ty.int IntKind.i64)):=eq_of_beq h2
   have h3:xs[i]?=some v:=by rw [h2];exact oG _ h1
   refine ⟨by simpa using List.mem_of_getElem? h3,⟨?_,trivial⟩,trivial⟩
   rw [Gg xs v 0 i h3 hi.2];omega
  ·have h2:v≠xs.getD i (0:Int):=ne_of_beq_false h2
   have h3:xs.getD i (0:Int)=xs[i]:=by rw [List.getD_eq_getElem?_getD,List.getElem?_eq_getElem h1];rfl
   refine ⟨⟨by omega,?_⟩,by omega,⟨rfl,rfl,rfl,?_,trivial⟩,trivial⟩
   ·rw [List.take_succ_eq_append_getElem h1,List.mem_append,List.mem_singleton,not_or]
    exact ⟨hi.2,by rw [←h3];exact h2⟩
   ·have:xs.length≤140737488355328:=hx
    rw [de (by omega) (by omega)];omega
 ·have h1 :¬ i<xs.length:=by simpa using h1
  refine ⟨?_,trivial,trivial⟩
  have:=hi.2
  rw [List.take_of_length_le (by omega)] at this
  simpa using this
theorem Sb (xs:List Int) (v:Int) (hx:xs.length≤aJ):LoopOK Tryz.prog Tryz.f338.ntmps (az Tryz.f338 0) (ck ⟨[],[],0⟩ (J79 xs v 0) (T79 xs v)):=
 gD (bK (CtrsOK.nil) _) mixed (J79 xs v) (fun _=>rfl) (IQ xs v) (fun i=>xs.length - i) (fun _ _=>none) (fun _ _ _ _ _ h=>by cases h) (T79 xs v) [] [] 0 (⟨Nat.zero_le _,by simp⟩) L79 (fun i hi=>Tf xs v hx i hi)
theorem U7 (xs:List Int) (v:Int) (hx:xs.length≤aJ) :(evFn (cf8 [] Tryz.f338) (Λ79 xs v) Tryz.f338 (bF xj (xs,v,()))).sat fun v' rows=>leV v' (CJ (xs,v,())).v∧rows =(CJ (xs,v,())).rows:=by
 refine cast (by kernel_rfl) (?_ :((cZ fun x=>none)∧(RowD.mk (Ty.int IntKind.i64) xs=RowD.mk (Ty.int IntKind.i64) xs∧v=v∧(↑xs.length:Int) =(↑xs.length:Int)∧0 =(↑(0:Nat):Int)∧True)∧True)∧(xs.contains v=true→idx xs v 0=idx xs v 0∧([]:List RowD)=[])∧(xs.contains v=false→(-1:Int)=idx xs v 0∧([]:List RowD)=[]))
 refine ⟨⟨rfl,⟨rfl,rfl,rfl,rfl,trivial⟩,trivial⟩,fun _=>⟨rfl,rfl⟩,fun h=>⟨?_,rfl⟩⟩
 rw [wi]
 simpa using h
theorem VT:CtrOK Tryz.prog K8 338 (au K8 xj CJ):=by
 refine aV (C:=cf8 [] Tryz.f338) (bK (CtrsOK.nil) _) mixed (fn:=Tryz.f338) Tryz.func338 (by kernel_rfl) (by kernel_rfl) (by kernel_rfl) (Λ:=fun x=>Λ79 x.1 x.2.1) ?_ ?_ ?_
 ·rintro ⟨xs,v,⟨⟩⟩ hw hn
  exact LoopsOK.at (by kernel_rfl) (.cons (by kernel_rfl) (Sb xs v (cN (aU hw))) .nil)
 ·rintro ⟨xs,v,⟨⟩⟩
  exact of_decide_eq_true (by kernel_rfl)
 ·rintro ⟨xs,v,⟨⟩⟩ hw hn
  exact U7 xs v (cN (aU hw))
theorem US (xs:List Int) (v:Int) :(evFn (cf8 [k79] Tryz.f318) (fun _=>none) Tryz.f318 (bF xj (xs,v,()))).sat fun v' rows=>leV v' (oc (xs,v,())).v∧rows =(oc (xs,v,())).rows:=by
 refine cast (by kernel_rfl) (?_:decide (idx xs v (0:Int)≥0)=cO xs v∧([]:List RowD)=[])
 exact ⟨IL xs v 0 (Int.le_refl 0),rfl⟩
theorem Pf:CtrOK Tryz.prog K8 318 (au K8 xj oc):=by
 refine aV (C:=cf8 [k79] Tryz.f318) (bK (.cons VT .nil) _) mixed (fn:=Tryz.f318) Tryz.func318 (by kernel_rfl) (by kernel_rfl) (by kernel_rfl) (Λ:=fun _ _=>none) ?_ ?_ ?_
 ·exact fun _ _ _ _ _ _ _ _ h=>by cases h
 ·rintro ⟨xs,v,⟨⟩⟩
  exact of_decide_eq_true (by kernel_rfl)
 ·rintro ⟨xs,v,⟨⟩⟩ hw hn
  exact US xs v
end
end Go.Proofs.YtffdpnmioidloaaGreatDoor
