/- Texts of the mirror and contracts, put together. -/
import Derived.Test.YtkajjbambnpbiaaGreatDoorPB3
import Derived.Shelf.Small.Strs
import Derived.Test.YtkajjbambnpbiaaGreatDoorPB2
namespace Go.Proofs.YtkajjbambnpbiaaGreatDoor
open Go Go.Mir
attribute [local irreducible] Go.Mir.DT.sat Go.Mir.evPat
abbrev I:Ty:= .int .i64
abbrev U8:Ty:= .int .u8
abbrev qD:Pat:=fU [.nm .Delivery]
abbrev l3:Pat:=fU [I]
abbrev ca:Pat:=fU [.bool]
def vE (d:Delivery):Bool:=
 if d.Typ==2 then d.Source==0&&d.Boundary != 6 else if d.Source==0 then d.Runs==0&&d.Boundary==0 else if d.Source==1 then d.Boundary != 6||d.Runs==0 else d.Boundary != 6&&(decide (d.Runs>0)||d.Boundary != 0)
def py (d:Delivery):Bool:=
 if d.Typ==2 then d.Source==0&&d.Boundary != 6 else if d.Source==0 then d.Runs==0&&d.Boundary==0 else if d.Boundary==0 then decide (d.Runs>0) else if d.Boundary==6 then d.Source==1&&d.Runs==0 else true
def inW (n lo hi:Int):Bool:=decide (n≥lo)&&decide (n≤hi)
def aK (d:Delivery):Int:=
 if decide (d.Typ<1) ||(decide (d.Typ>3) ||(decide (d.Source>3) ||(decide (d.How>10)||!inW d.Sector 0 8))) then 11
 else if !inW d.Runs 0 7 ||(!inW d.Short 0 d.Runs ||(d.Boundary != 0&&(d.Boundary != 4&&d.Boundary != 6))) then 12
 else if !py d then 11
 else if d.Sector != 0&&(d.Source != 1&&d.How != 2) then 11
 else if d.Boundary != 0&&d.How != 0 then 11
 else if d.Crossed&&(d.How != 6&&d.How != 8) then 11 else 0
def fz (h:Int):Bool:=decide (h≥1)&&decide (h≤5)
def jJ (d:Delivery):Bool:=(d.Runs.tmod 2 != 0) != d.Crossed
def BG:Den (tyP qD)→List Prop×Den (tyP ca):=fun x=>([],(vE x.1,()))
def BH:Den (tyP qD)→List Prop×Den (tyP ca):=fun x=>([],(py x.1,()))
abbrev q3:Pat:=fU [I,I,I]
def sIn:Den (tyP q3)→List Prop×Den (tyP ca):=fun x=>([],(inW x.1 x.2.1 x.2.2.1,()))
def mK:Den (tyP qD)→List Prop×Den (tyP l3):=fun x=>([],(aK x.1,()))
abbrev qH:Pat:=fU [U8]
def re:Den (tyP qH)→List Prop×Den (tyP ca):=fun x=>([],(fz x.1,()))
def xi:Den (tyP qD)→List Prop×Den (tyP ca):=fun x=>([],(jJ x.1,()))
abbrev W (n:Int):Int:=IntKind.i64.wrap n
def jC (d:Delivery):Int:=W (W (d.Runs - d.Short)+d.Boundary)
def dM (d:Delivery):Int:=if d.Typ != 2&&d.Source==1 then jC d else 0
def fT (r:Rules) (d:Delivery):Int:=if d.Typ==2 then W (r.Wide+jC d) else 0
def noW (r:Rules) (d:Delivery):Int:=if d.Typ==3 then r.NoBall else 0
def qg (d:Delivery):Int:=if d.Typ != 2&&d.Source==2 then jC d else 0
def gI (d:Delivery):Int:=if d.Typ != 2&&d.Source==3 then jC d else 0
def af (r:Rules) (d:Delivery):Credit:=
 if aK d==0 then ⟨dM d,fT r d,noW r d,qg d,gI d,W (W (dM d+fT r d)+noW r d),d.Typ==1,d.Typ != 2,fz d.How,jJ d⟩ else Credit.zero
abbrev qRD:Pat:=fU [.nm .Rules,.nm .Delivery]
abbrev qC:Pat:=fU [.nm .Credit]
def kf:Den (tyP qRD)→List Prop×Den (tyP qC):=fun x=>([],(af x.1 x.2.1,()))
theorem Dc (d:Delivery) :(evPat (aY [] Tryz.f120) (fun _=>none) Tryz.f120 qD ca (d,())).sat fun z_=>z_ =(BG (d,())).2:=by
 refine cast (by kernel_rfl) (?_ :((d.1 ==(2:Int))=true→(bif d.2 ==(0:Int) then d.5 !=(6:Int) else false,()) =(vE d,()))∧((d.1 ==(2:Int))=false→((d.2 ==(0:Int))=true→(bif d.3 ==(0:Int) then d.5 ==(0:Int) else false,()) =(vE d,()))∧((d.2 ==(0:Int))=false→((d.2 ==(1:Int))=true→(bif d.5 !=(6:Int) then true else d.3 ==(0:Int),()) =(vE d,()))∧((d.2 ==(1:Int))=false→(bif d.5 !=(6:Int) then bif decide (d.3 >(0:Int)) then true else d.5 !=(0:Int) else false,()) =(vE d,())))))
 grind [vE]
def DD:FuncId×Ctr:=(120,ai KE qD ca BG)
theorem E9:CtrOK Tryz.prog KE 120 (ai KE qD ca BG):=by
 refine a7 (C:=aY [] Tryz.f120) (aX (CtrsOK.nil) _) aB (fn:=Tryz.f120) Tryz.func120 (by kernel_rfl) (by kernel_rfl) (by kernel_rfl) (by kernel_rfl) (by kernel_rfl) (by kernel_rfl) (Λ:=fun _ _=>none) ?_ ?_
 ·exact fun _ _ _ _ _ _ _ _ h=>by cases h
 ·rintro ⟨d,⟨⟩⟩ hw hn
  exact Dc d
theorem Dd (d:Delivery) :(evPat (aY [] Tryz.f190) (fun _=>none) Tryz.f190 qD ca (d,())).sat fun z_=>z_ =(BH (d,())).2:=by
 refine cast (by kernel_rfl) (?_ :((d.1 ==(2:Int))=true→(bif d.2 ==(0:Int) then d.5 !=(6:Int) else false,()) =(py d,()))∧((d.1 ==(2:Int))=false→((d.2 ==(0:Int))=true→(bif d.3 ==(0:Int) then d.5 ==(0:Int) else false,()) =(py d,()))∧((d.2 ==(0:Int))=false→((d.5 ==(0:Int))=true→(decide (d.3 >(0:Int)),()) =(py d,()))∧((d.5 ==(0:Int))=false→((d.5 ==(6:Int))=true→(bif d.2 ==(1:Int) then d.3 ==(0:Int) else false,()) =(py d,()))∧((d.5 ==(6:Int))=false→(true,()) =(py d,()))))))
 grind [py]
def DE:FuncId×Ctr:=(190,ai KE qD ca BH)
theorem Fa:CtrOK Tryz.prog KE 190 (ai KE qD ca BH):=by
 refine a7 (C:=aY [] Tryz.f190) (aX (CtrsOK.nil) _) aB (fn:=Tryz.f190) Tryz.func190 (by kernel_rfl) (by kernel_rfl) (by kernel_rfl) (by kernel_rfl) (by kernel_rfl) (by kernel_rfl) (Λ:=fun _ _=>none) ?_ ?_
 ·exact fun _ _ _ _ _ _ _ _ h=>by cases h
 ·rintro ⟨d,⟨⟩⟩ hw hn
  exact Dd d
theorem Fl (n:Int) (lo:Int) (hi:Int) :(evPat (aY [] Tryz.f189) (fun _=>none) Tryz.f189 q3 ca (n,lo,hi,())).sat fun z_=>z_ =(sIn (n,lo,hi,())).2:=by
 refine cast (by kernel_rfl) (?_ :(bif decide (n≥lo) then decide (n≤hi) else false,()) =(inW n lo hi,()))
 grind [inW]
def Gf:FuncId×Ctr:=(189,ai KE q3 ca sIn)
theorem Gn:CtrOK Tryz.prog KE 189 (ai KE q3 ca sIn):=by
 refine a7 (C:=aY [] Tryz.f189) (aX (CtrsOK.nil) _) aB (fn:=Tryz.f189) Tryz.func189 (by kernel_rfl) (by kernel_rfl) (by kernel_rfl) (by kernel_rfl) (by kernel_rfl) (by kernel_rfl) (Λ:=fun _ _=>none) ?_ ?_
 ·exact fun _ _ _ _ _ _ _ _ h=>by cases h
 ·rintro ⟨n,lo,hi,⟨⟩⟩ hw hn
  exact Fl n lo hi
theorem BC (h:Int) :(evPat (aY [] Tryz.f121) (fun _=>none) Tryz.f121 qH ca (h,())).sat fun z_=>z_ =(re (h,())).2:=by
 refine cast (by kernel_rfl) (?_ :(bif decide (h≥(1:Int)) then decide (h≤(5:Int)) else false,()) =(fz h,()))
 grind [fz]
def AX:FuncId×Ctr:=(121,ai KE qH ca re)
theorem CR:CtrOK Tryz.prog KE 121 (ai KE qH ca re):=by
 refine a7 (C:=aY [] Tryz.f121) (aX (CtrsOK.nil) _) aB (fn:=Tryz.f121) Tryz.func121 (by kernel_rfl) (by kernel_rfl) (by kernel_rfl) (by kernel_rfl) (by kernel_rfl) (by kernel_rfl) (Λ:=fun _ _=>none) ?_ ?_
 ·exact fun _ _ _ _ _ _ _ _ h=>by cases h
 ·rintro ⟨h,⟨⟩⟩ hw hn
  exact BC h
theorem BD (h:Int) :(evPat (aY [] Tryz.f174) (fun _=>none) Tryz.f174 qH ca (h,())).sat fun z_=>z_ =(re (h,())).2:=by
 refine cast (by kernel_rfl) (?_:let r1:Bool:=bif h ==(1:Int) then h ==(1:Int) else bif h ==(2:Int) then h ==(2:Int) else bif h ==(3:Int) then h ==(3:Int) else bif h ==(4:Int) then h ==(4:Int) else h ==(5:Int);(r1=true→(true,()) =(fz h,()))∧(r1=false→(false,()) =(fz h,())))
 intro r1
 clear_value (hr1:r1=_)
 grind [fz]
def A1:FuncId×Ctr:=(174,ai KE qH ca re)
theorem CS:CtrOK Tryz.prog KE 174 (ai KE qH ca re):=by
 refine a7 (C:=aY [] Tryz.f174) (aX (CtrsOK.nil) _) aB (fn:=Tryz.f174) Tryz.func174 (by kernel_rfl) (by kernel_rfl) (by kernel_rfl) (by kernel_rfl) (by kernel_rfl) (by kernel_rfl) (Λ:=fun _ _=>none) ?_ ?_
 ·exact fun _ _ _ _ _ _ _ _ h=>by cases h
 ·rintro ⟨h,⟨⟩⟩ hw hn
  exact BD h
theorem zu (d:Delivery) :(evPat (aY [] Tryz.f175) (fun _=>none) Tryz.f175 qD ca (d,())).sat fun z_=>z_ =(xi (d,())).2:=by
 refine cast (by kernel_rfl) (?_ :(2:Int)≠(0:Int)∧(!(d.3.tmod (2:Int) !=(0:Int))==d.6,()) =(jJ d,()))
 grind [jJ]
def xV:FuncId×Ctr:=(175,ai KE qD ca xi)
theorem Bi:CtrOK Tryz.prog KE 175 (ai KE qD ca xi):=by
 refine a7 (C:=aY [] Tryz.f175) (aX (CtrsOK.nil) _) aB (fn:=Tryz.f175) Tryz.func175 (by kernel_rfl) (by kernel_rfl) (by kernel_rfl) (by kernel_rfl) (by kernel_rfl) (by kernel_rfl) (Λ:=fun _ _=>none) ?_ ?_
 ·exact fun _ _ _ _ _ _ _ _ h=>by cases h
 ·rintro ⟨d,⟨⟩⟩ hw hn
  exact zu d
theorem zq (d:Delivery) :(evPat (aY [DD] Tryz.f52) (fun _=>none) Tryz.f52 qD l3 (d,())).sat fun z_=>z_ =(mK (d,())).2:=by
 refine cast (by kernel_rfl) (?_:let r1:Bool:=bif d.5 !=(0:Int) then d.7 !=(0:Int) else false;let r2:Bool:=bif d.6 then bif d.7 !=(6:Int) then d.7 !=(8:Int) else false else false;let r3:Bool:=bif d.12 !=(0:Int) then bif d.2 !=(1:Int) then d.7 !=(2:Int) else false else false;let r4:Bool:=bif !vE d then true else bif d.1 !=(2:Int) then bif d.2 ==(1:Int) then bif d.3 ==(0:Int) then d.5 ==(0:Int) else false else false else false;let r5:Bool:=bif decide (d.3 <(0:Int)) then true else bif decide (d.3 >(7:Int)) then true else bif decide (d.4 <(0:Int)) then true else bif decide (d.4>d.3) then true else bif d.5 !=(0:Int) then bif d.5 !=(4:Int) then d.5 !=(6:Int) else false else false;let r6:Bool:=bif decide (d.1 <(1:Int)) then true else bif decide (d.1 >(3:Int)) then true else bif decide (d.2 >(3:Int)) then true else bif decide (d.7 >(10:Int)) then true else bif decide (d.12 <(0:Int)) then true else decide (d.12 >(8:Int));(r6=true→((11:Int),()) =(aK d,()))∧(r6=false→(r5=true→((12:Int),()) =(aK d,()))∧(r5=false→(r4=true→((11:Int),()) =(aK d,()))∧(r4=false→(r3=true→((11:Int),()) =(aK d,()))∧(r3=false→(r1=true→((11:Int),()) =(aK d,()))∧(r1=false→(r2=true→((11:Int),()) =(aK d,()))∧(r2=false→((0:Int),()) =(aK d,()))))))))
 intro r1 r2 r3 r4 r5 r6
 clear_value (hr1:r1=_) (hr2:r2=_) (hr3:r3=_) (hr4:r4=_) (hr5:r5=_) (hr6:r6=_)
 repeat' (first|refine And.intro ?_ ?_|intro h)
 all_goals grind (splits:=40) [aK,vE,py,inW]
def ns:FuncId×Ctr:=(52,ai KE qD l3 mK)
theorem uW:CtrOK Tryz.prog KE 52 (ai KE qD l3 mK):=by
 refine a7 (C:=aY [DD] Tryz.f52) (aX (.consU E9 rfl .nil) _) aB (fn:=Tryz.f52) Tryz.func52 (by kernel_rfl) (by kernel_rfl) (by kernel_rfl) (by kernel_rfl) (by kernel_rfl) (by kernel_rfl) (Λ:=fun _ _=>none) ?_ ?_
 ·exact fun _ _ _ _ _ _ _ _ h=>by cases h
 ·rintro ⟨d,⟨⟩⟩ hw hn
  exact zq d
theorem zt (d:Delivery) :(evPat (aY [DE,Gf] Tryz.f145) (fun _=>none) Tryz.f145 qD l3 (d,())).sat fun z_=>z_ =(mK (d,())).2:=by
 refine cast (by kernel_rfl) (?_:let r1:Bool:=bif d.5 !=(0:Int) then d.7 !=(0:Int) else false;let r2:Bool:=bif d.6 then bif d.7 !=(6:Int) then d.7 !=(8:Int) else false else false;let r3:Bool:=bif d.12 !=(0:Int) then bif d.2 !=(1:Int) then d.7 !=(2:Int) else false else false;let r4:Bool:=bif !inW d.3 (0:Int) (7:Int) then true else bif !inW d.4 (0:Int) d.3 then true else bif d.5 !=(0:Int) then bif d.5 !=(4:Int) then d.5 !=(6:Int) else false else false;let r5:Bool:=bif decide (d.1 <(1:Int)) then true else bif decide (d.1 >(3:Int)) then true else bif decide (d.2 >(3:Int)) then true else bif decide (d.7 >(10:Int)) then true else !inW d.12 (0:Int) (8:Int);(r5=true→((11:Int),()) =(aK d,()))∧(r5=false→(r4=true→((12:Int),()) =(aK d,()))∧(r4=false→((!py d)=true→((11:Int),()) =(aK d,()))∧((!py d)=false→(r3=true→((11:Int),()) =(aK d,()))∧(r3=false→(r1=true→((11:Int),()) =(aK d,()))∧(r1=false→(r2=true→((11:Int),()) =(aK d,()))∧(r2=false→((0:Int),()) =(aK d,()))))))))
 intro r1 r2 r3 r4 r5
 clear_value (hr1:r1=_) (hr2:r2=_) (hr3:r3=_) (hr4:r4=_) (hr5:r5=_)
 repeat' (first|refine And.intro ?_ ?_|intro h)
 all_goals grind (splits:=40) [aK]
def nt:FuncId×Ctr:=(145,ai KE qD l3 mK)
theorem uY:CtrOK Tryz.prog KE 145 (ai KE qD l3 mK):=by
 refine a7 (C:=aY [DE,Gf] Tryz.f145) (aX (.consU Fa rfl (.consU Gn rfl .nil)) _) aB (fn:=Tryz.f145) Tryz.func145 (by kernel_rfl) (by kernel_rfl) (by kernel_rfl) (by kernel_rfl) (by kernel_rfl) (by kernel_rfl) (Λ:=fun _ _=>none) ?_ ?_
 ·exact fun _ _ _ _ _ _ _ _ h=>by cases h
 ·rintro ⟨d,⟨⟩⟩ hw hn
  exact zt d
theorem BN {d:Delivery} (h:aK d=0) :((bif d.Crossed then W (d.Runs+1) else d.Runs).tmod 2==1)=jJ d:=by
 have hr:0≤d.Runs∧d.Runs≤7:=by grind [aK,inW]
 have hw:W (d.Runs+1)=d.Runs+1:=cC (by omega) (by omega)
 unfold jJ
 rw [hw,Int.tmod_eq_emod_of_nonneg hr.1]
 cases d.Crossed
 ·rw [cond_false,Int.tmod_eq_emod_of_nonneg hr.1]
  grind
 ·rw [cond_true,Int.tmod_eq_emod_of_nonneg (by omega)]
  grind
theorem xe (r:Rules) (d:Delivery) :(evPat (aY [ns,AX] Tryz.f54) (fun _=>none) Tryz.f54 qRD qC (r,d,())).sat fun z_=>z_ =(kf (r,d,())).2:=by
 refine cast (by kernel_rfl) (?_:let r1:Int:=IntKind.i64.wrap (IntKind.i64.wrap (d.3 - d.4)+d.5);let r2:Int:=bif d.1 ==(3:Int) then (0:Int) else (0:Int);let r3:Bool:=bif d.1 ==(2:Int) then fz d.7 else bif d.1 ==(3:Int) then fz d.7 else fz d.7;let r4:Bool:=(bif d.6 then IntKind.i64.wrap (d.3 +(1:Int)) else d.3).tmod (2:Int) ==(1:Int);let r5:Int:=bif d.1 ==(2:Int) then (0:Int) else bif d.1 ==(3:Int) then r.8 else (0:Int);let r6:Int:=bif d.1 ==(2:Int) then (0:Int) else r2;let r7:Bool:=bif d.1 ==(2:Int) then d.1 ==(1:Int) else bif d.1 ==(3:Int) then d.1 ==(1:Int) else d.1 ==(1:Int);let r8:Bool:=bif d.1 ==(2:Int) then d.1 !=(2:Int) else bif d.1 ==(3:Int) then d.1 !=(2:Int) else d.1 !=(2:Int);let r9:Int:=bif d.1 ==(2:Int) then IntKind.i64.wrap (r.7+r1) else r2;let r10:Int:=bif d.2 ==(3:Int) then r6 else r6;let r11:Bool:=bif d.1 ==(2:Int) then r4 else bif d.1 ==(3:Int) then r4 else r4;let r12:Int:=bif d.1 !=(2:Int) then bif d.2 ==(1:Int) then r1 else bif d.2 ==(2:Int) then r6 else r10 else r6;let r13:Int:=bif d.1 !=(2:Int) then bif d.2 ==(1:Int) then r5 else bif d.2 ==(2:Int) then r5 else bif d.2 ==(3:Int) then r5 else r5 else r5;let r14:Int:=bif d.1 !=(2:Int) then bif d.2 ==(1:Int) then r9 else bif d.2 ==(2:Int) then r9 else bif d.2 ==(3:Int) then r9 else r9 else r9;((aK d !=(0:Int))=true→(Credit.mk (0:Int) (0:Int) (0:Int) (0:Int) (0:Int) (0:Int) false false false false,()) =(af r d,()))∧((aK d !=(0:Int))=false→(2:Int)≠(0:Int)∧(Credit.mk r12 r14 r13 (bif d.1 !=(2:Int) then bif d.2 ==(1:Int) then r6 else bif d.2 ==(2:Int) then r1 else r10 else r6) (bif d.1 !=(2:Int) then bif d.2 ==(1:Int) then r6 else bif d.2 ==(2:Int) then r6 else bif d.2 ==(3:Int) then r1 else r6 else r6) (IntKind.i64.wrap (IntKind.i64.wrap (r12+r14)+r13)) (bif d.1 !=(2:Int) then bif d.2 ==(1:Int) then r7 else bif d.2 ==(2:Int) then r7 else bif d.2 ==(3:Int) then r7 else r7 else r7) (bif d.1 !=(2:Int) then bif d.2 ==(1:Int) then r8 else bif d.2 ==(2:Int) then r8 else bif d.2 ==(3:Int) then r8 else r8 else r8) (bif d.1 !=(2:Int) then bif d.2 ==(1:Int) then r3 else bif d.2 ==(2:Int) then r3 else bif d.2 ==(3:Int) then r3 else r3 else r3) (bif d.1 !=(2:Int) then bif d.2 ==(1:Int) then r11 else bif d.2 ==(2:Int) then r11 else bif d.2 ==(3:Int) then r11 else r11 else r11),()) =(af r d,())))
 intro r1 r2 r3 r4 r5 r6 r7 r8 r9 r10 r11 r12 r13 r14
 clear_value (hr1:r1=_) (hr2:r2=_) (hr3:r3=_) (hr4:r4=_) (hr5:r5=_) (hr6:r6=_) (hr7:r7=_) (hr8:r8=_) (hr9:r9=_) (hr10:r10=_) (hr11:r11=_) (hr12:r12=_) (hr13:r13=_) (hr14:r14=_)
 refine ⟨fun h=>?_,fun h=>⟨by decide,?_⟩⟩
 ·grind [af,Credit.zero]
 ·have h:aK d=0:=by simpa using h
  have e:=BN h
  simp only [W] at e
  simp only [af,h,dM,fT,noW,qg,gI,jC,W,←e]
  grind
def lK:FuncId×Ctr:=(54,ai KE qRD qC kf)
theorem qT:CtrOK Tryz.prog KE 54 (ai KE qRD qC kf):=by
 refine a7 (C:=aY [ns,AX] Tryz.f54) (aX (.consU uW rfl (.consU CR rfl .nil)) _) aB (fn:=Tryz.f54) Tryz.func54 (by kernel_rfl) (by kernel_rfl) (by kernel_rfl) (by kernel_rfl) (by kernel_rfl) (by kernel_rfl) (Λ:=fun _ _=>none) ?_ ?_
 ·exact fun _ _ _ _ _ _ _ _ h=>by cases h
 ·rintro ⟨r,d,⟨⟩⟩ hw hn
  exact xe r d
theorem xf (r:Rules) (d:Delivery) :(evPat (aY [nt,A1,xV] Tryz.f108) (fun _=>none) Tryz.f108 qRD qC (r,d,())).sat fun z_=>z_ =(kf (r,d,())).2:=by
 refine cast (by kernel_rfl) (?_:let r1:Int:=IntKind.i64.wrap (IntKind.i64.wrap (d.3 - d.4)+d.5);let r2:Int:=bif d.2 ==(3:Int) then (0:Int) else (0:Int);let r3:Int:=bif d.2 ==(2:Int) then (0:Int) else r2;let r4:Int:=bif d.2 ==(1:Int) then (0:Int) else r3;let r5:Bool:=bif d.1 ==(2:Int) then jJ d else bif d.2 ==(1:Int) then jJ d else bif d.2 ==(2:Int) then jJ d else bif d.2 ==(3:Int) then jJ d else jJ d;let r6:Bool:=bif d.1 ==(2:Int) then fz d.7 else bif d.2 ==(1:Int) then fz d.7 else bif d.2 ==(2:Int) then fz d.7 else bif d.2 ==(3:Int) then fz d.7 else fz d.7;let r7:Int:=bif d.1 ==(3:Int) then r.8 else bif d.1 ==(2:Int) then (0:Int) else r4;let r8:Int:=bif d.1 ==(2:Int) then (0:Int) else bif d.2 ==(1:Int) then r1 else r3;let r9:Int:=bif d.1 ==(2:Int) then (0:Int) else bif d.2 ==(1:Int) then (0:Int) else bif d.2 ==(2:Int) then r1 else r2;let r10:Int:=bif d.1 ==(2:Int) then (0:Int) else bif d.2 ==(1:Int) then (0:Int) else bif d.2 ==(2:Int) then (0:Int) else bif d.2 ==(3:Int) then r1 else (0:Int);let r11:Int:=bif d.1 ==(2:Int) then IntKind.i64.wrap (r.7+r1) else r4;let r12:Bool:=bif d.1 ==(2:Int) then d.1 ==(1:Int) else bif d.2 ==(1:Int) then d.1 ==(1:Int) else bif d.2 ==(2:Int) then d.1 ==(1:Int) else bif d.2 ==(3:Int) then d.1 ==(1:Int) else d.1 ==(1:Int);let r13:Bool:=bif d.1 ==(2:Int) then d.1 !=(2:Int) else bif d.2 ==(1:Int) then d.1 !=(2:Int) else bif d.2 ==(2:Int) then d.1 !=(2:Int) else bif d.2 ==(3:Int) then d.1 !=(2:Int) else d.1 !=(2:Int);let r14:Int:=bif d.1 ==(3:Int) then r8 else r8;let r15:Int:=bif d.1 ==(3:Int) then r11 else r11;((aK d !=(0:Int))=true→(Credit.mk (0:Int) (0:Int) (0:Int) (0:Int) (0:Int) (0:Int) false false false false,()) =(af r d,()))∧((aK d !=(0:Int))=false→(Credit.mk r14 r15 r7 (bif d.1 ==(3:Int) then r9 else r9) (bif d.1 ==(3:Int) then r10 else r10) (IntKind.i64.wrap (IntKind.i64.wrap (r14+r15)+r7)) (bif d.1 ==(3:Int) then r12 else r12) (bif d.1 ==(3:Int) then r13 else r13) (bif d.1 ==(3:Int) then r6 else r6) (bif d.1 ==(3:Int) then r5 else r5),()) =(af r d,())))
 intro r1 r2 r3 r4 r5 r6 r7 r8 r9 r10 r11 r12 r13 r14 r15
 clear_value (hr1:r1=_) (hr2:r2=_) (hr3:r3=_) (hr4:r4=_) (hr5:r5=_) (hr6:r6=_) (hr7:r7=_) (hr8:r8=_) (hr9:r9=_) (hr10:r10=_) (hr11:r11=_) (hr12:r12=_) (hr13:r13=_) (hr14:r14=_) (hr15:r15=_)
 grind [af,dM,fT,noW,qg,gI,jC,Credit.zero]
def lM:FuncId×Ctr:=(108,ai KE qRD qC kf)
theorem qU:CtrOK Tryz.prog KE 108 (ai KE qRD qC kf):=by
 refine a7 (C:=aY [nt,A1,xV] Tryz.f108) (aX (.consU uY rfl (.consU CS rfl (.consU Bi rfl .nil))) _) aB (fn:=Tryz.f108) Tryz.func108 (by kernel_rfl) (by kernel_rfl) (by kernel_rfl) (by kernel_rfl) (by kernel_rfl) (by kernel_rfl) (Λ:=fun _ _=>none) ?_ ?_
 ·exact fun _ _ _ _ _ _ _ _ h=>by cases h
 ·rintro ⟨r,d,⟨⟩⟩ hw hn
  exact xf r d
end Go.Proofs.YtkajjbambnpbiaaGreatDoor
namespace Go.Proofs.YtkajjbambnpbiaaGreatDoor
open Go Go.Mir
attribute [local irreducible] Go.Mir.DT.sat Go.Mir.evPat
def aA (k:Int):Prop:=1≤k∧k≤16
end Go.Proofs.YtkajjbambnpbiaaGreatDoor
namespace Go.Proofs.YtkajjbambnpbiaaGreatDoor
open Go Go.Mir
attribute [local irreducible] Go.Mir.DT.sat Go.Mir.evPat Go.Mir.RT.sat Go.Mir.evFn
abbrev qI1:Pat:=fU [I]
abbrev qIb:Pat:=fU [I,I]
abbrev aU:Pat:=fU [.str]
def dgs36:ByteArray:=⟨#[48,49,50,51,52,53,54,55,56,57,97,98,99,100,101,102,103,104,105,106,107,108,109,110,111,112,113,114,115,116,117,118,119,120,121,122]⟩
def sm200:ByteArray:=⟨((List.range 100).flatMap fun n=> [UInt8.ofNat (48+n / 10),UInt8.ofNat (48+n % 10)]).toArray⟩
def dL (n:Int):ByteArray:=if decide (n<10) then dgs36.extract n.toNat (n+1).toNat else sm200.extract (n*2).toNat (n*2+2).toNat
def cV (n:Int):Prop:=0≤n∧n<100
def nE (n:Int):Prop:=n=10
def iC:Den (tyP qI1)→List Prop×Den (tyP aU):=fun x=>([cV x.1],(dL x.1,()))
def zw:Den (tyP qIb)→List Prop×Den (tyP aU):=fun x=>([cV x.1,nE x.2.1],(dL x.1,()))
theorem FX (n:Int) :(Utf8.encode n).size≤4:=by
 unfold Utf8.encode
 generalize (if Utf8.valid n then n.toNat else Utf8.runeError)=c
 show (ite _ _ _:ByteArray).size≤4
 by_cases h1:c<0x80
 ·rw [if_pos h1];exact Nat.le_of_ble_eq_true rfl
 ·rw [if_neg h1]
  by_cases h2:c<0x800
  ·rw [if_pos h2];exact Nat.le_of_ble_eq_true rfl
  ·rw [if_neg h2]
   by_cases h3:c<0x10000
   ·rw [if_pos h3];exact Nat.le_of_ble_eq_true rfl
   ·rw [if_neg h3];exact Nat.le_of_ble_eq_true rfl
theorem El {n:Int} (h:cV n) :(dL n).size≤200:=by
 have z5:dgs36.size=36:=rfl
 have z6:sm200.size=200:=by kernel_rfl
 unfold dL
 split <;> rw [ByteArray.size_extract] <;> omega
theorem vq (n:Int) (hk:cV n) :(evPat (aY [] Tryz.f225) (fun _=>none) Tryz.f225 qI1 aU (n,())).sat fun z_=>z_ =(iC (n,())).2:=by
 refine cast (by kernel_rfl) (?_:let r1:Int:=IntKind.i64.wrap (n +(1:Int));let r2:Int:=IntKind.i64.wrap (n *(2:Int));let r3:Bool:=decide (n <(10:Int));let r4:Int:=IntKind.i64.wrap (r2 +(2:Int));let r5:ByteArray:=ByteArray.mk #[48,49,50,51,52,53,54,55,56,57,97,98,99,100,101,102,103,104,105,106,107,108,109,110,111,112,113,114,115,116,117,118,119,120,121,122];let r6:ByteArray:=ByteArray.mk (([(48:UInt8),(48:UInt8),(48:UInt8),(49:UInt8),(48:UInt8),(50:UInt8),(48:UInt8),(51:UInt8),(48:UInt8),(52:UInt8),(48:UInt8),(53:UInt8),(48:UInt8),(54:UInt8),(48:UInt8),(55:UInt8),(48:UInt8),(56:UInt8),(48:UInt8),(57:UInt8),(49:UInt8),(48:UInt8),(49:UInt8),(49:UInt8),(49:UInt8),(50:UInt8),(49:UInt8),(51:UInt8),(49:UInt8),(52:UInt8),(49:UInt8),(53:UInt8),(49:UInt8),(54:UInt8),(49:UInt8),(55:UInt8),(49:UInt8),(56:UInt8),(49:UInt8),(57:UInt8),(50:UInt8),(48:UInt8),(50:UInt8),(49:UInt8),(50:UInt8),(50:UInt8),(50:UInt8),(51:UInt8),(50:UInt8),(52:UInt8)].append [(50:UInt8),(53:UInt8),(50:UInt8),(54:UInt8),(50:UInt8),(55:UInt8),(50:UInt8),(56:UInt8),(50:UInt8),(57:UInt8),(51:UInt8),(48:UInt8),(51:UInt8),(49:UInt8),(51:UInt8),(50:UInt8),(51:UInt8),(51:UInt8),(51:UInt8),(52:UInt8),(51:UInt8),(53:UInt8),(51:UInt8),(54:UInt8),(51:UInt8),(55:UInt8),(51:UInt8),(56:UInt8),(51:UInt8),(57:UInt8),(52:UInt8),(48:UInt8),(52:UInt8),(49:UInt8),(52:UInt8),(50:UInt8),(52:UInt8),(51:UInt8),(52:UInt8),(52:UInt8),(52:UInt8),(53:UInt8),(52:UInt8),(54:UInt8),(52:UInt8),(55:UInt8),(52:UInt8),(56:UInt8),(52:UInt8),(57:UInt8)]).append ([(53:UInt8),(48:UInt8),(53:UInt8),(49:UInt8),(53:UInt8),(50:UInt8),(53:UInt8),(51:UInt8),(53:UInt8),(52:UInt8),(53:UInt8),(53:UInt8),(53:UInt8),(54:UInt8),(53:UInt8),(55:UInt8),(53:UInt8),(56:UInt8),(53:UInt8),(57:UInt8),(54:UInt8),(48:UInt8),(54:UInt8),(49:UInt8),(54:UInt8),(50:UInt8),(54:UInt8),(51:UInt8),(54:UInt8),(52:UInt8),(54:UInt8),(53:UInt8),(54:UInt8),(54:UInt8),(54:UInt8),(55:UInt8),(54:UInt8),(56:UInt8),(54:UInt8),(57:UInt8),(55:UInt8),(48:UInt8),(55:UInt8),(49:UInt8),(55:UInt8),(50:UInt8),(55:UInt8),(51:UInt8),(55:UInt8),(52:UInt8)].append [(55:UInt8),(53:UInt8),(55:UInt8),(54:UInt8),(55:UInt8),(55:UInt8),(55:UInt8),(56:UInt8),(55:UInt8),(57:UInt8),(56:UInt8),(48:UInt8),(56:UInt8),(49:UInt8),(56:UInt8),(50:UInt8),(56:UInt8),(51:UInt8),(56:UInt8),(52:UInt8),(56:UInt8),(53:UInt8),(56:UInt8),(54:UInt8),(56:UInt8),(55:UInt8),(56:UInt8),(56:UInt8),(56:UInt8),(57:UInt8),(57:UInt8),(48:UInt8),(57:UInt8),(49:UInt8),(57:UInt8),(50:UInt8),(57:UInt8),(51:UInt8),(57:UInt8),(52:UInt8),(57:UInt8),(53:UInt8),(57:UInt8),(54:UInt8),(57:UInt8),(55:UInt8),(57:UInt8),(56:UInt8),(57:UInt8),(57:UInt8)])).toArray;(r3=true→((0:Int)≤n∧n≤r1∧r1≤(↑r5.size:Int))∧(r5.extract n.toNat r1.toNat,()) =(dL n,()))∧(r3=false→((0:Int)≤r2∧r2≤r4∧r4≤(↑r6.size:Int))∧(r6.extract r2.toNat r4.toNat,()) =(dL n,())))
 intro r1 r2 r3 r4 r5 r6
 clear_value (hr1:r1=_) (hr2:r2=_) (hr3:r3=_) (hr4:r4=_) (hr5:r5=_) (hr6:r6=_)
 obtain ⟨h0,h1⟩:=hk
 have e1:r1=n+1:=by rw [hr1];exact cC (by omega) (by omega)
 have e2:r2=n*2:=by rw [hr2];exact cC (by omega) (by omega)
 have e4:r4=n*2+2:=by rw [hr4,e2];exact cC (by omega) (by omega)
 have e5:r5=dgs36:=hr5
 have e6:r6=sm200:=by rw [hr6];kernel_rfl
 have z5:dgs36.size=36:=rfl
 have z6:sm200.size=200:=by kernel_rfl
 clear hr1 hr2 hr4 hr5 hr6
 subst e1 e2 e4 e5 e6
 refine ⟨fun h=>?_,fun h=>?_⟩
 ·rw [hr3] at h
  have hd:=of_decide_eq_true h
  refine ⟨⟨h0,by omega,by omega⟩,?_⟩
  unfold dL;rw [h];rfl
 ·rw [hr3] at h
  refine ⟨⟨by omega,by omega,by omega⟩,?_⟩
  unfold dL;rw [h];rfl
def qF:FuncId×Ctr:=(225,ai KE qI1 aU iC)
theorem wI:CtrOK Tryz.prog KE 225 (ai KE qI1 aU iC):=by
 refine a7 (C:=aY [] Tryz.f225) (aX (CtrsOK.nil) _) aB (fn:=Tryz.f225) Tryz.func225 (by kernel_rfl) (by kernel_rfl) (by kernel_rfl) (by kernel_rfl) (by kernel_rfl) (by kernel_rfl) (Λ:=fun _ _=>none) ?_ ?_
 ·exact fun _ _ _ _ _ _ _ _ h=>by cases h
 ·rintro ⟨n,⟨⟩⟩ hw hn
  exact vq n (hn _ List.mem_cons_self)
theorem zp (n:Int) (b:Int) (hk:cV n) (hb:nE b) :(evPat (aY [qF] Tryz.f194) (fun _=>none) Tryz.f194 qIb aU (n,b,())).sat fun z_=>z_ =(zw (n,b,())).2:=by
 refine cast (by kernel_rfl) (?_:let r1:Bool:=bif decide ((0:Int)≤n) then decide (n <(100:Int)) else false;((b ==(10:Int))=true→(r1=true→cV n∧(dL n,()) =(dL n,()))∧(r1=false→False))∧((b ==(10:Int))=false→False))
 intro r1
 clear_value (hr1:r1=_)
 have hb:b=10:=hb
 have e1:r1=true:=by rw [hr1,decide_eq_true hk.1,decide_eq_true hk.2];rfl
 subst hb
 exact ⟨fun _=>⟨fun _=>⟨hk,rfl⟩,fun h=>by rw [e1] at h;cases h⟩,fun h=>by cases h⟩
def xS:FuncId×Ctr:=(194,ai KE qIb aU zw)
theorem Be:CtrOK Tryz.prog KE 194 (ai KE qIb aU zw):=by
 refine a7 (C:=aY [qF] Tryz.f194) (aX (.consU wI rfl .nil) _) aB (fn:=Tryz.f194) Tryz.func194 (by kernel_rfl) (by kernel_rfl) (by kernel_rfl) (by kernel_rfl) (by kernel_rfl) (by kernel_rfl) (Λ:=fun _ _=>none) ?_ ?_
 ·exact fun _ _ _ _ _ _ _ _ h=>by cases h
 ·rintro ⟨n,b,⟨⟩⟩ hw hn
  exact zp n b (hn _ List.mem_cons_self) (hn _ (List.mem_cons_of_mem _ List.mem_cons_self))
theorem xa (n:Int) (b:Int) (hk:cV n) (hb:nE b) :(evPat (aY [xS] Tryz.f150) (fun _=>none) Tryz.f150 qIb aU (n,b,())).sat fun z_=>z_ =(zw (n,b,())).2:=by
 refine cast (by kernel_rfl) (?_:cV n∧nE b∧(dL n,()) =(dL n,()))
 exact ⟨hk,hb,rfl⟩
def uI:FuncId×Ctr:=(150,ai KE qIb aU zw)
theorem zg:CtrOK Tryz.prog KE 150 (ai KE qIb aU zw):=by
 refine a7 (C:=aY [xS] Tryz.f150) (aX (.consU Be rfl .nil) _) aB (fn:=Tryz.f150) Tryz.func150 (by kernel_rfl) (by kernel_rfl) (by kernel_rfl) (by kernel_rfl) (by kernel_rfl) (by kernel_rfl) (Λ:=fun _ _=>none) ?_ ?_
 ·exact fun _ _ _ _ _ _ _ _ h=>by cases h
 ·rintro ⟨n,b,⟨⟩⟩ hw hn
  exact xa n b (hn _ List.mem_cons_self) (hn _ (List.mem_cons_of_mem _ List.mem_cons_self))
theorem vw (n:Int) (hk:cV n) :(evPat (aY [uI] Tryz.f81) (fun _=>none) Tryz.f81 qI1 aU (n,())).sat fun z_=>z_ =(iC (n,())).2:=by
 refine cast (by kernel_rfl) (?_:cV n∧nE (10:Int)∧(dL n,()) =(dL n,()))
 exact ⟨hk,rfl,rfl⟩
def qJ:FuncId×Ctr:=(81,ai KE qI1 aU iC)
theorem wL:CtrOK Tryz.prog KE 81 (ai KE qI1 aU iC):=by
 refine a7 (C:=aY [uI] Tryz.f81) (aX (.consU zg rfl .nil) _) aB (fn:=Tryz.f81) Tryz.func81 (by kernel_rfl) (by kernel_rfl) (by kernel_rfl) (by kernel_rfl) (by kernel_rfl) (by kernel_rfl) (Λ:=fun _ _=>none) ?_ ?_
 ·exact fun _ _ _ _ _ _ _ _ h=>by cases h
 ·rintro ⟨n,⟨⟩⟩ hw hn
  exact vw n (hn _ List.mem_cons_self)
end Go.Proofs.YtkajjbambnpbiaaGreatDoor
namespace Go.Proofs.YtkajjbambnpbiaaGreatDoor
open Go Go.Mir
attribute [local irreducible] Go.Mir.DT.sat Go.Mir.evPat
end Go.Proofs.YtkajjbambnpbiaaGreatDoor
namespace Go.Proofs.YtkajjbambnpbiaaGreatDoor
open Go Go.Mir
attribute [local irreducible] Go.Mir.DT.sat Go.Mir.evPat Go.Mir.RT.sat Go.Mir.evFn
theorem GX {n:Nm} {x:n.T} (h:wfD (.nm n) x):wfD n.flds (n.to x):=by
 obtain ⟨S,w,cs,h⟩:=h
 cases h with
 | nm h=>exact ⟨_,_,_,h⟩
end Go.Proofs.YtkajjbambnpbiaaGreatDoor
namespace Go.Proofs.YtkajjbambnpbiaaGreatDoor
open Go Go.Mir
attribute [local irreducible] Go.Mir.DT.sat Go.Mir.evPat Go.Mir.RT.sat Go.Mir.evFn
def xu (w:Int):Prop:=w=1
def ta:Den (tyP qIb)→List Prop×Den (tyP aU):=fun x=>([cV x.1,xu x.2.1],(dL x.1,()))
abbrev qPd:Pat:=⟨[(1,.h I),(5,.h .str),(6,.h (.int .u64)),(7,.h .str),(8,.h .str)],[],0⟩
abbrev xPd:List (Lf×Pat):= [(.ext 0,⟨[(5,.h .str),(8,.h .str)],[],0⟩)]
abbrev TPd:Type:=Int×ByteArray×Int×ByteArray×ByteArray×Unit
def dgs10:ByteArray:=⟨#[48,49,50,51,52,53,54,55,56,57]⟩
def dg1 (n:Int):ByteArray:=dgs10.extract n.toNat (n+1).toNat
def nf (u:Int) (s:ByteArray):ByteArray:=if decide (u≥10) then dg1 (u / 10) ++(dg1 (u % 10)++s) else if decide (u>0)||decide ((s.size:Int)<1) then dg1 u++s else s
def qy (x:TPd):Prop:=x.1=1∧(0≤x.2.2.1∧x.2.2.1<100)∧x.2.2.2.1=dgs10∧(x.2.2.2.2.1.size:Int)+x.2.2.1≤200
def Bc (x:TPd):Nat:=x.2.2.1.toNat +(if x.2.2.2.2.1.size=0 then 1 else 0)
def m5 (x:TPd):ByteArray×ByteArray×Unit:=(x.2.1,nf x.2.2.1 x.2.2.2.2.1,())
theorem qh {a b:ByteArray} (h:a.data.toList=b.data.toList):a=b:=ByteArray.ext (Array.toList_inj.1 h)
theorem qu (a:ByteArray):ByteArray.mk #[]++a=a:=qh (by simp [ByteArray.data_append])
theorem CU {n:Int} (h:cV n):nf n ⟨#[]⟩=dL n:=by
 have key :((List.range 100).all fun k=>(nf (k:Int) ⟨#[]⟩).data.toList ==(dL (k:Int)).data.toList)=true:=by kernel_rfl
 have:=List.all_eq_true.1 key n.toNat (List.mem_range.2 (by have:=h.1;have:=h.2;omega))
 rw [show ((n.toNat:Nat):Int)=n from by have:=h.1;omega] at this
 exact qh (eq_of_beq this)
theorem Ag {n:Int} (h0:0≤n) (h1:n≤9) :(dg1 n).size=1:=by
 have:dgs10.size=10:=rfl
 unfold dg1;rw [ByteArray.size_extract];omega
theorem B1 {n:Int} (h0:0≤n) (h1:n<18446744073709551616):IntKind.u64.wrap n=n:=by
 simp only [IntKind.wrap,IntKind.bits,IntKind.signed]
 simp
 omega
noncomputable def lpPd:Lp:=(⟨0,aY [] Tryz.f151,(fun _=>none),(eN Tryz.f151 0),qPd,xPd⟩:Lp)
theorem Fy (w:Int) (sg:ByteArray) (u:Int) (dg:ByteArray) (s:ByteArray) (hi:qy (w,sg,u,dg,s,())) :(Go.Mir.stepG lpPd m5 (fun y:Den (tyP lpPd.q)=>qy y∧Bc y<Bc (w,sg,u,dg,s,())) (w,sg,u,dg,s,())∧Go.Mir.stepE lpPd m5 (w,sg,u,dg,s,())=m5 (w,sg,u,dg,s,())):=by
 refine cast (by kernel_rfl) (?_:let r1:Int:=IntKind.u64.wrap (u.tmod (10:Int) +(1:Int));let r2:Int:=if (20:Int)<w then (20:Int) else w;let r3:ByteArray:=dg.extract (u.tmod (10:Int)).toNat r1.toNat;let r4:Int:=if r2 >(1:Int) then r2 else (1:Int);let r5:Bool:=bif decide (u >(0:Int)) then true else decide ((↑s.size:Int)<r4);((r5=true→(10:Int)≠(0:Int)∧(10:Int)≠(0:Int)∧((0:Int)≤u.tmod (10:Int)∧u.tmod (10:Int)≤r1∧r1≤(↑dg.size:Int))∧r3.size+s.size≤aD∧(10:Int)≠(0:Int)∧qy (w,sg,IntKind.u64.wrap (u.tdiv (10:Int)),dg,r3++s,())∧Bc (w,sg,IntKind.u64.wrap (u.tdiv (10:Int)),dg,r3++s,())<Bc (w,sg,u,dg,s,()))∧(r5=false→True))∧(bif r5 then m5 (w,sg,IntKind.u64.wrap (u.tdiv (10:Int)),dg,r3++s,()) else (sg,s,()))=m5 (w,sg,u,dg,s,()))
 intro r1 r2 r3 r4 r5
 clear_value (hr1:r1=_) (hr2:r2=_) (hr3:r3=_) (hr4:r4=_) (hr5:r5=_)
 obtain ⟨h1,⟨h2,h3⟩,h4,h5⟩:=hi
 have h1:w=1:=h1
 have h2:0≤u:=h2
 have h3:u<100:=h3
 have h4:dg=dgs10:=h4
 have h5 :(s.size:Int)+u≤200:=h5
 have et:u.tmod 10=u % 10:=Int.tmod_eq_emod_of_nonneg h2
 have ed:u.tdiv 10=u / 10:=Int.tdiv_eq_ediv_of_nonneg h2
 rw [ed]
 rw [et] at hr1 hr3 ⊢
 have e1:r1=u % 10+1:=by rw [hr1];exact B1 (by omega) (by omega)
 have e2:r2=1:=by rw [hr2,h1];rfl
 have e4:r4=1:=by rw [hr4,e2];rfl
 have e3:r3=dg1 (u % 10):=by rw [hr3,e1,h4];rfl
 have z3:=Ag (n:=u % 10) (by omega) (by omega)
 have zs :(r3++s).size=1+s.size:=by rw [ByteArray.size_append,e3,z3]
 have eW:IntKind.u64.wrap (u / 10)=u / 10:=B1 (by omega) (by omega)
 have hL :(500:Nat)≤aD:=by decide
 have e5:r5 =(decide (u>0)||decide ((s.size:Int)<1)):=by rw [hr5,e4];cases decide (u>0) <;> rfl
 have hc:r5=true→u>0∨(s.size:Int)<1:=fun h=>by rw [e5] at h;simpa using h
 have z10 :(dgs10.size:Int)=10:=rfl
 rw [eW]
 refine ⟨⟨fun h=>⟨by decide,by decide,⟨by omega,by omega,by rw [h4];omega⟩,by rw [e3,z3];omega,by decide,⟨h1,⟨by show 0≤u / 10;omega,by show u / 10<100;omega⟩,h4,?_⟩,?_⟩,fun _=>trivial⟩,?_⟩
 ·show ((r3++s).size:Int)+u / 10≤200
  rw [zs]
  rcases hc h with h|h <;> omega
 ·show (u / 10).toNat +(if (r3++s).size=0 then 1 else 0)<u.toNat +(if s.size=0 then 1 else 0)
  rw [zs,if_neg (by omega)]
  rcases hc h with h|h
  ·omega
  ·rw [if_pos (by omega)];omega
 ·cases hb:r5 with
  | true=>
   have hc:=hc hb
   show (sg,nf (u / 10) (r3++s),()) =(sg,nf u s,())
   have:nf (u / 10) (r3++s)=nf u s:=by
    unfold nf
    by_cases h10:u≥10
    ·rw [decide_eq_true h10,decide_eq_false (show ¬ u / 10≥10 by omega),decide_eq_true (show u / 10>0 by omega),e3]
     simp
    ·have hu:u / 10=0:=by omega
     have hm:u % 10=u:=by omega
     rw [e5] at hb
     rw [decide_eq_false h10,hu,decide_eq_false (show ¬(0:Int)≥10 by decide),hb,decide_eq_false (show ¬(0:Int)>0 by decide),decide_eq_false (show ¬((r3++s).size:Int)<1 by rw [zs];omega),e3,hm]
     simp
   rw [this]
  | false=>
   rw [e5] at hb
   have hb':=hb
   simp only [Bool.or_eq_false_iff,decide_eq_false_iff_not] at hb'
   show (sg,s,()) =(sg,nf u s,())
   have:nf u s=s:=by
    unfold nf
    rw [decide_eq_false (show ¬ u≥10 by omega),hb]
    simp
   rw [this]
noncomputable def DS:LoopSum:=ni lpPd m5 qy
noncomputable def DL:Nat:=rid (eN Tryz.f151 0)
theorem ET:LoopOKp Tryz.prog 0 Tryz.f151.ntmps (eN Tryz.f151 0) (ni lpPd m5 qy):=
 yB lpPd (aX (CtrsOK.nil) _) aB (fun b hb S hS=>by cases hS) m5 qy Bc (fun |⟨w,sg,u,dg,s,⟨⟩⟩,hi=>Fy w sg u dg s hi)
theorem vu (n:Int) (w:Int) (hk:cV n) (hw1:xu w) :(evPat (aY [] Tryz.f151) (find [(DL,DS)]) Tryz.f151 qIb aU (n,w,())).sat fun z_=>z_ =(ta (n,w,())).2:=by
 refine cast (by kernel_rfl) (?_:let r1:Bool:=decide (n <(0:Int));let r2:ByteArray:=bif r1 then ByteArray.mk #[45] else ByteArray.mk #[];let r3:Int:=bif r1 then IntKind.u64.wrap ((0:Int) - IntKind.u64.wrap n) else IntKind.u64.wrap n;let r4:ByteArray:=nf r3 (ByteArray.mk #[]);((pV fun x=>none)∧w =(1:Int)∧((0:Int)≤r3∧r3 <(100:Int))∧ByteArray.mk #[48,49,50,51,52,53,54,55,56,57]=dgs10∧(↑(ByteArray.mk #[]).size:Int)+r3≤(200:Int))∧r2.size+r4.size≤aD∧(r2++r4,()) =(dL n,()))
 intro r1 r2 r3 r4
 clear_value (hr1:r1=_) (hr2:r2=_) (hr3:r3=_) (hr4:r4=_)
 obtain ⟨k0,k1⟩:=hk
 have e1:r1=false:=by rw [hr1];exact decide_eq_false (by omega)
 have e2:r2=ByteArray.mk #[]:=by rw [hr2,e1];rfl
 have e3:r3=n:=by rw [hr3,e1];exact B1 k0 (by omega)
 have e4:r4=dL n:=by rw [hr4,e3];exact CU ⟨k0,k1⟩
 have z:=El ⟨k0,k1⟩
 have hL :(500:Nat)≤aD:=by decide
 rw [e2,e3,e4,qu]
 exact ⟨⟨rfl,hw1,⟨k0,k1⟩,rfl,by show (0:Int)+n≤200;omega⟩,by show 0+_≤_;omega,rfl⟩
def qI:FuncId×Ctr:=(151,ai KE qIb aU ta)
theorem wK:CtrOK Tryz.prog KE 151 (ai KE qIb aU ta):=by
 refine a7 (C:=aY [] Tryz.f151) (aX (CtrsOK.nil) _) aB (fn:=Tryz.f151) Tryz.func151 (by kernel_rfl) (by kernel_rfl) (by kernel_rfl) (by kernel_rfl) (by kernel_rfl) (by kernel_rfl) (Λ:=fun x=>find [(DL,DS)]) ?_ ?_
 ·rintro ⟨n,w,⟨⟩⟩ hw hn
  exact LoopsOKp.at (by kernel_rfl) (.cons (by kernel_rfl) (ET) .nil)
 ·rintro ⟨n,w,⟨⟩⟩ hw hn
  exact vu n w (hn _ List.mem_cons_self) (hn _ (List.mem_cons_of_mem _ List.mem_cons_self))
theorem s9 (n:Int) (hk:cV n) :(evPat (aY [qI] Tryz.f83) (fun _=>none) Tryz.f83 qI1 aU (n,())).sat fun z_=>z_ =(iC (n,())).2:=by
 refine cast (by kernel_rfl) (?_:cV n∧xu (1:Int)∧(dL n,()) =(dL n,()))
 exact ⟨hk,rfl,rfl⟩
def ij:FuncId×Ctr:=(83,ai KE qI1 aU iC)
theorem mZ:CtrOK Tryz.prog KE 83 (ai KE qI1 aU iC):=by
 refine a7 (C:=aY [qI] Tryz.f83) (aX (.consU wK rfl .nil) _) aB (fn:=Tryz.f83) Tryz.func83 (by kernel_rfl) (by kernel_rfl) (by kernel_rfl) (by kernel_rfl) (by kernel_rfl) (by kernel_rfl) (Λ:=fun _ _=>none) ?_ ?_
 ·exact fun _ _ _ _ _ _ _ _ h=>by cases h
 ·rintro ⟨n,⟨⟩⟩ hw hn
  exact s9 n (hn _ List.mem_cons_self)
end Go.Proofs.YtkajjbambnpbiaaGreatDoor
namespace Go.Proofs.YtkajjbambnpbiaaGreatDoor
open Go Go.Mir
abbrev K8:Nat:=8
def FR (l:nz) (n:Nat):Cfg:=⟨tbl,find l,K8,n⟩
def cf8 (l:nz) (fn:Func):Cfg:=FR l fn.ntmps
theorem eY {l:nz} (h:CtrsOK Tryz.prog K8 l) (n:Nat):CfgOK Tryz.prog (FR l n):=⟨tH,by show 1≤K8;decide,h⟩
end Go.Proofs.YtkajjbambnpbiaaGreatDoor
namespace Go.Proofs.YtkajjbambnpbiaaGreatDoor
open Go Go.Mir
def ae (n lo hi:Int):Bool:=decide (n≥lo)&&decide (n≤hi)
def cH (r:Rules):Bool:=
 ae r.Side 2 11&&(ae r.Innings 1 2&&(ae r.Overs 0 90&&(ae r.Balls 4 8&&(ae r.Quota 0 90&&(ae r.Wide 1 5&&(ae r.NoBall 1 5&&(
 ae r.NewBall 0 200&&(ae r.FollowOn 0 1000&&(ae r.Reviews 0 9&&ae r.Outside 0 11)))))))))
def aL (r:Rules) (i:Nat):Phase:=r.Power.getD i Phase.zero
def ju (r:Rules) (p:Phase):Bool:=decide (p.From<1) ||(decide (p.From>p.To) ||(decide (p.To>r.Overs)||!ae p.Outside 0 11))
def fb (r:Rules) (i:Nat):Int:=
 if ju r (aL r i) then 2 else if decide ((i:Int)>0)&&decide ((aL r i).From≤(aL r (i - 1)).To) then 8 else 0
def bd (r:Rules):Nat→Nat→Int
 | _,0=>0
 | i,n+1=>if fb r i != 0 then fb r i else bd r (i+1) n
def cQ (r:Rules):Int:=if (r.Power.length:Int)>8 then 9 else bd r 0 r.Power.length
def gV (s:ByteArray) (i:Nat):Int:=((s.data.getD i 0).toNat:Int)
def jU (c:Int):Bool:=decide (c≥65)&&decide (c≤90)
def nD (i:Int) (c:Int):Bool:=!jU c&&(i==0 ||(c != 95&&(c != 45&&(decide (c<48)||decide (c>57)))))
def gb (s:ByteArray):Bool:=(List.range s.size).all (fun i=>!nD i (gV s i))&&(decide ((s.size:Int)≥1)&&decide ((s.size:Int)≤16))
def wV:Ty:= .prod (.int .i64) (.prod (.int .i64) (.prod (.int .i64) .unit))
def jG:Den wV→PRes:=fun x=>⟨[],.bool (ae x.1 x.2.1 x.2.2.1),[]⟩
def ln:Ty:= .prod (.nm .Rules) .unit
def tB:Den ln→PRes:=fun x=>⟨[],.bool (cH x.1),[]⟩
def tC:Den ln→PRes:=fun x=>⟨[],.int .i64 (cQ x.1),[]⟩
def wW:Ty:= .prod .str .unit
def jF:Den wW→PRes:=fun x=>⟨[],.bool (gb x.1),[]⟩
def k97:FuncId×Ctr:=(177,aq K8 wV jG)
def k96:FuncId×Ctr:=(165,aq K8 wV jG)
def k93:FuncId×Ctr:=(114,aq K8 ln tB)
def k94:FuncId×Ctr:=(115,aq K8 ln tC)
def k95:FuncId×Ctr:=(164,aq K8 wW jF)
def k92:FuncId×Ctr:=(113,aq K8 wW jF)
def mW (r:Rules) (i:Nat):Prop:=i≤r.Power.length∧bd r 0 r.Power.length=bd r i (r.Power.length - i)
def L94 (i:Nat):List (Lspec Nat):= [.out [true] [] [],.out [true] [] [],.next (i+1) [] [],.out [false] [] []]
def J94 (r:Rules) (i:Nat):St:=⟨[(1,.ptr 0 0),(10,.fsl (.nm .Phase) r.Power),(11,.int .i64 r.Power.length),(12,.int .i64 i)],[(0,.cells (flat cX (.nm .Rules) r))],fun _=>none,8⟩
def T94 (r:Rules):Tr:= .br (bd r 0 r.Power.length != 0) (.leaf .ret ⟨[(2,.int .i64 (bd r 0 r.Power.length))],[]⟩ 8) (.leaf (.ext 0) ⟨[],[]⟩ 8)
def Λ94 (r:Rules):Nat→Option LoopSum:=find [(4,bX ⟨[],[],8⟩ (J94 r 0) (T94 r))]
def cG (s:ByteArray) (i:Nat):Bool:=(List.range i).all (fun k=>!nD k (gV s k))
def mX (s:ByteArray) (i:Nat):Prop:=i≤s.size∧cG s i=true
def L95 (i:Nat):List (Lspec Nat):= [.out [false] [] [],.next (i+1) [] [],.out [true] [] []]
def J95 (s:ByteArray) (i:Nat):St:=⟨[(0,.str s),(3,.int .i64 i)],[],fun _=>none,0⟩
def T95 (s:ByteArray):Tr:= .br (cG s s.size) (.leaf (.ext 0) ⟨[],[]⟩ 0) (.leaf .ret ⟨[(2,.kb false)],[]⟩ 0)
def Λ95 (s:ByteArray):Nat→Option LoopSum:=find [(4,bX ⟨[],[],0⟩ (J95 s 0) (T95 s))]
end Go.Proofs.YtkajjbambnpbiaaGreatDoor
namespace Go.Proofs.YtkajjbambnpbiaaGreatDoor
open Go Go.Mir
def nB (r:Rules):Bool:=(r.FollowOn != 0&&r.Innings==1) ||((r.Quota != 0||decide ((r.Power.length:Int)>0))&&r.Overs==0)
def v7 (r:Rules):Bool:=r.Quota != 0&&decide (IntKind.i64.wrap (r.Quota*r.Side)<r.Overs)
def aQ (r:Rules):Int:=if !gb r.Name then 5 else if !cH r then 2 else if nB r then 1 else if v7 r then 13 else cQ r
def jE:Den ln→PRes:=fun x=>⟨[],.int .i64 (aQ x.1),[]⟩
def k85:FuncId×Ctr:=(49,aq K8 ln jE)
def k86:FuncId×Ctr:=(104,aq K8 ln jE)
def J86 (r:Rules) (i:Nat):St:=⟨[(1,.ptr 0 0),(115,.fsl (.nm .Phase) r.Power),(116,.int .i64 r.Power.length),(117,.int .i64 i)],[(0,.cells (flat cX (.nm .Rules) r))],fun _=>none,8⟩
def Λ86 (r:Rules):Nat→Option LoopSum:=find [(12,bX ⟨[],[],8⟩ (J86 r 0) (T94 r))]
end Go.Proofs.YtkajjbambnpbiaaGreatDoor
namespace Go.Proofs.YtkajjbambnpbiaaGreatDoor
open Go Go.Mir
def J92 (s:ByteArray) (i:Nat):St:=⟨[(0,.str s),(7,.osl 16 16),(8,.int .i64 (ay s).length),(9,.int .i64 i)],[(16,.row 16 true (.int .u8) (ay s))],fun _=>none,40⟩
def T92 (s:ByteArray):Tr:= .br (cG s s.size) (.leaf (.ext 0) ⟨[(0,.str s)],[]⟩ 40) (.leaf .ret ⟨[(2,.kb false)],[]⟩ 40)
def Λ92 (s:ByteArray):Nat→Option LoopSum:=find [(2,bX ⟨[],[],40⟩ (J92 s 0) (T92 s))]
end Go.Proofs.YtkajjbambnpbiaaGreatDoor
namespace Go.Proofs.YtkajjbambnpbiaaGreatDoor
open Go Go.Mir
def wtab:List dismissal_way:=
 [{ how:=0,name:={ data:=#[78,79,84,79,85,84] },fair:=false,wide:=false,no:=false,fielder:=false,either:=false },
  { how:=1,name:={ data:=#[66,79,87,76,69,68] },fair:=true,wide:=false,no:=false,fielder:=false,either:=false },
  { how:=2,name:={ data:=#[67,65,85,71,72,84] },fair:=true,wide:=false,no:=false,fielder:=true,either:=false },
  { how:=3,name:={ data:=#[76,66,87] },fair:=true,wide:=false,no:=false,fielder:=false,either:=false },
  { how:=4,name:={ data:=#[83,84,85,77,80,69,68] },fair:=true,wide:=true,no:=false,fielder:=true,either:=false },
  { how:=5,name:={ data:=#[72,73,84,87,73,67,75,69,84] },fair:=true,wide:=true,no:=false,fielder:=false,either:=false },
  { how:=6,name:={ data:=#[82,85,78,79,85,84] },fair:=true,wide:=true,no:=true,fielder:=true,either:=true },
  { how:=7,name:={ data:=#[72,73,84,84,87,73,67,69] },fair:=true,wide:=false,no:=true,fielder:=false,either:=false },
  { how:=8,name:={ data:=#[79,66,83,84,82,85,67,84,73,78,71] },fair:=true,wide:=true,no:=true,fielder:=false,either:=true },
  { how:=9,name:={ data:=#[84,73,77,69,68,79,85,84] },fair:=false,wide:=false,no:=false,fielder:=false,either:=false },
  { how:=10,name:={ data:=#[82,69,84,73,82,69,68] },fair:=false,wide:=false,no:=false,fielder:=false,either:=false }]
def onW (w:dismissal_way) (t:Int):Bool:=(t==1&&w.fair) ||(t==2&&w.wide) ||(t==3&&w.no)
def ofW (h:Int):dismissal_way:=(wtab.find? fun w=>w.how==h).getD dismissal_way.zero
def lF (w:dismissal_way) (t:Int) (free:Bool):Bool:=onW w t&&(!free||w.how==6||w.how==7||w.how==8)
def ff (t:Int) (free:Bool):List Int:=(wtab.filter fun w=>lF w t free).map dismissal_way.how
def player (n:Int):Bool:=decide (n≥1)&&decide (n≤11)
def dz (d:Delivery) (w:dismissal_way):Bool:=
 !((w.fielder != player d.Fielder) ||(!w.fielder&&d.Fielder != 0))&&(d.Second==0 ||(d.How==6&&player d.Second&&d.Second != d.Fielder))
def aZ (d:Delivery) (free:Bool):Int:=
 if d.How==0 then (if d.Victim != 0 then 14 else if d.Fielder != 0||d.Second != 0||d.Sub then 15 else 0)
 else if !(ff d.Typ free).contains d.How then 13
 else if !(d.How==6||d.How==8)&&(d.Source != 0||d.Runs != 0) then 12
 else if d.Victim != 1&&(d.Victim != 2||!(ofW d.How).either) then 14
 else if !dz d (ofW d.How) then 15
 else if d.Sub&&d.How != 2&&d.How != 6 then 18
 else 0
def dU (h:Int):Bool:=h==6||h==7||h==8
def onR (h t:Int):Bool:=
 if h==1||h==2||h==3 then t==1
 else if h==4||h==5 then t==1||t==2
 else if h==7 then t==1||t==3
 else if h==6||h==8 then t==1||t==2||t==3
 else false
def qA (h:Int):Bool:=h==6
def js (h:Int):Bool:=h==2||h==4||h==6
def bf (d:Delivery) (free:Bool):Int:=
 if d.How==0 then (if d.Victim != 0 then 14 else if d.Fielder != 0||d.Second != 0||d.Sub then 15 else 0)
 else if !onR d.How d.Typ ||(free&&!dU d.How) then 13
 else if !(d.How==6||d.How==8)&&(d.Source != 0||d.Runs != 0) then 12
 else if d.Victim != 1&&!(d.Victim==2&&(d.How==6||d.How==8)) then 14
 else if (js d.How&&(decide (d.Fielder<1)||decide (d.Fielder>11))) ||(!js d.How&&d.Fielder != 0) then 15
 else if d.Second != 0&&(!(d.How==6)||decide (d.Second<1)||decide (d.Second>11)||d.Second==d.Fielder) then 15
 else if d.Sub&&d.How != 2&&d.How != 6 then 18
 else 0
def kV (xs:List Int) (v:Int):Bool:=xs.contains v
def C3:Ty:= .unit
def tw:Den C3→PRes:=fun _=>⟨[],.osl 0 0,[⟨.nm .dismissal_way,wtab⟩]⟩
def C4:Ty:= .prod (.nm .dismissal_way) (.prod (.int .u8) .unit)
def tx:Den C4→PRes:=fun x=>⟨[],.bool (onW x.1 x.2.1),[]⟩
def ng:Ty:= .prod (.int .u8) .unit
def tq:Den ng→PRes:=fun x=>⟨[],.agg (flat cX (.nm .dismissal_way) (ofW x.1)),[]⟩
def CZ:Ty:= .prod (.int .u8) (.prod .bool .unit)
def tj:Den CZ→PRes:=fun x=>⟨[],.osl 0 0,[⟨.int .u8,ff x.1 x.2.1⟩]⟩
def C1:Ty:=zn
def tn:Den C1→PRes:=fun x=>⟨[],.bool (kV x.1 x.2.1),[]⟩
def C5:Ty:= .prod (.int .i64) .unit
def tA:Den C5→PRes:=fun x=>⟨[],.bool (player x.1),[]⟩
def C2:Ty:= .prod (.nm .Delivery) (.prod (.nm .dismissal_way) .unit)
def tt:Den C2→PRes:=fun x=>⟨[],.bool (dz x.1 x.2.1),[]⟩
def psP:Ty:= .prod (.nm .Delivery) (.prod .bool .unit)
def tg:Den psP→PRes:=fun x=>⟨[],.int .i64 (aZ x.1 x.2.1),[]⟩
def th:Den psP→PRes:=fun x=>⟨[],.int .i64 (bf x.1 x.2.1),[]⟩
def tv:Den ng→PRes:=fun x=>⟨[],.bool (dU x.1),[]⟩
def C6:Ty:= .prod (.int .u8) (.prod (.int .u8) .unit)
def tu:Den C6→PRes:=fun x=>⟨[],.bool (onR x.1 x.2.1),[]⟩
def tp:Den ng→PRes:=fun x=>⟨[],.tup [.bool (js x.1),.bool (js x.1),.bool (qA x.1)],[]⟩
def k61:FuncId×Ctr:=(221,aq KK C3 tw)
def k62:FuncId×Ctr:=(223,aq KK C4 tx)
def k57:FuncId×Ctr:=(185,aq KK ng tq)
def k20:FuncId×Ctr:=(187,aq KK CZ tj)
def k63:FuncId×Ctr:=(222,aq KK zn tz)
def k21:FuncId×Ctr:=(186,aq KK C1 tn)
def k89:FuncId×Ctr:=(224,aq KK C5 tA)
def k58:FuncId×Ctr:=(188,aq KK C2 tt)
def k17:FuncId×Ctr:=(143,aq KK psP tg)
def k18:FuncId×Ctr:=(146,aq KK psP th)
def k60:FuncId×Ctr:=(193,aq KK ng tv)
def k59:FuncId×Ctr:=(192,aq KK C6 tu)
def k29:FuncId×Ctr:=(191,aq KK ng tp)
def J57 (h:Int) (i:Nat):St:=⟨[(0,.int .u8 h),(2,.ptr 0 0),(5,.osl 4 4),(6,.int .i64 wtab.length),(7,.int .i64 i)],
 [(4,.row 4 true (.nm .dismissal_way) wtab),(0,.cells (flat cX (.nm .dismissal_way) dismissal_way.zero))],fun _=>none,16⟩
def T57 (h:Int):Tr:= .br (wtab.any fun w=>w.how==h) (.leaf .ret ⟨[(2,.ptr 0 0)],[(0,.cells (flat cX (.nm .dismissal_way) (ofW h)))]⟩ 16)
 (.leaf (.ext 0) ⟨[(2,.ptr 0 0)],[(0,.cells (flat cX (.nm .dismissal_way) dismissal_way.zero))]⟩ 16)
def xO (h:Int) (i:Nat):Prop:=i≤11∧∀ w∈wtab.take i,(w.how==h)=false
def L57 (i:Nat):List (Lspec Nat):= [.out [true] [] [],.next (i+1) [] [],.out [false] [] []]
def Λ57 (h:Int):Nat→Option LoopSum:=find [(2,bX ⟨[],[],16⟩ (J57 h 0) (T57 h))]
def dw (t:Int) (free:Bool) (i:Nat):List Int:=((wtab.take i).filter fun w=>lF w t free).map dismissal_way.how
def J20 (t:Int) (free:Bool) (i:Nat):St:=⟨[(0,.int .u8 t),(1,.bool free),(5,.osl 16 17),(8,.osl 8 8),(9,.int .i64 wtab.length),(10,.int .i64 i)],
 [(8,.row 8 true (.nm .dismissal_way) wtab),(16,.row 17 true (.int .u8) (dw t free i))],fun _=>none,20⟩
def T20 (t:Int) (free:Bool):Tr:= .leaf (.ext 0) ⟨[(5,.osl 16 17)],[(16,.row 17 true (.int .u8) (ff t free))]⟩ 20
def L20 (i:Nat):List (Lspec Nat):= [.next (i+1) [(17,144)] [],.next (i+1) [] [],.out [] [] []]
def oo (i:Nat):Prop:=i≤11
def Λ20 (t:Int) (free:Bool):Nat→Option LoopSum:=find [(3,bX ⟨[],[16],20⟩ (J20 t free 0) (T20 t free))]
end Go.Proofs.YtkajjbambnpbiaaGreatDoor
namespace Go.Proofs.YtkajjbambnpbiaaGreatDoor
open Go Go.Mir
attribute [local irreducible] Go.Mir.RT.sat Go.Mir.evFn Go.Mir.stepObl
theorem GD :(evFn (eI [] Tryz.f221) (fun _=>none) Tryz.f221 (bL C3 ())).sat fun v' rows=>leV v' (tw ()).v∧rows =(tw ()).rows:=by
 refine cast (by kernel_rfl) (?_ :(nat_lit 0=nat_lit 0∧nat_lit 0=nat_lit 0)∧ [RowD.mk (Ty.nm Nm.dismissal_way) [dismissal_way.mk (0:Int) (ByteArray.mk #[78,79,84,79,85,84]) false false false false false,dismissal_way.mk (1:Int) (ByteArray.mk #[66,79,87,76,69,68]) true false false false false,dismissal_way.mk (2:Int) (ByteArray.mk #[67,65,85,71,72,84]) true false false true false,dismissal_way.mk (3:Int) (ByteArray.mk #[76,66,87]) true false false false false,dismissal_way.mk (4:Int) (ByteArray.mk #[83,84,85,77,80,69,68]) true true false true false,dismissal_way.mk (5:Int) (ByteArray.mk #[72,73,84,87,73,67,75,69,84]) true true false false false,dismissal_way.mk (6:Int) (ByteArray.mk #[82,85,78,79,85,84]) true true true true true,dismissal_way.mk (7:Int) (ByteArray.mk #[72,73,84,84,87,73,67,69]) true false true false false,dismissal_way.mk (8:Int) (ByteArray.mk #[79,66,83,84,82,85,67,84,73,78,71]) true true true false true,dismissal_way.mk (9:Int) (ByteArray.mk #[84,73,77,69,68,79,85,84]) false false false false false,dismissal_way.mk (10:Int) (ByteArray.mk #[82,69,84,73,82,69,68]) false false false false false]]=[RowD.mk (Ty.nm Nm.dismissal_way) wtab])
 exact ⟨⟨rfl,rfl⟩,by kernel_rfl⟩
theorem CL:CtrOK Tryz.prog KK 221 (aq KK C3 tw):=by
 refine bj (C:=eI [] Tryz.f221) (fa CtrsOK.nil _) aB (fn:=Tryz.f221) Tryz.func221 (by kernel_rfl) (by kernel_rfl) (by kernel_rfl) (Λ:=fun _ _=>none) ?_ ?_ ?_
 ·exact fun _ _ _ _ _ _ _ _ h=>by cases h
 ·rintro ⟨⟩
  exact of_decide_eq_true (by kernel_rfl)
 ·rintro ⟨⟩ _ _
  exact GD
theorem GE (w:dismissal_way) (t:Int) :(evFn (eI [] Tryz.f223) (fun _=>none) Tryz.f223 (bL C4 (w,t,()))).sat fun v' rows=>leV v' (tx (w,t,())).v∧rows =(tx (w,t,())).rows:=by
 refine cast (by kernel_rfl) (?_ :(bif t ==(1:Int) then bif w.3 then true else bif t ==(2:Int) then bif w.4 then true else bif t ==(3:Int) then w.5 else false else bif t ==(3:Int) then w.5 else false else bif t ==(2:Int) then bif w.4 then true else bif t ==(3:Int) then w.5 else false else bif t ==(3:Int) then w.5 else false)=onW w t∧([]:List RowD)=[])
 simp only [onW];grind
theorem Gj:CtrOK Tryz.prog KK 223 (aq KK C4 tx):=by
 refine bj (C:=eI [] Tryz.f223) (fa CtrsOK.nil _) aB (fn:=Tryz.f223) Tryz.func223 (by kernel_rfl) (by kernel_rfl) (by kernel_rfl) (Λ:=fun _ _=>none) ?_ ?_ ?_
 ·exact fun _ _ _ _ _ _ _ _ h=>by cases h
 ·rintro ⟨w,t,⟨⟩⟩
  exact of_decide_eq_true (by kernel_rfl)
 ·rintro ⟨w,t,⟨⟩⟩ _ _
  exact GE w t
theorem GI (n:Int) :(evFn (eI [] Tryz.f224) (fun _=>none) Tryz.f224 (bL C5 (n,()))).sat fun v' rows=>leV v' (tA (n,())).v∧rows =(tA (n,())).rows:=by
 refine cast (by kernel_rfl) (?_ :(bif decide (n≥(1:Int)) then decide (n≤(11:Int)) else false)=player n∧([]:List RowD)=[])
 simp only [player];grind
theorem HD:CtrOK Tryz.prog KK 224 (aq KK C5 tA):=by
 refine bj (C:=eI [] Tryz.f224) (fa CtrsOK.nil _) aB (fn:=Tryz.f224) Tryz.func224 (by kernel_rfl) (by kernel_rfl) (by kernel_rfl) (Λ:=fun _ _=>none) ?_ ?_ ?_
 ·exact fun _ _ _ _ _ _ _ _ h=>by cases h
 ·rintro ⟨n,⟨⟩⟩
  exact of_decide_eq_true (by kernel_rfl)
 ·rintro ⟨n,⟨⟩⟩ _ _
  exact GI n
theorem GC (n:Int) :(evFn (eI [] Tryz.f193) (fun _=>none) Tryz.f193 (bL ng (n,()))).sat fun v' rows=>leV v' (tv (n,())).v∧rows =(tv (n,())).rows:=by
 refine cast (by kernel_rfl) (?_ :(bif n ==(6:Int) then true else bif n ==(7:Int) then true else n ==(8:Int))=dU n∧([]:List RowD)=[])
 simp only [dU];grind
theorem Hz:CtrOK Tryz.prog KK 193 (aq KK ng tv):=by
 refine bj (C:=eI [] Tryz.f193) (fa CtrsOK.nil _) aB (fn:=Tryz.f193) Tryz.func193 (by kernel_rfl) (by kernel_rfl) (by kernel_rfl) (Λ:=fun _ _=>none) ?_ ?_ ?_
 ·exact fun _ _ _ _ _ _ _ _ h=>by cases h
 ·rintro ⟨n,⟨⟩⟩
  exact of_decide_eq_true (by kernel_rfl)
 ·rintro ⟨n,⟨⟩⟩ _ _
  exact GC n
theorem GB (n:Int) (t:Int) :(evFn (eI [] Tryz.f192) (fun _=>none) Tryz.f192 (bL C6 (n,t,()))).sat fun v' rows=>leV v' (tu (n,t,())).v∧rows =(tu (n,t,())).rows:=by
 refine cast (by kernel_rfl) (?_ :((bif n ==(1:Int) then n ==(1:Int) else bif n ==(2:Int) then n ==(2:Int) else n ==(3:Int))=true→(t ==(1:Int))=onR n t∧([]:List RowD)=[])∧((bif n ==(1:Int) then n ==(1:Int) else bif n ==(2:Int) then n ==(2:Int) else n ==(3:Int))=false→((bif n ==(4:Int) then n ==(4:Int) else n ==(5:Int))=true→(bif t ==(1:Int) then true else t ==(2:Int))=onR n t∧([]:List RowD)=[])∧((bif n ==(4:Int) then n ==(4:Int) else n ==(5:Int))=false→((n ==(7:Int))=true→(bif t ==(1:Int) then true else t ==(3:Int))=onR n t∧([]:List RowD)=[])∧((n ==(7:Int))=false→((bif n ==(6:Int) then n ==(6:Int) else n ==(8:Int))=true→(bif t ==(1:Int) then true else bif t ==(2:Int) then true else t ==(3:Int))=onR n t∧([]:List RowD)=[])∧((bif n ==(6:Int) then n ==(6:Int) else n ==(8:Int))=false→false=onR n t∧([]:List RowD)=[])))))
 simp only [onR];grind
theorem Hy:CtrOK Tryz.prog KK 192 (aq KK C6 tu):=by
 refine bj (C:=eI [] Tryz.f192) (fa CtrsOK.nil _) aB (fn:=Tryz.f192) Tryz.func192 (by kernel_rfl) (by kernel_rfl) (by kernel_rfl) (Λ:=fun _ _=>none) ?_ ?_ ?_
 ·exact fun _ _ _ _ _ _ _ _ h=>by cases h
 ·rintro ⟨n,t,⟨⟩⟩
  exact of_decide_eq_true (by kernel_rfl)
 ·rintro ⟨n,t,⟨⟩⟩ _ _
  exact GB n t
theorem Gy (n:Int) :(evFn (eI [] Tryz.f191) (fun _=>none) Tryz.f191 (bL ng (n,()))).sat fun v' rows=>leV v' (tp (n,())).v∧rows =(tp (n,())).rows:=by
 refine cast (by kernel_rfl) (?_ :((bif n ==(2:Int) then true else bif n ==(4:Int) then true else n ==(6:Int))=js n∧(bif n ==(2:Int) then true else bif n ==(4:Int) then true else n ==(6:Int))=js n∧(n ==(6:Int))=qA n∧True)∧([]:List RowD)=[])
 simp only [js,qA];grind
theorem Hv:CtrOK Tryz.prog KK 191 (aq KK ng tp):=by
 refine bj (C:=eI [] Tryz.f191) (fa CtrsOK.nil _) aB (fn:=Tryz.f191) Tryz.func191 (by kernel_rfl) (by kernel_rfl) (by kernel_rfl) (Λ:=fun _ _=>none) ?_ ?_ ?_
 ·exact fun _ _ _ _ _ _ _ _ h=>by cases h
 ·rintro ⟨n,⟨⟩⟩
  exact of_decide_eq_true (by kernel_rfl)
 ·rintro ⟨n,⟨⟩⟩ _ _
  exact Gy n
theorem Dr:wtab.length=11:=rfl
theorem xD {α:Type} (p:α→Bool) :∀ (xs:List α) (i:Nat) (x:α),xs[i]?=some x→p x=true→(∀ y∈xs.take i,p y=false)→xs.find? p=some x
 | [],_,_,h,_,_=>by simp at h
 | y::xs,0,x,h,hp,_=>by simp at h;subst h;simp [hp]
 | y::xs,i+1,x,h,hp,hn=>by
  have h0:p y=false:=hn y (by simp)
  rw [List.find?_cons_of_neg (by simp [h0])]
  exact xD p xs i x (by simpa using h) hp (fun z hz=>hn z (by simp [hz]))
theorem xK {α:Type} {xs:List α} {i:Nat} (z:α) (h:i<xs.length):xs[i]?=some (xs.getD i z):=by
 rw [List.getD_eq_getElem?_getD,List.getElem?_eq_getElem h];rfl
theorem Fs (h:Int) (i:Nat) (hi:xO h i) :(stepObl (J57 h) (xO h) (fun i=>11 - i) i (T57 h) (a6 (eI [k61] Tryz.f185) (fun _=>none) (eN Tryz.f185 0) (J57 h i)) (L57 i)).1:=by
 refine cast (by kernel_rfl) (?_ :(decide ((↑i:Int) <(↑wtab.length:Int))=true→((0:Int)≤(↑i:Int)∧(↑i:Int) <(↑wtab.length:Int))∧(((wtab.getD (↑i:Int).toNat (dflt (Ty.nm Nm.dismissal_way))).1==h)=true→(wtab.any fun w=>w.1==h)=true∧(True∧True)∧((wtab.getD (↑i:Int).toNat (dflt (Ty.nm Nm.dismissal_way))).1 =(ofW h).1∧(wtab.getD (↑i:Int).toNat (dflt (Ty.nm Nm.dismissal_way))).2 =(ofW h).2∧(wtab.getD (↑i:Int).toNat (dflt (Ty.nm Nm.dismissal_way))).3 =(ofW h).3∧(wtab.getD (↑i:Int).toNat (dflt (Ty.nm Nm.dismissal_way))).4 =(ofW h).4∧(wtab.getD (↑i:Int).toNat (dflt (Ty.nm Nm.dismissal_way))).5 =(ofW h).5∧(wtab.getD (↑i:Int).toNat (dflt (Ty.nm Nm.dismissal_way))).6 =(ofW h).6∧(wtab.getD (↑i:Int).toNat (dflt (Ty.nm Nm.dismissal_way))).7 =(ofW h).7∧True)∧True)∧(((wtab.getD (↑i:Int).toNat (dflt (Ty.nm Nm.dismissal_way))).1==h)=false→xO h (i +(1:Nat))∧(11:Nat) - (i +(1:Nat)) <(11:Nat) - i∧(h=h∧True∧True∧(↑wtab.length:Int) =(↑wtab.length:Int)∧IntKind.i64.wrap ((↑i:Int) +(1:Int)) =(↑(i +(1:Nat)):Int)∧True)∧RowD.mk (Ty.nm Nm.dismissal_way) wtab=RowD.mk (Ty.nm Nm.dismissal_way) wtab∧((0:Int) =(0:Int)∧ByteArray.empty=ByteArray.empty∧false=false∧false=false∧false=false∧false=false∧false=false∧True)∧True))∧(decide ((↑i:Int) <(↑wtab.length:Int))=false→(wtab.any fun w=>w.1==h)=false∧(True∧True)∧((0:Int) =(0:Int)∧ByteArray.empty=ByteArray.empty∧false=false∧false=false∧false=false∧false=false∧false=false∧True)∧True))
 have e :(i:Int).toNat=i:=by simp
 rw [e]
 generalize hw:wtab.getD i (dflt (Ty.nm Nm.dismissal_way))=w
 refine ⟨fun h1=>?_,fun h1=>?_⟩
 ·have h1:i<wtab.length:=by simpa using h1
  have h3:wtab[i]?=some w:=by rw [←hw];exact xK _ h1
  refine ⟨⟨by omega,by omega⟩,fun h2=>?_,fun h2=>?_⟩
  ·have h4:ofW h=w:=by
    unfold ofW
    rw [xD (fun w=>w.how==h) wtab i w h3 h2 hi.2];rfl
   have h5 :(wtab.any fun w=>w.1==h)=true:=List.any_eq_true.2 ⟨w,List.mem_of_getElem? h3,h2⟩
   rw [h4]
   exact ⟨h5,⟨trivial,trivial⟩,⟨rfl,rfl,rfl,rfl,rfl,rfl,rfl,trivial⟩,trivial⟩
  ·rw [Dr] at h1
   refine ⟨⟨by omega,fun y hy=>?_⟩,by omega,⟨rfl,trivial,trivial,rfl,?_,trivial⟩,rfl,⟨rfl,rfl,rfl,rfl,rfl,rfl,rfl,trivial⟩,trivial⟩
   ·rw [List.take_add_one,h3] at hy
    rcases List.mem_append.1 hy with hy|hy
    ·exact hi.2 y hy
    ·simp at hy;subst hy;exact h2
   ·rw [cC (by omega) (by omega)];omega
 ·have h1:wtab.length≤i:=by simpa using h1
  refine ⟨?_,⟨trivial,trivial⟩,⟨rfl,rfl,rfl,rfl,rfl,rfl,rfl,trivial⟩,trivial⟩
  rw [List.any_eq_false]
  intro x hx
  have:=hi.2 x (by rw [List.take_of_length_le h1];exact hx)
  simpa using this
theorem CB (h:Int):LoopsOK Tryz.prog Tryz.f185.ntmps [eN Tryz.f185 0] (Λ57 h):=
 .cons (L:=bX ⟨[],[],16⟩ (J57 h 0) (T57 h)) (by kernel_rfl) (il (fa (.cons CL .nil) _) aB (J57 h) (fun _=>rfl) (xO h) (fun i=>11 - i) (fun _ _=>none) (fun _ _ _ _ _ h=>by cases h) (T57 h) [] [] 0 ⟨Nat.zero_le _,by simp⟩ L57 (Fs h)) .nil
theorem Gz (h:Int) :(evFn (eI [k61] Tryz.f185) (Λ57 h) Tryz.f185 (bL ng (h,()))).sat fun v' rows=>leV v' (tq (h,())).v∧rows =(tq (h,())).rows:=by
 refine cast (by kernel_rfl) (?_ :((pV fun x=>none)∧(h=h∧True∧True∧(↑wtab.length:Int) =(↑wtab.length:Int)∧(0:Int) =(↑(0:Nat):Int)∧True)∧RowD.mk (Ty.nm Nm.dismissal_way) wtab=RowD.mk (Ty.nm Nm.dismissal_way) wtab∧((0:Int) =(0:Int)∧ByteArray.empty=ByteArray.empty∧false=false∧false=false∧false=false∧false=false∧false=false∧True)∧True)∧((wtab.any fun w=>w.1==h)=true→((ofW h).1 =(ofW h).1∧(ofW h).2 =(ofW h).2∧(ofW h).3 =(ofW h).3∧(ofW h).4 =(ofW h).4∧(ofW h).5 =(ofW h).5∧(ofW h).6 =(ofW h).6∧(ofW h).7 =(ofW h).7∧True)∧([]:List RowD)=[])∧((wtab.any fun w=>w.1==h)=false→((0:Int) =(ofW h).1∧ByteArray.empty =(ofW h).2∧false =(ofW h).3∧false =(ofW h).4∧false =(ofW h).5∧false =(ofW h).6∧false =(ofW h).7∧True)∧([]:List RowD)=[]))
 refine ⟨⟨rfl,⟨rfl,trivial,trivial,rfl,rfl,trivial⟩,rfl,⟨rfl,rfl,rfl,rfl,rfl,rfl,rfl,trivial⟩,trivial⟩,fun _=>⟨⟨rfl,rfl,rfl,rfl,rfl,rfl,rfl,trivial⟩,rfl⟩,fun h1=>?_⟩
 have h2:ofW h=dismissal_way.zero:=by
  unfold ofW
  rw [List.find?_eq_none.2]
  ·rfl
  ·intro x hx hp
   have:=(List.any_eq_false.1 h1) x hx
   exact this hp
 rw [h2]
 exact ⟨⟨rfl,rfl,rfl,rfl,rfl,rfl,rfl,trivial⟩,rfl⟩
theorem Hw:CtrOK Tryz.prog KK 185 (aq KK ng tq):=by
 refine bj (C:=eI [k61] Tryz.f185) (fa (.cons CL .nil) _) aB (fn:=Tryz.f185) Tryz.func185 (by kernel_rfl) (by kernel_rfl) (by kernel_rfl) (Λ:=fun x=>Λ57 x.1) ?_ ?_ ?_
 ·rintro ⟨h,⟨⟩⟩ _ _
  exact LoopsOK.at (by kernel_rfl) (CB h)
 ·rintro ⟨h,⟨⟩⟩
  exact of_decide_eq_true (by kernel_rfl)
 ·rintro ⟨h,⟨⟩⟩ _ _
  exact Gz h
theorem Ax (w:dismissal_way) (t:Int) (free:Bool) :(bif onW w t then bif !free then true else bif w.1 ==(6:Int) then true else bif w.1 ==(7:Int) then true else w.1 ==(8:Int) else false)=lF w t free:=by
 simp only [lF];cases onW w t <;> cases free <;> simp <;> grind
theorem vJ (t:Int) (free:Bool) (i:Nat) {w:dismissal_way} (h:wtab[i]?=some w):dw t free (i+1)=dw t free i ++(bif lF w t free then [w.how] else []):=by
 unfold dw
 rw [List.take_add_one,h,List.filter_append,List.map_append]
 congr 1
 cases hf:lF w t free <;> simp [hf]
theorem xr (t:Int) (free:Bool) (i:Nat) :(dw t free i).length≤11:=by
 unfold dw
 rw [List.length_map]
 have h1:=List.length_filter_le (fun w=>lF w t free) (wtab.take i)
 have h2 :(wtab.take i).length≤wtab.length:=List.length_take_le' _ _
 rw [Dr] at h2
 omega
theorem Fq (t:Int) (free:Bool) (i:Nat) (hi:oo i) :(stepObl (J20 t free) oo (fun i=>11 - i) i (T20 t free) (a6 (eI [k61,k62] Tryz.f187) (fun _=>none) (eN Tryz.f187 0) (J20 t free i)) (L20 i)).1:=by
 refine cast (by kernel_rfl) (?_ :(decide ((↑i:Int) <(↑wtab.length:Int))=true→((0:Int)≤(↑i:Int)∧(↑i:Int) <(↑wtab.length:Int))∧((bif onW (wtab.getD (↑i:Int).toNat (dflt (Ty.nm Nm.dismissal_way))) t then bif !free then true else bif (wtab.getD (↑i:Int).toNat (dflt (Ty.nm Nm.dismissal_way))).1 ==(6:Int) then true else bif (wtab.getD (↑i:Int).toNat (dflt (Ty.nm Nm.dismissal_way))).1 ==(7:Int) then true else (wtab.getD (↑i:Int).toNat (dflt (Ty.nm Nm.dismissal_way))).1 ==(8:Int) else false)=true→((dw t free i).length+[(wtab.getD (↑i:Int).toNat (dflt (Ty.nm Nm.dismissal_way))).1].length) *(1:Nat)≤(70368744177664:Nat)∧oo (i +(1:Nat))∧(11:Nat) - (i +(1:Nat)) <(11:Nat) - i∧(t=t∧free=free∧True∧True∧(↑wtab.length:Int) =(↑wtab.length:Int)∧IntKind.i64.wrap ((↑i:Int) +(1:Int)) =(↑(i +(1:Nat)):Int)∧True)∧RowD.mk (Ty.nm Nm.dismissal_way) wtab=RowD.mk (Ty.nm Nm.dismissal_way) wtab∧RowD.mk (Ty.int IntKind.u8) (dw t free i++[(wtab.getD (↑i:Int).toNat (dflt (Ty.nm Nm.dismissal_way))).1])=RowD.mk (Ty.int IntKind.u8) (dw t free (i +(1:Nat)))∧True)∧((bif onW (wtab.getD (↑i:Int).toNat (dflt (Ty.nm Nm.dismissal_way))) t then bif !free then true else bif (wtab.getD (↑i:Int).toNat (dflt (Ty.nm Nm.dismissal_way))).1 ==(6:Int) then true else bif (wtab.getD (↑i:Int).toNat (dflt (Ty.nm Nm.dismissal_way))).1 ==(7:Int) then true else (wtab.getD (↑i:Int).toNat (dflt (Ty.nm Nm.dismissal_way))).1 ==(8:Int) else false)=false→oo (i +(1:Nat))∧(11:Nat) - (i +(1:Nat)) <(11:Nat) - i∧(t=t∧free=free∧True∧True∧(↑wtab.length:Int) =(↑wtab.length:Int)∧IntKind.i64.wrap ((↑i:Int) +(1:Int)) =(↑(i +(1:Nat)):Int)∧True)∧RowD.mk (Ty.nm Nm.dismissal_way) wtab=RowD.mk (Ty.nm Nm.dismissal_way) wtab∧RowD.mk (Ty.int IntKind.u8) (dw t free i)=RowD.mk (Ty.int IntKind.u8) (dw t free (i +(1:Nat)))∧True))∧(decide ((↑i:Int) <(↑wtab.length:Int))=false→True∧(True∧True)∧RowD.mk (Ty.int IntKind.u8) (dw t free i)=RowD.mk (Ty.int IntKind.u8) (ff t free)∧True))
 have e :(i:Int).toNat=i:=by simp
 rw [e]
 generalize hw:wtab.getD i (dflt (Ty.nm Nm.dismissal_way))=w
 rw [Ax]
 refine ⟨fun h1=>?_,fun h1=>?_⟩
 ·have h1:i<wtab.length:=by simpa using h1
  have h3:wtab[i]?=some w:=by rw [←hw];exact xK _ h1
  have hu:=vJ t free i h3
  rw [Dr] at h1
  have hwr:IntKind.i64.wrap ((i:Int)+1) =((i+1:Nat):Int):=by rw [cC (by omega) (by omega)];omega
  refine ⟨⟨by omega,by rw [Dr];omega⟩,fun h2=>?_,fun h2=>?_⟩
  ·rw [h2] at hu
   refine ⟨?_,(by unfold oo;omega),by omega,⟨rfl,rfl,trivial,trivial,rfl,hwr,trivial⟩,rfl,by rw [hu];rfl,trivial⟩
   have:=xr t free i
   simp only [List.length_cons,List.length_nil]
   omega
  ·rw [h2] at hu
   refine ⟨(by unfold oo;omega),by omega,⟨rfl,rfl,trivial,trivial,rfl,hwr,trivial⟩,rfl,by rw [hu];simp,trivial⟩
 ·have h1:wtab.length≤i:=by simpa using h1
  have hu:dw t free i=ff t free:=by unfold dw ff;rw [List.take_of_length_le h1]
  exact ⟨trivial,⟨trivial,trivial⟩,by rw [hu],trivial⟩
theorem CA (t:Int) (free:Bool):LoopsOK Tryz.prog Tryz.f187.ntmps [eN Tryz.f187 0] (Λ20 t free):=
 .cons (L:=bX ⟨[],[16],20⟩ (J20 t free 0) (T20 t free)) (by kernel_rfl) (il (fa (.cons CL (.cons Gj .nil)) _) aB (J20 t free) (fun _=>rfl) oo (fun i=>11 - i) (fun _ _=>none) (fun _ _ _ _ _ h=>by cases h) (T20 t free) [] [16] 0 (Nat.zero_le _) L20 (Fq t free)) .nil
theorem Gw (t:Int) (free:Bool) :(evFn (eI [k61,k62] Tryz.f187) (Λ20 t free) Tryz.f187 (bL CZ (t,free,()))).sat fun v' rows=>leV v' (tj (t,free,())).v∧rows =(tj (t,free,())).rows:=by
 refine cast (by kernel_rfl) (?_ :((pV fun x=>none)∧(t=t∧free=free∧True∧True∧(↑wtab.length:Int) =(↑wtab.length:Int)∧(0:Int) =(↑(0:Nat):Int)∧True)∧RowD.mk (Ty.nm Nm.dismissal_way) wtab=RowD.mk (Ty.nm Nm.dismissal_way) wtab∧dw t free (0:Nat)=[]∧True)∧(nat_lit 0=nat_lit 0∧nat_lit 0=nat_lit 0)∧ [RowD.mk (Ty.int IntKind.u8) (ff t free)]=[RowD.mk (Ty.int IntKind.u8) (ff t free)])
 exact ⟨⟨rfl,⟨rfl,rfl,trivial,trivial,rfl,rfl,trivial⟩,rfl,rfl,trivial⟩,⟨rfl,rfl⟩,rfl⟩
theorem Ht:CtrOK Tryz.prog KK 187 (aq KK CZ tj):=by
 refine bj (C:=eI [k61,k62] Tryz.f187) (fa (.cons CL (.cons Gj .nil)) _) aB (fn:=Tryz.f187) Tryz.func187 (by kernel_rfl) (by kernel_rfl) (by kernel_rfl) (Λ:=fun x=>Λ20 x.1 x.2.1) ?_ ?_ ?_
 ·rintro ⟨t,free,⟨⟩⟩ _ _
  exact LoopsOK.at (by kernel_rfl) (CA t free)
 ·rintro ⟨t,free,⟨⟩⟩
  exact of_decide_eq_true (by kernel_rfl)
 ·rintro ⟨t,free,⟨⟩⟩ _ _
  exact Gw t free
theorem Cx (xs:List Int) (v i:Int) (hi:0≤i):decide (idx xs v i≥0)=kV xs v:=by
 induction xs generalizing i with
 | nil=>simp [idx,kV]
 | cons x xs ih=>
  by_cases hv:v=x
  ·subst hv;simp [idx,kV,hi]
  ·have h1 :(v==x)=false:=by simpa using hv
   have h2:=ih (i+1) (by omega)
   simp only [idx,h1,cond_false]
   rw [h2]
   simp [kV,hv]
theorem Gx (xs:List Int) (v:Int) :(evFn (eI [k63] Tryz.f186) (fun _=>none) Tryz.f186 (bL C1 (xs,v,()))).sat fun v' rows=>leV v' (tn (xs,v,())).v∧rows =(tn (xs,v,())).rows:=by
 refine cast (by kernel_rfl) (?_:decide (idx xs v (0:Int)≥(0:Int))=kV xs v∧([]:List RowD)=[])
 exact ⟨Cx xs v 0 (Int.le_refl 0),rfl⟩
theorem Hu:CtrOK Tryz.prog KK 186 (aq KK C1 tn):=by
 refine bj (C:=eI [k63] Tryz.f186) (fa (.cons HA .nil) _) aB (fn:=Tryz.f186) Tryz.func186 (by kernel_rfl) (by kernel_rfl) (by kernel_rfl) (Λ:=fun _ _=>none) ?_ ?_ ?_
 ·exact fun _ _ _ _ _ _ _ _ h=>by cases h
 ·rintro ⟨xs,v,⟨⟩⟩
  exact of_decide_eq_true (by kernel_rfl)
 ·rintro ⟨xs,v,⟨⟩⟩ _ _
  exact Gx xs v
theorem GA (d:Delivery) (w:dismissal_way) :(evFn (eI [k89] Tryz.f188) (fun _=>none) Tryz.f188 (bL C2 (d,w,()))).sat fun v' rows=>leV v' (tt (d,w,())).v∧rows =(tt (d,w,())).rows:=by
 refine cast (by kernel_rfl) (?_ :((bif !w.6==player d.9 then true else bif !w.6 then d.9 !=(0:Int) else false)=true→false=dz d w∧([]:List RowD)=[])∧((bif !w.6==player d.9 then true else bif !w.6 then d.9 !=(0:Int) else false)=false→(bif d.10 ==(0:Int) then true else bif d.7 ==(6:Int) then bif player d.10 then d.10 != d.9 else false else false)=dz d w∧([]:List RowD)=[]))
 simp only [dz];grind
theorem Hx:CtrOK Tryz.prog KK 188 (aq KK C2 tt):=by
 refine bj (C:=eI [k89] Tryz.f188) (fa (.cons HD .nil) _) aB (fn:=Tryz.f188) Tryz.func188 (by kernel_rfl) (by kernel_rfl) (by kernel_rfl) (Λ:=fun _ _=>none) ?_ ?_ ?_
 ·exact fun _ _ _ _ _ _ _ _ h=>by cases h
 ·rintro ⟨d,w,⟨⟩⟩
  exact of_decide_eq_true (by kernel_rfl)
 ·rintro ⟨d,w,⟨⟩⟩ _ _
  exact GA d w
theorem Gu (d:Delivery) (free:Bool) :(evFn (eI [k57,k20,k21,k58] Tryz.f143) (fun _=>none) Tryz.f143 (bL psP (d,free,()))).sat fun v' rows=>leV v' (tg (d,free,())).v∧rows =(tg (d,free,())).rows:=by
 refine cast (by kernel_rfl) (?_ :((d.7 ==(0:Int))=true→((d.8 !=(0:Int))=true→(14:Int)=aZ d free∧([]:List RowD)=[])∧((d.8 !=(0:Int))=false→((bif d.9 !=(0:Int) then true else bif d.10 !=(0:Int) then true else d.11)=true→(15:Int)=aZ d free∧([]:List RowD)=[])∧((bif d.9 !=(0:Int) then true else bif d.10 !=(0:Int) then true else d.11)=false→(0:Int)=aZ d free∧([]:List RowD)=[])))∧((d.7 ==(0:Int))=false→((!kV (ff d.1 free) d.7)=true→(13:Int)=aZ d free∧([]:List RowD)=[])∧((!kV (ff d.1 free) d.7)=false→((bif !bif d.7 ==(6:Int) then true else d.7 ==(8:Int) then bif d.2 !=(0:Int) then true else d.3 !=(0:Int) else false)=true→(12:Int)=aZ d free∧([]:List RowD)=[])∧((bif !bif d.7 ==(6:Int) then true else d.7 ==(8:Int) then bif d.2 !=(0:Int) then true else d.3 !=(0:Int) else false)=false→((bif d.8 !=(1:Int) then bif d.8 !=(2:Int) then true else !(ofW d.7).7 else false)=true→(14:Int)=aZ d free∧([]:List RowD)=[])∧((bif d.8 !=(1:Int) then bif d.8 !=(2:Int) then true else !(ofW d.7).7 else false)=false→((!dz d (ofW d.7))=true→(15:Int)=aZ d free∧([]:List RowD)=[])∧((!dz d (ofW d.7))=false→((bif d.11 then bif d.7 !=(2:Int) then d.7 !=(6:Int) else false else false)=true→(18:Int)=aZ d free∧([]:List RowD)=[])∧((bif d.11 then bif d.7 !=(2:Int) then d.7 !=(6:Int) else false else false)=false→(0:Int)=aZ d free∧([]:List RowD)=[])))))))
 simp only [aZ,kV]
 repeat' first|refine And.intro ?_ ?_|intro _
 all_goals grind
theorem Hr:CtrOK Tryz.prog KK 143 (aq KK psP tg):=by
 refine bj (C:=eI [k57,k20,k21,k58] Tryz.f143) (fa (.cons Hw (.cons Ht (.cons Hu (.cons Hx .nil)))) _) aB (fn:=Tryz.f143) Tryz.func143 (by kernel_rfl) (by kernel_rfl) (by kernel_rfl) (Λ:=fun _ _=>none) ?_ ?_ ?_
 ·exact fun _ _ _ _ _ _ _ _ h=>by cases h
 ·rintro ⟨d,free,⟨⟩⟩
  exact of_decide_eq_true (by kernel_rfl)
 ·rintro ⟨d,free,⟨⟩⟩ _ _
  exact Gu d free
theorem Gv (d:Delivery) (free:Bool) :(evFn (eI [k29,k59,k60] Tryz.f146) (fun _=>none) Tryz.f146 (bL psP (d,free,()))).sat fun v' rows=>leV v' (th (d,free,())).v∧rows =(th (d,free,())).rows:=by
 refine cast (by kernel_rfl) (?_ :((d.7 ==(0:Int))=true→((d.8 !=(0:Int))=true→(14:Int)=bf d free∧([]:List RowD)=[])∧((d.8 !=(0:Int))=false→((bif d.9 !=(0:Int) then true else bif d.10 !=(0:Int) then true else d.11)=true→(15:Int)=bf d free∧([]:List RowD)=[])∧((bif d.9 !=(0:Int) then true else bif d.10 !=(0:Int) then true else d.11)=false→(0:Int)=bf d free∧([]:List RowD)=[])))∧((d.7 ==(0:Int))=false→((bif !onR d.7 d.1 then true else bif free then !dU d.7 else false)=true→(13:Int)=bf d free∧([]:List RowD)=[])∧((bif !onR d.7 d.1 then true else bif free then !dU d.7 else false)=false→((bif !bif d.7 ==(6:Int) then true else d.7 ==(8:Int) then bif d.2 !=(0:Int) then true else d.3 !=(0:Int) else false)=true→(12:Int)=bf d free∧([]:List RowD)=[])∧((bif !bif d.7 ==(6:Int) then true else d.7 ==(8:Int) then bif d.2 !=(0:Int) then true else d.3 !=(0:Int) else false)=false→((bif d.8 !=(1:Int) then bif d.8 ==(2:Int) then !bif d.7 ==(6:Int) then true else d.7 ==(8:Int) else !false else false)=true→(14:Int)=bf d free∧([]:List RowD)=[])∧((bif d.8 !=(1:Int) then bif d.8 ==(2:Int) then !bif d.7 ==(6:Int) then true else d.7 ==(8:Int) else !false else false)=false→((bif js d.7 then bif decide (d.9 <(1:Int)) then true else bif decide (d.9 >(11:Int)) then true else bif !js d.7 then d.9 !=(0:Int) else false else bif !js d.7 then d.9 !=(0:Int) else false)=true→(15:Int)=bf d free∧([]:List RowD)=[])∧((bif js d.7 then bif decide (d.9 <(1:Int)) then true else bif decide (d.9 >(11:Int)) then true else bif !js d.7 then d.9 !=(0:Int) else false else bif !js d.7 then d.9 !=(0:Int) else false)=false→((bif d.10 !=(0:Int) then bif !qA d.7 then true else bif decide (d.10 <(1:Int)) then true else bif decide (d.10 >(11:Int)) then true else d.10==d.9 else false)=true→(15:Int)=bf d free∧([]:List RowD)=[])∧((bif d.10 !=(0:Int) then bif !qA d.7 then true else bif decide (d.10 <(1:Int)) then true else bif decide (d.10 >(11:Int)) then true else d.10==d.9 else false)=false→((bif d.11 then bif d.7 !=(2:Int) then d.7 !=(6:Int) else false else false)=true→(18:Int)=bf d free∧([]:List RowD)=[])∧((bif d.11 then bif d.7 !=(2:Int) then d.7 !=(6:Int) else false else false)=false→(0:Int)=bf d free∧([]:List RowD)=[]))))))))
 simp only [bf,qA,Bool.cond_true_left,Bool.cond_false_right,Bool.not_false]
 repeat' first|refine And.intro ?_ ?_|intro _
 all_goals first|rfl |(simp_all;done)|grind
theorem Hs:CtrOK Tryz.prog KK 146 (aq KK psP th):=by
 refine bj (C:=eI [k29,k59,k60] Tryz.f146) (fa (.cons Hv (.cons Hy (.cons Hz .nil))) _) aB (fn:=Tryz.f146) Tryz.func146 (by kernel_rfl) (by kernel_rfl) (by kernel_rfl) (Λ:=fun _ _=>none) ?_ ?_ ?_
 ·exact fun _ _ _ _ _ _ _ _ h=>by cases h
 ·rintro ⟨d,free,⟨⟩⟩
  exact of_decide_eq_true (by kernel_rfl)
 ·rintro ⟨d,free,⟨⟩⟩ _ _
  exact Gv d free
end Go.Proofs.YtkajjbambnpbiaaGreatDoor
namespace Go.Proofs.YtkajjbambnpbiaaGreatDoor
open Go Go.Mir
attribute [local irreducible] Go.Mir.RT.sat Go.Mir.evFn Go.Mir.stepObl
theorem mb {r:Rules} (h:wfD (.nm .Rules) r):r.Power.length≤aD:=
 vK (gv (eA (eA (eA (eA (eA (eA (eA (eA (eA (eA (eA (eA (eA (GX h)))))))))))))))
end Go.Proofs.YtkajjbambnpbiaaGreatDoor
namespace Go.Proofs.YtkajjbambnpbiaaGreatDoor
open Go Go.Mir
attribute [local irreducible] Go.Mir.RT.sat Go.Mir.evFn Go.Mir.stepObl
end Go.Proofs.YtkajjbambnpbiaaGreatDoor
namespace Go.Proofs.YtkajjbambnpbiaaGreatDoor
open Go Go.Mir
attribute [local irreducible] Go.Mir.RT.sat Go.Mir.evFn Go.Mir.stepObl
theorem GO (n:Int) (lo:Int) (hi:Int) :(evFn (cf8 [] Tryz.f177) (fun _=>none) Tryz.f177 (bL wV (n,lo,hi,()))).sat fun v' rows=>leV v' (jG (n,lo,hi,())).v∧rows =(jG (n,lo,hi,())).rows:=by
 refine cast (by kernel_rfl) (?_ :(bif decide (n≥lo) then decide (n≤hi) else false)=ae n lo hi∧([]:List RowD)=[])
 simp only [ae];grind
theorem E4:CtrOK Tryz.prog K8 177 (aq K8 wV jG):=by
 refine bj (C:=cf8 [] Tryz.f177) (eY (CtrsOK.nil) _) aB (fn:=Tryz.f177) Tryz.func177 (by kernel_rfl) (by kernel_rfl) (by kernel_rfl) (Λ:=fun _ _=>none) ?_ ?_ ?_
 ·exact fun _ _ _ _ _ _ _ _ h=>by cases h
 ·rintro ⟨n,lo,hi,⟨⟩⟩
  exact of_decide_eq_true (by kernel_rfl)
 ·rintro ⟨n,lo,hi,⟨⟩⟩ hw hn
  exact GO n lo hi
theorem GN (n:Int) (lo:Int) (hi:Int) :(evFn (cf8 [] Tryz.f165) (fun _=>none) Tryz.f165 (bL wV (n,lo,hi,()))).sat fun v' rows=>leV v' (jG (n,lo,hi,())).v∧rows =(jG (n,lo,hi,())).rows:=by
 refine cast (by kernel_rfl) (?_ :(bif decide (n≥lo) then decide (n≤hi) else false)=ae n lo hi∧([]:List RowD)=[])
 simp only [ae];grind
theorem Gl:CtrOK Tryz.prog K8 165 (aq K8 wV jG):=by
 refine bj (C:=cf8 [] Tryz.f165) (eY (CtrsOK.nil) _) aB (fn:=Tryz.f165) Tryz.func165 (by kernel_rfl) (by kernel_rfl) (by kernel_rfl) (Λ:=fun _ _=>none) ?_ ?_ ?_
 ·exact fun _ _ _ _ _ _ _ _ h=>by cases h
 ·rintro ⟨n,lo,hi,⟨⟩⟩
  exact of_decide_eq_true (by kernel_rfl)
 ·rintro ⟨n,lo,hi,⟨⟩⟩ hw hn
  exact GN n lo hi
theorem GK (r:Rules) :(evFn (cf8 [k97] Tryz.f114) (fun _=>none) Tryz.f114 (bL ln (r,()))).sat fun v' rows=>leV v' (tB (r,())).v∧rows =(tB (r,())).rows:=by
 refine cast (by kernel_rfl) (?_ :(bif ae r.2 (2:Int) (11:Int) then bif ae r.3 (1:Int) (2:Int) then bif ae r.4 (0:Int) (90:Int) then bif ae r.5 (4:Int) (8:Int) then bif ae r.6 (0:Int) (90:Int) then bif ae r.7 (1:Int) (5:Int) then bif ae r.8 (1:Int) (5:Int) then bif ae r.10 (0:Int) (200:Int) then bif ae r.11 (0:Int) (1000:Int) then bif ae r.12 (0:Int) (9:Int) then ae r.13 (0:Int) (11:Int) else false else false else false else false else false else false else false else false else false else false)=cH r∧([]:List RowD)=[])
 simp only [cH,Bool.cond_false_right,and_self]
theorem HF:CtrOK Tryz.prog K8 114 (aq K8 ln tB):=by
 refine bj (C:=cf8 [k97] Tryz.f114) (eY (.cons E4 .nil) _) aB (fn:=Tryz.f114) Tryz.func114 (by kernel_rfl) (by kernel_rfl) (by kernel_rfl) (Λ:=fun _ _=>none) ?_ ?_ ?_
 ·exact fun _ _ _ _ _ _ _ _ h=>by cases h
 ·rintro ⟨r,⟨⟩⟩
  exact of_decide_eq_true (by kernel_rfl)
 ·rintro ⟨r,⟨⟩⟩ hw hn
  exact GK r
theorem oX (r:Rules) (i n:Nat):bd r i (n+1)=if fb r i != 0 then fb r i else bd r (i+1) n:=rfl
theorem tM {s:ByteArray} (h:wfD .str s):s.size≤aD:=by
 obtain ⟨S,w,cs,h⟩:=h
 cases h with|str h=>exact h
theorem Fw (r:Rules) (hx:r.Power.length≤aD) (i:Nat) (hi:mW r i) :(stepObl (J94 r) (mW r) (fun i=>r.Power.length - i) i (T94 r) (a6 (cf8 [k97] Tryz.f115) (fun _=>none) (eN Tryz.f115 0) (J94 r i)) (L94 i)).1:=by
 refine cast (by kernel_rfl) (?_ :(decide ((↑i:Int) <(↑r.14.length:Int))=true→((0:Int)≤(↑i:Int)∧(↑i:Int) <(↑r.14.length:Int))∧((bif decide ((r.14.getD (↑i:Int).toNat (dflt (Ty.nm Nm.Phase))).1 <(1:Int)) then true else bif decide ((r.14.getD (↑i:Int).toNat (dflt (Ty.nm Nm.Phase))).1 >(r.14.getD (↑i:Int).toNat (dflt (Ty.nm Nm.Phase))).2) then true else bif decide ((r.14.getD (↑i:Int).toNat (dflt (Ty.nm Nm.Phase))).2>r.4) then true else !ae (r.14.getD (↑i:Int).toNat (dflt (Ty.nm Nm.Phase))).3 (0:Int) (11:Int))=true→(bd r (0:Nat) r.14.length !=(0:Int))=true∧((2:Int)=bd r (0:Nat) r.14.length∧True)∧True)∧((bif decide ((r.14.getD (↑i:Int).toNat (dflt (Ty.nm Nm.Phase))).1 <(1:Int)) then true else bif decide ((r.14.getD (↑i:Int).toNat (dflt (Ty.nm Nm.Phase))).1 >(r.14.getD (↑i:Int).toNat (dflt (Ty.nm Nm.Phase))).2) then true else bif decide ((r.14.getD (↑i:Int).toNat (dflt (Ty.nm Nm.Phase))).2>r.4) then true else !ae (r.14.getD (↑i:Int).toNat (dflt (Ty.nm Nm.Phase))).3 (0:Int) (11:Int))=false→((decide ((↑i:Int) >(0:Int))=true→((0:Int)≤IntKind.i64.wrap ((↑i:Int) - (1:Int))∧IntKind.i64.wrap ((↑i:Int) - (1:Int)) <(↑r.14.length:Int))∧True)∧(decide ((↑i:Int) >(0:Int))=false→True))∧(true=true→((bif decide ((↑i:Int) >(0:Int)) then decide ((r.14.getD (↑i:Int).toNat (dflt (Ty.nm Nm.Phase))).1≤(r.14.getD (IntKind.i64.wrap ((↑i:Int) - (1:Int))).toNat (dflt (Ty.nm Nm.Phase))).2) else false)=true→(bd r (0:Nat) r.14.length !=(0:Int))=true∧((8:Int)=bd r (0:Nat) r.14.length∧True)∧True)∧((bif decide ((↑i:Int) >(0:Int)) then decide ((r.14.getD (↑i:Int).toNat (dflt (Ty.nm Nm.Phase))).1≤(r.14.getD (IntKind.i64.wrap ((↑i:Int) - (1:Int))).toNat (dflt (Ty.nm Nm.Phase))).2) else false)=false→mW r (i +(1:Nat))∧r.14.length - (i +(1:Nat))<r.14.length - i∧(True∧RowD.mk (Ty.nm Nm.Phase) r.14=RowD.mk (Ty.nm Nm.Phase) r.14∧(↑r.14.length:Int) =(↑r.14.length:Int)∧IntKind.i64.wrap ((↑i:Int) +(1:Int)) =(↑(i +(1:Nat)):Int)∧True)∧(r.1=r.1∧r.2=r.2∧r.3=r.3∧r.4=r.4∧r.5=r.5∧r.6=r.6∧r.7=r.7∧r.8=r.8∧r.9=r.9∧r.10=r.10∧r.11=r.11∧r.12=r.12∧r.13=r.13∧RowD.mk (Ty.nm Nm.Phase) r.14=RowD.mk (Ty.nm Nm.Phase) r.14∧True)∧True))))∧(decide ((↑i:Int) <(↑r.14.length:Int))=false→(bd r (0:Nat) r.14.length !=(0:Int))=false∧True∧True))
 have e :(i:Int).toNat=i:=by simp
 rw [e]
 have hb:r.Power.length≤140737488355328:=hx
 have hp:r.Power.getD i (dflt (Ty.nm Nm.Phase))=aL r i:=rfl
 rw [hp]
 have hpb :(bif decide ((aL r i).From<1) then true else bif decide ((aL r i).From >(aL r i).To) then true else bif decide ((aL r i).To>r.Overs) then true else !ae (aL r i).Outside 0 11)=ju r (aL r i):=by
  simp only [ju,Bool.cond_true_left]
 rw [hpb]
 obtain ⟨hi1,hi2⟩:=hi
 refine ⟨fun h1=>?_,fun h1=>?_⟩
 ·have h1:i<r.Power.length:=by simpa using h1
  have hn:r.Power.length - i =(r.Power.length - (i+1))+1:=by omega
  rw [hn,oX] at hi2
  have hw1:0<i→IntKind.i64.wrap ((i:Int) - 1) =((i - 1:Nat):Int):=fun h=>by rw [cC (by omega) (by omega)];omega
  refine ⟨⟨by omega,by omega⟩,fun h2=>?_,fun h2=>⟨⟨fun h3=>?_,fun _=>trivial⟩,fun _=>⟨fun h3=>?_,fun h3=>?_⟩⟩⟩
  ·have hE:fb r i=2:=by simp only [fb,h2];rfl
   rw [hE] at hi2
   have hi2:bd r 0 r.Power.length=2:=hi2
   rw [hi2]
   exact ⟨rfl,⟨rfl,trivial⟩,trivial⟩
  ·have h3:0<i:=by simpa using h3
   rw [hw1 h3]
   exact ⟨⟨by omega,by omega⟩,trivial⟩
  ·have h4:0<i:=by
    by_cases h4:0<i
    ·exact h4
    ·have:i=0:=by omega
     subst this
     simp at h3
   rw [hw1 h4,Int.toNat_natCast] at h3
   have hq:r.Power.getD (i - 1) (dflt (Ty.nm Nm.Phase))=aL r (i - 1):=rfl
   rw [hq] at h3
   have h5 :(decide ((i:Int)>0)&&decide ((aL r i).From≤(aL r (i - 1)).To))=true:=by rw [←h3];cases decide ((i:Int)>0) <;> rfl
   have hE:fb r i=8:=by simp only [fb,h2,h5];rfl
   rw [hE] at hi2
   have hi2:bd r 0 r.Power.length=8:=hi2
   rw [hi2]
   exact ⟨rfl,⟨rfl,trivial⟩,trivial⟩
  ·have h5 :(decide ((i:Int)>0)&&decide ((aL r i).From≤(aL r (i - 1)).To))=false:=by
    by_cases h4:0<i
    ·rw [hw1 h4,Int.toNat_natCast] at h3
     have hq:r.Power.getD (i - 1) (dflt (Ty.nm Nm.Phase))=aL r (i - 1):=rfl
     rw [hq] at h3
     rw [←h3];cases decide ((i:Int)>0) <;> rfl
    ·have:i=0:=by omega
     subst this;rfl
   have hE:fb r i=0:=by simp only [fb,h2,h5];rfl
   rw [hE] at hi2
   have hi2:bd r 0 r.Power.length=bd r (i+1) (r.Power.length - (i+1)):=hi2
   exact ⟨⟨by omega,hi2⟩,by omega,⟨trivial,rfl,rfl,by rw [cC (by omega) (by omega)];omega,trivial⟩,by simp⟩
 ·have h1:r.Power.length≤i:=by simpa using h1
  have h2:r.Power.length - i=0:=by omega
  rw [h2] at hi2
  have hi2:bd r 0 r.Power.length=0:=hi2
  rw [hi2]
  exact ⟨rfl,trivial,trivial⟩
theorem ER (r:Rules) (hx:r.Power.length≤aD):LoopOK Tryz.prog Tryz.f115.ntmps (eN Tryz.f115 0) (bX ⟨[],[],8⟩ (J94 r 0) (T94 r)):=
 il (eY (.cons E4 .nil) _) aB (J94 r) (fun _=>rfl) (mW r) (fun i=>r.Power.length - i) (fun _ _=>none) (fun _ _ _ _ _ h=>by cases h) (T94 r) [] [] 0 (⟨Nat.zero_le _,rfl⟩) L94 (fun i hi=>Fw r hx i hi)
theorem GL (r:Rules) (hx:r.Power.length≤aD) :(evFn (cf8 [k97] Tryz.f115) (Λ94 r) Tryz.f115 (bL ln (r,()))).sat fun v' rows=>leV v' (tC (r,())).v∧rows =(tC (r,())).rows:=by
 refine cast (by kernel_rfl) (?_ :(decide ((↑r.14.length:Int) >(8:Int))=true→(9:Int)=cQ r∧([]:List RowD)=[])∧(decide ((↑r.14.length:Int) >(8:Int))=false→((pV fun x=>none)∧(True∧RowD.mk (Ty.nm Nm.Phase) r.14=RowD.mk (Ty.nm Nm.Phase) r.14∧(↑r.14.length:Int) =(↑r.14.length:Int)∧(0:Int) =(↑(0:Nat):Int)∧True)∧(r.1=r.1∧r.2=r.2∧r.3=r.3∧r.4=r.4∧r.5=r.5∧r.6=r.6∧r.7=r.7∧r.8=r.8∧r.9=r.9∧r.10=r.10∧r.11=r.11∧r.12=r.12∧r.13=r.13∧RowD.mk (Ty.nm Nm.Phase) r.14=RowD.mk (Ty.nm Nm.Phase) r.14∧True)∧True)∧((bd r (0:Nat) r.14.length !=(0:Int))=true→bd r (0:Nat) r.14.length=cQ r∧([]:List RowD)=[])∧((bd r (0:Nat) r.14.length !=(0:Int))=false→(0:Int)=cQ r∧([]:List RowD)=[])))
 refine ⟨fun h=>⟨?_,rfl⟩,fun h=>⟨⟨rfl,⟨trivial,rfl,rfl,rfl,trivial⟩,by simp⟩,fun h2=>⟨?_,rfl⟩,fun h2=>⟨?_,rfl⟩⟩⟩
 ·simp only [cQ];rw [if_pos (of_decide_eq_true h)]
 ·simp only [cQ];rw [if_neg (of_decide_eq_false h)]
 ·simp only [cQ];rw [if_neg (of_decide_eq_false h)]
  have h2:bd r 0 r.Power.length=0:=by simpa using h2
  exact h2.symm
theorem HG:CtrOK Tryz.prog K8 115 (aq K8 ln tC):=by
 refine bj (C:=cf8 [k97] Tryz.f115) (eY (.cons E4 .nil) _) aB (fn:=Tryz.f115) Tryz.func115 (by kernel_rfl) (by kernel_rfl) (by kernel_rfl) (Λ:=fun x=>Λ94 x.1) ?_ ?_ ?_
 ·rintro ⟨r,⟨⟩⟩ hw hn
  exact LoopsOK.at (by kernel_rfl) (.cons (by kernel_rfl) (ER r (mb (gv hw))) .nil)
 ·rintro ⟨r,⟨⟩⟩
  exact of_decide_eq_true (by kernel_rfl)
 ·rintro ⟨r,⟨⟩⟩ hw hn
  exact GL r (mb (gv hw))
theorem Fx (s:ByteArray) (hx:s.size≤aD) (i:Nat) (hi:mX s i) :(stepObl (J95 s) (mX s) (fun i=>s.size - i) i (T95 s) (a6 (cf8 [] Tryz.f164) (fun _=>none) (eN Tryz.f164 0) (J95 s i)) (L95 i)).1:=by
 refine cast (by kernel_rfl) (?_ :(decide ((↑i:Int) <(↑s.size:Int))=true→(((0:Int)≤(↑i:Int)∧(↑i:Int) <(↑s.size:Int))∧((bif decide ((↑(s.1.getD (↑i:Int).toNat (0:UInt8)).toNat:Int)≥(65:Int)) then decide ((↑(s.1.getD (↑i:Int).toNat (0:UInt8)).toNat:Int)≤(90:Int)) else false)=true→True)∧((bif decide ((↑(s.1.getD (↑i:Int).toNat (0:UInt8)).toNat:Int)≥(65:Int)) then decide ((↑(s.1.getD (↑i:Int).toNat (0:UInt8)).toNat:Int)≤(90:Int)) else false)=false→((bif (↑i:Int) ==(0:Int) then true else bif (↑(s.1.getD (↑i:Int).toNat (0:UInt8)).toNat:Int) !=(95:Int) then bif (↑(s.1.getD (↑i:Int).toNat (0:UInt8)).toNat:Int) !=(45:Int) then bif decide ((↑(s.1.getD (↑i:Int).toNat (0:UInt8)).toNat:Int) <(48:Int)) then true else decide ((↑(s.1.getD (↑i:Int).toNat (0:UInt8)).toNat:Int) >(57:Int)) else false else false)=true→cG s s.size=false∧(false=false∧True)∧True)∧((bif (↑i:Int) ==(0:Int) then true else bif (↑(s.1.getD (↑i:Int).toNat (0:UInt8)).toNat:Int) !=(95:Int) then bif (↑(s.1.getD (↑i:Int).toNat (0:UInt8)).toNat:Int) !=(45:Int) then bif decide ((↑(s.1.getD (↑i:Int).toNat (0:UInt8)).toNat:Int) <(48:Int)) then true else decide ((↑(s.1.getD (↑i:Int).toNat (0:UInt8)).toNat:Int) >(57:Int)) else false else false)=false→True)))∧((bif bif decide ((↑(s.1.getD (↑i:Int).toNat (0:UInt8)).toNat:Int)≥(65:Int)) then decide ((↑(s.1.getD (↑i:Int).toNat (0:UInt8)).toNat:Int)≤(90:Int)) else false then true else !bif (↑i:Int) ==(0:Int) then true else bif (↑(s.1.getD (↑i:Int).toNat (0:UInt8)).toNat:Int) !=(95:Int) then bif (↑(s.1.getD (↑i:Int).toNat (0:UInt8)).toNat:Int) !=(45:Int) then bif decide ((↑(s.1.getD (↑i:Int).toNat (0:UInt8)).toNat:Int) <(48:Int)) then true else decide ((↑(s.1.getD (↑i:Int).toNat (0:UInt8)).toNat:Int) >(57:Int)) else false else false)=true→mX s (i +(1:Nat))∧s.size - (i +(1:Nat))<s.size - i∧(s=s∧IntKind.i64.wrap ((↑i:Int) +(1:Int)) =(↑(i +(1:Nat)):Int)∧True)∧True))∧(decide ((↑i:Int) <(↑s.size:Int))=false→cG s s.size=true∧True∧True))
 have e :(i:Int).toNat=i:=by simp
 rw [e]
 have hb:s.size≤140737488355328:=hx
 have hby :(((s.data.getD i 0).toNat:Nat):Int)=gV s i:=rfl
 rw [hby]
 generalize hc:gV s i=c
 have hl :(bif decide (c≥65) then decide (c≤90) else false)=jU c:=by simp only [jU,Bool.cond_false_right]
 rw [hl]
 have hr :(bif (i:Int)==0 then true else bif c != 95 then bif c != 45 then bif decide (c<48) then true else decide (c>57) else false else false) =((i:Int)==0 ||(c != 95&&(c != 45&&(decide (c<48)||decide (c>57))))):=by
  simp only [Bool.cond_true_left,Bool.cond_false_right]
 rw [hr]
 have hbad:nD i c =(!jU c&&((i:Int)==0 ||(c != 95&&(c != 45&&(decide (c<48)||decide (c>57)))))):=rfl
 generalize ((i:Int)==0 ||(c != 95&&(c != 45&&(decide (c<48)||decide (c>57)))))=q at hbad ⊢
 obtain ⟨hi1,hi2⟩:=hi
 refine ⟨fun h1=>?_,fun h1=>⟨?_,trivial,trivial⟩⟩
 ·have h1:i<s.size:=by simpa using h1
  refine ⟨⟨⟨by omega,by omega⟩,fun _=>trivial,fun h2=>⟨fun h3=>⟨?_,⟨rfl,trivial⟩,trivial⟩,fun _=>trivial⟩⟩,fun h2=>⟨⟨by omega,?_⟩,by omega,⟨rfl,by rw [cC (by omega) (by omega)];omega,trivial⟩,trivial⟩⟩
  ·have hb2:nD i (gV s i)=true:=by rw [hc,hbad,h2,h3];rfl
   unfold cG
   rw [List.all_eq_false]
   exact ⟨i,List.mem_range.2 h1,by rw [hb2];decide⟩
  ·have hb2:nD i (gV s i)=false:=by
    rw [hc,hbad]
    cases hL:jU c with
    | true=>rfl
    | false=>rw [hL] at h2;simpa using h2
   unfold cG at hi2 ⊢
   rw [List.range_succ,List.all_append,hi2]
   simp [hb2]
 ·have h1:s.size≤i:=by simpa using h1
  have:i=s.size:=by omega
  rw [←this];exact hi2
theorem ES (s:ByteArray) (hx:s.size≤aD):LoopOK Tryz.prog Tryz.f164.ntmps (eN Tryz.f164 0) (bX ⟨[],[],0⟩ (J95 s 0) (T95 s)):=
 il (eY (CtrsOK.nil) _) aB (J95 s) (fun _=>rfl) (mX s) (fun i=>s.size - i) (fun _ _=>none) (fun _ _ _ _ _ h=>by cases h) (T95 s) [] [] 0 (⟨Nat.zero_le _,rfl⟩) L95 (fun i hi=>Fx s hx i hi)
theorem GM (s:ByteArray) (hx:s.size≤aD) :(evFn (cf8 [] Tryz.f164) (Λ95 s) Tryz.f164 (bL wW (s,()))).sat fun v' rows=>leV v' (jF (s,())).v∧rows =(jF (s,())).rows:=by
 refine cast (by kernel_rfl) (?_ :((bif s.toList ==(ByteArray.mk #[]).toList then true else decide ((↑s.size:Int) >(16:Int)))=true→false=gb s∧([]:List RowD)=[])∧((bif s.toList ==(ByteArray.mk #[]).toList then true else decide ((↑s.size:Int) >(16:Int)))=false→((pV fun x=>none)∧(s=s∧(0:Int) =(↑(0:Nat):Int)∧True)∧True)∧(cG s s.size=true→true=gb s∧([]:List RowD)=[])∧(cG s s.size=false→false=gb s∧([]:List RowD)=[])))
 have hz :(s.toList ==(ByteArray.mk #[]).toList)=decide ((s.size:Int)<1):=by
  rw [Bool.eq_iff_iff,beq_iff_eq,decide_eq_true_eq,ByteArray.toList_eq,ByteArray.toList_eq]
  constructor
  ·intro h
   have:=congrArg List.length h
   simp at this
   have h2:s.size=0:=by rw [←ByteArray.size_data];simp [this]
   omega
  ·intro h
   have h2:s.data.size=0:=by rw [ByteArray.size_data];omega
   have h3:s.data=#[]:=Array.eq_empty_of_size_eq_zero h2
   rw [h3]
 have hn:gb s =(cG s s.size&&(decide ((s.size:Int)≥1)&&decide ((s.size:Int)≤16))):=rfl
 rw [hz,hn]
 refine ⟨fun h=>⟨?_,rfl⟩,fun h=>⟨⟨rfl,⟨rfl,rfl,trivial⟩,trivial⟩,fun h2=>⟨?_,rfl⟩,fun h2=>⟨?_,rfl⟩⟩⟩
 ·have :(decide ((s.size:Int)≥1)&&decide ((s.size:Int)≤16))=false:=by
   by_cases h1 :(s.size:Int)<1
   ·have :¬(s.size:Int)≥1:=by omega
    simp [this]
   ·rw [decide_eq_false h1] at h
    have h :(s.size:Int)>16:=of_decide_eq_true h
    have :¬(s.size:Int)≤16:=by omega
    simp [this]
  rw [this,Bool.and_false]
 ·have h1 :¬(s.size:Int)<1:=fun h1=>by rw [decide_eq_true h1] at h;cases h
  rw [decide_eq_false h1] at h
  have h :¬(s.size:Int)>16:=of_decide_eq_false h
  rw [h2,decide_eq_true (show (s.size:Int)≥1 by omega),decide_eq_true (show (s.size:Int)≤16 by omega)]
  rfl
 ·rw [h2];rfl
theorem Gk:CtrOK Tryz.prog K8 164 (aq K8 wW jF):=by
 refine bj (C:=cf8 [] Tryz.f164) (eY (CtrsOK.nil) _) aB (fn:=Tryz.f164) Tryz.func164 (by kernel_rfl) (by kernel_rfl) (by kernel_rfl) (Λ:=fun x=>Λ95 x.1) ?_ ?_ ?_
 ·rintro ⟨s,⟨⟩⟩ hw hn
  exact LoopsOK.at (by kernel_rfl) (.cons (by kernel_rfl) (ES s (tM (gv hw))) .nil)
 ·rintro ⟨s,⟨⟩⟩
  exact of_decide_eq_true (by kernel_rfl)
 ·rintro ⟨s,⟨⟩⟩ hw hn
  exact GM s (tM (gv hw))
end Go.Proofs.YtkajjbambnpbiaaGreatDoor
namespace Go.Proofs.YtkajjbambnpbiaaGreatDoor
open Go Go.Mir
attribute [local irreducible] Go.Mir.RT.sat Go.Mir.evFn Go.Mir.stepObl
theorem yE (s:ByteArray) :(ay s).length=s.size:=by
 have:s.data.size=s.size:=ByteArray.size_data
 simp [ay,this]
theorem zS (s:ByteArray) (i:Nat) (h:i<s.size) :(ay s).getD i (0:Int)=gV s i:=by
 have h1:i<s.data.size:=by rw [ByteArray.size_data];exact h
 simp [ay,gV,Array.getElem?_eq_getElem h1]
theorem Fv (s:ByteArray) (hx:s.size≤aD) (i:Nat) (hi:mX s i) :(stepObl (J92 s) (mX s) (fun i=>s.size - i) i (T92 s) (a6 (cf8 [] Tryz.f113) (fun _=>none) (eN Tryz.f113 0) (J92 s i)) (L95 i)).1:=by
 refine cast (by kernel_rfl) (?_ :(decide ((↑i:Int) <(↑(ay s).length:Int))=true→((0:Int)≤(↑i:Int)∧(↑i:Int) <(↑(ay s).length:Int))∧((bif !bif decide ((ay s).getD (↑i:Int).toNat (dflt (Ty.int IntKind.u8))≥(65:Int)) then decide ((ay s).getD (↑i:Int).toNat (dflt (Ty.int IntKind.u8))≤(90:Int)) else false then bif (↑i:Int) ==(0:Int) then true else bif (ay s).getD (↑i:Int).toNat (dflt (Ty.int IntKind.u8)) !=(95:Int) then bif (ay s).getD (↑i:Int).toNat (dflt (Ty.int IntKind.u8)) !=(45:Int) then bif decide ((ay s).getD (↑i:Int).toNat (dflt (Ty.int IntKind.u8)) <(48:Int)) then true else decide ((ay s).getD (↑i:Int).toNat (dflt (Ty.int IntKind.u8)) >(57:Int)) else false else false else false)=true→cG s s.size=false∧(false=false∧True)∧True)∧((bif !bif decide ((ay s).getD (↑i:Int).toNat (dflt (Ty.int IntKind.u8))≥(65:Int)) then decide ((ay s).getD (↑i:Int).toNat (dflt (Ty.int IntKind.u8))≤(90:Int)) else false then bif (↑i:Int) ==(0:Int) then true else bif (ay s).getD (↑i:Int).toNat (dflt (Ty.int IntKind.u8)) !=(95:Int) then bif (ay s).getD (↑i:Int).toNat (dflt (Ty.int IntKind.u8)) !=(45:Int) then bif decide ((ay s).getD (↑i:Int).toNat (dflt (Ty.int IntKind.u8)) <(48:Int)) then true else decide ((ay s).getD (↑i:Int).toNat (dflt (Ty.int IntKind.u8)) >(57:Int)) else false else false else false)=false→mX s (i +(1:Nat))∧s.size - (i +(1:Nat))<s.size - i∧(s=s∧True∧(↑(ay s).length:Int) =(↑(ay s).length:Int)∧IntKind.i64.wrap ((↑i:Int) +(1:Int)) =(↑(i +(1:Nat)):Int)∧True)∧RowD.mk (Ty.int IntKind.u8) (ay s)=RowD.mk (Ty.int IntKind.u8) (ay s)∧True))∧(decide ((↑i:Int) <(↑(ay s).length:Int))=false→cG s s.size=true∧(s=s∧True)∧True))
 have e :(i:Int).toNat=i:=by simp
 rw [e]
 have hb:s.size≤140737488355328:=hx
 have hlen:=yE s
 obtain ⟨hi1,hi2⟩:=hi
 have hbad :∀ c:Int,(bif !(bif decide (c≥65) then decide (c≤90) else false) then bif (i:Int)==0 then true else bif c != 95 then bif c != 45 then bif decide (c<48) then true else decide (c>57) else false else false else false)=nD i c:=fun c=>by
  simp only [nD,jU,Bool.cond_true_left,Bool.cond_false_right]
 rw [hbad]
 refine ⟨fun h1=>?_,fun h1=>⟨?_,⟨rfl,trivial⟩,trivial⟩⟩
 ·have h1:i <(ay s).length:=by simpa using h1
  have hat :(ay s).getD i (dflt (Ty.int IntKind.u8))=gV s i:=zS s i (by omega)
  rw [hat]
  refine ⟨⟨by omega,by omega⟩,fun h2=>⟨?_,⟨rfl,trivial⟩,trivial⟩,fun h2=>⟨⟨by omega,?_⟩,by omega,⟨rfl,trivial,rfl,by rw [cC (by omega) (by omega)];omega,trivial⟩,rfl,trivial⟩⟩
  ·unfold cG
   rw [List.all_eq_false]
   exact ⟨i,List.mem_range.2 (by omega),by rw [h2];decide⟩
  ·unfold cG at hi2 ⊢
   rw [List.range_succ,List.all_append,hi2]
   simp [h2]
 ·have h1 :(ay s).length≤i:=by simpa using h1
  have:i=s.size:=by omega
  rw [←this];exact hi2
theorem EP (s:ByteArray) (hx:s.size≤aD):LoopOK Tryz.prog Tryz.f113.ntmps (eN Tryz.f113 0) (bX ⟨[],[],40⟩ (J92 s 0) (T92 s)):=
 il (eY (CtrsOK.nil) _) aB (J92 s) (fun _=>rfl) (mX s) (fun i=>s.size - i) (fun _ _=>none) (fun _ _ _ _ _ h=>by cases h) (T92 s) [] [] 0 (⟨Nat.zero_le _,rfl⟩) L95 (fun i hi=>Fv s hx i hi)
theorem GJ (s:ByteArray) (hx:s.size≤aD) :(evFn (cf8 [] Tryz.f113) (Λ92 s) Tryz.f113 (bL wW (s,()))).sat fun v' rows=>leV v' (jF (s,())).v∧rows =(jF (s,())).rows:=by
 refine cast (by kernel_rfl) (?_ :((pV fun x=>none)∧(s=s∧True∧(↑(ay s).length:Int) =(↑(ay s).length:Int)∧(0:Int) =(↑(0:Nat):Int)∧True)∧RowD.mk (Ty.int IntKind.u8) (ay s)=RowD.mk (Ty.int IntKind.u8) (ay s)∧True)∧(cG s s.size=true→(bif decide ((↑s.size:Int)≥(1:Int)) then decide ((↑s.size:Int)≤(16:Int)) else false)=gb s∧([]:List RowD)=[])∧(cG s s.size=false→false=gb s∧([]:List RowD)=[]))
 have hn:gb s =(cG s s.size&&(decide ((s.size:Int)≥1)&&decide ((s.size:Int)≤16))):=rfl
 refine ⟨⟨rfl,⟨rfl,trivial,rfl,rfl,trivial⟩,rfl,trivial⟩,fun h=>⟨?_,rfl⟩,fun h=>⟨?_,rfl⟩⟩
 ·rw [hn,h,Bool.true_and,Bool.cond_false_right]
 ·rw [hn,h,Bool.false_and]
theorem HE:CtrOK Tryz.prog K8 113 (aq K8 wW jF):=by
 refine bj (C:=cf8 [] Tryz.f113) (eY (CtrsOK.nil) _) aB (fn:=Tryz.f113) Tryz.func113 (by kernel_rfl) (by kernel_rfl) (by kernel_rfl) (Λ:=fun x=>Λ92 x.1) ?_ ?_ ?_
 ·rintro ⟨s,⟨⟩⟩ hw hn
  exact LoopsOK.at (by kernel_rfl) (.cons (by kernel_rfl) (EP s (tM (gv hw))) .nil)
 ·rintro ⟨s,⟨⟩⟩
  exact of_decide_eq_true (by kernel_rfl)
 ·rintro ⟨s,⟨⟩⟩ hw hn
  exact GJ s (tM (gv hw))
end Go.Proofs.YtkajjbambnpbiaaGreatDoor
namespace Go.Proofs.YtkajjbambnpbiaaGreatDoor
open Go Go.Mir
attribute [local irreducible] Go.Mir.RT.sat Go.Mir.evFn Go.Mir.stepObl
theorem zO (r:Rules) :(bif bif r.FollowOn != 0 then r.Innings==1 else false then bif r.FollowOn != 0 then r.Innings==1 else false else bif r.Quota != 0 then r.Overs==0 else bif decide ((r.Power.length:Int)>0) then r.Overs==0 else false)=nB r:=by
 simp only [nB]
 generalize (r.FollowOn != 0)=a
 generalize (r.Innings==1)=b
 generalize (r.Quota != 0)=c
 generalize decide ((r.Power.length:Int)>0)=d
 generalize (r.Overs==0)=e
 cases a <;> cases b <;> cases c <;> cases d <;> cases e <;> rfl
theorem yA (r:Rules) :(bif r.FollowOn != 0 then bif r.Innings==1 then true else bif r.Overs==0 then bif r.Quota != 0 then true else decide ((r.Power.length:Int)>0) else false else bif r.Overs==0 then bif r.Quota != 0 then true else decide ((r.Power.length:Int)>0) else false)=nB r:=by
 simp only [nB]
 generalize (r.FollowOn != 0)=a
 generalize (r.Innings==1)=b
 generalize (r.Quota != 0)=c
 generalize decide ((r.Power.length:Int)>0)=d
 generalize (r.Overs==0)=e
 cases a <;> cases b <;> cases c <;> cases d <;> cases e <;> rfl
theorem nL (r:Rules) :(bif r.Quota != 0 then decide (IntKind.i64.wrap (r.Quota*r.Side)<r.Overs) else false)=v7 r:=by
 simp only [v7,Bool.cond_false_right]
theorem Fu (r:Rules) (hx:r.Power.length≤aD) (i:Nat) (hi:mW r i) :(stepObl (J86 r) (mW r) (fun i=>r.Power.length - i) i (T94 r) (a6 (cf8 [k95,k96] Tryz.f104) (fun _=>none) (eN Tryz.f104 0) (J86 r i)) (L94 i)).1:=by
 refine cast (by kernel_rfl) (?_ :(decide ((↑i:Int) <(↑r.14.length:Int))=true→((0:Int)≤(↑i:Int)∧(↑i:Int) <(↑r.14.length:Int))∧((bif decide ((r.14.getD (↑i:Int).toNat (dflt (Ty.nm Nm.Phase))).1 <(1:Int)) then true else bif decide ((r.14.getD (↑i:Int).toNat (dflt (Ty.nm Nm.Phase))).2 <(r.14.getD (↑i:Int).toNat (dflt (Ty.nm Nm.Phase))).1) then true else bif decide ((r.14.getD (↑i:Int).toNat (dflt (Ty.nm Nm.Phase))).2>r.4) then true else !ae (r.14.getD (↑i:Int).toNat (dflt (Ty.nm Nm.Phase))).3 (0:Int) (11:Int))=true→(bd r (0:Nat) r.14.length !=(0:Int))=true∧((2:Int)=bd r (0:Nat) r.14.length∧True)∧True)∧((bif decide ((r.14.getD (↑i:Int).toNat (dflt (Ty.nm Nm.Phase))).1 <(1:Int)) then true else bif decide ((r.14.getD (↑i:Int).toNat (dflt (Ty.nm Nm.Phase))).2 <(r.14.getD (↑i:Int).toNat (dflt (Ty.nm Nm.Phase))).1) then true else bif decide ((r.14.getD (↑i:Int).toNat (dflt (Ty.nm Nm.Phase))).2>r.4) then true else !ae (r.14.getD (↑i:Int).toNat (dflt (Ty.nm Nm.Phase))).3 (0:Int) (11:Int))=false→((decide ((↑i:Int) >(0:Int))=true→((0:Int)≤IntKind.i64.wrap ((↑i:Int) - (1:Int))∧IntKind.i64.wrap ((↑i:Int) - (1:Int)) <(↑r.14.length:Int))∧True)∧(decide ((↑i:Int) >(0:Int))=false→True))∧(true=true→((bif decide ((↑i:Int) >(0:Int)) then decide ((r.14.getD (↑i:Int).toNat (dflt (Ty.nm Nm.Phase))).1≤(r.14.getD (IntKind.i64.wrap ((↑i:Int) - (1:Int))).toNat (dflt (Ty.nm Nm.Phase))).2) else false)=true→(bd r (0:Nat) r.14.length !=(0:Int))=true∧((8:Int)=bd r (0:Nat) r.14.length∧True)∧True)∧((bif decide ((↑i:Int) >(0:Int)) then decide ((r.14.getD (↑i:Int).toNat (dflt (Ty.nm Nm.Phase))).1≤(r.14.getD (IntKind.i64.wrap ((↑i:Int) - (1:Int))).toNat (dflt (Ty.nm Nm.Phase))).2) else false)=false→mW r (i +(1:Nat))∧r.14.length - (i +(1:Nat))<r.14.length - i∧(True∧RowD.mk (Ty.nm Nm.Phase) r.14=RowD.mk (Ty.nm Nm.Phase) r.14∧(↑r.14.length:Int) =(↑r.14.length:Int)∧IntKind.i64.wrap ((↑i:Int) +(1:Int)) =(↑(i +(1:Nat)):Int)∧True)∧(r.1=r.1∧r.2=r.2∧r.3=r.3∧r.4=r.4∧r.5=r.5∧r.6=r.6∧r.7=r.7∧r.8=r.8∧r.9=r.9∧r.10=r.10∧r.11=r.11∧r.12=r.12∧r.13=r.13∧RowD.mk (Ty.nm Nm.Phase) r.14=RowD.mk (Ty.nm Nm.Phase) r.14∧True)∧True))))∧(decide ((↑i:Int) <(↑r.14.length:Int))=false→(bd r (0:Nat) r.14.length !=(0:Int))=false∧True∧True))
 have e :(i:Int).toNat=i:=by simp
 rw [e]
 have hb:r.Power.length≤140737488355328:=hx
 have hp:r.Power.getD i (dflt (Ty.nm Nm.Phase))=aL r i:=rfl
 rw [hp]
 have hpb :(bif decide ((aL r i).From<1) then true else bif decide ((aL r i).To <(aL r i).From) then true else bif decide ((aL r i).To>r.Overs) then true else !ae (aL r i).Outside 0 11)=ju r (aL r i):=by
  simp only [ju,Bool.cond_true_left,gt_iff_lt]
 rw [hpb]
 obtain ⟨hi1,hi2⟩:=hi
 refine ⟨fun h1=>?_,fun h1=>?_⟩
 ·have h1:i<r.Power.length:=by simpa using h1
  have hn:r.Power.length - i =(r.Power.length - (i+1))+1:=by omega
  rw [hn,oX] at hi2
  have hw1:0<i→IntKind.i64.wrap ((i:Int) - 1) =((i - 1:Nat):Int):=fun h=>by rw [cC (by omega) (by omega)];omega
  refine ⟨⟨by omega,by omega⟩,fun h2=>?_,fun h2=>⟨⟨fun h3=>?_,fun _=>trivial⟩,fun _=>⟨fun h3=>?_,fun h3=>?_⟩⟩⟩
  ·have hE:fb r i=2:=by simp only [fb,h2];rfl
   rw [hE] at hi2
   have hi2:bd r 0 r.Power.length=2:=hi2
   rw [hi2]
   exact ⟨rfl,⟨rfl,trivial⟩,trivial⟩
  ·have h3:0<i:=by simpa using h3
   rw [hw1 h3]
   exact ⟨⟨by omega,by omega⟩,trivial⟩
  ·have h4:0<i:=by
    by_cases h4:0<i
    ·exact h4
    ·have:i=0:=by omega
     subst this
     simp at h3
   rw [hw1 h4,Int.toNat_natCast] at h3
   have hq:r.Power.getD (i - 1) (dflt (Ty.nm Nm.Phase))=aL r (i - 1):=rfl
   rw [hq] at h3
   have h5 :(decide ((i:Int)>0)&&decide ((aL r i).From≤(aL r (i - 1)).To))=true:=by rw [←h3];cases decide ((i:Int)>0) <;> rfl
   have hE:fb r i=8:=by simp only [fb,h2,h5];rfl
   rw [hE] at hi2
   have hi2:bd r 0 r.Power.length=8:=hi2
   rw [hi2]
   exact ⟨rfl,⟨rfl,trivial⟩,trivial⟩
  ·have h5 :(decide ((i:Int)>0)&&decide ((aL r i).From≤(aL r (i - 1)).To))=false:=by
    by_cases h4:0<i
    ·rw [hw1 h4,Int.toNat_natCast] at h3
     have hq:r.Power.getD (i - 1) (dflt (Ty.nm Nm.Phase))=aL r (i - 1):=rfl
     rw [hq] at h3
     rw [←h3];cases decide ((i:Int)>0) <;> rfl
    ·have:i=0:=by omega
     subst this;rfl
   have hE:fb r i=0:=by simp only [fb,h2,h5];rfl
   rw [hE] at hi2
   have hi2:bd r 0 r.Power.length=bd r (i+1) (r.Power.length - (i+1)):=hi2
   exact ⟨⟨by omega,hi2⟩,by omega,⟨trivial,rfl,rfl,by rw [cC (by omega) (by omega)];omega,trivial⟩,by simp⟩
 ·have h1:r.Power.length≤i:=by simpa using h1
  have h2:r.Power.length - i=0:=by omega
  rw [h2] at hi2
  have hi2:bd r 0 r.Power.length=0:=hi2
  rw [hi2]
  exact ⟨rfl,trivial,trivial⟩
theorem EO (r:Rules) (hx:r.Power.length≤aD):LoopOK Tryz.prog Tryz.f104.ntmps (eN Tryz.f104 0) (bX ⟨[],[],8⟩ (J86 r 0) (T94 r)):=
 il (eY (.cons Gk (.cons Gl .nil)) _) aB (J86 r) (fun _=>rfl) (mW r) (fun i=>r.Power.length - i) (fun _ _=>none) (fun _ _ _ _ _ h=>by cases h) (T94 r) [] [] 0 (⟨Nat.zero_le _,rfl⟩) L94 (fun i hi=>Fu r hx i hi)
theorem GH (r:Rules) (hx:r.Power.length≤aD) :(evFn (cf8 [k95,k96] Tryz.f104) (Λ86 r) Tryz.f104 (bL ln (r,()))).sat fun v' rows=>leV v' (jE (r,())).v∧rows =(jE (r,())).rows:=by
 refine cast (by kernel_rfl) (?_ :((!gb r.1)=true→(5:Int)=aQ r∧([]:List RowD)=[])∧((!gb r.1)=false→((bif !ae r.2 (2:Int) (11:Int) then true else bif !ae r.3 (1:Int) (2:Int) then true else bif !ae r.4 (0:Int) (90:Int) then true else bif !ae r.5 (4:Int) (8:Int) then true else bif !ae r.6 (0:Int) (90:Int) then true else bif !ae r.7 (1:Int) (5:Int) then true else bif !ae r.8 (1:Int) (5:Int) then true else bif !ae r.10 (0:Int) (200:Int) then true else bif !ae r.11 (0:Int) (1000:Int) then true else bif !ae r.12 (0:Int) (9:Int) then true else !ae r.13 (0:Int) (11:Int))=true→(2:Int)=aQ r∧([]:List RowD)=[])∧((bif !ae r.2 (2:Int) (11:Int) then true else bif !ae r.3 (1:Int) (2:Int) then true else bif !ae r.4 (0:Int) (90:Int) then true else bif !ae r.5 (4:Int) (8:Int) then true else bif !ae r.6 (0:Int) (90:Int) then true else bif !ae r.7 (1:Int) (5:Int) then true else bif !ae r.8 (1:Int) (5:Int) then true else bif !ae r.10 (0:Int) (200:Int) then true else bif !ae r.11 (0:Int) (1000:Int) then true else bif !ae r.12 (0:Int) (9:Int) then true else !ae r.13 (0:Int) (11:Int))=false→((bif r.11 !=(0:Int) then bif r.3 ==(1:Int) then true else bif r.4 ==(0:Int) then bif r.6 !=(0:Int) then true else decide ((↑r.14.length:Int) >(0:Int)) else false else bif r.4 ==(0:Int) then bif r.6 !=(0:Int) then true else decide ((↑r.14.length:Int) >(0:Int)) else false)=true→(1:Int)=aQ r∧([]:List RowD)=[])∧((bif r.11 !=(0:Int) then bif r.3 ==(1:Int) then true else bif r.4 ==(0:Int) then bif r.6 !=(0:Int) then true else decide ((↑r.14.length:Int) >(0:Int)) else false else bif r.4 ==(0:Int) then bif r.6 !=(0:Int) then true else decide ((↑r.14.length:Int) >(0:Int)) else false)=false→((bif r.6 !=(0:Int) then decide (IntKind.i64.wrap (r.6*r.2)<r.4) else false)=true→(13:Int)=aQ r∧([]:List RowD)=[])∧((bif r.6 !=(0:Int) then decide (IntKind.i64.wrap (r.6*r.2)<r.4) else false)=false→(decide ((↑r.14.length:Int) >(8:Int))=true→(9:Int)=aQ r∧([]:List RowD)=[])∧(decide ((↑r.14.length:Int) >(8:Int))=false→((pV fun x=>none)∧(True∧RowD.mk (Ty.nm Nm.Phase) r.14=RowD.mk (Ty.nm Nm.Phase) r.14∧(↑r.14.length:Int) =(↑r.14.length:Int)∧(0:Int) =(↑(0:Nat):Int)∧True)∧(r.1=r.1∧r.2=r.2∧r.3=r.3∧r.4=r.4∧r.5=r.5∧r.6=r.6∧r.7=r.7∧r.8=r.8∧r.9=r.9∧r.10=r.10∧r.11=r.11∧r.12=r.12∧r.13=r.13∧RowD.mk (Ty.nm Nm.Phase) r.14=RowD.mk (Ty.nm Nm.Phase) r.14∧True)∧True)∧((bd r (0:Nat) r.14.length !=(0:Int))=true→bd r (0:Nat) r.14.length=aQ r∧([]:List RowD)=[])∧((bd r (0:Nat) r.14.length !=(0:Int))=false→(0:Int)=aQ r∧([]:List RowD)=[])))))))
 have hR :(bif !ae r.Side 2 11 then true else bif !ae r.Innings 1 2 then true else bif !ae r.Overs 0 90 then true else bif !ae r.Balls 4 8 then true else bif !ae r.Quota 0 90 then true else bif !ae r.Wide 1 5 then true else bif !ae r.NoBall 1 5 then true else bif !ae r.NewBall 0 200 then true else bif !ae r.FollowOn 0 1000 then true else bif !ae r.Reviews 0 9 then true else !ae r.Outside 0 11)=!cH r:=by
  simp only [cH,Bool.cond_true_left,Bool.not_and]
 rw [hR,yA,nL]
 have hP1 :(r.Power.length:Int)>8→cQ r=9:=fun h=>by simp only [cQ];rw [if_pos h]
 have hP2 :¬(r.Power.length:Int)>8→cQ r=bd r 0 r.Power.length:=fun h=>by simp only [cQ];rw [if_neg h]
 refine ⟨fun h1=>⟨?_,rfl⟩,fun h1=>⟨fun h2=>⟨?_,rfl⟩,fun h2=>⟨fun h3=>⟨?_,rfl⟩,fun h3=>⟨fun h4=>⟨?_,rfl⟩,fun h4=>⟨fun h5=>⟨?_,rfl⟩,fun h5=>⟨⟨rfl,⟨trivial,rfl,rfl,rfl,trivial⟩,by simp⟩,fun h6=>⟨?_,rfl⟩,fun h6=>⟨?_,rfl⟩⟩⟩⟩⟩⟩⟩
 ·simp only [aQ,h1,if_true]
 ·simp only [aQ,h1,h2,if_true];rfl
 ·simp only [aQ,h1,h2,h3,if_true];rfl
 ·simp only [aQ,h1,h2,h3,h4,if_true];rfl
 ·simp only [aQ,h1,h2,h3,h4];rw [hP1 (of_decide_eq_true h5)];rfl
 ·simp only [aQ,h1,h2,h3,h4];rw [hP2 (of_decide_eq_false h5)];rfl
 ·simp only [aQ,h1,h2,h3,h4];rw [hP2 (of_decide_eq_false h5)]
  have h6:bd r 0 r.Power.length=0:=by simpa using h6
  rw [h6];rfl
theorem HC:CtrOK Tryz.prog K8 104 (aq K8 ln jE):=by
 refine bj (C:=cf8 [k95,k96] Tryz.f104) (eY (.cons Gk (.cons Gl .nil)) _) aB (fn:=Tryz.f104) Tryz.func104 (by kernel_rfl) (by kernel_rfl) (by kernel_rfl) (Λ:=fun x=>Λ86 x.1) ?_ ?_ ?_
 ·rintro ⟨r,⟨⟩⟩ hw hn
  exact LoopsOK.at (by kernel_rfl) (.cons (by kernel_rfl) (EO r (mb (gv hw))) .nil)
 ·rintro ⟨r,⟨⟩⟩
  exact of_decide_eq_true (by kernel_rfl)
 ·rintro ⟨r,⟨⟩⟩ hw hn
  exact GH r (mb (gv hw))
theorem GG (r:Rules) :(evFn (cf8 [k92,k93,k94] Tryz.f49) (fun _=>none) Tryz.f49 (bL ln (r,()))).sat fun v' rows=>leV v' (jE (r,())).v∧rows =(jE (r,())).rows:=by
 refine cast (by kernel_rfl) (?_ :((!gb r.1)=true→(5:Int)=aQ r∧([]:List RowD)=[])∧((!gb r.1)=false→((!cH r)=true→(2:Int)=aQ r∧([]:List RowD)=[])∧((!cH r)=false→((bif bif r.11 !=(0:Int) then r.3 ==(1:Int) else false then bif r.11 !=(0:Int) then r.3 ==(1:Int) else false else bif r.6 !=(0:Int) then r.4 ==(0:Int) else bif decide ((↑r.14.length:Int) >(0:Int)) then r.4 ==(0:Int) else false)=true→(1:Int)=aQ r∧([]:List RowD)=[])∧((bif bif r.11 !=(0:Int) then r.3 ==(1:Int) else false then bif r.11 !=(0:Int) then r.3 ==(1:Int) else false else bif r.6 !=(0:Int) then r.4 ==(0:Int) else bif decide ((↑r.14.length:Int) >(0:Int)) then r.4 ==(0:Int) else false)=false→((bif r.6 !=(0:Int) then decide (IntKind.i64.wrap (r.6*r.2)<r.4) else false)=true→(13:Int)=aQ r∧([]:List RowD)=[])∧((bif r.6 !=(0:Int) then decide (IntKind.i64.wrap (r.6*r.2)<r.4) else false)=false→cQ r=aQ r∧([]:List RowD)=[])))))
 rw [zO,nL]
 simp only [aQ]
 repeat' first|refine And.intro ?_ ?_|intro _
 all_goals first|rfl |(simp_all;done)|grind
theorem HB:CtrOK Tryz.prog K8 49 (aq K8 ln jE):=by
 refine bj (C:=cf8 [k92,k93,k94] Tryz.f49) (eY (.cons HE (.cons HF (.cons HG .nil))) _) aB (fn:=Tryz.f49) Tryz.func49 (by kernel_rfl) (by kernel_rfl) (by kernel_rfl) (Λ:=fun _ _=>none) ?_ ?_ ?_
 ·exact fun _ _ _ _ _ _ _ _ h=>by cases h
 ·rintro ⟨r,⟨⟩⟩
  exact of_decide_eq_true (by kernel_rfl)
 ·rintro ⟨r,⟨⟩⟩ hw hn
  exact GG r
end Go.Proofs.YtkajjbambnpbiaaGreatDoor
namespace Go.Proofs.YtkajjbambnpbiaaGreatDoor
open Go Go.Mir
theorem zf (h:Int) :(ofW h).either =(h==6||h==8)∧(ofW h).fielder=js h:=by
 by_cases h0:h=0;· subst h0;exact ⟨rfl,rfl⟩
 by_cases h1:h=1;· subst h1;exact ⟨rfl,rfl⟩
 by_cases h2:h=2;· subst h2;exact ⟨rfl,rfl⟩
 by_cases h3:h=3;· subst h3;exact ⟨rfl,rfl⟩
 by_cases h4:h=4;· subst h4;exact ⟨rfl,rfl⟩
 by_cases h5:h=5;· subst h5;exact ⟨rfl,rfl⟩
 by_cases h6:h=6;· subst h6;exact ⟨rfl,rfl⟩
 by_cases h7:h=7;· subst h7;exact ⟨rfl,rfl⟩
 by_cases h8:h=8;· subst h8;exact ⟨rfl,rfl⟩
 by_cases h9:h=9;· subst h9;exact ⟨rfl,rfl⟩
 by_cases h10:h=10;· subst h10;exact ⟨rfl,rfl⟩
 have e:ofW h=dismissal_way.zero:=by
  unfold ofW
  rw [List.find?_eq_none.2]
  ·rfl
  ·intro x hx
   simp only [wtab,List.mem_cons,List.not_mem_nil,or_false] at hx
   rcases hx with rfl|rfl|rfl|rfl|rfl|rfl|rfl|rfl|rfl|rfl|rfl <;> simp <;> omega
 rw [e]
 constructor
 ·simp [dismissal_way.zero,h6,h8]
 ·simp [dismissal_way.zero,js,h2,h4,h6]
theorem B0 (t h:Int) (free:Bool):kV (ff t free) h =(onR h t&&(!free||dU h)):=by
 have key :∀ t:Int,(t=1∨t=2∨t=3)∨(t≠1∧t≠2∧t≠3):=fun t=>by omega
 rcases key t with (rfl|rfl|rfl) |⟨h1,h2,h3⟩
 ·have e:ff 1 free=bif free then [6,7,8] else [1,2,3,4,5,6,7,8]:=by cases free <;> rfl
  rw [e];cases free <;> simp [kV,onR,dU] <;> grind
 ·have e:ff 2 free=bif free then [6,8] else [4,5,6,8]:=by cases free <;> rfl
  rw [e];cases free <;> simp [kV,onR,dU] <;> grind
 ·have e:ff 3 free=bif free then [6,7,8] else [6,7,8]:=by cases free <;> rfl
  rw [e];cases free <;> simp [kV,onR,dU] <;> grind
 ·have hn :∀ w,lF w t free=false:=fun w=>by simp [lF,onW,h1,h2,h3]
  have e:ff t free=[]:=by unfold ff;rw [List.filter_eq_nil_iff.2 (fun w _=>by rw [hn w];simp)];rfl
  rw [e]
  simp [kV,onR,h1,h2,h3]
theorem pY (d:Delivery) (free:Bool):aZ d free=bf d free:=by
 obtain ⟨h1,h2⟩:=zf d.How
 have h3:=B0 d.Typ d.How free
 simp only [kV] at h3
 simp only [aZ,bf,dz,player,h1,h2,h3]
 generalize onR d.How d.Typ=a
 generalize dU d.How=b
 generalize js d.How=c
 by_cases h0:d.How=0
 ·simp [h0]
 ·by_cases h6:d.How=6
  ·simp only [h6];cases a <;> cases b <;> cases c <;> cases free <;> simp <;> grind
  ·by_cases h8:d.How=8
   ·simp only [h8];cases a <;> cases b <;> cases c <;> cases free <;> simp <;> grind
   ·simp only [beq_eq_false_iff_ne.2 h0,beq_eq_false_iff_ne.2 h6,beq_eq_false_iff_ne.2 h8];cases a <;> cases b <;> cases c <;> cases free <;> simp <;> grind
end Go.Proofs.YtkajjbambnpbiaaGreatDoor
namespace Go.Proofs.YtkajjbambnpbiaaGreatDoor
open Go Go.Mir
attribute [local irreducible] Go.Mir.DT.sat Go.Mir.evPat Go.Mir.RT.sat Go.Mir.evFn
def cP (n:Int):ByteArray:=if n==0 then ⟨#[46]⟩ else dL n
def rh:Den (tyP qI1)→List Prop×Den (tyP aU):=fun x=>([cV x.1],(cP x.1,()))
def aC (r:Rules) (d:Delivery):Int:=if aQ r != 0 then aQ r else if aK d != 0||aZ d false != 0 then 1 else 0
def mJ:Den (tyP qRD)→List Prop×Den (tyP l3):=fun x=>([],(aC x.1 x.2.1,()))
abbrev tEn:Ty:= .nm .boxbook_entry
def cT (r:Rules) (d:Delivery):boxbook_entry:=⟨if d.Typ==2 then 119 else if d.Typ==3 then 110 else 0,(af r d).Bowler,(af r d).Byes,(af r d).LegByes,if (af r d).Wicket then 87 else if d.How != 0 then 82 else 0⟩
def xh:Den (tyP qRD)→List Prop×Den (tyP (fU [tEn])):=fun x=>([],(cT x.1 x.2.1,()))
def m7 (n:Int):ByteArray:=Utf8.encode (IntKind.i32.wrap n)
def sy1 (x:boxbook_entry):ByteArray:=if x.kind != 0 then m7 x.kind++cP x.charge else cP x.charge
def sy2 (x:boxbook_entry):ByteArray:=if decide (x.byes>0) then sy1 x ++(⟨#[98]⟩++cP x.byes) else sy1 x
def sy3 (x:boxbook_entry):ByteArray:=if decide (x.leg>0) then sy2 x ++(⟨#[108]⟩++cP x.leg) else sy2 x
def vA (x:boxbook_entry):ByteArray:=if x.mark != 0 then sy3 x++m7 x.mark else sy3 x
def Cp (x:boxbook_entry):Prop:=cV x.charge∧(x.byes<100)∧(x.leg<100)
def BF:Den (tyP (fU [tEn]))→List Prop×Den (tyP aU):=fun x=>([Cp x.1],(vA x.1,()))
def pR (c:Credit):Prop:=cV c.Bowler∧cV c.Batter∧cV c.Byes∧cV c.LegByes
def kp (r:Rules) (d:Delivery):ByteArray:=vA (cT r d)
def xg:Den (tyP qRD)→List Prop×Den (tyP aU):=fun x=>([pR (af x.1 x.2.1)],(kp x.1 x.2.1,()))
def cM (r:Rules) (d:Delivery):ByteArray:=if (af r d).Faced then cP (af r d).Batter else ⟨#[]⟩
def ki:Den (tyP qRD)→List Prop×Den (tyP aU):=fun x=>([pR (af x.1 x.2.1)],(cM x.1 x.2.1,()))
abbrev lZ:Pat:=fU [.str,I]
def ke:Den (tyP qRD)→List Prop×Den (tyP lZ):=fun x=>([],(if aC x.1 x.2.1 != 0 then ⟨#[]⟩ else kp x.1 x.2.1,aC x.1 x.2.1,()))
def kg:Den (tyP qRD)→List Prop×Den (tyP lZ):=fun x=>([],(if aC x.1 x.2.1 != 0 then ⟨#[]⟩ else cM x.1 x.2.1,aC x.1 x.2.1,()))
theorem nv (n:Int) :(cP n).size≤200:=by
 have z5:dgs36.size=36:=rfl
 have z6:sm200.size=200:=by kernel_rfl
 unfold cP
 split
 ·exact Nat.le_of_ble_eq_true rfl
 ·unfold dL
  split <;> rw [ByteArray.size_extract] <;> omega
theorem x9 {n:Int} (h:0<n):cP n=dL n:=by
 unfold cP
 rw [if_neg]
 simp
 omega
theorem wC {d:Delivery} (h:aK d=0) :(0≤d.Runs∧d.Runs≤7)∧(0≤d.Short∧d.Short≤d.Runs)∧(0≤d.Boundary∧d.Boundary≤6):=by
 unfold aK at h
 split at h
 ·cases h
 ·split at h
  ·cases h
  ·rename_i h2
   simp only [inW,ge_iff_le,Bool.or_eq_true,Bool.not_eq_true',Bool.and_eq_false_iff,decide_eq_false_iff_not,Int.not_le,bne_iff_ne,ne_eq,Bool.and_eq_true,not_or,not_and,Decidable.not_not] at h2
   omega
theorem vY {r:Rules} (h:aQ r=0) :(1≤r.Wide∧r.Wide≤5)∧(1≤r.NoBall∧r.NoBall≤5):=by
 have hr:cH r=true:=by
  cases hr:cH r with
  | true=>rfl
  | false=>
   unfold aQ at h
   cases hn:gb r.Name <;> simp [hn,hr] at h
 simp only [cH,ae,Bool.and_eq_true,decide_eq_true_eq] at hr
 omega
theorem Fm {d:Delivery} (h:aK d=0):0≤jC d∧jC d≤13:=by
 obtain ⟨h1,h2,h3⟩:=wC h
 unfold jC
 have e1:W (d.Runs - d.Short)=d.Runs - d.Short:=cC (by omega) (by omega)
 rw [e1]
 have e2:W (d.Runs - d.Short+d.Boundary)=d.Runs - d.Short+d.Boundary:=cC (by omega) (by omega)
 rw [e2]
 omega
theorem jO {r:Rules} {d:Delivery} (h :(aC r d != 0)=false):pR (af r d):=by
 have h:aC r d=0:=by simpa using h
 unfold aC at h
 have hc:aQ r=0:=by
  by_cases hc:aQ r=0
  ·exact hc
  ·rw [if_pos (by simpa using hc)] at h;exact absurd h hc
 rw [if_neg (by simp [hc])] at h
 have hl:aK d=0:=by
  by_cases hl:aK d=0
  ·exact hl
  ·rw [if_pos (by simp [hl])] at h;cases h
 obtain ⟨hw,hn⟩:=vY hc
 obtain ⟨h0,h1⟩:=Fm hl
 have ew:W (r.Wide+jC d)=r.Wide+jC d:=cC (by omega) (by omega)
 have b1:0≤dM d∧dM d≤13:=by unfold dM;split <;> omega
 have b2:0≤fT r d∧fT r d≤18:=by unfold fT;rw [ew];split <;> omega
 have b3:0≤noW r d∧noW r d≤5:=by unfold noW;split <;> omega
 have b4:0≤qg d∧qg d≤13:=by unfold qg;split <;> omega
 have b5:0≤gI d∧gI d≤13:=by unfold gI;split <;> omega
 have e1:W (dM d+fT r d)=dM d+fT r d:=cC (by omega) (by omega)
 have e2:W (dM d+fT r d+noW r d)=dM d+fT r d+noW r d:=cC (by omega) (by omega)
 unfold af
 rw [if_pos (by simp [hl])]
 refine ⟨⟨?_,?_⟩,⟨b1.1,?_⟩,⟨b4.1,?_⟩,⟨b5.1,?_⟩⟩ <;> simp only [e1,e2] <;> omega
theorem yY {r:Rules} {d:Delivery} (h:pR (af r d)):Cp (cT r d):=⟨h.1,h.2.2.1.2,h.2.2.2.2⟩
theorem FV:m7 119 =⟨#[119]⟩:=by kernel_rfl
theorem FU:m7 110 =⟨#[110]⟩:=by kernel_rfl
theorem FT:m7 87 =⟨#[87]⟩:=by kernel_rfl
theorem FS:m7 82 =⟨#[82]⟩:=by kernel_rfl
theorem vn (n:Int) (hk:cV n) :(evPat (aY [qJ] Tryz.f144) (fun _=>none) Tryz.f144 qI1 aU (n,())).sat fun z_=>z_ =(rh (n,())).2:=by
 refine cast (by kernel_rfl) (?_ :((n ==(0:Int))=true→(ByteArray.mk #[46],()) =(cP n,()))∧((n ==(0:Int))=false→cV n∧(dL n,()) =(cP n,())))
 exact ⟨fun h=>by unfold cP;rw [h];rfl,fun h=>⟨hk,by unfold cP;rw [h];rfl⟩⟩
def jS:FuncId×Ctr:=(144,ai KE qI1 aU rh)
theorem oH:CtrOK Tryz.prog KE 144 (ai KE qI1 aU rh):=by
 refine a7 (C:=aY [qJ] Tryz.f144) (aX (.consU wL rfl .nil) _) aB (fn:=Tryz.f144) Tryz.func144 (by kernel_rfl) (by kernel_rfl) (by kernel_rfl) (by kernel_rfl) (by kernel_rfl) (by kernel_rfl) (Λ:=fun _ _=>none) ?_ ?_
 ·exact fun _ _ _ _ _ _ _ _ h=>by cases h
 ·rintro ⟨n,⟨⟩⟩ hw hn
  exact vn n (hn _ List.mem_cons_self)
theorem s8 (n:Int) (hk:cV n) :(evPat (aY [ij] Tryz.f147) (fun _=>none) Tryz.f147 qI1 aU (n,())).sat fun z_=>z_ =(rh (n,())).2:=by
 refine cast (by kernel_rfl) (?_ :((n ==(0:Int))=true→(ByteArray.mk #[46],()) =(cP n,()))∧((n ==(0:Int))=false→cV n∧(dL n,()) =(cP n,())))
 exact ⟨fun h=>by unfold cP;rw [h];rfl,fun h=>⟨hk,by unfold cP;rw [h];rfl⟩⟩
def ig:FuncId×Ctr:=(147,ai KE qI1 aU rh)
theorem mY:CtrOK Tryz.prog KE 147 (ai KE qI1 aU rh):=by
 refine a7 (C:=aY [ij] Tryz.f147) (aX (.consU mZ rfl .nil) _) aB (fn:=Tryz.f147) Tryz.func147 (by kernel_rfl) (by kernel_rfl) (by kernel_rfl) (by kernel_rfl) (by kernel_rfl) (by kernel_rfl) (Λ:=fun _ _=>none) ?_ ?_
 ·exact fun _ _ _ _ _ _ _ _ h=>by cases h
 ·rintro ⟨n,⟨⟩⟩ hw hn
  exact s8 n (hn _ List.mem_cons_self)
theorem xb (r:Rules) (d:Delivery) :(evPat (aY [k85,ns,k17] Tryz.f70) (fun _=>none) Tryz.f70 qRD l3 (r,d,())).sat fun z_=>z_ =(mJ (r,d,())).2:=by
 refine cast (by kernel_rfl) (?_:let r1:Bool:=bif aK d !=(0:Int) then true else aZ d false !=(0:Int);((aQ r !=(0:Int))=true→(aQ r,()) =(aC r d,()))∧((aQ r !=(0:Int))=false→(r1=true→((1:Int),()) =(aC r d,()))∧(r1=false→((0:Int),()) =(aC r d,()))))
 intro r1
 clear_value (hr1:r1=_)
 have e:r1 =(aK d != 0||aZ d false != 0):=by rw [hr1];cases aK d != 0 <;> rfl
 refine ⟨fun h=>by unfold aC;rw [h];rfl,fun h=>⟨fun a=>?_,fun a=>?_⟩⟩ <;>(unfold aC;rw [h,←e,a];rfl)
def lJ:FuncId×Ctr:=(70,ai KE qRD l3 mJ)
theorem qS:CtrOK Tryz.prog KE 70 (ai KE qRD l3 mJ):=by
 refine a7 (C:=aY [k85,ns,k17] Tryz.f70) (aX (.consU HB rfl (.consU uW rfl (.consU Hr rfl .nil))) _) aB (fn:=Tryz.f70) Tryz.func70 (by kernel_rfl) (by kernel_rfl) (by kernel_rfl) (by kernel_rfl) (by kernel_rfl) (by kernel_rfl) (Λ:=fun _ _=>none) ?_ ?_
 ·exact fun _ _ _ _ _ _ _ _ h=>by cases h
 ·rintro ⟨r,d,⟨⟩⟩ hw hn
  exact xb r d
theorem vt (r:Rules) (d:Delivery) :(evPat (aY [k86,nt,k18] Tryz.f73) (fun _=>none) Tryz.f73 qRD l3 (r,d,())).sat fun z_=>z_ =(mJ (r,d,())).2:=by
 refine cast (by kernel_rfl) (?_:let r1:Bool:=bif aK d !=(0:Int) then true else bf d false !=(0:Int);((aQ r !=(0:Int))=true→(aQ r,()) =(aC r d,()))∧((aQ r !=(0:Int))=false→(r1=true→((1:Int),()) =(aC r d,()))∧(r1=false→((0:Int),()) =(aC r d,()))))
 intro r1
 clear_value (hr1:r1=_)
 rw [←pY d false] at hr1
 have e:r1 =(aK d != 0||aZ d false != 0):=by rw [hr1];cases aK d != 0 <;> rfl
 refine ⟨fun h=>by unfold aC;rw [h];rfl,fun h=>⟨fun a=>?_,fun a=>?_⟩⟩ <;>(unfold aC;rw [h,←e,a];rfl)
def jT:FuncId×Ctr:=(73,ai KE qRD l3 mJ)
theorem oI:CtrOK Tryz.prog KE 73 (ai KE qRD l3 mJ):=by
 refine a7 (C:=aY [k86,nt,k18] Tryz.f73) (aX (.consU HC rfl (.consU uY rfl (.consU Hs rfl .nil))) _) aB (fn:=Tryz.f73) Tryz.func73 (by kernel_rfl) (by kernel_rfl) (by kernel_rfl) (by kernel_rfl) (by kernel_rfl) (by kernel_rfl) (Λ:=fun _ _=>none) ?_ ?_
 ·exact fun _ _ _ _ _ _ _ _ h=>by cases h
 ·rintro ⟨r,d,⟨⟩⟩ hw hn
  exact vt r d
theorem xc (r:Rules) (d:Delivery) :(evPat (aY [lK] Tryz.f71) (fun _=>none) Tryz.f71 qRD (fU [tEn]) (r,d,())).sat fun z_=>z_ =(xh (r,d,())).2:=by
 refine cast (by kernel_rfl) (?_:let r1:Int:=bif d.1 ==(2:Int) then (af r d).6 else bif d.1 ==(3:Int) then (af r d).6 else (af r d).6;let r2:Int:=bif d.1 ==(2:Int) then (af r d).4 else bif d.1 ==(3:Int) then (af r d).4 else (af r d).4;let r3:Int:=bif d.1 ==(2:Int) then (af r d).5 else bif d.1 ==(3:Int) then (af r d).5 else (af r d).5;let r4:Int:=bif d.1 ==(2:Int) then (119:Int) else bif d.1 ==(3:Int) then (110:Int) else (0:Int);(boxbook_entry.mk (bif (af r d).9 then r4 else bif d.7 !=(0:Int) then r4 else r4) (bif (af r d).9 then r1 else bif d.7 !=(0:Int) then r1 else r1) (bif (af r d).9 then r2 else bif d.7 !=(0:Int) then r2 else r2) (bif (af r d).9 then r3 else bif d.7 !=(0:Int) then r3 else r3) (bif (af r d).9 then (87:Int) else bif d.7 !=(0:Int) then (82:Int) else bif d.1 ==(2:Int) then (0:Int) else bif d.1 ==(3:Int) then (0:Int) else (0:Int)),()) =(cT r d,()))
 intro r1 r2 r3 r4
 clear_value (hr1:r1=_) (hr2:r2=_) (hr3:r3=_) (hr4:r4=_)
 rw [hr1,hr2,hr3,hr4]
 unfold cT
 generalize af r d=c
 cases d.Typ==2 <;> cases d.Typ==3 <;> cases c.Wicket <;> cases d.How != 0 <;> rfl
def uJ:FuncId×Ctr:=(71,ai KE qRD (fU [tEn]) xh)
theorem zh:CtrOK Tryz.prog KE 71 (ai KE qRD (fU [tEn]) xh):=by
 refine a7 (C:=aY [lK] Tryz.f71) (aX (.consU qT rfl .nil) _) aB (fn:=Tryz.f71) Tryz.func71 (by kernel_rfl) (by kernel_rfl) (by kernel_rfl) (by kernel_rfl) (by kernel_rfl) (by kernel_rfl) (Λ:=fun _ _=>none) ?_ ?_
 ·exact fun _ _ _ _ _ _ _ _ h=>by cases h
 ·rintro ⟨r,d,⟨⟩⟩ hw hn
  exact xc r d
theorem vp (x:boxbook_entry) (hk:Cp x) :(evPat (aY [jS] Tryz.f72) (fun _=>none) Tryz.f72 (fU [tEn]) aU (x,())).sat fun z_=>z_ =(BF (x,())).2:=by
 refine cast (by kernel_rfl) (?_:let r1:Bool:=decide (x.3 >(0:Int));let r2:Bool:=decide (x.4 >(0:Int));let r3:ByteArray:=ByteArray.mk #[98]++cP x.3;let r4:ByteArray:=ByteArray.mk #[108]++cP x.4;let r5:ByteArray:=bif x.1 !=(0:Int) then Utf8.encode (IntKind.i32.wrap x.1)++cP x.2 else cP x.2;let r6:ByteArray:=bif r1 then r5++r3 else r5;let r7:ByteArray:=bif r2 then r6++r4 else r6;cV x.2∧(((x.1 !=(0:Int))=true→(Utf8.encode (IntKind.i32.wrap x.1)).size +(cP x.2).size≤aD∧True)∧((x.1 !=(0:Int))=false→True))∧(true=true→((r1=true→cV x.3∧(ByteArray.mk #[98]).size +(cP x.3).size≤aD∧r5.size+r3.size≤aD∧True)∧(r1=false→True))∧(true=true→((r2=true→cV x.4∧(ByteArray.mk #[108]).size +(cP x.4).size≤aD∧r6.size+r4.size≤aD∧True)∧(r2=false→True))∧(true=true→(((x.5 !=(0:Int))=true→r7.size +(Utf8.encode (IntKind.i32.wrap x.5)).size≤aD∧True)∧((x.5 !=(0:Int))=false→True))∧(true=true→(bif x.5 !=(0:Int) then r7++Utf8.encode (IntKind.i32.wrap x.5) else r7,()) =(vA x,()))))))
 intro r1 r2 r3 r4 r5 r6 r7
 clear_value (hr1:r1=_) (hr2:r2=_) (hr3:r3=_) (hr4:r4=_) (hr5:r5=_) (hr6:r6=_) (hr7:r7=_)
 have one :∀ c:UInt8,(ByteArray.mk #[c]).size=1:=fun _=>rfl
 have hL :(1000:Nat)≤aD:=by decide
 have zc:=nv x.charge
 have zb:=nv x.byes
 have zl:=nv x.leg
 have ck:=FX (IntKind.i32.wrap x.kind)
 have cm:=FX (IntKind.i32.wrap x.mark)
 have z3:r3.size≤201:=by rw [hr3,ByteArray.size_append];show 1+_≤_;omega
 have z4:r4.size≤201:=by rw [hr4,ByteArray.size_append];show 1+_≤_;omega
 have z5:r5.size≤204:=by
  rw [hr5]
  cases x.kind != 0
  ·show (cP x.charge).size≤_;omega
  ·show (_++_:ByteArray).size≤_;rw [ByteArray.size_append];omega
 have z6:r6.size≤405:=by
  rw [hr6]
  cases r1
  ·show r5.size≤_;omega
  ·show (r5++r3).size≤_;rw [ByteArray.size_append];omega
 have z7:r7.size≤606:=by
  rw [hr7]
  cases r2
  ·show r6.size≤_;omega
  ·show (r6++r4).size≤_;rw [ByteArray.size_append];omega
 have e5:r5=sy1 x:=by rw [hr5];unfold sy1 m7;cases x.kind != 0 <;> rfl
 have e6:r6=sy2 x:=by rw [hr6,hr1,e5,hr3];unfold sy2;cases decide (x.byes>0) <;> rfl
 have e7:r7=sy3 x:=by rw [hr7,hr2,e6,hr4];unfold sy3;cases decide (x.leg>0) <;> rfl
 refine ⟨hk.1,⟨fun _=>⟨by omega,trivial⟩,fun _=>trivial⟩,fun _=>⟨⟨fun a=>⟨⟨?_,hk.2.1⟩,by rw [one];omega,by omega,trivial⟩,fun _=>trivial⟩,fun _=>⟨⟨fun a=>⟨⟨?_,hk.2.2⟩,by rw [one];omega,by omega,trivial⟩,fun _=>trivial⟩,fun _=>⟨⟨fun _=>⟨by omega,trivial⟩,fun _=>trivial⟩,fun _=>?_⟩⟩⟩⟩
 ·rw [hr1] at a;have:=of_decide_eq_true a;omega
 ·rw [hr2] at a;have:=of_decide_eq_true a;omega
 ·rw [e7];unfold vA m7;cases x.mark != 0 <;> rfl
def qE:FuncId×Ctr:=(72,ai KE (fU [tEn]) aU BF)
theorem wH:CtrOK Tryz.prog KE 72 (ai KE (fU [tEn]) aU BF):=by
 refine a7 (C:=aY [jS] Tryz.f72) (aX (.consU oH rfl .nil) _) aB (fn:=Tryz.f72) Tryz.func72 (by kernel_rfl) (by kernel_rfl) (by kernel_rfl) (by kernel_rfl) (by kernel_rfl) (by kernel_rfl) (Λ:=fun _ _=>none) ?_ ?_
 ·exact fun _ _ _ _ _ _ _ _ h=>by cases h
 ·rintro ⟨x,⟨⟩⟩ hw hn
  exact vp x (hn _ List.mem_cons_self)
theorem vr (r:Rules) (d:Delivery) (hk:pR (af r d)) :(evPat (aY [lM,ig,ij] Tryz.f74) (fun _=>none) Tryz.f74 qRD aU (r,d,())).sat fun z_=>z_ =(xg (r,d,())).2:=by
 refine cast (by kernel_rfl) (?_:let r1:Bool:=decide ((af r d).4 >(0:Int));let r2:Bool:=decide ((af r d).5 >(0:Int));let r3:ByteArray:=ByteArray.mk #[98]++dL (af r d).4;let r4:ByteArray:=ByteArray.mk #[108]++dL (af r d).5;let r5:ByteArray:=bif d.1 ==(2:Int) then ByteArray.mk #[119] else bif d.1 ==(3:Int) then ByteArray.mk #[110] else ByteArray.mk #[];let r6:ByteArray:=r5++cP (af r d).6;let r7:ByteArray:=bif r1 then r6++r3 else r6;let r8:ByteArray:=bif r2 then r7++r4 else r7;cV (af r d).6∧r5.size +(cP (af r d).6).size≤aD∧((r1=true→cV (af r d).4∧(ByteArray.mk #[98]).size +(dL (af r d).4).size≤aD∧r6.size+r3.size≤aD∧True)∧(r1=false→True))∧(true=true→((r2=true→cV (af r d).5∧(ByteArray.mk #[108]).size +(dL (af r d).5).size≤aD∧r7.size+r4.size≤aD∧True)∧(r2=false→True))∧(true=true→((af r d).9=true→r8.size +(ByteArray.mk #[87]).size≤aD∧(r8++ByteArray.mk #[87],()) =(kp r d,()))∧((af r d).9=false→((d.7 !=(0:Int))=true→r8.size +(ByteArray.mk #[82]).size≤aD∧(r8++ByteArray.mk #[82],()) =(kp r d,()))∧((d.7 !=(0:Int))=false→(r8,()) =(kp r d,()))))))
 intro r1 r2 r3 r4 r5 r6 r7 r8
 clear_value (hr1:r1=_) (hr2:r2=_) (hr3:r3=_) (hr4:r4=_) (hr5:r5=_) (hr6:r6=_) (hr7:r7=_) (hr8:r8=_)
 have one :∀ c:UInt8,(ByteArray.mk #[c]).size=1:=fun _=>rfl
 have hL :(1000:Nat)≤aD:=by decide
 generalize hc:af r d=c at *
 have zc:=nv c.Bowler
 have zb:=El hk.2.2.1
 have zl:=El hk.2.2.2
 have e6:r6=sy1 (cT r d):=by
  rw [hr6,hr5]
  unfold sy1 cT
  rw [hc]
  cases h2:d.Typ==2
  ·cases h3:d.Typ==3
   ·show ⟨#[]⟩++cP c.Bowler=cP c.Bowler
    exact qu _
   ·show _=m7 110++cP c.Bowler
    rw [FU];rfl
  ·show _=m7 119++cP c.Bowler
   rw [FV];rfl
 have e7:r7=sy2 (cT r d):=by
  rw [hr7,hr1,e6,hr3]
  unfold sy2
  have :(cT r d).byes=c.Byes:=by unfold cT;rw [hc]
  rw [this]
  by_cases h:c.Byes>0
  ·rw [decide_eq_true h,x9 h];rfl
  ·rw [decide_eq_false h];rfl
 have e8:r8=sy3 (cT r d):=by
  rw [hr8,hr2,e7,hr4]
  unfold sy3
  have :(cT r d).leg=c.LegByes:=by unfold cT;rw [hc]
  rw [this]
  by_cases h:c.LegByes>0
  ·rw [decide_eq_true h,x9 h];rfl
  ·rw [decide_eq_false h];rfl
 have z3:r3.size≤201:=by rw [hr3,ByteArray.size_append];show 1+_≤_;omega
 have z4:r4.size≤201:=by rw [hr4,ByteArray.size_append];show 1+_≤_;omega
 have z5:r5.size≤1:=by rw [hr5];cases d.Typ==2 <;> cases d.Typ==3 <;> exact Nat.le_of_ble_eq_true rfl
 have z6:r6.size≤201:=by rw [hr6,ByteArray.size_append];omega
 have z7:r7.size≤402:=by
  rw [hr7]
  cases r1
  ·show r6.size≤_;omega
  ·show (r6++r3).size≤_;rw [ByteArray.size_append];omega
 have z8:r8.size≤603:=by
  rw [hr8]
  cases r2
  ·show r7.size≤_;omega
  ·show (r7++r4).size≤_;rw [ByteArray.size_append];omega
 have hm :(cT r d).mark=if c.Wicket then 87 else if d.How != 0 then 82 else 0:=by unfold cT;rw [hc]
 refine ⟨hk.1,by omega,⟨fun a=>⟨hk.2.2.1,by rw [one];omega,by omega,trivial⟩,fun _=>trivial⟩,fun _=>⟨⟨fun a=>⟨hk.2.2.2,by rw [one];omega,by omega,trivial⟩,fun _=>trivial⟩,fun _=>⟨fun a=>⟨by rw [one];omega,?_⟩,fun a=>⟨fun b=>⟨by rw [one];omega,?_⟩,fun b=>?_⟩⟩⟩⟩
 ·unfold kp vA;rw [hm,a,e8];show _ =(sy3 _++m7 87,());rw [FT]
 ·unfold kp vA;rw [hm,a,b,e8];show _ =(sy3 _++m7 82,());rw [FS]
 ·unfold kp vA;rw [hm,a,b,e8];rfl
def qG:FuncId×Ctr:=(74,ai KE qRD aU xg)
theorem wJ:CtrOK Tryz.prog KE 74 (ai KE qRD aU xg):=by
 refine a7 (C:=aY [lM,ig,ij] Tryz.f74) (aX (.consU qU rfl (.consU mY rfl (.consU mZ rfl .nil))) _) aB (fn:=Tryz.f74) Tryz.func74 (by kernel_rfl) (by kernel_rfl) (by kernel_rfl) (by kernel_rfl) (by kernel_rfl) (by kernel_rfl) (Λ:=fun _ _=>none) ?_ ?_
 ·exact fun _ _ _ _ _ _ _ _ h=>by cases h
 ·rintro ⟨r,d,⟨⟩⟩ hw hn
  exact vr r d (hn _ List.mem_cons_self)
theorem xd (r:Rules) (d:Delivery) (hk:pR (af r d)) :(evPat (aY [lK,jS] Tryz.f75) (fun _=>none) Tryz.f75 qRD aU (r,d,())).sat fun z_=>z_ =(ki (r,d,())).2:=by
 refine cast (by kernel_rfl) (?_ :((!(af r d).8)=true→(ByteArray.mk #[],()) =(cM r d,()))∧((!(af r d).8)=false→cV (af r d).1∧(cP (af r d).1,()) =(cM r d,())))
 refine ⟨fun h=>?_,fun h=>⟨hk.2.1,?_⟩⟩ <;>(unfold cM;cases hf :(af r d).Faced <;> first|rfl |(rw [hf] at h;cases h))
def uK:FuncId×Ctr:=(75,ai KE qRD aU ki)
theorem zi:CtrOK Tryz.prog KE 75 (ai KE qRD aU ki):=by
 refine a7 (C:=aY [lK,jS] Tryz.f75) (aX (.consU qT rfl (.consU oH rfl .nil)) _) aB (fn:=Tryz.f75) Tryz.func75 (by kernel_rfl) (by kernel_rfl) (by kernel_rfl) (by kernel_rfl) (by kernel_rfl) (by kernel_rfl) (Λ:=fun _ _=>none) ?_ ?_
 ·exact fun _ _ _ _ _ _ _ _ h=>by cases h
 ·rintro ⟨r,d,⟨⟩⟩ hw hn
  exact xd r d (hn _ List.mem_cons_self)
theorem oW (r:Rules) (d:Delivery) (hk:pR (af r d)) :(evPat (aY [lM,ig] Tryz.f76) (fun _=>none) Tryz.f76 qRD aU (r,d,())).sat fun z_=>z_ =(ki (r,d,())).2:=by
 refine cast (by kernel_rfl) (?_ :((!(af r d).8)=true→(ByteArray.mk #[],()) =(cM r d,()))∧((!(af r d).8)=false→cV (af r d).1∧(cP (af r d).1,()) =(cM r d,())))
 refine ⟨fun h=>?_,fun h=>⟨hk.2.1,?_⟩⟩ <;>(unfold cM;cases hf :(af r d).Faced <;> first|rfl |(rw [hf] at h;cases h))
def lL:FuncId×Ctr:=(76,ai KE qRD aU ki)
theorem pW:CtrOK Tryz.prog KE 76 (ai KE qRD aU ki):=by
 refine a7 (C:=aY [lM,ig] Tryz.f76) (aX (.consU qU rfl (.consU mY rfl .nil)) _) aB (fn:=Tryz.f76) Tryz.func76 (by kernel_rfl) (by kernel_rfl) (by kernel_rfl) (by kernel_rfl) (by kernel_rfl) (by kernel_rfl) (Λ:=fun _ _=>none) ?_ ?_
 ·exact fun _ _ _ _ _ _ _ _ h=>by cases h
 ·rintro ⟨r,d,⟨⟩⟩ hw hn
  exact oW r d (hn _ List.mem_cons_self)
theorem BB (r:Rules) (d:Delivery) :(evPat (aY [lJ,uJ,qE] Tryz.f29) (fun _=>none) Tryz.f29 qRD lZ (r,d,())).sat fun z_=>z_ =(ke (r,d,())).2:=by
 refine cast (by kernel_rfl) (?_:let r1:boxbook_entry:=boxbook_entry.mk (if (d.1 ==(2:Int))=true then (119:Int) else if (d.1 ==(3:Int))=true then (110:Int) else (0:Int)) (af r d).6 (af r d).4 (af r d).5 (if (af r d).9=true then (87:Int) else if (d.7 !=(0:Int))=true then (82:Int) else (0:Int));((aC r d !=(0:Int))=true→(ByteArray.mk #[],aC r d,()) =(if (aC r d !=(0:Int))=true then ByteArray.mk #[] else kp r d,aC r d,()))∧((aC r d !=(0:Int))=false→Cp r1∧(vA r1,(0:Int),()) =(if (aC r d !=(0:Int))=true then ByteArray.mk #[] else kp r d,aC r d,())))
 intro r1
 clear_value (hr1:r1=_)
 have e1:r1=cT r d:=hr1
 refine ⟨fun h=>by rw [h];rfl,fun h=>⟨by rw [e1];exact yY (jO h),?_⟩⟩
 have h0:aC r d=0:=by simpa using h
 rw [e1,h0];rfl
def AW:FuncId×Ctr:=(29,ai KE qRD lZ ke)
theorem CP:CtrOK Tryz.prog KE 29 (ai KE qRD lZ ke):=by
 refine a7 (C:=aY [lJ,uJ,qE] Tryz.f29) (aX (.consU qS rfl (.consU zh rfl (.consU wH rfl .nil))) _) aB (fn:=Tryz.f29) Tryz.func29 (by kernel_rfl) (by kernel_rfl) (by kernel_rfl) (by kernel_rfl) (by kernel_rfl) (by kernel_rfl) (Λ:=fun _ _=>none) ?_ ?_
 ·exact fun _ _ _ _ _ _ _ _ h=>by cases h
 ·rintro ⟨r,d,⟨⟩⟩ hw hn
  exact BB r d
theorem zr (r:Rules) (d:Delivery) :(evPat (aY [jT,qG] Tryz.f30) (fun _=>none) Tryz.f30 qRD lZ (r,d,())).sat fun z_=>z_ =(ke (r,d,())).2:=by
 refine cast (by kernel_rfl) (?_ :((aC r d !=(0:Int))=true→(ByteArray.mk #[],aC r d,()) =(if (aC r d !=(0:Int))=true then ByteArray.mk #[] else kp r d,aC r d,()))∧((aC r d !=(0:Int))=false→pR (af r d)∧(kp r d,(0:Int),()) =(if (aC r d !=(0:Int))=true then ByteArray.mk #[] else kp r d,aC r d,())))
 refine ⟨fun h=>by rw [h];rfl,fun h=>⟨jO h,?_⟩⟩
 have h0:aC r d=0:=by simpa using h
 rw [h0];rfl
def xU:FuncId×Ctr:=(30,ai KE qRD lZ ke)
theorem Bh:CtrOK Tryz.prog KE 30 (ai KE qRD lZ ke):=by
 refine a7 (C:=aY [jT,qG] Tryz.f30) (aX (.consU oI rfl (.consU wJ rfl .nil)) _) aB (fn:=Tryz.f30) Tryz.func30 (by kernel_rfl) (by kernel_rfl) (by kernel_rfl) (by kernel_rfl) (by kernel_rfl) (by kernel_rfl) (Λ:=fun _ _=>none) ?_ ?_
 ·exact fun _ _ _ _ _ _ _ _ h=>by cases h
 ·rintro ⟨r,d,⟨⟩⟩ hw hn
  exact zr r d
theorem vo (r:Rules) (d:Delivery) :(evPat (aY [lJ,uK] Tryz.f31) (fun _=>none) Tryz.f31 qRD lZ (r,d,())).sat fun z_=>z_ =(kg (r,d,())).2:=by
 refine cast (by kernel_rfl) (?_ :((aC r d !=(0:Int))=true→(ByteArray.mk #[],aC r d,()) =(if (aC r d !=(0:Int))=true then ByteArray.mk #[] else cM r d,aC r d,()))∧((aC r d !=(0:Int))=false→pR (af r d)∧(cM r d,(0:Int),()) =(if (aC r d !=(0:Int))=true then ByteArray.mk #[] else cM r d,aC r d,())))
 refine ⟨fun h=>by rw [h];rfl,fun h=>⟨jO h,?_⟩⟩
 have h0:aC r d=0:=by simpa using h
 rw [h0];rfl
def qB:FuncId×Ctr:=(31,ai KE qRD lZ kg)
theorem wG:CtrOK Tryz.prog KE 31 (ai KE qRD lZ kg):=by
 refine a7 (C:=aY [lJ,uK] Tryz.f31) (aX (.consU qS rfl (.consU zi rfl .nil)) _) aB (fn:=Tryz.f31) Tryz.func31 (by kernel_rfl) (by kernel_rfl) (by kernel_rfl) (by kernel_rfl) (by kernel_rfl) (by kernel_rfl) (Λ:=fun _ _=>none) ?_ ?_
 ·exact fun _ _ _ _ _ _ _ _ h=>by cases h
 ·rintro ⟨r,d,⟨⟩⟩ hw hn
  exact vo r d
theorem s7 (r:Rules) (d:Delivery) :(evPat (aY [jT,lL] Tryz.f32) (fun _=>none) Tryz.f32 qRD lZ (r,d,())).sat fun z_=>z_ =(kg (r,d,())).2:=by
 refine cast (by kernel_rfl) (?_ :((aC r d !=(0:Int))=true→(ByteArray.mk #[],aC r d,()) =(if (aC r d !=(0:Int))=true then ByteArray.mk #[] else cM r d,aC r d,()))∧((aC r d !=(0:Int))=false→pR (af r d)∧(cM r d,(0:Int),()) =(if (aC r d !=(0:Int))=true then ByteArray.mk #[] else cM r d,aC r d,())))
 refine ⟨fun h=>by rw [h];rfl,fun h=>⟨jO h,?_⟩⟩
 have h0:aC r d=0:=by simpa using h
 rw [h0];rfl
def ov:FuncId×Ctr:=(32,ai KE qRD lZ kg)
theorem uX:CtrOK Tryz.prog KE 32 (ai KE qRD lZ kg):=by
 refine a7 (C:=aY [jT,lL] Tryz.f32) (aX (.consU oI rfl (.consU pW rfl .nil)) _) aB (fn:=Tryz.f32) Tryz.func32 (by kernel_rfl) (by kernel_rfl) (by kernel_rfl) (by kernel_rfl) (by kernel_rfl) (by kernel_rfl) (Λ:=fun _ _=>none) ?_ ?_
 ·exact fun _ _ _ _ _ _ _ _ h=>by cases h
 ·rintro ⟨r,d,⟨⟩⟩ hw hn
  exact s7 r d
end Go.Proofs.YtkajjbambnpbiaaGreatDoor
namespace Go.Mir
open Go.RowKit
inductive Rn (γ:Type) where
 | ok (r:γ)
 | no (w:List Nat)
inductive Tri (α:Type) where
 | lf
 | nd (l:Tri α) (v:Option α) (r:Tri α)
def Tri.get {α:Type} (t:Tri α):Nat→Option α:=
 match t with
 | .lf=>fun _=>none
 | .nd l v r=>fun k=>Nat.casesOn (motive:=fun _=>Option α) k v fun k=>Bool.casesOn (motive:=fun _=>Option α) (Nat.beq (Nat.mod k 2) 0) (r.get (Nat.div k 2)) (l.get (Nat.div k 2))
def Tri.inL {α γ:Type} (κ:Tri α→Rn γ) (w:Option α) (r l:Tri α):Rn γ:=κ (.nd l w r)
def Tri.inR {α γ:Type} (κ:Tri α→Rn γ) (l:Tri α) (w:Option α) (r:Tri α):Rn γ:=κ (.nd l w r)
def Tri.setK {α γ:Type} (f:Nat):Tri α→Nat→α→(Tri α→Rn γ)→Rn γ:=
 match f with
 | 0=>fun _ _ _ _=> .no [1]
 | f+1=>fun t=>Tri.casesOn (motive:=fun _=>Nat→α→(Tri α→Rn γ)→Rn γ) t
  (fun k v κ=>Nat.casesOn (motive:=fun _=>Rn γ) k (κ (.nd .lf (some v) .lf)) fun k=>Bool.casesOn (motive:=fun _=>Rn γ) (Nat.beq (Nat.mod k 2) 0) (Tri.setK f .lf (Nat.div k 2) v (Tri.inR κ .lf none)) (Tri.setK f .lf (Nat.div k 2) v (Tri.inL κ none .lf)))
  (fun l w r k v κ=>Nat.casesOn (motive:=fun _=>Rn γ) k (κ (.nd l (some v) r)) fun k=>Bool.casesOn (motive:=fun _=>Rn γ) (Nat.beq (Nat.mod k 2) 0) (Tri.setK f r (Nat.div k 2) v (Tri.inR κ l w)) (Tri.setK f l (Nat.div k 2) v (Tri.inL κ w r)))
def bQ {γ:Type} (n:Nat) (κ:Nat→Rn γ):Rn γ:=Nat.casesOn (motive:=fun _=>Rn γ) n (κ 0) fun m=>κ (Nat.succ m)
def Ez {γ:Type} (n:Int) (κ:Int→Rn γ):Rn γ:=Int.casesOn (motive:=fun _=>Rn γ) n (fun m=>bQ m fun m=>κ (.ofNat m)) fun m=>bQ m fun m=>κ (.negSucc m)
def Av {γ:Type} (b:Bool) (κ:Bool→Rn γ):Rn γ:=Bool.casesOn (motive:=fun _=>Rn γ) b (κ false) (κ true)
def xE {γ:Type}:List UInt8→(List UInt8→Rn γ)→Rn γ
 | [],κ=>κ []
 | b::r,κ=>bQ b.toNat fun n=>xE r fun r=>κ (UInt8.ofNat n::r)
def EA {γ:Type} (s:ByteArray) (κ:ByteArray→Rn γ):Rn γ:=xE s.data.toList fun l=>κ ⟨⟨l⟩⟩
def Ha {γ:Type} (k:IntKind) (n:Int) (κ:V→Rn γ):Rn γ:=Ez n fun n=>κ (.int k n)
def G9 {γ:Type} (h v e o l:Nat) (κ:V→Rn γ):Rn γ:=bQ h fun h=>bQ v fun v=>bQ e fun e=>bQ o fun o=>bQ l fun l=>κ (.gsl h v e o l)
def fGp {γ:Type} (h v o:Nat) (κ:V→Rn γ):Rn γ:=bQ h fun h=>bQ v fun v=>bQ o fun o=>κ (.gp h v o)
def Hb {γ:Type} (h o:Nat) (κ:V→Rn γ):Rn γ:=bQ h fun h=>bQ o fun o=>κ (.ptr h o)
def Hc {γ:Type} (s:ByteArray) (κ:V→Rn γ):Rn γ:=EA s fun s=>κ (.str s)
def G8 {γ:Type} (t:Ty) (xs:List (Den t)) (κ:V→Rn γ):Rn γ:=match xs with
 | []=>κ (.fsl t [])
 | _::_=> .no [2]
mutual
def ob {γ:Type}:V→(V→Rn γ)→Rn γ
 | .any,κ=>κ .any
 | .int k n,κ=>Ha k n κ
 | .bool b,κ=>Av b fun b=>κ (.bool b)
 | .kb b,κ=>Av b fun b=>κ (.kb b)
 | .hint _ _,_=> .no [2]
 | .str s,κ=>Hc s κ
 | .nilptr,κ=>κ .nilptr
 | .ptr h o,κ=>Hb h o κ
 | .fp _ _ _ _,_=> .no [2]
 | .rp _ _ _ _,_=> .no [2]
 | .nilsl,κ=>κ .nilsl
 | .esl,κ=>κ .esl
 | .osl _ _,_=> .no [2]
 | .fsl t xs,κ=>G8 t xs κ
 | .gsl h v e o l,κ=>G9 h v e o l κ
 | .gp h v o,κ=>fGp h v o κ
 | .mpv h,κ=>bQ h fun h=>κ (.mpv h)
 | .nilfn,κ=>κ .nilfn
 | .nilmap,κ=>κ .nilmap
 | .fn f cs,κ=>bQ f fun f=>hY cs fun cs=>κ (.fn f cs)
 | .agg cs,κ=>hY cs fun cs=>κ (.agg cs)
 | .tup cs,κ=>hY cs fun cs=>κ (.tup cs)
def hY {γ:Type}:List V→(List V→Rn γ)→Rn γ
 | [],κ=>κ []
 | v::vs,κ=>ob v fun v=>hY vs fun vs=>κ (v::vs)
end
def xF {γ:Type}:List (V×V)→(List (V×V)→Rn γ)→Rn γ
 | [],κ=>κ []
 |(a,b)::r,κ=>ob a fun a=>ob b fun b=>xF r fun r=>κ ((a,b)::r)
def Aw {γ:Type}:Blk→(Blk→Rn γ)→Rn γ
 | .cells cs,κ=>hY cs fun cs=>κ (.cells cs)
 | .grow v e cs,κ=>bQ v fun v=>bQ e fun e=>hY cs fun cs=>κ (.grow v e cs)
 | .mp es,κ=>xF es fun es=>κ (.mp es)
 | .row _ _ _ _,_=> .no [2]
def DM {γ:Type}:List (Nat×Blk)→Tri Blk→(Tri Blk→Rn γ)→Rn γ
 | [],t,κ=>κ t
 |(h,b)::r,t,κ=>DM r t fun t=>bQ h fun h=>Aw b fun b=>Tri.setK 64 t h b κ
def IntKind.eqb (a b:IntKind):Bool:=decide (a=b)
mutual
def V.eqb:V→V→Bool
 | .any,.any=>true
 | .int k n,.int k' n'=>decide (k=k')&&decide (n=n')
 | .bool a,.bool b=>decide (a=b)
 | .kb a,.kb b=>decide (a=b)
 | .str s,.str t=>decide (s.data.toList=t.data.toList)
 | .nilptr,.nilptr=>true
 | .ptr h o,.ptr h' o'=>Nat.beq h h'&&Nat.beq o o'
 | .nilsl,.nilsl=>true
 | .esl,.esl=>true
 | .gsl h v e o l,.gsl h' v' e' o' l'=>Nat.beq h h'&&Nat.beq v v'&&Nat.beq e e'&&Nat.beq o o'&&Nat.beq l l'
 | .gp h v o,.gp h' v' o'=>Nat.beq h h'&&Nat.beq v v'&&Nat.beq o o'
 | .mpv h,.mpv h'=>Nat.beq h h'
 | .nilfn,.nilfn=>true
 | .nilmap,.nilmap=>true
 | .fn f cs,.fn f' cs'=>Nat.beq f f'&&uh cs cs'
 | .agg cs,.agg cs'=>uh cs cs'
 | .tup cs,.tup cs'=>uh cs cs'
 | _,_=>false
def uh:List V→List V→Bool
 | [],[]=>true
 | x::xs,y::ys=>V.eqb x y&&uh xs ys
 | _,_=>false
end
mutual
theorem V.eqb_eq :∀ (x y:V),V.eqb x y=true→x=y
 | .any,y,h=>by cases y <;> simp_all [V.eqb]
 | .int k n,y,h=>by cases y <;> simp_all [V.eqb]
 | .bool _,y,h=>by cases y <;> simp_all [V.eqb]
 | .kb _,y,h=>by cases y <;> simp_all [V.eqb]
 | .hint _ _,y,h=>by cases y <;> simp [V.eqb] at h
 | .str s,y,h=>by
  cases y <;> simp only [V.eqb,Bool.false_eq_true,decide_eq_true_eq] at h
  rename_i t
  have:s=t:=ByteArray.ext (Array.toList_inj.1 h)
  rw [this]
 | .nilptr,y,h=>by cases y <;> simp_all [V.eqb]
 | .ptr _ _,y,h=>by cases y <;> simp_all [V.eqb]
 | .fp _ _ _ _,y,h=>by cases y <;> simp [V.eqb] at h
 | .rp _ _ _ _,y,h=>by cases y <;> simp [V.eqb] at h
 | .nilsl,y,h=>by cases y <;> simp_all [V.eqb]
 | .esl,y,h=>by cases y <;> simp_all [V.eqb]
 | .osl _ _,y,h=>by cases y <;> simp [V.eqb] at h
 | .fsl _ _,y,h=>by cases y <;> simp [V.eqb] at h
 | .gsl _ _ _ _ _,y,h=>by cases y <;> simp_all [V.eqb]
 | .gp _ _ _,y,h=>by cases y <;> simp_all [V.eqb]
 | .mpv _,y,h=>by cases y <;> simp_all [V.eqb]
 | .nilfn,y,h=>by cases y <;> simp_all [V.eqb]
 | .nilmap,y,h=>by cases y <;> simp_all [V.eqb]
 | .fn f cs,y,h=>by
  cases y <;> simp only [V.eqb,Bool.false_eq_true,Bool.and_eq_true,Nat.beq_eq] at h
  rw [h.1,nj _ _ h.2]
 | .agg cs,y,h=>by
  cases y <;> simp only [V.eqb,Bool.false_eq_true] at h
  rw [nj _ _ h]
 | .tup cs,y,h=>by
  cases y <;> simp only [V.eqb,Bool.false_eq_true] at h
  rw [nj _ _ h]
theorem nj :∀ (xs ys:List V),uh xs ys=true→xs=ys
 | [],[],_=>rfl
 | [],_::_,h=>by simp [uh] at h
 | _::_,[],h=>by simp [uh] at h
 | x::xs,y::ys,h=>by
  simp only [uh,Bool.and_eq_true] at h
  rw [V.eqb_eq _ _ h.1,nj _ _ h.2]
end
def yW:List (V×V)→List (V×V)→Bool
 | [],[]=>true
 |(a,b)::xs,(c,d)::ys=>V.eqb a c&&V.eqb b d&&yW xs ys
 | _,_=>false
theorem xC :∀ (xs ys:List (V×V)),yW xs ys=true→xs=ys
 | [],[],_=>rfl
 | [],_::_,h=>by simp [yW] at h
 | _::_,[],h=>by simp [yW] at h
 |(a,b)::xs,(c,d)::ys,h=>by
  simp only [yW,Bool.and_eq_true] at h
  rw [V.eqb_eq _ _ h.1.1,V.eqb_eq _ _ h.1.2,xC _ _ h.2]
end Go.Mir
namespace Go.Mir
open Go.RowKit
variable {P:Program}
def Ob.chk:Ob→Bool
 | .rng n len=>decide (0≤n)&&decide (n <(len:Int))
 | .sub l h len=>decide (0≤l)&&decide (l≤h)&&decide (h≤(len:Int))
 | .mk n c=>decide (0≤n)&&decide (c=n)&&decide (n≤17179869184)
 | .mkc n c=>decide (0≤n)&&decide (n≤c)&&decide (c≤17179869184)
 | .ne0 n=>!decide (n=0)
 | .leN a b=>Nat.ble a b
 | .prop _=>false
theorem Ob.chk_holds :∀ {p:Ob},p.chk=true→p.holds
 | .rng n len,h=>by simpa [Ob.chk,Ob.holds] using h
 | .sub l h len,hh=>by simp only [Ob.chk,Bool.and_eq_true,decide_eq_true_eq] at hh;exact ⟨hh.1.1,hh.1.2,hh.2⟩
 | .mk n c,h=>by simp only [Ob.chk,Bool.and_eq_true,decide_eq_true_eq] at h;exact ⟨h.1.1,h.1.2,h.2⟩
 | .mkc n c,h=>by simp only [Ob.chk,Bool.and_eq_true,decide_eq_true_eq] at h;exact ⟨h.1.1,h.1.2,h.2⟩
 | .ne0 n,h=>by simpa [Ob.chk,Ob.holds] using h
 | .leN a b,h=>Nat.le_of_ble_eq_true h
def DG (t:Tri V) (i:Nat):V:=Option.casesOn (motive:=fun _=>V) (t.get i) .any fun v=>v
def DI (t:Tri V):Operand→V
 | .tmp i=>DG t i
 | .const v=>cv v
 | .func f=> .fn f []
 | .global _=> .any
def ED (all:List Oper) (t:Tri V) (o:Oper):Option Bool:=
 match o.guard with
 | none=>some true
 | some (j,want)=>match all[j]? with
  | some oj=>match oj.dst with
   | some dj=>match DG t dj with
    | .kb b=>some (b==want)
    | .tup []=>some false
    | _=>none
   | none=>none
  | none=>none
def fW:V→V
 | .bool b=> .kb b
 | v=>v
def C7 {γ:Type} (d:Option Nat) (v:V) (t:Tri V) (κ:Tri V→Rn γ):Rn γ:=
 match d with
 | some d=>Tri.setK 64 t d (fW v) κ
 | none=>κ t
structure RS where
 tm:Tri V
 hp:Tri Blk
 nx:Nat
abbrev tP:=FuncId→List V→Tri Blk→Nat→Rn (V×Tri Blk×Nat)
def jz (r:Res):Option (List Ob×V×List (Nat×Blk)):=match r with
 | .val ps v dh=>some (ps,v,dh)
 | _=>none
abbrev R1:=Option (List Ob×V×List (Nat×Blk))
def w5 (tb:Tbl) (H:ao) (ev:Operand→V) (t:TypeId) (a x:Operand):R1:=match tb t with
 | some td=>match cp td H (ev a) (ev x) with
  | .skip ps dh=>some (ps,.tup [],dh)
  | _=>none
 | none=>none
def q8 (ev:Operand→V) (x:Operand):R1:=some ([],ev x,[])
def DJ (ev:Operand→V) (c a b:Operand):R1:=jz (mr (ev c) (ev a) (ev b))
def wY (tb:Tbl) (m:Nat) (t:TypeId):R1:=match tb t with|some td=>some ([],.ptr m 0,[(m,.cells td.zero)])|none=>none
def Fi (m:Nat) (ev:Operand→V) (x:Operand):R1:=match cellsOf (ev x) with|some cs=>some ([],.ptr m 0,[(m,.cells cs)])|none=>none
def wZ (tb:Tbl) (ev:Operand→V) (t:TypeId) (parts:Array (Nat×Operand)):R1:=match tb t with|some td=>jz (jM tb td (parts.toList.map fun p=>(p.1,ev p.2)))|none=>none
def jy (tb:Tbl) (m:Nat) (H:ao) (ev:Operand→V) (t:TypeId) (n:Nat) (parts:Array (Nat×Operand)):R1:=match tb t with|some td=>jz (cr tb td H m n (parts.toList.map fun p=>(p.1,ev p.2)))|none=>none
def Bt (tb:Tbl) (H:ao) (ev:Operand→V) (t:TypeId) (a:Operand):R1:=match tb t with|some td=>jz (dP td H (ev a))|none=>none
def Gr (ev:Operand→V) (x:Operand):R1:=jz (uo (ev x))
def Fh (tb:Tbl) (ev:Operand→V) (op:BinOp) (t:TypeId) (x y:Operand):R1:=match tb t with|some td=>jz (dX td op (ev x) (ev y))|none=>none
def rUn (ev:Operand→V) (op:UnOp) (x:Operand):R1:=jz (Ap op (ev x))
def Bq (tb:Tbl) (m:Nat) (ev:Operand→V) (s d:TypeId) (x:Operand):R1:=match tb s,tb d with|some ts,some td=>jz (nk tb ts td m (ev x))|_,_=>none
def bB:List V→Bool
 | []=>true
 | .ptr _ _::_=>true
 | _=>false
theorem wS {asz caps:List V} (h:bB caps=true):mu asz caps=some (asz++caps):=by
 cases caps with
 | nil=>simp [mu]
 | cons c cs=>cases c <;> simp only [bB,Bool.false_eq_true] at h;rfl
theorem wT {f:FuncId} {caps:List V} (h:bB caps=true):mo f [] caps = .val [] (.fn f caps) []:=by
 cases caps with
 | nil=>rfl
 | cons c cs=>cases c <;> simp only [bB,Bool.false_eq_true] at h;rfl
theorem Bn {E:Env} {f:FuncId} {caps:List V} {l:Array Value} (h:bB caps=true) (hl:ab E caps l.toList):fnV f l = .func (.func f) #[] l:=by
 obtain ⟨l⟩:=l
 cases caps with
 | nil=>cases l with
  | nil=>rfl
  | cons=>simp [ab] at hl
 | cons c cs=>
  cases c <;> simp only [bB,Bool.false_eq_true] at h
  cases l with
  | nil=>simp [ab] at hl
  | cons v vs=>
   simp only [ab,aa] at hl
   obtain ⟨⟨_,⟨a,rfl⟩,_⟩,_⟩:=hl
   rfl
def Br (ev:Operand→V) (fn:Fn) (first caps:Array Operand):R1:=match fn with
 | .func f=>jz (mo f (first.toList.map ev) (caps.toList.map ev))
 | _=>none
def Bu (tb:Tbl) (m:Nat) (H:ao) (ev:Operand→V) (t:TypeId) (l c:Operand):R1:=match tb t with|some td=>jz (fh tb td H m (ev l) (ev c))|none=>none
def w4 (tb:Tbl) (H:ao) (ev:Operand→V) (t:TypeId) (x:Operand) (lo hi mx:Option Operand):R1:=match tb t with|some td=>jz (dQ tb td H (ev x) (lo.map ev) (hi.map ev) (mx.map ev))|none=>none
def w2 (tb:Tbl) (ev:Operand→V) (t:TypeId) (x:Operand) (f:Nat):R1:=match tb t with|some td=>jz (gE tb td (ev x) f)|none=>none
def sW (tb:Tbl) (ev:Operand→V) (t:TypeId) (x:Operand) (f:Nat):R1:=match tb t with|some td=>jz (fB tb td (ev x) f)|none=>none
def w3 (tb:Tbl) (H:ao) (ev:Operand→V) (t:TypeId) (x i:Operand):R1:=match tb t with|some td=>jz (cF tb td H (ev x) (ev i))|none=>none
def Bs (tb:Tbl) (ev:Operand→V) (t:TypeId) (x i:Operand):R1:=match tb t with|some td=>jz (je tb td (ev x) (ev i))|none=>none
def vg (ev:Operand→V) (t:Operand) (i:Nat):R1:=jz (jN (ev t) i)
theorem zy {td:TD} {H:ao} {a x:V} {ps:List Ob} {dh:List (Nat×Blk)} (h:cp td H a x = .skip ps dh):dR td H a x = .skip ps dh:=by
 unfold dR
 split
 ·rw [h]
 ·exact h
def nQ (tb:Tbl) (N m:Nat) (H:ao) (ev:Operand→V) (op:Op):R1:=match op with
 | .store t a x=>w5 tb H ev t a x
 | .move x=>q8 ev x
 | .assign x=>q8 ev x
 | .pick c a b=>DJ ev c a b
 | .alloc t=>wY tb m t
 | .box _ x=>Fi m ev x
 | .build t parts=>wZ tb ev t parts
 | .buildSlice t n parts=>jy tb m H ev t n parts
 | .load t a=>Bt tb H ev t a
 | .nilCheck x=>Gr ev x
 | .binOp op t x y _=>Fh tb ev op t x y
 | .unOp op _ x=>rUn ev op x
 | .convert s d x=>Bq tb m ev s d x
 | .makeFunc fn first caps=>Br ev fn first caps
 | .makeSlice t l c=>Bu tb m H ev t l c
 | .slice t x lo hi mx=>w4 tb H ev t x lo hi mx
 | .fieldAddr t x f=>w2 tb ev t x f
 | .field t x f=>sW tb ev t x f
 | .indexAddr t x i=>w3 tb H ev t x i
 | .index t x i=>Bs tb ev t x i
 | .extract t i=>vg ev t i
 | op=>aw ⟨tb,fun _=>none,1,N⟩ m H ev op
theorem mm (tb:Tbl) (N m:Nat) (H:ao) (ev:Operand→V) (op:Op) {q:List Ob×V×List (Nat×Blk)} (h:nQ tb N m H ev op=some q):aw ⟨tb,fun _=>none,1,N⟩ m H ev op=some q:=by
 have key :∀ {r:Res},jz r=some q→(match r with | .val ps v dh=>some (ps,v,dh)|_=>none:R1)=some q:=fun {r} h=>by cases r <;> first|exact h|cases h
 cases op <;> simp only [nQ] at h <;> simp only [aw,bC,bs]
 case store t a x=>simp only [w5] at h;cases ht:tb t <;> rw [ht] at h <;> simp only [reduceCtorEq] at h ⊢;cases hs:cp _ H (ev a) (ev x) <;> rw [hs] at h <;> simp only [reduceCtorEq] at h ⊢;rw [zy hs];exact h
 case move=>simpa [q8] using h
 case assign=>simpa [q8] using h
 case pick=>exact key h
 case alloc t=>simp only [wY] at h;cases ht:tb t <;> rw [ht] at h <;> simp only [reduceCtorEq] at h ⊢;exact h
 case box t x=>simp only [Fi] at h;cases ht:cellsOf (ev x) <;> rw [ht] at h <;> simp only [reduceCtorEq] at h ⊢;exact h
 case build t parts=>simp only [wZ] at h;cases ht:tb t <;> rw [ht] at h <;> simp only [reduceCtorEq] at h ⊢;exact key h
 case buildSlice t n parts=>simp only [jy] at h;cases ht:tb t <;> rw [ht] at h <;> simp only [reduceCtorEq] at h ⊢;exact key h
 case load t a=>simp only [Bt] at h;cases ht:tb t <;> rw [ht] at h <;> simp only [reduceCtorEq] at h ⊢;exact key h
 case nilCheck=>exact key h
 case binOp o t x y t2=>simp only [Fh] at h;cases ht:tb t <;> rw [ht] at h <;> simp only [reduceCtorEq] at h ⊢;exact key h
 case unOp=>exact key h
 case convert s d x=>
  simp only [Bq] at h
  cases ht:tb s with
  | none=>rw [ht] at h;cases h
  | some ts=>
   rw [ht] at h
   cases ht2:tb d with
   | none=>rw [ht2] at h;cases h
   | some td=>rw [ht2] at h;exact key h
 case makeFunc fn first caps=>
  cases fn <;> simp only [Br,reduceCtorEq] at h
  exact key h
 case makeSlice t l c=>simp only [Bu] at h;cases ht:tb t <;> rw [ht] at h <;> simp only [reduceCtorEq] at h ⊢;exact key h
 case slice t x lo hi mx=>simp only [w4] at h;cases ht:tb t <;> rw [ht] at h <;> simp only [reduceCtorEq] at h ⊢;exact key h
 case fieldAddr t x f=>simp only [w2] at h;cases ht:tb t <;> rw [ht] at h <;> simp only [reduceCtorEq] at h ⊢;exact key h
 case field t x f=>simp only [sW] at h;cases ht:tb t <;> rw [ht] at h <;> simp only [reduceCtorEq] at h ⊢;exact key h
 case indexAddr t x i=>simp only [w3] at h;cases ht:tb t <;> rw [ht] at h <;> simp only [reduceCtorEq] at h ⊢;exact key h
 case index t x i=>simp only [Bs] at h;cases ht:tb t <;> rw [ht] at h <;> simp only [reduceCtorEq] at h ⊢;exact key h
 case extract=>exact key h
 all_goals (simp only [aw,bC,bs] at h;exact h)
inductive Act1 where
 | plain (r:R1)
 | call (g:FuncId) (args:List V)
def Ad (tb:Tbl) (N m:Nat) (H:ao) (ev:Operand→V) (c:Call):Act1:=match c.callee with
 | .value f=>match ev f with
  | .fn g caps=>bif bB caps then .call g (c.args.toList.map ev++caps) else .plain none
  | _=> .plain none
 | _=> .plain (aw ⟨tb,fun _=>none,1,N⟩ m H ev (.call c))
def evA (tb:Tbl) (N m:Nat) (H:ao) (ev:Operand→V) (op:Op):Act1:=match op with
 | .call c=>Ad tb N m H ev c
 | .store t a x=> .plain (w5 tb H ev t a x)
 | .move x=> .plain (q8 ev x)
 | .assign x=> .plain (q8 ev x)
 | .pick c a b=> .plain (DJ ev c a b)
 | .alloc t=> .plain (wY tb m t)
 | .box _ x=> .plain (Fi m ev x)
 | .build t parts=> .plain (wZ tb ev t parts)
 | .buildSlice t n parts=> .plain (jy tb m H ev t n parts)
 | .load t a=> .plain (Bt tb H ev t a)
 | .nilCheck x=> .plain (Gr ev x)
 | .binOp op t x y _=> .plain (Fh tb ev op t x y)
 | .unOp op _ x=> .plain (rUn ev op x)
 | .convert s d x=> .plain (Bq tb m ev s d x)
 | .makeFunc fn first caps=> .plain (Br ev fn first caps)
 | .makeSlice t l c=> .plain (Bu tb m H ev t l c)
 | .slice t x lo hi mx=> .plain (w4 tb H ev t x lo hi mx)
 | .fieldAddr t x f=> .plain (w2 tb ev t x f)
 | .field t x f=> .plain (sW tb ev t x f)
 | .indexAddr t x i=> .plain (w3 tb H ev t x i)
 | .index t x i=> .plain (Bs tb ev t x i)
 | .extract t i=> .plain (vg ev t i)
 | op=> .plain (aw ⟨tb,fun _=>none,1,N⟩ m H ev op)
theorem yX (tb:Tbl) (N m:Nat) (H:ao) (ev:Operand→V) (op:Op) {q:List Ob×V×List (Nat×Blk)} (h:evA tb N m H ev op = .plain (some q)):aw ⟨tb,fun _=>none,1,N⟩ m H ev op=some q:=by
 cases op
 case call c=>
  simp only [evA,Ad] at h
  split at h
  ·split at h
   ·rename_i caps _
    cases hb:bB caps with
    | true=>rw [hb] at h;cases h
    | false=>rw [hb] at h;cases h
   ·cases h
  ·exact Act1.plain.inj h
 all_goals (exact mm tb N m H ev _ (Act1.plain.inj h))
theorem Ao (tb:Tbl) (N m:Nat) (H:ao) (ev:Operand→V) (op:Op) {g:FuncId} {args:List V} (h:evA tb N m H ev op = .call g args) :∃ c f caps,op = .call c∧c.callee = .value f∧ev f = .fn g caps∧args=c.args.toList.map ev++caps∧bB caps=true:=by
 cases op
 case call c=>
  simp only [evA,Ad] at h
  split at h
  ·rename_i f hf
   split at h
   ·rename_i g' caps he
    cases hb:bB caps with
    | false=>rw [hb] at h;cases h
    | true=>
     rw [hb] at h
     cases h
     exact ⟨c,f,caps,rfl,hf,he,rfl,hb⟩
   ·cases h
  ·cases h
 all_goals (cases h)
def Hd (d:Option Nat) (v:V) (dh:List (Nat×Blk)) (tm:Tri V) (hp:Tri Blk) (nx:Nat) (κ:Tri V→Tri Blk→Nat→Rn RS):Rn RS:=
 List.casesOn (motive:=fun _=>Rn RS) dh (ob v fun v=>C7 d v tm fun tm=>bQ nx fun nx=>κ tm hp nx)
  fun _ _=>ob v fun v=>DM dh hp fun hp=>C7 d v tm fun tm=>bQ nx fun nx=>κ tm hp nx
def Eh (r:Rn (V×Tri Blk×Nat)) (g:FuncId) (d:Option Nat) (tm:Tri V) (κ:Tri V→Tri Blk→Nat→Rn RS):Rn RS:=match r with
 | .ok (v,hp,nx)=>C7 d v tm fun tm=>κ tm hp nx
 | .no w=> .no (g::w)
def Bd (ps:List Ob):Bool:=List.casesOn (motive:=fun _=>Bool) ps true fun _ _=>ps.all Ob.chk
def Ff (r:R1) (d:Option Nat) (tm:Tri V) (hp:Tri Blk) (nx:Nat) (κ:Tri V→Tri Blk→Nat→Rn RS):Rn RS:=match r with
 | some (ps,v,dh)=>Bool.casesOn (motive:=fun _=>Rn RS) (Bd ps) (.no [100]) (Hd d v dh tm hp (Nat.succ nx) κ)
 | none=> .no [101]
def doR (call:tP) (a:Act1) (d:Option Nat) (tm:Tri V) (hp:Tri Blk) (nx:Nat) (κ:Tri V→Tri Blk→Nat→Rn RS):Rn RS:=match a with
 | .call g args=>bQ g fun g=>hY args fun args=>Eh (call g args hp nx) g d tm κ
 | .plain r=>Ff r d tm hp nx κ
def js (tb:Tbl) (N:Nat) (call:tP) (all:List Oper) (o:Oper) (tm:Tri V) (hp:Tri Blk) (nx:Nat) (κ:Tri V→Tri Blk→Nat→Rn RS):Rn RS:=match o.guard with
 | none=>doR call (evA tb N nx hp.get (DI tm) o.op) o.dst tm hp nx κ
 | some _=>match ED all tm o with
  | some true=>doR call (evA tb N nx hp.get (DI tm) o.op) o.dst tm hp nx κ
  | some false=>C7 o.dst (.tup []) tm fun tm=>κ tm hp nx
  | none=> .no [102]
def Ak (N:Nat) (ops:List Oper):Bool:=ops.all fun o=>dstIn N o.dst
end Go.Mir
