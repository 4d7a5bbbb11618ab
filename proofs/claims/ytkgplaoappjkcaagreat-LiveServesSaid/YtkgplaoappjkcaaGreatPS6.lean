/- Texts of the mirror and contracts, put together. -/
import Derived.Test.YtkgplaoappjkcaaGreatPS5
import Derived.Test.YtkgplaoappjkcaaGreatPS4
import Derived.Shelf.Small.Strs
import Derived.Test.YtkgplaoappjkcaaGreatPS3
namespace Go.Proofs.YtkgplaoappjkcaaGreat
open Go Go.Mir
attribute [local irreducible] Go.Mir.DT.sat Go.Mir.evPat Go.Mir.RT.sat Go.Mir.evFn
abbrev qRI:Pat:=cg [.nm .Rules,.nm .Innings]
def vq (r:Rules) (x:Innings):Bool:=r.Overs==0&&x.Overs==0||r.Overs != 0&&inW x.Overs 1 r.Overs
def p0 (r:Rules) (x:Innings):Bool:=(x.Batters.length:Int)==r.Side&&((x.Bowled.length:Int)==r.Side&&(x.Subs.length:Int)==r.Side)
def wq (x:Innings):List Int:= [x.Target,x.Runs,x.Extras.Wides,x.Extras.NoBalls,x.Extras.Byes,x.Extras.LegByes,x.Extras.Penalties,x.Complete,x.BallAge,x.Outside,x.Reviews.1,x.Reviews.2.1]
def aZ (r:Rules) (x:Innings):Bool:=
 ar r==0&&(inW x.Side 1 2&&(p0 r x&&(decide (x.Ending≤5)&&(ma x r.Side&&(inW x.Bowler 0 r.Side&&(inW x.Keeper 0 r.Side&&(cZ x.Bowlers r.Side&&(cZ x.Before r.Side&&(vq r x&&(inW x.InOver 0 (W (r.Balls - 1))&&pf x))))))))))
def rC:Den (tyP qRI)→List Prop×Den (tyP ax):=fun x=>([aj x.2.1],(aZ x.1 x.2.1,()))
def ol (r:Rules) (x:Innings):Int:=
 if !aZ r x then 0 else if decide (x.Target>0)&&decide (x.Runs≥x.Target) then 3 else if b9 x&&jl x then 1 else if decide (x.Overs>0)&&decide (x.Complete≥x.Overs) then 2 else 0
def IR:Den (tyP qRI)→List Prop×Den (tyP qH):=fun x=>([aj x.2.1],(ol x.1 x.2.1,()))
def qL (r:Rules) (x:Innings):Int:=W (W (x.Complete*r.Balls)+x.InOver)
def ro:Den (tyP qRI)→List Prop×Den (tyP be):=fun x=>([],(qL x.1 x.2.1,()))
def wR (x:Innings):Innings:={ x with Runs:=W (x.Runs+5),Extras:={ x.Extras with Penalties:=W (x.Extras.Penalties+5) } }
def yx:Den (tyP qIn)→List Prop×Den (tyP qIn):=fun x=>([aj x.1],(wR x.1,()))
def nZ:Den (tyP qIn)→List Prop×Den (tyP qIn):=fun x=>([aj x.1],(x.1,()))
def vp (r:Rules) (x:Innings):Bool:=!(r.Overs==0&&x.Overs != 0||decide (r.Overs>0)&&!inW x.Overs 1 r.Overs)
def FM (r:Rules) (x:Innings):Bool:=
 ar r==0&&(inW x.Side 1 2&&(p0 r x&&(decide (x.Ending≤5)&&(inW x.Striker 0 r.Side&&(inW x.Other 0 r.Side&&(inW x.Bowler 0 r.Side&&(inW x.Keeper 0 r.Side&&(cZ x.Bowlers r.Side&&(cZ x.Before r.Side&&(sF x&&(vp r x&&(inW x.InOver 0 (W (r.Balls - 1))&&(!d5 (wq x)&&!d5 x.Bowled)))))))))))))
abbrev gy:Pat:=cg [.nm .Rules,.nm .Innings,.nm .Event]
abbrev qIE:Pat:=cg [.nm .Innings,.nm .Event]
abbrev G4:Pat:=cg [.nm .Rules,.nm .Innings,I,I]
abbrev G3:Pat:=cg [.nm .Rules,.nm .Innings,I,.bool]
def i5 (r:Rules) (x:Innings) (e:Mir.Event):Int:=if e.Side != x.Side then 2 else if r.Overs != 0 then 20 else 0
def kg (r:Rules) (x:Innings) (e:Mir.Event):Innings:=if i5 r x e != 0 then x else { x with Ending:=4 }
def Le:Den (tyP gy)→List Prop×Den (tyP q2L):=fun x=>([aj x.2.1],(kg x.1 x.2.1 x.2.2.1,i5 x.1 x.2.1 x.2.2.1,()))
def kC (e:Mir.Event):Int:=if e.Runs != 5 then 23 else 0
def pw (x:Innings) (e:Mir.Event):Innings:=if kC e != 0 then x else if e.Side==x.Side then wR x else if x.Target>0 then { x with Target:=W (x.Target+5) } else x
def vP:Den (tyP qIE)→List Prop×Den (tyP q2L):=fun x=>([aj x.1],(pw x.1 x.2.1,kC x.2.1,()))
def CO (x:Innings) (s:Int):Int:=if s==1 then x.Reviews.1 else x.Reviews.2.1
def fj (r:Rules) (x:Innings) (s:Int):Int:=if !x.Fresh||decide (CO x s≥r.Reviews) then 24 else 0
def qo (x:Innings) (s:Int):Innings:={ x with Reviews:=if s==1 then (W (x.Reviews.1+1),x.Reviews.2.1,()) else (x.Reviews.1,W (x.Reviews.2.1+1),()) }
def ge (r:Rules) (x:Innings) (s:Int) (k:Bool):Innings:=if fj r x s != 0 then x else if k then x else qo x s
def gg (s:Int):Prop:=s=1∨s=2
def Az:Den (tyP gy)→List Prop×Den (tyP q2L):=fun x=>([aj x.2.1,gg x.2.2.1.Side],(ge x.1 x.2.1 x.2.2.1.Side x.2.2.1.Yes,fj x.1 x.2.1 x.2.2.1.Side,()))
def ry:Den (tyP G3)→List Prop×Den (tyP q2L):=fun x=>([gg x.2.2.1],(ge x.1 x.2.1 x.2.2.1 x.2.2.2.1,fj x.1 x.2.1 x.2.2.1,()))
def im (r:Rules) (x:Innings) (t o:Int):Bool:=
 r.Overs==0 ||(t==0&&o==0 ||(decide (t>0)&&(x.Target==0||decide (t≤x.Runs))||decide (o>0)&&(decide (o>r.Overs)||decide (W (o*r.Balls)<qL r x))))
def m0 (r:Rules) (x:Innings) (t o:Int):Int:=if im r x t o then 25 else 0
def La (x:Innings) (t:Int):Innings:=if t>0 then { x with Target:=t } else x
def Ng (x:Innings) (o:Int):Innings:=if o>0 then { x with Overs:=o } else x
def lJ (r:Rules) (x:Innings) (t o:Int):Innings:=if im r x t o then x else Ng (La x t) o
def AA:Den (tyP gy)→List Prop×Den (tyP q2L):=fun x=>([aj x.2.1],(lJ x.1 x.2.1 x.2.2.1.Runs x.2.2.1.Overs,m0 x.1 x.2.1 x.2.2.1.Runs x.2.2.1.Overs,()))
def rz:Den (tyP G4)→List Prop×Den (tyP q2L):=fun x=>([],(lJ x.1 x.2.1 x.2.2.1 x.2.2.2.1,m0 x.1 x.2.1 x.2.2.1 x.2.2.2.1,()))
theorem Im (x:Innings) (hs:aj x) :(evPat (ao [k45,k90,k91] Tryz.f54) (fun _=>none) Tryz.f54 qIn qIn (x,())).sat fun z_=>z_ =(nZ (x,())).2:=by
 refine cast (by kernel_rfl) (?_:x.11.length≤(1000000:Nat)∧x.13.length≤(1000000:Nat)∧x.14.length≤(1000000:Nat)∧x.16.length≤(1000000:Nat)∧x.21.length≤(1000000:Nat)∧(x,()) =(x,()))
 obtain ⟨h1,h2,h3,h4,h5⟩:=hs
 simp [h1,h2,h3,h4,h5]
def dJ:FuncId×Ctr:=(54,ae KE qIn qIn nZ)
theorem gZ:CtrOK Tryz.prog KE 54 (ae KE qIn qIn nZ):=by
 refine aq (C:=ao [k45,k90,k91] Tryz.f54) (al (.consU Mh rfl (.consU Mn rfl (.consU Mo rfl .nil))) _) mixed (fn:=Tryz.f54) Tryz.func54 (by kernel_rfl) (by kernel_rfl) (by kernel_rfl) (by kernel_rfl) (by kernel_rfl) (by kernel_rfl) (Λ:=fun _ _=>none) ?_ ?_
 ·exact fun _ _ _ _ _ _ _ _ h=>by cases h
 ·rintro ⟨x,⟨⟩⟩ hw hn
  exact Im x (hn _ List.mem_cons_self)
theorem Di (x:Innings) (hs:aj x) :(evPat (ao [k44] Tryz.f113) (fun _=>none) Tryz.f113 qIn qIn (x,())).sat fun z_=>z_ =(nZ (x,())).2:=by
 refine cast (by kernel_rfl) (?_:aj x∧(x,()) =(x,()))
 exact ⟨hs,rfl⟩
def kw:FuncId×Ctr:=(113,ae KE qIn qIn nZ)
theorem po:CtrOK Tryz.prog KE 113 (ae KE qIn qIn nZ):=by
 refine aq (C:=ao [k44] Tryz.f113) (al (.consU rg rfl .nil) _) mixed (fn:=Tryz.f113) Tryz.func113 (by kernel_rfl) (by kernel_rfl) (by kernel_rfl) (by kernel_rfl) (by kernel_rfl) (by kernel_rfl) (Λ:=fun _ _=>none) ?_ ?_
 ·exact fun _ _ _ _ _ _ _ _ h=>by cases h
 ·rintro ⟨x,⟨⟩⟩ hw hn
  exact Di x (hn _ List.mem_cons_self)
theorem Ip (r:Rules) (x:Innings) (hs:aj x) :(evPat (ao [k85,dg,xF,JK,xH] Tryz.f59) (fun _=>none) Tryz.f59 qRI ax (r,x,())).sat fun z_=>z_ =(rC (r,x,())).2:=by
 refine cast (by kernel_rfl) (?_:let r1:Bool:=inW x.8 (0:Int) (IntKind.i64.wrap (r.5 - (1:Int)));let r2:Bool:=bif r.4 !=(0:Int) then inW x.3 (1:Int) r.4 else false;let r3:Bool:=bif ar r !=(0:Int) then true else !inW x.1 (1:Int) (2:Int);let r4:Bool:=bif !ma x r.2 then true else bif !inW x.12 (0:Int) r.2 then true else bif !inW x.19 (0:Int) r.2 then true else bif !cZ x.13 r.2 then true else !cZ x.14 r.2;let r5:Bool:=bif (↑x.11.length:Int) != r.2 then true else bif (↑x.16.length:Int) != r.2 then true else bif (↑x.21.length:Int) != r.2 then true else decide (x.23 >(5:Int));let r6:Bool:=bif r.4 ==(0:Int) then bif x.3 ==(0:Int) then true else r2 else r2;(r3=true→(false,()) =(aZ r x,()))∧(r3=false→(r5=true→(false,()) =(aZ r x,()))∧(r5=false→(aj x∧((!ma x r.2)=true→True)∧((!ma x r.2)=false→((!inW x.12 (0:Int) r.2)=true→True)∧((!inW x.12 (0:Int) r.2)=false→((!inW x.19 (0:Int) r.2)=true→True)∧((!inW x.19 (0:Int) r.2)=false→((!cZ x.13 r.2)=true→True)∧((!cZ x.13 r.2)=false→True)))))∧(true=true→(r4=true→(false,()) =(aZ r x,()))∧(r4=false→((r6=true→(r1=true→aj x∧True)∧(r1=false→True))∧(r6=false→True))∧(true=true→(bif r6 then bif r1 then pf x else false else false,()) =(aZ r x,())))))))
 intro r1 r2 r3 r4 r5 r6
 clear_value (hr1:r1=_) (hr2:r2=_) (hr3:r3=_) (hr4:r4=_) (hr5:r5=_) (hr6:r6=_)
 have e3:r3=!(ar r==0&&inW x.Side 1 2):=by grind
 have e5:r5=!(p0 r x&&decide (x.Ending≤5)):=by
  have hd:decide (x.Ending>5)=!decide (x.Ending≤5):=by by_cases h:x.Ending≤5 <;> simp [h] <;> omega
  rw [hr5,hd]
  unfold p0
  cases h1 :(x.Batters.length:Int)==r.Side <;> cases h2 :(x.Bowled.length:Int)==r.Side <;> cases h3 :(x.Subs.length:Int)==r.Side <;> simp [bne,h1,h2,h3]
 have e4:r4=!(ma x r.Side&&(inW x.Bowler 0 r.Side&&(inW x.Keeper 0 r.Side&&(cZ x.Bowlers r.Side&&cZ x.Before r.Side)))):=by rw [hr4];cases ma x r.Side <;> cases inW x.Bowler 0 r.Side <;> cases inW x.Keeper 0 r.Side <;> cases cZ x.Bowlers r.Side <;> rfl
 have e6:r6=vq r x:=by grind [vq]
 have hv:aZ r x =(!r3&&(!r5&&(!r4&&(r6&&(r1&&pf x))))):=by rw [e3,e5,e4,e6,hr1];unfold aZ;simp only [Bool.not_not,Bool.and_assoc]
 rw [hv]
 cases r3 <;> cases r5 <;> cases r4 <;> cases r6 <;> cases r1 <;> simp [hs]
def pT:FuncId×Ctr:=(59,ae KE qRI ax rC)
theorem ve:CtrOK Tryz.prog KE 59 (ae KE qRI ax rC):=by
 refine aq (C:=ao [k85,dg,xF,JK,xH] Tryz.f59) (al (.consU zK rfl (.consU fB rfl (.consU Ek rfl (.consU MA rfl (.consU En rfl .nil))))) _) mixed (fn:=Tryz.f59) Tryz.func59 (by kernel_rfl) (by kernel_rfl) (by kernel_rfl) (by kernel_rfl) (by kernel_rfl) (by kernel_rfl) (Λ:=fun _ _=>none) ?_ ?_
 ·exact fun _ _ _ _ _ _ _ _ h=>by cases h
 ·rintro ⟨r,x,⟨⟩⟩ hw hn
  exact Ip r x (hn _ List.mem_cons_self)
theorem Ij (r:Rules) (x:Innings) :(evPat (ao [] Tryz.f172) (fun _=>none) Tryz.f172 qRI be (r,x,())).sat fun z_=>z_ =(ro (r,x,())).2:=by
 refine cast (by kernel_rfl) (?_ :(IntKind.i64.wrap (IntKind.i64.wrap (x.7*r.5)+x.8),()) =(qL r x,()))
 rfl
def Gc:FuncId×Ctr:=(172,ae KE qRI be ro)
theorem J9:CtrOK Tryz.prog KE 172 (ae KE qRI be ro):=by
 refine aq (C:=ao [] Tryz.f172) (al (CtrsOK.nil) _) mixed (fn:=Tryz.f172) Tryz.func172 (by kernel_rfl) (by kernel_rfl) (by kernel_rfl) (by kernel_rfl) (by kernel_rfl) (by kernel_rfl) (Λ:=fun _ _=>none) ?_ ?_
 ·exact fun _ _ _ _ _ _ _ _ h=>by cases h
 ·rintro ⟨r,x,⟨⟩⟩ hw hn
  exact Ij r x
theorem Dg (r:Rules) (x:Innings) :(evPat (ao [] Tryz.f218) (fun _=>none) Tryz.f218 qRI be (r,x,())).sat fun z_=>z_ =(ro (r,x,())).2:=by
 refine cast (by kernel_rfl) (?_ :(IntKind.i64.wrap (IntKind.i64.wrap (x.7*r.5)+x.8),()) =(qL r x,()))
 rfl
def xR:FuncId×Ctr:=(218,ae KE qRI be ro)
theorem Ez:CtrOK Tryz.prog KE 218 (ae KE qRI be ro):=by
 refine aq (C:=ao [] Tryz.f218) (al (CtrsOK.nil) _) mixed (fn:=Tryz.f218) Tryz.func218 (by kernel_rfl) (by kernel_rfl) (by kernel_rfl) (by kernel_rfl) (by kernel_rfl) (by kernel_rfl) (Λ:=fun _ _=>none) ?_ ?_
 ·exact fun _ _ _ _ _ _ _ _ h=>by cases h
 ·rintro ⟨r,x,⟨⟩⟩ hw hn
  exact Dg r x
theorem C1 (x:Innings) (hs:aj x) :(evPat (ao [dJ] Tryz.f112) (fun _=>none) Tryz.f112 qIn qIn (x,())).sat fun z_=>z_ =(yx (x,())).2:=by
 refine cast (by kernel_rfl) (?_:aj x∧(Innings.mk x.1 x.2 x.3 (IntKind.i64.wrap (x.4 +(5:Int))) x.5 (Extras.mk x.6.1 x.6.2 x.6.3 x.6.4 (IntKind.i64.wrap (x.6.5 +(5:Int)))) x.7 x.8 x.9 x.10 x.11 x.12 x.13 x.14 x.15 x.16 x.17 x.18 x.19 x.20 x.21 x.22 x.23,()) =(wR x,()))
 exact ⟨hs,rfl⟩
def kq:FuncId×Ctr:=(112,ae KE qIn qIn yx)
theorem pl:CtrOK Tryz.prog KE 112 (ae KE qIn qIn yx):=by
 refine aq (C:=ao [dJ] Tryz.f112) (al (.consU gZ rfl .nil) _) mixed (fn:=Tryz.f112) Tryz.func112 (by kernel_rfl) (by kernel_rfl) (by kernel_rfl) (by kernel_rfl) (by kernel_rfl) (by kernel_rfl) (Λ:=fun _ _=>none) ?_ ?_
 ·exact fun _ _ _ _ _ _ _ _ h=>by cases h
 ·rintro ⟨x,⟨⟩⟩ hw hn
  exact C1 x (hn _ List.mem_cons_self)
theorem wY (x:Innings) (hs:aj x) :(evPat (ao [kw] Tryz.f154) (fun _=>none) Tryz.f154 qIn qIn (x,())).sat fun z_=>z_ =(yx (x,())).2:=by
 refine cast (by kernel_rfl) (?_:aj x∧(Innings.mk x.1 x.2 x.3 (IntKind.i64.wrap (x.4 +(5:Int))) x.5 (Extras.mk x.6.1 x.6.2 x.6.3 x.6.4 (IntKind.i64.wrap (x.6.5 +(5:Int)))) x.7 x.8 x.9 x.10 x.11 x.12 x.13 x.14 x.15 x.16 x.17 x.18 x.19 x.20 x.21 x.22 x.23,()) =(wR x,()))
 exact ⟨hs,rfl⟩
def gT:FuncId×Ctr:=(154,ae KE qIn qIn yx)
theorem lw:CtrOK Tryz.prog KE 154 (ae KE qIn qIn yx):=by
 refine aq (C:=ao [kw] Tryz.f154) (al (.consU po rfl .nil) _) mixed (fn:=Tryz.f154) Tryz.func154 (by kernel_rfl) (by kernel_rfl) (by kernel_rfl) (by kernel_rfl) (by kernel_rfl) (by kernel_rfl) (Λ:=fun _ _=>none) ?_ ?_
 ·exact fun _ _ _ _ _ _ _ _ h=>by cases h
 ·rintro ⟨x,⟨⟩⟩ hw hn
  exact wY x (hn _ List.mem_cons_self)
theorem E3 (r:Rules) (x:Innings) (hs:aj x) :(evPat (ao [pT,gS,zr] Tryz.f111) (fun _=>none) Tryz.f111 qRI qH (r,x,())).sat fun z_=>z_ =(IR (r,x,())).2:=by
 refine cast (by kernel_rfl) (?_:let r1:Bool:=bif b9 x then (↑(sj x).length:Int) ==(0:Int) else false;let r2:Bool:=bif decide (x.2 >(0:Int)) then decide (x.4≥x.2) else false;let r3:Bool:=bif decide (x.3 >(0:Int)) then decide (x.7≥x.3) else false;aj x∧((!aZ r x)=true→((0:Int),()) =(ol r x,()))∧((!aZ r x)=false→(r2=true→((3:Int),()) =(ol r x,()))∧(r2=false→((b9 x=true→aj x∧True)∧(b9 x=false→True))∧(true=true→(r1=true→((1:Int),()) =(ol r x,()))∧(r1=false→(r3=true→((2:Int),()) =(ol r x,()))∧(r3=false→((0:Int),()) =(ol r x,())))))))
 intro r1 r2 r3
 clear_value (hr1:r1=_) (hr2:r2=_) (hr3:r3=_)
 grind [ol,jl]
def BP:FuncId×Ctr:=(111,ae KE qRI qH IR)
theorem HP:CtrOK Tryz.prog KE 111 (ae KE qRI qH IR):=by
 refine aq (C:=ao [pT,gS,zr] Tryz.f111) (al (.consU ve rfl (.consU nU rfl (.consU GF rfl .nil))) _) mixed (fn:=Tryz.f111) Tryz.func111 (by kernel_rfl) (by kernel_rfl) (by kernel_rfl) (by kernel_rfl) (by kernel_rfl) (by kernel_rfl) (Λ:=fun _ _=>none) ?_ ?_
 ·exact fun _ _ _ _ _ _ _ _ h=>by cases h
 ·rintro ⟨r,x,⟨⟩⟩ hw hn
  exact E3 r x (hn _ List.mem_cons_self)
theorem CZ (r:Rules) (x:Innings) (e:Mir.Event) (hs:aj x) :(evPat (ao [dJ] Tryz.f141) (fun _=>none) Tryz.f141 gy q2L (r,x,e,())).sat fun z_=>z_ =(Le (r,x,e,())).2:=by
 refine cast (by kernel_rfl) (?_:aj x∧((e.2 != x.1)=true→(x,(2:Int),()) =(kg r x e,i5 r x e,()))∧((e.2 != x.1)=false→((r.4 !=(0:Int))=true→(x,(20:Int),()) =(kg r x e,i5 r x e,()))∧((r.4 !=(0:Int))=false→(Innings.mk x.1 x.2 x.3 x.4 x.5 x.6 x.7 x.8 x.9 x.10 x.11 x.12 x.13 x.14 x.15 x.16 x.17 x.18 x.19 x.20 x.21 x.22 (4:Int),(0:Int),()) =(kg r x e,i5 r x e,()))))
 grind [kg,i5]
def xG:FuncId×Ctr:=(141,ae KE gy q2L Le)
theorem El:CtrOK Tryz.prog KE 141 (ae KE gy q2L Le):=by
 refine aq (C:=ao [dJ] Tryz.f141) (al (.consU gZ rfl .nil) _) mixed (fn:=Tryz.f141) Tryz.func141 (by kernel_rfl) (by kernel_rfl) (by kernel_rfl) (by kernel_rfl) (by kernel_rfl) (by kernel_rfl) (Λ:=fun _ _=>none) ?_ ?_
 ·exact fun _ _ _ _ _ _ _ _ h=>by cases h
 ·rintro ⟨r,x,e,⟨⟩⟩ hw hn
  exact CZ r x e (hn _ List.mem_cons_self)
theorem Na (x:Innings) (e:Mir.Event) (hs:aj x) :(evPat (ao [dJ,kq] Tryz.f142) (fun _=>none) Tryz.f142 qIE q2L (x,e,())).sat fun z_=>z_ =(vP (x,e,())).2:=by
 refine cast (by kernel_rfl) (?_:let r1:Bool:=decide (x.2 >(0:Int));aj x∧((e.6 !=(5:Int))=true→(x,(23:Int),()) =(pw x e,kC e,()))∧((e.6 !=(5:Int))=false→((e.2==x.1)=true→aj x∧(Innings.mk x.1 x.2 x.3 (W (x.4 +(5:Int))) x.5 (Extras.mk x.6.1 x.6.2 x.6.3 x.6.4 (W (x.6.5 +(5:Int)))) x.7 x.8 x.9 x.10 x.11 x.12 x.13 x.14 x.15 x.16 x.17 x.18 x.19 x.20 x.21 x.22 x.23,(0:Int),()) =(pw x e,kC e,()))∧((e.2==x.1)=false→(Innings.mk (bif r1 then x.1 else x.1) (bif r1 then IntKind.i64.wrap (x.2 +(5:Int)) else x.2) (bif r1 then x.3 else x.3) (bif r1 then x.4 else x.4) (bif r1 then x.5 else x.5) (Extras.mk (bif r1 then x.6.1 else x.6.1) (bif r1 then x.6.2 else x.6.2) (bif r1 then x.6.3 else x.6.3) (bif r1 then x.6.4 else x.6.4) (bif r1 then x.6.5 else x.6.5)) (bif r1 then x.7 else x.7) (bif r1 then x.8 else x.8) (bif r1 then x.9 else x.9) (bif r1 then x.10 else x.10) (bif r1 then x.11 else x.11) (bif r1 then x.12 else x.12) (bif r1 then x.13 else x.13) (bif r1 then x.14 else x.14) (bif r1 then x.15 else x.15) (bif r1 then x.16 else x.16) (bif r1 then x.17 else x.17) (bif r1 then x.18 else x.18) (bif r1 then x.19 else x.19) (bif r1 then x.20 else x.20) (bif r1 then x.21 else x.21) (bif r1 then x.22.1 else x.22.1,bif r1 then x.22.2.1 else x.22.2.1,()) (bif r1 then x.23 else x.23),(0:Int),()) =(pw x e,kC e,()))))
 intro r1
 clear_value (hr1:r1=_)
 simp only [Bool.cond_self]
 refine ⟨hs,fun h=>?_,fun h=>⟨fun h2=>⟨hs,?_⟩,fun h2=>?_⟩⟩
 ·have e1:kC e=23:=by simp only [kC,h];rfl
  simp only [pw,e1];rfl
 ·have e1:kC e=0:=by simp only [kC,h];rfl
  simp only [pw,e1,h2];rfl
 ·have e1:kC e=0:=by simp only [kC,h];rfl
  simp only [pw,e1,h2]
  cases r1 with
  | true=>have:x.Target>0:=of_decide_eq_true hr1.symm;simp only [if_pos this];rfl
  | false=>have :¬ x.Target>0:=of_decide_eq_false hr1.symm;simp only [if_neg this];rfl
def NB:FuncId×Ctr:=(142,ae KE qIE q2L vP)
theorem Py:CtrOK Tryz.prog KE 142 (ae KE qIE q2L vP):=by
 refine aq (C:=ao [dJ,kq] Tryz.f142) (al (.consU gZ rfl (.consU pl rfl .nil)) _) mixed (fn:=Tryz.f142) Tryz.func142 (by kernel_rfl) (by kernel_rfl) (by kernel_rfl) (by kernel_rfl) (by kernel_rfl) (by kernel_rfl) (Λ:=fun _ _=>none) ?_ ?_
 ·exact fun _ _ _ _ _ _ _ _ h=>by cases h
 ·rintro ⟨x,e,⟨⟩⟩ hw hn
  exact Na x e (hn _ List.mem_cons_self)
theorem E4 (r:Rules) (x:Innings) (e:Mir.Event) (hs:aj x) (h2:gg e.Side) :(evPat (ao [dJ] Tryz.f143) (fun _=>none) Tryz.f143 gy q2L (r,x,e,())).sat fun z_=>z_ =(Az (r,x,e,())).2:=by
 refine cast (by kernel_rfl) (?_:let r1:Bool:=decide (x.22.1≥r.12);let r2:Int:=IntKind.i64.wrap (e.2 - (1:Int));let r3:Bool:=decide (x.22.2.1≥r.12);let r4:Bool:=r2 ==(0:Int);let r5:Bool:=r2 ==(1:Int);aj x∧((!x.15)=true→(x,(24:Int),()) =(ge r x e.2 e.5,fj r x e.2,()))∧((!x.15)=false→(r4=true→((0:Int)≤(0:Int)∧(0:Int) <(↑(2:Nat):Int))∧(r1=true→(x,(24:Int),()) =(ge r x e.2 e.5,fj r x e.2,()))∧(r1=false→((!e.5)=true→(r4=true→((0:Int)≤(0:Int)∧(0:Int) <(↑(2:Nat):Int))∧((0:Int)≤(0:Int)∧(0:Int) <(↑(2:Nat):Int))∧(Innings.mk x.1 x.2 x.3 x.4 x.5 x.6 x.7 x.8 x.9 x.10 x.11 x.12 x.13 x.14 x.15 x.16 x.17 x.18 x.19 x.20 x.21 (IntKind.i64.wrap (x.22.1 +(1:Int)),x.22.2) x.23,(0:Int),()) =(ge r x e.2 e.5,fj r x e.2,()))∧(r4=false→(r5=true→((0:Int)≤(1:Int)∧(1:Int) <(↑(2:Nat):Int))∧((0:Int)≤(1:Int)∧(1:Int) <(↑(2:Nat):Int))∧(Innings.mk x.1 x.2 x.3 x.4 x.5 x.6 x.7 x.8 x.9 x.10 x.11 x.12 x.13 x.14 x.15 x.16 x.17 x.18 x.19 x.20 x.21 (x.22.1,IntKind.i64.wrap (x.22.2.1 +(1:Int)),()) x.23,(0:Int),()) =(ge r x e.2 e.5,fj r x e.2,()))∧(r5=false→False∧True)))∧((!e.5)=false→(x,(0:Int),()) =(ge r x e.2 e.5,fj r x e.2,()))))∧(r4=false→(r5=true→((0:Int)≤(1:Int)∧(1:Int) <(↑(2:Nat):Int))∧(r3=true→(x,(24:Int),()) =(ge r x e.2 e.5,fj r x e.2,()))∧(r3=false→((!e.5)=true→(r4=true→((0:Int)≤(0:Int)∧(0:Int) <(↑(2:Nat):Int))∧((0:Int)≤(0:Int)∧(0:Int) <(↑(2:Nat):Int))∧(Innings.mk x.1 x.2 x.3 x.4 x.5 x.6 x.7 x.8 x.9 x.10 x.11 x.12 x.13 x.14 x.15 x.16 x.17 x.18 x.19 x.20 x.21 (IntKind.i64.wrap (x.22.1 +(1:Int)),x.22.2) x.23,(0:Int),()) =(ge r x e.2 e.5,fj r x e.2,()))∧(r4=false→(r5=true→((0:Int)≤(1:Int)∧(1:Int) <(↑(2:Nat):Int))∧((0:Int)≤(1:Int)∧(1:Int) <(↑(2:Nat):Int))∧(Innings.mk x.1 x.2 x.3 x.4 x.5 x.6 x.7 x.8 x.9 x.10 x.11 x.12 x.13 x.14 x.15 x.16 x.17 x.18 x.19 x.20 x.21 (x.22.1,IntKind.i64.wrap (x.22.2.1 +(1:Int)),()) x.23,(0:Int),()) =(ge r x e.2 e.5,fj r x e.2,()))∧(r5=false→False∧True)))∧((!e.5)=false→(x,(0:Int),()) =(ge r x e.2 e.5,fj r x e.2,()))))∧(r5=false→False∧True))))
 intro r1 r2 r3 r4 r5
 clear_value (hr1:r1=_) (hr2:r2=_) (hr3:r3=_) (hr4:r4=_) (hr5:r5=_)
 rcases h2 with hS|hS
 ·have e4:r4=true:=by rw [hr4,hr2,hS];rfl
  have hL:fj r x e.Side=if !x.Fresh||r1 then 24 else 0:=by simp only [fj,CO,hS];rw [hr1];rfl
  have hU:qo x e.Side={ x with Reviews:=(W (x.Reviews.1+1),x.Reviews.2.1,()) }:=by simp only [qo,hS];rfl
  clear hr1 hr2 hr3 hr4 hr5
  cases hf:x.Fresh <;> cases r1 <;> cases hk:e.Yes <;> simp [e4,hs,ge,hL,hU,hf,hk]
 ·have e4:r4=false:=by rw [hr4,hr2,hS];rfl
  have e5:r5=true:=by rw [hr5,hr2,hS];rfl
  have hL:fj r x e.Side=if !x.Fresh||r3 then 24 else 0:=by simp only [fj,CO,hS];rw [hr3];rfl
  have hU:qo x e.Side={ x with Reviews:=(x.Reviews.1,W (x.Reviews.2.1+1),()) }:=by simp only [qo,hS];rfl
  clear hr1 hr2 hr3 hr4 hr5
  cases hf:x.Fresh <;> cases r3 <;> cases hk:e.Yes <;> simp [e4,e5,hs,ge,hL,hU,hf,hk]
def BQ:FuncId×Ctr:=(143,ae KE gy q2L Az)
theorem HQ:CtrOK Tryz.prog KE 143 (ae KE gy q2L Az):=by
 refine aq (C:=ao [dJ] Tryz.f143) (al (.consU gZ rfl .nil) _) mixed (fn:=Tryz.f143) Tryz.func143 (by kernel_rfl) (by kernel_rfl) (by kernel_rfl) (by kernel_rfl) (by kernel_rfl) (by kernel_rfl) (Λ:=fun _ _=>none) ?_ ?_
 ·exact fun _ _ _ _ _ _ _ _ h=>by cases h
 ·rintro ⟨r,x,e,⟨⟩⟩ hw hn
  exact E4 r x e (hn _ List.mem_cons_self) (hn _ (List.mem_cons_of_mem _ List.mem_cons_self))
theorem Aj (r:Rules) (x:Innings) (s:Int) (k:Bool) (h2:gg s) :(evPat (ao [] Tryz.f195) (fun _=>none) Tryz.f195 G3 q2L (r,x,s,k,())).sat fun z_=>z_ =(ry (r,x,s,k,())).2:=by
 refine cast (by kernel_rfl) (?_:let r1:Int:=IntKind.i64.wrap (s - (1:Int));let r2:Bool:=decide (x.22.1≥r.12);let r3:Bool:=decide (x.22.2.1≥r.12);let r4:Bool:=r1 ==(0:Int);let r5:Bool:=r1 ==(1:Int);((!x.15)=true→(x,(24:Int),()) =(ge r x s k,fj r x s,()))∧((!x.15)=false→(r4=true→((0:Int)≤(0:Int)∧(0:Int) <(↑(2:Nat):Int))∧(r2=true→(x,(24:Int),()) =(ge r x s k,fj r x s,()))∧(r2=false→((!k)=true→(r4=true→((0:Int)≤(0:Int)∧(0:Int) <(↑(2:Nat):Int))∧((0:Int)≤(0:Int)∧(0:Int) <(↑(2:Nat):Int))∧(Innings.mk x.1 x.2 x.3 x.4 x.5 x.6 x.7 x.8 x.9 x.10 x.11 x.12 x.13 x.14 x.15 x.16 x.17 x.18 x.19 x.20 x.21 (IntKind.i64.wrap (x.22.1 +(1:Int)),x.22.2) x.23,(0:Int),()) =(ge r x s k,fj r x s,()))∧(r4=false→(r5=true→((0:Int)≤(1:Int)∧(1:Int) <(↑(2:Nat):Int))∧((0:Int)≤(1:Int)∧(1:Int) <(↑(2:Nat):Int))∧(Innings.mk x.1 x.2 x.3 x.4 x.5 x.6 x.7 x.8 x.9 x.10 x.11 x.12 x.13 x.14 x.15 x.16 x.17 x.18 x.19 x.20 x.21 (x.22.1,IntKind.i64.wrap (x.22.2.1 +(1:Int)),()) x.23,(0:Int),()) =(ge r x s k,fj r x s,()))∧(r5=false→False∧True)))∧((!k)=false→(x,(0:Int),()) =(ge r x s k,fj r x s,()))))∧(r4=false→(r5=true→((0:Int)≤(1:Int)∧(1:Int) <(↑(2:Nat):Int))∧(r3=true→(x,(24:Int),()) =(ge r x s k,fj r x s,()))∧(r3=false→((!k)=true→(r4=true→((0:Int)≤(0:Int)∧(0:Int) <(↑(2:Nat):Int))∧((0:Int)≤(0:Int)∧(0:Int) <(↑(2:Nat):Int))∧(Innings.mk x.1 x.2 x.3 x.4 x.5 x.6 x.7 x.8 x.9 x.10 x.11 x.12 x.13 x.14 x.15 x.16 x.17 x.18 x.19 x.20 x.21 (IntKind.i64.wrap (x.22.1 +(1:Int)),x.22.2) x.23,(0:Int),()) =(ge r x s k,fj r x s,()))∧(r4=false→(r5=true→((0:Int)≤(1:Int)∧(1:Int) <(↑(2:Nat):Int))∧((0:Int)≤(1:Int)∧(1:Int) <(↑(2:Nat):Int))∧(Innings.mk x.1 x.2 x.3 x.4 x.5 x.6 x.7 x.8 x.9 x.10 x.11 x.12 x.13 x.14 x.15 x.16 x.17 x.18 x.19 x.20 x.21 (x.22.1,IntKind.i64.wrap (x.22.2.1 +(1:Int)),()) x.23,(0:Int),()) =(ge r x s k,fj r x s,()))∧(r5=false→False∧True)))∧((!k)=false→(x,(0:Int),()) =(ge r x s k,fj r x s,()))))∧(r5=false→False∧True))))
 intro r1 r2 r3 r4 r5
 clear_value (hr1:r1=_) (hr2:r2=_) (hr3:r3=_) (hr4:r4=_) (hr5:r5=_)
 rcases h2 with hS|hS
 ·have e4:r4=true:=by rw [hr4,hr1,hS];rfl
  have hL:fj r x s=if !x.Fresh||r2 then 24 else 0:=by simp only [fj,CO,hS];rw [hr2];rfl
  have hU:qo x s={ x with Reviews:=(W (x.Reviews.1+1),x.Reviews.2.1,()) }:=by simp only [qo,hS];rfl
  clear hr1 hr2 hr3 hr4 hr5
  cases hf:x.Fresh <;> cases r2 <;> cases hk:k <;> simp [e4,ge,hL,hU,hf,hk]
 ·have e4:r4=false:=by rw [hr4,hr1,hS];rfl
  have e5:r5=true:=by rw [hr5,hr1,hS];rfl
  have hL:fj r x s=if !x.Fresh||r3 then 24 else 0:=by simp only [fj,CO,hS];rw [hr3];rfl
  have hU:qo x s={ x with Reviews:=(x.Reviews.1,W (x.Reviews.2.1+1),()) }:=by simp only [qo,hS];rfl
  clear hr1 hr2 hr3 hr4 hr5
  cases hf:x.Fresh <;> cases r3 <;> cases hk:k <;> simp [e4,e5,ge,hL,hU,hf,hk]
def uL:FuncId×Ctr:=(195,ae KE G3 q2L ry)
theorem Co:CtrOK Tryz.prog KE 195 (ae KE G3 q2L ry):=by
 refine aq (C:=ao [] Tryz.f195) (al (CtrsOK.nil) _) mixed (fn:=Tryz.f195) Tryz.func195 (by kernel_rfl) (by kernel_rfl) (by kernel_rfl) (by kernel_rfl) (by kernel_rfl) (by kernel_rfl) (Λ:=fun _ _=>none) ?_ ?_
 ·exact fun _ _ _ _ _ _ _ _ h=>by cases h
 ·rintro ⟨r,x,s,k,⟨⟩⟩ hw hn
  exact Aj r x s k (hn _ List.mem_cons_self)
theorem E5 (r:Rules) (x:Innings) (e:Mir.Event) (hs:aj x) :(evPat (ao [dJ,Gc] Tryz.f144) (fun _=>none) Tryz.f144 gy q2L (r,x,e,())).sat fun z_=>z_ =(AA (r,x,e,())).2:=by
 refine cast (by kernel_rfl) (?_:let r1:Bool:=decide (e.6 >(0:Int));let r2:Bool:=decide (e.7 >(0:Int));let r3:Int:=bif r1 then x.1 else x.1;let r4:Int:=bif r1 then e.6 else x.2;let r5:Int:=bif r1 then x.4 else x.4;let r6:Int:=bif r1 then x.5 else x.5;let r7:Int:=bif r1 then x.7 else x.7;let r8:Int:=bif r1 then x.8 else x.8;let r9:Int:=bif r1 then x.9 else x.9;let r10:Int:=bif r1 then x.10 else x.10;let r11:Int:=bif r1 then x.12 else x.12;let r12:Bool:=bif r1 then x.15 else x.15;let r13:Bool:=bif r1 then x.17 else x.17;let r14:Int:=bif r1 then x.18 else x.18;let r15:Int:=bif r1 then x.19 else x.19;let r16:Int:=bif r1 then x.20 else x.20;let r17:Int:=bif r1 then x.23 else x.23;let r18:Int:=bif r1 then x.6.1 else x.6.1;let r19:Int:=bif r1 then x.6.2 else x.6.2;let r20:Int:=bif r1 then x.6.3 else x.6.3;let r21:Int:=bif r1 then x.6.4 else x.6.4;let r22:Int:=bif r1 then x.6.5 else x.6.5;let r23:List Bool:=bif r1 then x.21 else x.21;let r24:Int:=bif r1 then x.22.1 else x.22.1;let r25:List Int:=bif r1 then x.11 else x.11;let r26:List Int:=bif r1 then x.13 else x.13;let r27:List Int:=bif r1 then x.14 else x.14;let r28:List Int:=bif r1 then x.16 else x.16;let r29:Int:=bif r1 then x.22.2.1 else x.22.2.1;let r30:Bool:=bif r.4 ==(0:Int) then true else bif e.6 ==(0:Int) then e.7 ==(0:Int) else false;let r31:Bool:=bif r1 then bif x.2 ==(0:Int) then true else decide (e.6≤x.4) else false;let r32:Bool:=bif r2 then bif decide (e.7>r.4) then true else decide (IntKind.i64.wrap (e.7*r.5)<qL r x) else false;aj x∧(r30=true→(x,(25:Int),()) =(lJ r x e.6 e.7,m0 r x e.6 e.7,()))∧(r30=false→(r31=true→(x,(25:Int),()) =(lJ r x e.6 e.7,m0 r x e.6 e.7,()))∧(r31=false→(r32=true→(x,(25:Int),()) =(lJ r x e.6 e.7,m0 r x e.6 e.7,()))∧(r32=false→(Innings.mk (bif r2 then r3 else r3) (bif r2 then r4 else r4) (bif r2 then e.7 else bif r1 then x.3 else x.3) (bif r2 then r5 else r5) (bif r2 then r6 else r6) (Extras.mk (bif r2 then r18 else r18) (bif r2 then r19 else r19) (bif r2 then r20 else r20) (bif r2 then r21 else r21) (bif r2 then r22 else r22)) (bif r2 then r7 else r7) (bif r2 then r8 else r8) (bif r2 then r9 else r9) (bif r2 then r10 else r10) (bif r2 then r25 else r25) (bif r2 then r11 else r11) (bif r2 then r26 else r26) (bif r2 then r27 else r27) (bif r2 then r12 else r12) (bif r2 then r28 else r28) (bif r2 then r13 else r13) (bif r2 then r14 else r14) (bif r2 then r15 else r15) (bif r2 then r16 else r16) (bif r2 then r23 else r23) (bif r2 then r24 else r24,bif r2 then r29 else r29,()) (bif r2 then r17 else r17),(0:Int),()) =(lJ r x e.6 e.7,m0 r x e.6 e.7,())))))
 intro r1 r2 r3 r4 r5 r6 r7 r8 r9 r10 r11 r12 r13 r14 r15 r16 r17 r18 r19 r20 r21 r22 r23 r24 r25 r26 r27 r28 r29 r30 r31 r32
 clear_value (hr1:r1=_) (hr2:r2=_) (hr3:r3=_) (hr4:r4=_) (hr5:r5=_) (hr6:r6=_) (hr7:r7=_) (hr8:r8=_) (hr9:r9=_) (hr10:r10=_) (hr11:r11=_) (hr12:r12=_) (hr13:r13=_) (hr14:r14=_) (hr15:r15=_) (hr16:r16=_) (hr17:r17=_) (hr18:r18=_) (hr19:r19=_) (hr20:r20=_) (hr21:r21=_) (hr22:r22=_) (hr23:r23=_) (hr24:r24=_) (hr25:r25=_) (hr26:r26=_) (hr27:r27=_) (hr28:r28=_) (hr29:r29=_) (hr30:r30=_) (hr31:r31=_) (hr32:r32=_)
 simp only [Bool.cond_self] at *
 have hb:im r x e.Runs e.Overs =(r30 ||(r31||r32)):=by grind [im]
 clear hr30 hr31 hr32
 subst hr3 hr5 hr6 hr7 hr8 hr9 hr10 hr11 hr12 hr13 hr14 hr15 hr16 hr17 hr18 hr19 hr20 hr21 hr22 hr23 hr24 hr25 hr26 hr27 hr28 hr29
 subst hr4
 refine ⟨hs,fun h=>?_,fun h=>⟨fun h2=>?_,fun h2=>⟨fun h3=>?_,fun h3=>?_⟩⟩⟩
 ·have hb':im r x e.Runs e.Overs=true:=by rw [hb,h];rfl
  simp only [lJ,m0,hb'];rfl
 ·have hb':im r x e.Runs e.Overs=true:=by rw [hb,h,h2];rfl
  simp only [lJ,m0,hb'];rfl
 ·have hb':im r x e.Runs e.Overs=true:=by rw [hb,h,h2,h3];rfl
  simp only [lJ,m0,hb'];rfl
 ·have hb':im r x e.Runs e.Overs=false:=by rw [hb,h,h2,h3];rfl
  simp only [lJ,m0,hb',La,Ng]
  cases r1 with
  | true=>
   have h1:e.Runs>0:=of_decide_eq_true hr1.symm
   cases r2 with
   | true=>have h2:e.Overs>0:=of_decide_eq_true hr2.symm;simp only [if_pos h1,if_pos h2];rfl
   | false=>have h2 :¬ e.Overs>0:=of_decide_eq_false hr2.symm;simp only [if_pos h1,if_neg h2];rfl
  | false=>
   have h1 :¬ e.Runs>0:=of_decide_eq_false hr1.symm
   cases r2 with
   | true=>have h2:e.Overs>0:=of_decide_eq_true hr2.symm;simp only [if_neg h1,if_pos h2];rfl
   | false=>have h2 :¬ e.Overs>0:=of_decide_eq_false hr2.symm;simp only [if_neg h1,if_neg h2];rfl
def BR:FuncId×Ctr:=(144,ae KE gy q2L AA)
theorem HR:CtrOK Tryz.prog KE 144 (ae KE gy q2L AA):=by
 refine aq (C:=ao [dJ,Gc] Tryz.f144) (al (.consU gZ rfl (.consU J9 rfl .nil)) _) mixed (fn:=Tryz.f144) Tryz.func144 (by kernel_rfl) (by kernel_rfl) (by kernel_rfl) (by kernel_rfl) (by kernel_rfl) (by kernel_rfl) (Λ:=fun _ _=>none) ?_ ?_
 ·exact fun _ _ _ _ _ _ _ _ h=>by cases h
 ·rintro ⟨r,x,e,⟨⟩⟩ hw hn
  exact E5 r x e (hn _ List.mem_cons_self)
theorem Ak (r:Rules) (x:Innings) (t:Int) (o:Int) :(evPat (ao [xR] Tryz.f196) (fun _=>none) Tryz.f196 G4 q2L (r,x,t,o,())).sat fun z_=>z_ =(rz (r,x,t,o,())).2:=by
 refine cast (by kernel_rfl) (?_:let r1:Bool:=decide (t >(0:Int));let r2:Bool:=decide (o >(0:Int));let r3:Int:=bif r1 then t else x.2;let r4:Int:=bif r1 then x.1 else x.1;let r5:Int:=bif r1 then x.4 else x.4;let r6:Int:=bif r1 then x.5 else x.5;let r7:Int:=bif r1 then x.7 else x.7;let r8:Int:=bif r1 then x.8 else x.8;let r9:Int:=bif r1 then x.9 else x.9;let r10:Int:=bif r1 then x.10 else x.10;let r11:Int:=bif r1 then x.12 else x.12;let r12:Bool:=bif r1 then x.15 else x.15;let r13:Bool:=bif r1 then x.17 else x.17;let r14:Int:=bif r1 then x.18 else x.18;let r15:Int:=bif r1 then x.19 else x.19;let r16:Int:=bif r1 then x.20 else x.20;let r17:Int:=bif r1 then x.23 else x.23;let r18:Int:=bif r1 then x.6.1 else x.6.1;let r19:Int:=bif r1 then x.6.2 else x.6.2;let r20:Int:=bif r1 then x.6.3 else x.6.3;let r21:Int:=bif r1 then x.6.4 else x.6.4;let r22:Int:=bif r1 then x.6.5 else x.6.5;let r23:List Bool:=bif r1 then x.21 else x.21;let r24:Int:=bif r1 then x.22.1 else x.22.1;let r25:List Int:=bif r1 then x.11 else x.11;let r26:List Int:=bif r1 then x.13 else x.13;let r27:List Int:=bif r1 then x.14 else x.14;let r28:List Int:=bif r1 then x.16 else x.16;let r29:Int:=bif r1 then x.22.2.1 else x.22.2.1;let r30:Bool:=bif r1 then bif x.2 ==(0:Int) then true else decide (t≤x.4) else false;let r31:Bool:=bif r2 then bif decide (o>r.4) then true else decide (IntKind.i64.wrap (o*r.5)<qL r x) else false;let r32:Bool:=bif r.4 ==(0:Int) then r.4 ==(0:Int) else bif r30 then r30 else bif r31 then r31 else bif t ==(0:Int) then o ==(0:Int) else false;(r32=true→(x,(25:Int),()) =(lJ r x t o,m0 r x t o,()))∧(r32=false→(Innings.mk (bif r2 then r4 else r4) (bif r2 then r3 else r3) (bif r2 then o else bif r1 then x.3 else x.3) (bif r2 then r5 else r5) (bif r2 then r6 else r6) (Extras.mk (bif r2 then r18 else r18) (bif r2 then r19 else r19) (bif r2 then r20 else r20) (bif r2 then r21 else r21) (bif r2 then r22 else r22)) (bif r2 then r7 else r7) (bif r2 then r8 else r8) (bif r2 then r9 else r9) (bif r2 then r10 else r10) (bif r2 then r25 else r25) (bif r2 then r11 else r11) (bif r2 then r26 else r26) (bif r2 then r27 else r27) (bif r2 then r12 else r12) (bif r2 then r28 else r28) (bif r2 then r13 else r13) (bif r2 then r14 else r14) (bif r2 then r15 else r15) (bif r2 then r16 else r16) (bif r2 then r23 else r23) (bif r2 then r24 else r24,bif r2 then r29 else r29,()) (bif r2 then r17 else r17),(0:Int),()) =(lJ r x t o,m0 r x t o,())))
 intro r1 r2 r3 r4 r5 r6 r7 r8 r9 r10 r11 r12 r13 r14 r15 r16 r17 r18 r19 r20 r21 r22 r23 r24 r25 r26 r27 r28 r29 r30 r31 r32
 clear_value (hr1:r1=_) (hr2:r2=_) (hr3:r3=_) (hr4:r4=_) (hr5:r5=_) (hr6:r6=_) (hr7:r7=_) (hr8:r8=_) (hr9:r9=_) (hr10:r10=_) (hr11:r11=_) (hr12:r12=_) (hr13:r13=_) (hr14:r14=_) (hr15:r15=_) (hr16:r16=_) (hr17:r17=_) (hr18:r18=_) (hr19:r19=_) (hr20:r20=_) (hr21:r21=_) (hr22:r22=_) (hr23:r23=_) (hr24:r24=_) (hr25:r25=_) (hr26:r26=_) (hr27:r27=_) (hr28:r28=_) (hr29:r29=_) (hr30:r30=_) (hr31:r31=_) (hr32:r32=_)
 simp only [Bool.cond_self] at *
 have hb:im r x t o=r32:=by grind [im]
 clear hr30 hr31 hr32
 subst hr4 hr5 hr6 hr7 hr8 hr9 hr10 hr11 hr12 hr13 hr14 hr15 hr16 hr17 hr18 hr19 hr20 hr21 hr22 hr23 hr24 hr25 hr26 hr27 hr28 hr29
 subst hr3
 refine ⟨fun h=>?_,fun h=>?_⟩
 ·have hb':im r x t o=true:=by rw [hb,h]
  simp only [lJ,m0,hb'];rfl
 ·have hb':im r x t o=false:=by rw [hb,h]
  simp only [lJ,m0,hb',La,Ng]
  cases r1 with
  | true=>
   have h1:t>0:=of_decide_eq_true hr1.symm
   cases r2 with
   | true=>have h2:o>0:=of_decide_eq_true hr2.symm;simp only [if_pos h1,if_pos h2];rfl
   | false=>have h2 :¬ o>0:=of_decide_eq_false hr2.symm;simp only [if_pos h1,if_neg h2];rfl
  | false=>
   have h1 :¬ t>0:=of_decide_eq_false hr1.symm
   cases r2 with
   | true=>have h2:o>0:=of_decide_eq_true hr2.symm;simp only [if_neg h1,if_pos h2];rfl
   | false=>have h2 :¬ o>0:=of_decide_eq_false hr2.symm;simp only [if_neg h1,if_neg h2];rfl
def uM:FuncId×Ctr:=(196,ae KE G4 q2L rz)
theorem Cp:CtrOK Tryz.prog KE 196 (ae KE G4 q2L rz):=by
 refine aq (C:=ao [xR] Tryz.f196) (al (.consU Ez rfl .nil) _) mixed (fn:=Tryz.f196) Tryz.func196 (by kernel_rfl) (by kernel_rfl) (by kernel_rfl) (by kernel_rfl) (by kernel_rfl) (by kernel_rfl) (Λ:=fun _ _=>none) ?_ ?_
 ·exact fun _ _ _ _ _ _ _ _ h=>by cases h
 ·rintro ⟨r,x,t,o,⟨⟩⟩ hw hn
  exact Ak r x t o
end Go.Proofs.YtkgplaoappjkcaaGreat
namespace Go.Proofs.YtkgplaoappjkcaaGreat
open Go Go.Mir
theorem HK (h:Int) :(ofW h).either =(h==6||h==8)∧(ofW h).fielder=ot h:=by
 by_cases h0:h=0;· subst h0;exact ⟨rfl,rfl⟩
 by_cases h1:h=1;· subst h1;exact ⟨rfl,rfl⟩
 by_cases h2:h=2;· subst h2;exact ⟨rfl,rfl⟩
 by_cases h3:h=3;· subst h3;exact ⟨rfl,rfl⟩
 by_cases h4:h=4;· subst h4;exact ⟨rfl,rfl⟩
 by_cases h5:h=5;· subst h5;exact ⟨rfl,rfl⟩
 by_cases h6:h=6;· subst h6;exact ⟨rfl,rfl⟩
 by_cases h7:h=7;· subst h7;exact ⟨rfl,rfl⟩
 by_cases h8:h=8;· subst h8;exact ⟨rfl,rfl⟩
 by_cases h9:h=9;· subst h9;exact ⟨rfl,rfl⟩
 by_cases h10:h=10;· subst h10;exact ⟨rfl,rfl⟩
 have e:ofW h=dismissal_way.zero:=by
  unfold ofW
  rw [List.find?_eq_none.2]
  ·rfl
  ·intro x hx
   simp only [wtab,List.mem_cons,List.not_mem_nil,or_false] at hx
   rcases hx with rfl|rfl|rfl|rfl|rfl|rfl|rfl|rfl|rfl|rfl|rfl <;> simp <;> omega
 rw [e]
 constructor
 ·simp [dismissal_way.zero,h6,h8]
 ·simp [dismissal_way.zero,ot,h2,h4,h6]
theorem LN (t h:Int) (free:Bool):o0 (iy t free) h =(onR h t&&(!free||ga h)):=by
 have key :∀ t:Int,(t=1∨t=2∨t=3)∨(t≠1∧t≠2∧t≠3):=fun t=>by omega
 rcases key t with (rfl|rfl|rfl) |⟨h1,h2,h3⟩
 ·have e:iy 1 free=bif free then [6,7,8] else [1,2,3,4,5,6,7,8]:=by cases free <;> rfl
  rw [e];cases free <;> simp [o0,onR,ga] <;> grind
 ·have e:iy 2 free=bif free then [6,8] else [4,5,6,8]:=by cases free <;> rfl
  rw [e];cases free <;> simp [o0,onR,ga] <;> grind
 ·have e:iy 3 free=bif free then [6,7,8] else [6,7,8]:=by cases free <;> rfl
  rw [e];cases free <;> simp [o0,onR,ga] <;> grind
 ·have hn :∀ w,pM w t free=false:=fun w=>by simp [pM,onW,h1,h2,h3]
  have e:iy t free=[]:=by unfold iy;rw [List.filter_eq_nil_iff.2 (fun w _=>by rw [hn w];simp)];rfl
  rw [e]
  simp [o0,onR,h1,h2,h3]
theorem wS (d:Delivery) (free:Bool):bW d free=cf d free:=by
 obtain ⟨h1,h2⟩:=HK d.How
 have h3:=LN d.Typ d.How free
 simp only [o0] at h3
 simp only [bW,cf,fG,lD,h1,h2,h3]
 generalize onR d.How d.Typ=a
 generalize ga d.How=b
 generalize ot d.How=c
 by_cases h0:d.How=0
 ·simp [h0]
 ·by_cases h6:d.How=6
  ·simp only [h6];cases a <;> cases b <;> cases c <;> cases free <;> simp <;> grind
  ·by_cases h8:d.How=8
   ·simp only [h8];cases a <;> cases b <;> cases c <;> cases free <;> simp <;> grind
   ·simp only [beq_eq_false_iff_ne.2 h0,beq_eq_false_iff_ne.2 h6,beq_eq_false_iff_ne.2 h8];cases a <;> cases b <;> cases c <;> cases free <;> simp <;> grind
end Go.Proofs.YtkgplaoappjkcaaGreat
namespace Go.Proofs.YtkgplaoappjkcaaGreat
open Go Go.Mir
def inR (p i:Int) (n:Nat):Int:=if i<p∧p≤i+n then 1 else 0
theorem BI (p i:Int) (n:Nat):inR p i (n+1) =(if p=i+1 then 1 else 0)+inR p (i+1) n:=by
 unfold inR
 repeat' split
 all_goals omega
def qz (S O:Int) (l:List Int) (i o b a:Int) (g:Bool):Prop:=
 match ie S O l i o b g with
 | none=>iZ S O l i o a=none
 | some (o',b',g')=>g' =(g||dH l)∧b'≤b+inR S i l.length+inR O i l.length∧
  (match iZ S O l i o a with
  | some (o2,a2)=>o2=o'∧a2 - a=b' - b∧b'=b+inR S i l.length+inR O i l.length
  | none=>b'<b+inR S i l.length+inR O i l.length)
theorem tK {S O:Int} (nd:S=O→S=0) :∀ (l:List Int) (i o b a:Int) (g:Bool),0≤i→qz S O l i o b a g
 | [],i,o,b,a,g,hi=>by
  have e :∀ p,inR p i 0=0:=fun p=>by unfold inR;split <;> omega
  simp only [qz,ie,iZ,dH,List.any_nil,Bool.or_false,List.length_nil,e]
  refine ⟨trivial,by omega,trivial,by omega,by omega⟩
 | s::r,i,o,b,a,g,hi=>by
  have eS:=BI S i r.length
  have eO:=BI O i r.length
  have hb:dH (s::r) =(cH s||dH r):=rfl
  unfold qz ie iZ
  by_cases h3:s>3
  ·simp only [if_pos h3]
  ·simp only [if_neg h3]
   by_cases h1:s=1
   ·subst h1
    have hw:cH 1=true:=rfl
    by_cases hs:S=i+1∨O=i+1
    ·have k1 :(S != i+1&&O != i+1)=false:=by rcases hs with h|h <;> simp [h]
     have k2 :(S==i+1||O==i+1)=true:=by rcases hs with h|h <;> simp [h]
     have ih:=tK nd r (i+1) o (b+1) (a+1) true (by omega)
     unfold qz at ih
     simp only [List.length_cons,eS,eO,hb,hw,k1,k2]
     have hone :(if S=i+1 then (1:Int) else 0) +(if O=i+1 then 1 else 0)=1:=by
      rcases hs with h|h
      ·have:O≠i+1:=fun h2=>by have:=nd (by omega);omega
       simp [h,this]
      ·have:S≠i+1:=fun h2=>by have:=nd (by omega);omega
       simp [h,this]
     simp at ih ⊢
     revert ih
     cases ie S O r (i+1) o (b+1) true with
     | none=>exact fun h=>h
     | some q=>
      obtain ⟨o',b',g'⟩:=q
      cases iZ S O r (i+1) o (a+1) with
      | none=>simp only;intro ih;refine ⟨?_,?_,?_⟩ <;> first|exact ih.1|omega
      | some q=>obtain ⟨o2,a2⟩:=q;simp only;intro ih;refine ⟨ih.1,?_,ih.2.2.1,?_,?_⟩ <;> omega
    ·have k1 :(S != i+1&&O != i+1)=true:=by simp [not_or] at hs;simp [hs]
     have k2 :(S==i+1||O==i+1)=false:=by simp [not_or] at hs;simp [hs]
     simp [k1,k2]
   ·have k0 :(s==1)=false:=by simpa using h1
    have ih:=tK nd r (i+1) (if s==2 then o+1 else o) b a (g||s != 0) (by omega)
    unfold qz at ih
    simp only [List.length_cons,eS,eO,hb,k0]
    have hg :((g||s != 0)||dH r) =(g ||(cH s||dH r)):=by rw [Bool.or_assoc];rfl
    by_cases hs:S=i+1∨O=i+1
    ·have k2 :(S==i+1||O==i+1)=true:=by rcases hs with h|h <;> simp [h]
     have hone :(1:Int)≤(if S=i+1 then (1:Int) else 0) +(if O=i+1 then 1 else 0):=by
      rcases hs with h|h <;> simp only [h,if_true] <;> split <;> omega
     simp only [k2]
     simp at ih ⊢
     revert ih
     cases ie S O r (i+1) (if s=2 then o+1 else o) b (g||s != 0) with
     | none=>exact fun _=>trivial
     | some q=>
      obtain ⟨o',b',g'⟩:=q
      intro ih
      simp only at ih ⊢
      refine ⟨by rw [ih.1,hg],by omega,by omega⟩
    ·have k2 :(S==i+1||O==i+1)=false:=by simp [not_or] at hs;simp [hs]
     have hz :(if S=i+1 then (1:Int) else 0) +(if O=i+1 then 1 else 0)=0:=by
      simp only [not_or] at hs;simp [hs.1,hs.2]
     simp only [k2]
     simp at ih ⊢
     revert ih
     cases ie S O r (i+1) (if s=2 then o+1 else o) b (g||s != 0) with
     | none=>exact fun h=>h
     | some q=>
      obtain ⟨o',b',g'⟩:=q
      cases iZ S O r (i+1) (if s=2 then o+1 else o) a with
      | none=>simp only;intro ih;refine ⟨by rw [ih.1,hg],?_,?_⟩ <;> omega
      | some q=>obtain ⟨o2,a2⟩:=q;simp only;intro ih;refine ⟨by rw [ih.1,hg],?_,ih.2.2.1,?_,?_⟩ <;> omega
theorem OD (x:Innings) (n:Int) (hl :(x.Batters.length:Int)=n) (hS:inW x.Striker 0 n=true) (hO:inW x.Other 0 n=true):ma x n=sF x:=by
 simp only [inW,Bool.and_eq_true,decide_eq_true_eq] at hS hO
 have iS:inW x.Striker 0 n=true:=by simp [inW];omega
 have iO:inW x.Other 0 n=true:=by simp [inW];omega
 unfold ma sF
 by_cases nd:x.Striker=x.Other→x.Striker=0
 ·have h:=tK nd x.Batters 0 0 0 0 false (Int.le_refl _)
  have pS:inR x.Striker 0 x.Batters.length=if x.Striker != 0 then 1 else 0:=by
   unfold inR
   by_cases h0:x.Striker=0
   ·simp [h0]
   ·simp [h0];omega
  have pO:inR x.Other 0 x.Batters.length=if x.Other != 0 then 1 else 0:=by
   unfold inR
   by_cases h0:x.Other=0
   ·simp [h0]
   ·simp [h0];omega
  have hp:inR x.Striker 0 x.Batters.length+inR x.Other 0 x.Batters.length=iE x:=by rw [pS,pO];rfl
  have k :(x.Striker==x.Other&&x.Striker != 0)=false:=by
   cases hk:x.Striker==x.Other&&x.Striker != 0 with
   | false=>rfl
   | true=>simp at hk;exact absurd (nd hk.1) hk.2
  have k' :(x.Striker != 0&&x.Striker==x.Other)=false:=by rw [Bool.and_comm];exact k
  unfold qz at h
  have bg:ch x=dH x.Batters:=rfl
  revert h
  cases ie x.Striker x.Other x.Batters 0 0 0 false with
  | none=>intro h;rw [h];rfl
  | some q=>
   obtain ⟨o',b',g'⟩:=q
   cases iZ x.Striker x.Other x.Batters 0 0 0 with
   | none=>
    intro h
    simp only [mf,iS,iO,k] at h ⊢
    have :(iE x==b')=false:=by simp;omega
    simp [this]
   | some q=>
    obtain ⟨o2,a2⟩:=q
    intro h
    simp only [mf,iS,iO,k,k',bg] at h ⊢
    obtain ⟨h1,h2,h3,h4,h5⟩:=h
    have e1:iE x=b':=by omega
    have e2:a2=b':=by omega
    have e3:g'=dH x.Batters:=by rw [h1];rfl
    rw [e1,e2,e3,h3]
    cases dH x.Batters <;> cases hd:decide (b'<1) <;> cases hd2:decide (b'>0) <;> simp at hd hd2 <;>(try omega) <;> simp [eq_comm,BEq.comm]
 ·have nd':x.Striker=x.Other∧x.Striker≠0:=by
   refine ⟨?_,?_⟩ <;> · apply Classical.byContradiction;intro h;exact nd (fun e=>by first|exact absurd e h|exact Classical.byContradiction h)
  have k :(x.Striker==x.Other&&x.Striker != 0)=true:=by simp [nd'.1];rw [←nd'.1];exact nd'.2
  have k' :(x.Striker != 0&&x.Striker==x.Other)=true:=by rw [Bool.and_comm];exact k
  have l :∀ q,mf x n q=false:=fun q=>by
   cases q with
   | none=>rfl
   | some q=>simp only [mf,iS,iO,k];rfl
  rw [l]
  cases iZ x.Striker x.Other x.Batters 0 0 0 with
  | none=>rfl
  | some q=>simp only [k',Bool.or_true,if_true]
theorem Mg (x:Innings):pf x =(!d5 (wq x)&&!d5 x.Bowled):=by
 unfold pf d5 wq
 rw [List.any_append,Bool.not_or]
theorem Kr {r:Rules} (h:0≤r.Overs) (x:Innings):vp r x=vq r x:=by
 unfold vp vq
 by_cases h0:r.Overs=0
 ·simp only [h0];simp [bne]
 ·have:r.Overs>0:=by omega
  have h1 :(r.Overs==0)=false:=by simpa using h0
  simp [h1,this,bne]
theorem ul :∀ (m:Nat) (l:List Int),l.Nodup→(∀ x∈l,1≤x∧x≤(m:Int))→l.length≤m
 | 0,l,_,h=>by
  cases l with
  | nil=>simp
  | cons x l=>have:=h x List.mem_cons_self;omega
 | m+1,l,hn,h=>by
  have ih:=ul m (l.erase ((m+1:Nat):Int)) (hn.erase _) (fun x hx=>by
   have h1:=(hn.mem_erase_iff).1 hx
   have h2:=h x h1.2
   have:=h1.1
   omega)
  by_cases hm :((m+1:Nat):Int)∈l
  ·rw [List.length_erase_of_mem hm] at ih;omega
  ·rw [List.erase_of_not_mem hm] at ih;omega
theorem tP {most:Int} :∀ (l seen:List Int),rJ most seen l=true→seen.Nodup→(∀ x∈seen,1≤x∧x≤most)→(seen++l).Nodup∧(∀ x∈seen++l,1≤x∧x≤most)
 | [],seen,_,h1,h2=>by simpa using ⟨h1,h2⟩
 | n::r,seen,h,h1,h2=>by
  unfold rJ at h
  split at h
  ·cases h
  ·rename_i hc
   have hc :(!inW n 1 most||cE seen n)=false:=by simpa using hc
   simp only [Bool.or_eq_false_iff,Bool.not_eq_false',inW,Bool.and_eq_true,decide_eq_true_eq] at hc
   obtain ⟨⟨c1,c2⟩,c3⟩:=hc
   have c4:n∉seen:=fun hm=>by
    have:cE seen n=true:=by unfold cE;simpa using hm
    rw [this] at c3;cases c3
   have:=tP r (seen++[n]) h (by
    rw [List.nodup_append]
    refine ⟨h1,by simp,?_⟩
    intro a ha b hb e
    simp only [List.mem_singleton] at hb
    subst hb;subst e;exact c4 ha) (fun x hx=>by
    rcases List.mem_append.1 hx with hx|hx
    ·exact h2 x hx
    ·simp only [List.mem_singleton] at hx;subst hx;exact ⟨c1,c2⟩)
   rwa [List.append_assoc] at this
theorem rK {most:Int} {l:List Int} (h:cZ l most=true) :(l.length:Int)≤most∨l=[]:=by
 cases l with
 | nil=>exact .inr rfl
 | cons n r=>
  left
  obtain ⟨h1,h2⟩:=tP (n::r) [] h .nil (fun x hx=>by cases hx)
  simp only [List.nil_append] at h1 h2
  have h3:=h2 n List.mem_cons_self
  have:=ul most.toNat (n::r) h1 (fun x hx=>by have:=h2 x hx;omega)
  omega
theorem gP {r:Rules} (h:ar r=0) :(2≤r.Side∧r.Side≤11)∧(0≤r.Overs∧r.Overs≤90)∧(4≤r.Balls∧r.Balls≤8):=by
 have hr:cp r=true:=by
  cases hr:cp r with
  | true=>rfl
  | false=>
   unfold ar at h
   cases hn:gX r.Name <;> simp [hn,hr] at h
 simp only [cp,az,Bool.and_eq_true,decide_eq_true_eq] at hr
 omega
theorem Bl {r:Rules} (h:ar r=0):0≤r.Overs:=(gP h).2.1.1
theorem LK (r:Rules) (x:Innings):FM r x=aZ r x:=by
 unfold FM aZ
 cases hc:ar r==0 with
 | false=>rfl
 | true=>
  have ho:0≤r.Overs:=Bl (by simpa using hc)
  rw [Kr ho,Mg]
  cases inW x.Side 1 2 with
  | false=>rfl
  | true=>
   cases hl:p0 r x with
   | false=>rfl
   | true=>
    have hl2 :(x.Batters.length:Int)=r.Side:=by
     simp only [p0,Bool.and_eq_true,beq_iff_eq] at hl
     exact hl.1
    cases hS:inW x.Striker 0 r.Side with
    | false=>
     have:ma x r.Side=false:=by
      unfold ma mf
      split
      ·rfl
      ·simp only [hS];rfl
     rw [this]
     simp
    | true=>
     cases hO:inW x.Other 0 r.Side with
     | false=>
      have:ma x r.Side=false:=by
       unfold ma mf
       split
       ·rfl
       ·simp only [hS,hO];rfl
      rw [this]
      simp
     | true=>
      rw [OD x r.Side hl2 hS hO]
      cases sF x <;> simp
end Go.Proofs.YtkgplaoappjkcaaGreat
namespace Go.Proofs.YtkgplaoappjkcaaGreat
open Go Go.Mir
attribute [local irreducible] Go.Mir.DT.sat Go.Mir.evPat Go.Mir.RT.sat Go.Mir.evFn
abbrev qNv:Pat:=⟨[(168,.h Is),(169,.h I),(170,.h I)],[],0⟩
abbrev xNv:List (Lf×Pat):= [(.ret,⟨[(4,.h .bool)],[],0⟩),(.ext 2,⟨[],[],0⟩)]
def kG (x:List Int×Int×Int×Unit):Sum (Bool×Unit) Unit:=qe (!d5 (x.1.drop x.2.2.1.toNat))
def HE (x:List Int×Int×Int×Unit):Nat:=(x.2.1 - x.2.2.1).toNat
noncomputable def lpNv:Lp:=(⟨0,ao [jg] Tryz.f148,(fun _=>none),(aA Tryz.f148 1),qNv,xNv⟩:Lp)
theorem Qd (xs:List Int) (n:Int) (i:Int) (hi:cx (xs,n,i,())) :(Go.Mir.stepG lpNv kG (fun y:Den (tyP lpNv.q)=>cx y∧HE y<HE (xs,n,i,())) (xs,n,i,())∧Go.Mir.stepE lpNv kG (xs,n,i,())=kG (xs,n,i,())):=by
 refine cast (by kernel_rfl) (?_:let r1:Bool:=!inW (xs.getD i.toNat (dflt (Ty.int IntKind.i64))) (0:Int) (1000000000:Int);((decide (i<n)=true→((0:Int)≤i∧i <(↑xs.length:Int))∧(r1=true→True)∧(r1=false→cx (xs,n,IntKind.i64.wrap (i +(1:Int)),())∧HE (xs,n,IntKind.i64.wrap (i +(1:Int)),())<HE (xs,n,i,())))∧(decide (i<n)=false→True))∧(bif decide (i<n) then bif r1 then Sum.inl (false,()) else kG (xs,n,IntKind.i64.wrap (i +(1:Int)),()) else Sum.inr ())=kG (xs,n,i,()))
 intro r1
 clear_value (hr1:r1=_)
 obtain ⟨h1,h2,h3,h4⟩:=hi
 simp only at h1 h2 h3 h4
 have h5 :(xs.length:Int)≤140737488355328:=by have:xs.length≤140737488355328:=h4;omega
 refine ⟨⟨fun h=>?_,fun _=>trivial⟩,?_⟩
 ·have h:i<n:=of_decide_eq_true h
  rw [bi (n:=i+1) (by omega) (by omega)]
  refine ⟨⟨h2,by omega⟩,fun _=>trivial,fun _=>⟨⟨h1,by simp only;omega,by simp only;omega,h4⟩,by simp only [HE];omega⟩⟩
 ·by_cases h:i<n
  ·rw [decide_eq_true h,cond_true,bi (n:=i+1) (by omega) (by omega)]
   have e:xs.drop i.toNat=xs.getD i.toNat (dflt (Ty.int IntKind.i64))::xs.drop (i+1).toNat:=b7 h2 (by omega) _
   try rw [hr1]
   generalize xs.getD i.toNat (dflt (Ty.int IntKind.i64))=v at e ⊢
   simp only [kG,e,d5,List.any_cons]
   show _=qe (!(fP v||_))
   unfold fP
   cases inW v 0 1000000000 <;> rfl
  ·rw [decide_eq_false h,cond_false]
   simp only [kG]
   rw [bK (l:=xs) (by omega)]
   rfl
noncomputable def Ok:LoopSum:=aI lpNv kG cx
noncomputable def NW:Nat:=rid (aA Tryz.f148 1)
theorem Pd:LoopOKp Tryz.prog 0 Tryz.f148.ntmps (aA Tryz.f148 1) (aI lpNv kG cx):=
 bj lpNv (al (.consU lx rfl .nil) _) mixed (fun b hb S hS=>by cases hS) kG cx HE (fun |⟨xs,n,i,⟨⟩⟩,hi=>Qd xs n i hi)
theorem Dj (r:Rules) (x:Innings) (hs:aj x) :(evPat (ao [k86,jg,tt,jJ] Tryz.f148) (find [(rid (aA Tryz.f148 0),cX 13 (ao [k86,jg,tt,jJ] Tryz.f148) (fun _=>none) (aA Tryz.f148 0)),(NW,Ok)]) Tryz.f148 qRI ax (r,x,())).sat fun z_=>z_ =(rC (r,x,())).2:=by
 refine cast (by kernel_rfl) (?_:let r1:Int:=IntKind.i64.wrap ((0:Int) +(1:Int));let r2:Bool:=!inW x.8 (0:Int) (IntKind.i64.wrap (r.5 - (1:Int)));let r3:Int:=IntKind.i64.wrap (r1 +(1:Int));let r4:Int:=IntKind.i64.wrap (r3 +(1:Int));let r5:Int:=IntKind.i64.wrap (r4 +(1:Int));let r6:Int:=IntKind.i64.wrap (r5 +(1:Int));let r7:Bool:=bif !inW x.9 (0:Int) r.2 then true else bif !inW x.10 (0:Int) r.2 then true else bif !inW x.12 (0:Int) r.2 then true else bif !inW x.19 (0:Int) r.2 then true else bif !cZ x.13 r.2 then true else bif !cZ x.14 r.2 then true else !sF x;let r8:List Int:= [x.2,x.4,x.6.1,x.6.2,x.6.3,x.6.4,x.6.5,x.7,x.18,x.20,x.22.1,x.22.2.1];let r9:Bool:=bif decide (r.4 >(0:Int)) then bif !inW x.3 (1:Int) r.4 then true else r2 else r2;let r10:Int:=IntKind.i64.wrap (r6 +(1:Int));let r11:Int:=(↑r8.length:Int);let r12:Int:=IntKind.i64.wrap (r10 +(1:Int));let r13:Bool:=bif ar r !=(0:Int) then true else bif !inW x.1 (1:Int) (2:Int) then true else bif (↑x.11.length:Int) != r.2 then true else bif (↑x.16.length:Int) != r.2 then true else bif (↑x.21.length:Int) != r.2 then true else decide (x.23 >(5:Int));let r14:Bool:=!inW (r8.getD (Int.toNat (0:Int)) (dflt (Ty.int IntKind.i64))) (0:Int) (1000000000:Int);let r15:Int:=IntKind.i64.wrap (r12 +(1:Int));let r16:Bool:=!inW (r8.getD r1.toNat (dflt (Ty.int IntKind.i64))) (0:Int) (1000000000:Int);let r17:Int:=IntKind.i64.wrap (r15 +(1:Int));let r18:Bool:=!inW (r8.getD r3.toNat (dflt (Ty.int IntKind.i64))) (0:Int) (1000000000:Int);let r19:Int:=IntKind.i64.wrap (r17 +(1:Int));let r20:Bool:=!inW (r8.getD r4.toNat (dflt (Ty.int IntKind.i64))) (0:Int) (1000000000:Int);let r21:Int:=IntKind.i64.wrap (r19 +(1:Int));let r22:Bool:=!inW (r8.getD r5.toNat (dflt (Ty.int IntKind.i64))) (0:Int) (1000000000:Int);let r23:Bool:=isL (kG (x.16,(↑x.16.length:Int),(0:Int),()));let r24:Bool:=!inW (r8.getD r6.toNat (dflt (Ty.int IntKind.i64))) (0:Int) (1000000000:Int);let r25:Bool:=!inW (r8.getD r10.toNat (dflt (Ty.int IntKind.i64))) (0:Int) (1000000000:Int);let r26:Bool:=bif r.4 ==(0:Int) then bif x.3 !=(0:Int) then true else r9 else r9;let r27:Bool:=!inW (r8.getD r12.toNat (dflt (Ty.int IntKind.i64))) (0:Int) (1000000000:Int);let r28:Bool:=!inW (r8.getD r15.toNat (dflt (Ty.int IntKind.i64))) (0:Int) (1000000000:Int);let r29:Bool:=!inW (r8.getD r17.toNat (dflt (Ty.int IntKind.i64))) (0:Int) (1000000000:Int);let r30:Bool:=!inW (r8.getD r19.toNat (dflt (Ty.int IntKind.i64))) (0:Int) (1000000000:Int);let r31:Bool:=!inW (r8.getD r21.toNat (dflt (Ty.int IntKind.i64))) (0:Int) (1000000000:Int);(r13=true→(false,()) =(aZ r x,()))∧(r13=false→(((!inW x.9 (0:Int) r.2)=true→True)∧((!inW x.9 (0:Int) r.2)=false→((!inW x.10 (0:Int) r.2)=true→True)∧((!inW x.10 (0:Int) r.2)=false→((!inW x.12 (0:Int) r.2)=true→True)∧((!inW x.12 (0:Int) r.2)=false→((!inW x.19 (0:Int) r.2)=true→True)∧((!inW x.19 (0:Int) r.2)=false→((!cZ x.13 r.2)=true→True)∧((!cZ x.13 r.2)=false→((!cZ x.14 r.2)=true→True)∧((!cZ x.14 r.2)=false→aj x∧True)))))))∧(true=true→(r7=true→(false,()) =(aZ r x,()))∧(r7=false→(r26=true→(false,()) =(aZ r x,()))∧(r26=false→((0:Int)≤(0:Int)∧(0:Int) <(↑(2:Nat):Int))∧((0:Int)≤(1:Int)∧(1:Int) <(↑(2:Nat):Int))∧True∧((0:Int)≤(0:Int)∧(0:Int)<r11)∧(r14=true→(false,()) =(aZ r x,()))∧(r14=false→((0:Int)≤r1∧r1<r11)∧(r16=true→(false,()) =(aZ r x,()))∧(r16=false→((0:Int)≤r3∧r3<r11)∧(r18=true→(false,()) =(aZ r x,()))∧(r18=false→((0:Int)≤r4∧r4<r11)∧(r20=true→(false,()) =(aZ r x,()))∧(r20=false→((0:Int)≤r5∧r5<r11)∧(r22=true→(false,()) =(aZ r x,()))∧(r22=false→((0:Int)≤r6∧r6<r11)∧(r24=true→(false,()) =(aZ r x,()))∧(r24=false→((0:Int)≤r10∧r10<r11)∧(r25=true→(false,()) =(aZ r x,()))∧(r25=false→((0:Int)≤r12∧r12<r11)∧(r27=true→(false,()) =(aZ r x,()))∧(r27=false→((0:Int)≤r15∧r15<r11)∧(r28=true→(false,()) =(aZ r x,()))∧(r28=false→((0:Int)≤r17∧r17<r11)∧(r29=true→(false,()) =(aZ r x,()))∧(r29=false→((0:Int)≤r19∧r19<r11)∧(r30=true→(false,()) =(aZ r x,()))∧(r30=false→((0:Int)≤r21∧r21<r11)∧(r31=true→(false,()) =(aZ r x,()))∧(r31=false→((cR fun x=>none)∧(↑x.16.length:Int) =(↑x.16.length:Int)∧(0:Int)≤(0:Int)∧(0:Int)≤(↑x.16.length:Int)∧x.16.length≤aS)∧(r23=true→ij (dflt (Ty.bool.prod Ty.unit)) (kG (x.16,(↑x.16.length:Int),(0:Int),())) =(aZ r x,()))∧(r23=false→(true,()) =(aZ r x,())))))))))))))))))))
 intro r1 r2 r3 r4 r5 r6 r7 r8 r9 r10 r11 r12 r13 r14 r15 r16 r17 r18 r19 r20 r21 r22 r23 r24 r25 r26 r27 r28 r29 r30 r31
 clear_value (hr1:r1=_) (hr2:r2=_) (hr3:r3=_) (hr4:r4=_) (hr5:r5=_) (hr6:r6=_) (hr7:r7=_) (hr8:r8=_) (hr9:r9=_) (hr10:r10=_) (hr11:r11=_) (hr12:r12=_) (hr13:r13=_) (hr14:r14=_) (hr15:r15=_) (hr16:r16=_) (hr17:r17=_) (hr18:r18=_) (hr19:r19=_) (hr20:r20=_) (hr21:r21=_) (hr22:r22=_) (hr23:r23=_) (hr24:r24=_) (hr25:r25=_) (hr26:r26=_) (hr27:r27=_) (hr28:r28=_) (hr29:r29=_) (hr30:r30=_) (hr31:r31=_)
 have e13:r13=!(ar r==0&&(inW x.Side 1 2&&(p0 r x&&decide (x.Ending≤5)))):=by
  have hd:decide (x.Ending>5)=!decide (x.Ending≤5):=by by_cases h:x.Ending≤5 <;> simp [h] <;> omega
  rw [hr13,hd];unfold p0
  cases h0:ar r==0 <;> cases inW x.Side 1 2 <;> cases h1 :(x.Batters.length:Int)==r.Side <;> cases h2 :(x.Bowled.length:Int)==r.Side <;> cases h3 :(x.Subs.length:Int)==r.Side <;> simp [bne,h0,h1,h2,h3]
 have e7:r7=!(inW x.Striker 0 r.Side&&(inW x.Other 0 r.Side&&(inW x.Bowler 0 r.Side&&(inW x.Keeper 0 r.Side&&(cZ x.Bowlers r.Side&&(cZ x.Before r.Side&&sF x)))))):=by
  rw [hr7];cases inW x.Striker 0 r.Side <;> cases inW x.Other 0 r.Side <;> cases inW x.Bowler 0 r.Side <;> cases inW x.Keeper 0 r.Side <;> cases cZ x.Bowlers r.Side <;> cases cZ x.Before r.Side <;> rfl
 have e26:r26=!(vp r x&&inW x.InOver 0 (W (r.Balls - 1))):=by
  rw [hr26,hr9,hr2];unfold vp;cases r.Overs==0 <;> cases hx :(x.Overs==0) <;> cases decide (r.Overs>0) <;> cases inW x.Overs 1 r.Overs <;> simp [bne,hx]
 have n11:r11=12:=by rw [hr11,hr8];rfl
 have n1:r1=1:=by rw [hr1];rfl
 have n3:r3=2:=by rw [hr3,n1];rfl
 have n4:r4=3:=by rw [hr4,n3];rfl
 have n5:r5=4:=by rw [hr5,n4];rfl
 have n6:r6=5:=by rw [hr6,n5];rfl
 have n10:r10=6:=by rw [hr10,n6];rfl
 have n12:r12=7:=by rw [hr12,n10];rfl
 have n15:r15=8:=by rw [hr15,n12];rfl
 have n17:r17=9:=by rw [hr17,n15];rfl
 have n19:r19=10:=by rw [hr19,n17];rfl
 have n21:r21=11:=by rw [hr21,n19];rfl
 have f14:r14=fP x.Target:=by rw [hr14,hr8];rfl
 have f16:r16=fP x.Runs:=by rw [hr16,hr8,n1];rfl
 have f18:r18=fP x.Extras.Wides:=by rw [hr18,hr8,n3];rfl
 have f20:r20=fP x.Extras.NoBalls:=by rw [hr20,hr8,n4];rfl
 have f22:r22=fP x.Extras.Byes:=by rw [hr22,hr8,n5];rfl
 have f24:r24=fP x.Extras.LegByes:=by rw [hr24,hr8,n6];rfl
 have f25:r25=fP x.Extras.Penalties:=by rw [hr25,hr8,n10];rfl
 have f27:r27=fP x.Complete:=by rw [hr27,hr8,n12];rfl
 have f28:r28=fP x.BallAge:=by rw [hr28,hr8,n15];rfl
 have f29:r29=fP x.Outside:=by rw [hr29,hr8,n17];rfl
 have f30:r30=fP x.Reviews.1:=by rw [hr30,hr8,n19];rfl
 have f31:r31=fP x.Reviews.2.1:=by rw [hr31,hr8,n21];rfl
 have hf:d5 (wq x) =(r14 ||(r16 ||(r18 ||(r20 ||(r22 ||(r24 ||(r25 ||(r27 ||(r28 ||(r29 ||(r30 ||(r31||false)))))))))))):=by rw [f14,f16,f18,f20,f22,f24,f25,f27,f28,f29,f30,f31];rfl
 have er:kG (x.Bowled,(x.Bowled.length:Int),0,())=qe (!d5 x.Bowled):=rfl
 have hv:aZ r x =(!r13&&(!r7&&(!r26&&(!d5 (wq x)&&!d5 x.Bowled)))):=by rw [←LK,e13,e7,e26];unfold FM;simp only [Bool.not_not,Bool.and_assoc]
 have hb:x.Bowled.length≤aS:=by have:=hs.2.2.2.1;show x.Bowled.length≤140737488355328;omega
 rw [er] at hr23
 rw [er,hv,hf,n11,n1,n3,n4,n5,n6,n10,n12,n15,n17,n19,n21]
 clear hr13 hr7 hr26 hr9 hr2 hv hf e13 e7 e26 f14 f16 f18 f20 f22 f24 f25 f27 f28 f29 f30 f31 hr14 hr16 hr18 hr20 hr22 hr24 hr25 hr27 hr28 hr29 hr30 hr31 hr8
 cases r13 with
 | true=>simp [hs]
 | false=>
 cases r7 with
 | true=>simp [hs]
 | false=>
 cases r26 with
 | true=>simp [hs]
 | false=>
 cases r14 with
 | true=>simp [hs]
 | false=>
 cases r16 with
 | true=>simp [hs]
 | false=>
 cases r18 with
 | true=>simp [hs]
 | false=>
 cases r20 with
 | true=>simp [hs]
 | false=>
 cases r22 with
 | true=>simp [hs]
 | false=>
 cases r24 with
 | true=>simp [hs]
 | false=>
 cases r25 with
 | true=>simp [hs]
 | false=>
 cases r27 with
 | true=>simp [hs]
 | false=>
 cases r28 with
 | true=>simp [hs]
 | false=>
 cases r29 with
 | true=>simp [hs]
 | false=>
 cases r30 with
 | true=>simp [hs]
 | false=>
 cases r31 with
 | true=>simp [hs]
 | false=>
 cases hF:d5 x.Bowled with
 | true=>rw [hF] at hr23;have e:r23=true:=hr23;simp [hs,e,qe,ij,cR,hb];rfl
 | false=>rw [hF] at hr23;have e:r23=false:=hr23;simp [hs,e,qe,ij,cR,hb]
def kx:FuncId×Ctr:=(148,ae KE qRI ax rC)
theorem pp:CtrOK Tryz.prog KE 148 (ae KE qRI ax rC):=by
 refine aq (C:=ao [k86,jg,tt,jJ] Tryz.f148) (al (.consU u9 rfl (.consU lx rfl (.consU Cn rfl (.consU qj rfl .nil)))) _) mixed (fn:=Tryz.f148) Tryz.func148 (by kernel_rfl) (by kernel_rfl) (by kernel_rfl) (by kernel_rfl) (by kernel_rfl) (by kernel_rfl) (Λ:=fun x=>find [(rid (aA Tryz.f148 0),cX 13 (ao [k86,jg,tt,jJ] Tryz.f148) (fun _=>none) (aA Tryz.f148 0)),(NW,Ok)]) ?_ ?_
 ·rintro ⟨r,x,⟨⟩⟩ hw hn
  exact LoopsOKp.at (by kernel_rfl) (.cons (by kernel_rfl) (iY 13 (al (.consU u9 rfl (.consU lx rfl (.consU Cn rfl (.consU qj rfl .nil)))) _) mixed (Λ:=fun _=>none) (b:=aA Tryz.f148 0) rfl (fun _ _ _ h=>by cases h)) (.cons (by kernel_rfl) (Pd) .nil))
 ·rintro ⟨r,x,⟨⟩⟩ hw hn
  exact Dj r x (hn _ List.mem_cons_self)
theorem Ai (r:Rules) (x:Innings) (hs:aj x) :(evPat (ao [kx,gv,pU] Tryz.f178) (fun _=>none) Tryz.f178 qRI qH (r,x,())).sat fun z_=>z_ =(IR (r,x,())).2:=by
 refine cast (by kernel_rfl) (?_:let r1:Bool:=bif b9 x then (↑(sj x).length:Int) ==(0:Int) else false;let r2:Bool:=bif decide (x.2 >(0:Int)) then decide (x.4≥x.2) else false;let r3:Bool:=bif decide (x.3 >(0:Int)) then decide (x.7≥x.3) else false;aj x∧((!aZ r x)=true→((0:Int),()) =(ol r x,()))∧((!aZ r x)=false→(r2=true→((3:Int),()) =(ol r x,()))∧(r2=false→((b9 x=true→aj x∧True)∧(b9 x=false→True))∧(true=true→(r1=true→((1:Int),()) =(ol r x,()))∧(r1=false→(r3=true→((2:Int),()) =(ol r x,()))∧(r3=false→((0:Int),()) =(ol r x,())))))))
 intro r1 r2 r3
 clear_value (hr1:r1=_) (hr2:r2=_) (hr3:r3=_)
 grind [ol,jl]
def uK:FuncId×Ctr:=(178,ae KE qRI qH IR)
theorem Cm:CtrOK Tryz.prog KE 178 (ae KE qRI qH IR):=by
 refine aq (C:=ao [kx,gv,pU] Tryz.f178) (al (.consU pp rfl (.consU mR rfl (.consU x7 rfl .nil))) _) mixed (fn:=Tryz.f178) Tryz.func178 (by kernel_rfl) (by kernel_rfl) (by kernel_rfl) (by kernel_rfl) (by kernel_rfl) (by kernel_rfl) (Λ:=fun _ _=>none) ?_ ?_
 ·exact fun _ _ _ _ _ _ _ _ h=>by cases h
 ·rintro ⟨r,x,⟨⟩⟩ hw hn
  exact Ai r x (hn _ List.mem_cons_self)
end Go.Proofs.YtkgplaoappjkcaaGreat
namespace Go.Proofs.YtkgplaoappjkcaaGreat
open Go Go.Mir
attribute [local irreducible] Go.Mir.DT.sat Go.Mir.evPat Go.Mir.RT.sat Go.Mir.evFn
abbrev sZ:Pat:=cg [.nm .Rules,.nm .Innings,I]
abbrev vF:Pat:=cg [.nm .Rules,.nm .Innings,.nm .Delivery]
def Ll:Den (tyP sZ)→List Prop×Den (tyP be):=fun x=>([],(c8 x.1 x.2.1 x.2.2.1,()))
def PN:Den (tyP sZ)→List Prop×Den (tyP be):=fun x=>([],(cz x.1 x.2.1 x.2.2.1,()))
def Lo:Den (tyP sZ)→List Prop×Den (tyP q2L):=fun x=>([aj x.2.1],(ca x.1 x.2.1 x.2.2.1,cz x.1 x.2.1 x.2.2.1,()))
def cW (r:Rules) (x:Innings) (d:Delivery):Int:=
 if b9 x then 6 else if x.Bowler==0 then 7 else if ei r x != 0 then ei r x else if bV d != 0 then bV d else if bW d x.FreeHit != 0 then bW d x.FreeHit else cQ x d
def vS:Den (tyP vF)→List Prop×Den (tyP be):=fun x=>([],(cW x.1 x.2.1 x.2.2.1,()))
def tI (x:Innings) (c:Credit):Innings:={ x with Runs:=W (x.Runs+rF c),Extras:={ x.Extras with Wides:=W (x.Extras.Wides+c.Wides),NoBalls:=W (x.Extras.NoBalls+c.NoBalls),Byes:=W (x.Extras.Byes+c.Byes),LegByes:=W (x.Extras.LegByes+c.LegByes) } }
def Kq (y:Innings) (o:Bool):Innings:=if o then fU y else y
def mz (r:Rules) (x:Innings) (d:Delivery):Innings:=if d.Typ==1 then { x with FreeHit:=false } else if d.Typ==3&&r.FreeHit then { x with FreeHit:=true } else x
def d6 (r:Rules) (x:Innings) (c:Bool):Innings:=Kq (ah r x c) (eC r x c)
def du (r:Rules) (x:Innings) (d:Delivery):Innings:=if cW r x d != 0 then x else mz r (d6 r (tI (aQ x d) (au r d)) (au r d).Counts) d
def dK (x:Innings):Prop:=x.Batters.length≤999999∧x.Bowlers.length≤999999∧x.Before.length≤999999∧x.Bowled.length≤999999∧x.Subs.length≤999999
def yy:Den (tyP vF)→List Prop×Den (tyP q2L):=fun x=>([dK x.2.1],(du x.1 x.2.1 x.2.2.1,cW x.1 x.2.1 x.2.2.1,()))
theorem hZ {x:Innings} (h:dK x):aj x:=by
 obtain ⟨h1,h2,h3,h4,h5⟩:=h
 exact ⟨by omega,by omega,by omega,by omega,by omega⟩
theorem nW {x:Innings} (d:Delivery) (h:dK x):dK (aQ x d):=by
 have e1 :(aQ x d).Batters.length=x.Batters.length:=by
  unfold aQ fc cB cG fU cc
  repeat' split
  all_goals simp
 have e2 :(aQ x d).Bowlers=x.Bowlers∧(aQ x d).Before=x.Before∧(aQ x d).Bowled=x.Bowled∧(aQ x d).Subs=x.Subs:=by
  unfold aQ fc cB cG fU cc
  repeat' split
  all_goals exact ⟨rfl,rfl,rfl,rfl⟩
 obtain ⟨k2,k3,k4,k5⟩:=e2
 unfold dK
 rw [e1,k2,k3,k4,k5]
 exact h
theorem oM {r:Rules} {x:Innings} (c:Bool) (h:dK x):aj (ah r x c):=by
 have hb :(dw x).length≤x.Bowlers.length+1:=by unfold dw;split <;> simp
 have hu :(mh x).length=x.Bowled.length:=by unfold mh;simp
 have hc :(ci x c).Batters=x.Batters∧(ci x c).Before=x.Before∧(ci x c).Subs=x.Subs∧(ci x c).Bowlers=dw x∧(ci x c).Bowled.length=x.Bowled.length:=by
  unfold ci;cases c
  ·exact ⟨rfl,rfl,rfl,rfl,rfl⟩
  ·exact ⟨rfl,rfl,rfl,rfl,hu⟩
 obtain ⟨c1,c2,c3,c4,c5⟩:=hc
 obtain ⟨h1,h2,h3,h4,h5⟩:=h
 unfold ah
 split
 ·exact ⟨by omega,by omega,by omega,by omega,by omega⟩
 ·split
  ·unfold aj;rw [c1,c2,c3,c4,c5];exact ⟨by omega,by omega,by omega,by omega,by omega⟩
  ·unfold aj vo;simp only;rw [c1,c3,c4,c5];exact ⟨by omega,by simp,by omega,by omega,by omega⟩
theorem M5 (r:Rules) (x:Innings) (p:Int):c8 r x p = -1∨0≤c8 r x p:=by
 unfold c8
 repeat' split
 ·exact .inr (Int.le_refl _)
 ·exact .inl rfl
 ·right;unfold rb;split <;> omega
theorem nV {r:Rules} {x:Innings} {d:Delivery} (h :(cW r x d != 0)=true):du r x d=x:=by simp only [du,h,if_true]
theorem xj (r:Rules) (y:Innings) (c:Credit) (b:Bool):d6 r (tI y c) b=tI (d6 r y b) c:=by
 have e1:eM r (tI y c)=eM r y:=rfl
 have e2:ci (tI y c) b=tI (ci y b) c:=by cases b <;> rfl
 have e3 :(tI (ci y b) c).InOver =(ci y b).InOver:=rfl
 unfold d6 Kq ah eC
 rw [e1,e2,e3]
 cases eM r y
 ·by_cases h :(ci y b).InOver<r.Balls
  ·simp only [if_pos h];rfl
  ·simp only [if_neg h];rfl
 ·rfl
theorem E9 (r:Rules) (x:Innings) (p:Int) (hp:gl p) :(evPat (ao [k86,k87] Tryz.f224) (fun _=>none) Tryz.f224 sZ be (r,x,p,())).sat fun z_=>z_ =(Ll (r,x,p,())).2:=by
 refine cast (by kernel_rfl) (?_:let r1:Int:=IntKind.i64.wrap (p - (1:Int));let r2:Bool:=bif ar r !=(0:Int) then true else !bC x p;let r3:Int:=x.16.getD r1.toNat (dflt (Ty.int IntKind.i64));let r4:Int:=IntKind.i64.wrap (IntKind.i64.wrap (r.6*r.5) - if (0:Int)>r3 then (0:Int) else r3);(r2=true→((0:Int),()) =(c8 r x p,()))∧(r2=false→((r.6 ==(0:Int))=true→((-1:Int),()) =(c8 r x p,()))∧((r.6 ==(0:Int))=false→((0:Int)≤r1∧r1 <(↑x.16.length:Int))∧(if (0:Int)>r4 then (0:Int) else r4,()) =(c8 r x p,()))))
 intro r1 r2 r3 r4
 clear_value (hr1:r1=_) (hr2:r2=_) (hr3:r3=_) (hr4:r4=_)
 have h0:r2 =(!bC x p||ar r != 0):=by rw [hr2];cases ar r != 0 <;> cases bC x p <;> rfl
 have hk:r2=false→bC x p=true:=fun h=>by
  rw [h0] at h
  cases hk:bC x p with
  | true=>rfl
  | false=>rw [hk] at h;cases h
 refine ⟨fun h=>?_,fun h=>⟨fun h2=>?_,fun h2=>⟨?_,?_⟩⟩⟩
 ·simp only [c8,←h0,h,if_true]
 ·simp only [c8,←h0,h,h2];rfl
 ·obtain ⟨e,h3,h4⟩:=nC hp (hk h)
  rw [hr1,e];exact ⟨h3,h4⟩
 ·obtain ⟨e,h3,h4⟩:=nC hp (hk h)
  simp only [c8,←h0,h,h2]
  rw [hr4,hr3,hr1,e]
  rfl
def BU:FuncId×Ctr:=(224,ae KE sZ be Ll)
theorem HU:CtrOK Tryz.prog KE 224 (ae KE sZ be Ll):=by
 refine aq (C:=ao [k86,k87] Tryz.f224) (al (.consU u9 rfl (.consU Pt rfl .nil)) _) mixed (fn:=Tryz.f224) Tryz.func224 (by kernel_rfl) (by kernel_rfl) (by kernel_rfl) (by kernel_rfl) (by kernel_rfl) (by kernel_rfl) (Λ:=fun _ _=>none) ?_ ?_
 ·exact fun _ _ _ _ _ _ _ _ h=>by cases h
 ·rintro ⟨r,x,p,⟨⟩⟩ hw hn
  exact E9 r x p (dd (aY (aP (aP hw))))
theorem ID (r:Rules) (x:Innings) (p:Int) (hp:gl p) :(evPat (ao [k86,k87,BU,k72,k88] Tryz.f205) (fun _=>none) Tryz.f205 sZ be (r,x,p,())).sat fun z_=>z_ =(PN (r,x,p,())).2:=by
 refine cast (by kernel_rfl) (?_:let r1:Int:=IntKind.i64.wrap (r.5 - c8 r x p);let r2:Bool:=bif ar r !=(0:Int) then true else !bC x p;let r3:Bool:=bif p==x.19 then true else bif p==x.12 then true else aF x p;let r4:Bool:=bif decide (c8 r x p≥(0:Int)) then decide (x.8<r1) else false;(r2=true→((3:Int),()) =(cz r x p,()))∧(r2=false→(r3=true→((7:Int),()) =(cz r x p,()))∧(r3=false→(cE x.14 p=true→((8:Int),()) =(cz r x p,()))∧(cE x.14 p=false→(r4=true→((9:Int),()) =(cz r x p,()))∧(r4=false→((0:Int),()) =(cz r x p,()))))))
 intro r1 r2 r3 r4
 clear_value (hr1:r1=_) (hr2:r2=_) (hr3:r3=_) (hr4:r4=_)
 have h0:r2 =(!bC x p||ar r != 0):=by rw [hr2];cases ar r != 0 <;> cases bC x p <;> rfl
 have h3:r3 =(p==x.Keeper ||(p==x.Bowler||aF x p)):=by rw [hr3];cases p==x.Keeper <;> cases p==x.Bowler <;> rfl
 have hd:decide (c8 r x p≥0) =(c8 r x p != -1):=by
  rcases M5 r x p with h|h
  ·rw [h];rfl
  ·have h1:c8 r x p≠ -1:=by omega
   have h2:c8 r x p≥0:=h
   simp [h1,h2]
 have h4:r4 =(c8 r x p != -1&&decide (x.InOver<r1)):=by rw [hr4,hd];cases c8 r x p != -1 <;> rfl
 rw [hr1] at h4
 unfold cz
 rw [←h0,←h3,←h4]
 cases r2 <;> cases r3 <;> cases cE x.Before p <;> cases r4 <;> simp
def Gl:FuncId×Ctr:=(205,ae KE sZ be PN)
theorem Ki:CtrOK Tryz.prog KE 205 (ae KE sZ be PN):=by
 refine aq (C:=ao [k86,k87,BU,k72,k88] Tryz.f205) (al (.consU u9 rfl (.consU Pt rfl (.consU HU rfl (.consU JZ rfl (.consU QR rfl .nil))))) _) mixed (fn:=Tryz.f205) Tryz.func205 (by kernel_rfl) (by kernel_rfl) (by kernel_rfl) (by kernel_rfl) (by kernel_rfl) (by kernel_rfl) (Λ:=fun _ _=>none) ?_ ?_
 ·exact fun _ _ _ _ _ _ _ _ h=>by cases h
 ·rintro ⟨r,x,p,⟨⟩⟩ hw hn
  exact ID r x p (dd (aY (aP (aP hw))))
theorem Fa (r:Rules) (x:Innings) (p:Int) (hs:aj x) :(evPat (ao [k44,Gl] Tryz.f186) (fun _=>none) Tryz.f186 sZ q2L (r,x,p,())).sat fun z_=>z_ =(Lo (r,x,p,())).2:=by
 refine cast (by kernel_rfl) (?_:let r1:Bool:=cz r x p ==(0:Int);aj x∧(Innings.mk (bif r1 then x.1 else x.1) (bif r1 then x.2 else x.2) (bif r1 then x.3 else x.3) (bif r1 then x.4 else x.4) (bif r1 then x.5 else x.5) (Extras.mk (bif r1 then x.6.1 else x.6.1) (bif r1 then x.6.2 else x.6.2) (bif r1 then x.6.3 else x.6.3) (bif r1 then x.6.4 else x.6.4) (bif r1 then x.6.5 else x.6.5)) (bif r1 then x.7 else x.7) (bif r1 then x.8 else x.8) (bif r1 then x.9 else x.9) (bif r1 then x.10 else x.10) x.11 (bif r1 then p else x.12) x.13 x.14 (bif r1 then x.15 else x.15) x.16 (bif r1 then x.17 else x.17) (bif r1 then x.18 else x.18) (bif r1 then x.19 else x.19) (bif r1 then x.20 else x.20) x.21 (bif r1 then x.22.1 else x.22.1,bif r1 then x.22.2.1 else x.22.2.1,()) (bif r1 then x.23 else x.23),cz r x p,()) =(ca r x p,cz r x p,()))
 intro r1
 clear_value (hr1:r1=_)
 simp only [Bool.cond_self]
 subst hr1
 refine ⟨hs,?_⟩
 unfold ca
 cases cz r x p==0 <;> rfl
def BV:FuncId×Ctr:=(186,ae KE sZ q2L Lo)
theorem HV:CtrOK Tryz.prog KE 186 (ae KE sZ q2L Lo):=by
 refine aq (C:=ao [k44,Gl] Tryz.f186) (al (.consU rg rfl (.consU Ki rfl .nil)) _) mixed (fn:=Tryz.f186) Tryz.func186 (by kernel_rfl) (by kernel_rfl) (by kernel_rfl) (by kernel_rfl) (by kernel_rfl) (by kernel_rfl) (Λ:=fun _ _=>none) ?_ ?_
 ·exact fun _ _ _ _ _ _ _ _ h=>by cases h
 ·rintro ⟨r,x,p,⟨⟩⟩ hw hn
  exact Fa r x p (hn _ List.mem_cons_self)
theorem C3 (r:Rules) (x:Innings) (d:Delivery) :(evPat (ao [gS,k40,nE,k17,k42] Tryz.f162) (find [(rid (aA Tryz.f162 0),cX 5 (ao [gS,k40,nE,k17,k42] Tryz.f162) (fun _=>none) (aA Tryz.f162 0))]) Tryz.f162 vF be (r,x,d,())).sat fun z_=>z_ =(vS (r,x,d,())).2:=by
 refine cast (by kernel_rfl) (?_:let r1:Int:=IntKind.i64.wrap ((0:Int) +(1:Int));let r2:List Int:= [ei r x,bV d,bW d x.17,cQ x d];let r3:Int:=IntKind.i64.wrap (r1 +(1:Int));let r4:Int:=(↑r2.length:Int);let r5:Int:=r2.getD (Int.toNat (0:Int)) (dflt (Ty.int IntKind.i64));let r6:Int:=IntKind.i64.wrap (r3 +(1:Int));let r7:Bool:=r5 !=(0:Int);let r8:Int:=r2.getD r1.toNat (dflt (Ty.int IntKind.i64));let r9:Bool:=r8 !=(0:Int);let r10:Int:=r2.getD r3.toNat (dflt (Ty.int IntKind.i64));let r11:Bool:=r10 !=(0:Int);let r12:Int:=r2.getD r6.toNat (dflt (Ty.int IntKind.i64));let r13:Bool:=r12 !=(0:Int);(b9 x=true→((6:Int),()) =(cW r x d,()))∧(b9 x=false→((x.12 ==(0:Int))=true→((7:Int),()) =(cW r x d,()))∧((x.12 ==(0:Int))=false→True∧((0:Int)≤(0:Int)∧(0:Int)<r4)∧(r7=true→(r5,()) =(cW r x d,()))∧(r7=false→((0:Int)≤r1∧r1<r4)∧(r9=true→(r8,()) =(cW r x d,()))∧(r9=false→((0:Int)≤r3∧r3<r4)∧(r11=true→(r10,()) =(cW r x d,()))∧(r11=false→((0:Int)≤r6∧r6<r4)∧(r13=true→(r12,()) =(cW r x d,()))∧(r13=false→((0:Int),()) =(cW r x d,()))))))))
 intro r1 r2 r3 r4 r5 r6 r7 r8 r9 r10 r11 r12 r13
 clear_value (hr1:r1=_) (hr2:r2=_) (hr3:r3=_) (hr4:r4=_) (hr5:r5=_) (hr6:r6=_) (hr7:r7=_) (hr8:r8=_) (hr9:r9=_) (hr10:r10=_) (hr11:r11=_) (hr12:r12=_) (hr13:r13=_)
 have n1:r1=1:=by rw [hr1];rfl
 have n3:r3=2:=by rw [hr3,n1];rfl
 have n6:r6=3:=by rw [hr6,n3];rfl
 have n4:r4=4:=by rw [hr4,hr2];rfl
 have e5:r5=ei r x:=by rw [hr5,hr2];rfl
 have e8:r8=bV d:=by rw [hr8,hr2,n1];rfl
 have e10:r10=bW d x.FreeHit:=by rw [hr10,hr2,n3];rfl
 have e12:r12=cQ x d:=by rw [hr12,hr2,n6];rfl
 clear hr1 hr2 hr3 hr4 hr5 hr6 hr8 hr10 hr12
 subst e5 e8 e10 e12 n1 n3 n4 n6
 unfold cW
 rw [←hr7,←hr9,←hr11]
 cases b9 x <;> cases x.Bowler==0 <;> cases r7 <;> cases r9 <;> cases r11 <;> cases h13:r13 <;> simp
 all_goals (rw [h13] at hr13;simp at hr13;exact hr13.symm)
def xJ:FuncId×Ctr:=(162,ae KE vF be vS)
theorem Ep:CtrOK Tryz.prog KE 162 (ae KE vF be vS):=by
 refine aq (C:=ao [gS,k40,nE,k17,k42] Tryz.f162) (al (.consU nU rfl (.consU QO rfl (.consU vd rfl (.consU QN rfl (.consU QP rfl .nil))))) _) mixed (fn:=Tryz.f162) Tryz.func162 (by kernel_rfl) (by kernel_rfl) (by kernel_rfl) (by kernel_rfl) (by kernel_rfl) (by kernel_rfl) (Λ:=fun x=>find [(rid (aA Tryz.f162 0),cX 5 (ao [gS,k40,nE,k17,k42] Tryz.f162) (fun _=>none) (aA Tryz.f162 0))]) ?_ ?_
 ·rintro ⟨r,x,d,⟨⟩⟩ hw hn
  exact LoopsOKp.at (by kernel_rfl) (.cons (by kernel_rfl) (iY 5 (al (.consU nU rfl (.consU QO rfl (.consU vd rfl (.consU QN rfl (.consU QP rfl .nil))))) _) mixed (Λ:=fun _=>none) (b:=aA Tryz.f162 0) rfl (fun _ _ _ h=>by cases h)) .nil)
 ·rintro ⟨r,x,d,⟨⟩⟩ hw hn
  exact C3 r x d
theorem KU (r:Rules) (x:Innings) (d:Delivery) (hs:dK x) :(evPat (ao [dJ,xJ,pR,Nx,F9,k51,BM] Tryz.f133) (fun _=>none) Tryz.f133 vF q2L (r,x,d,())).sat fun z_=>z_ =(yy (r,x,d,())).2:=by
 refine cast (by kernel_rfl) (?_:let r1:Bool:=cW r x d !=(0:Int);let r2:Bool:=bif d.1 ==(3:Int) then r.9 else false;let r3:Innings:=Innings.mk (aQ x d).1 (aQ x d).2 (aQ x d).3 (IntKind.i64.wrap ((aQ x d).4+rF (au r d))) (aQ x d).5 (Extras.mk (IntKind.i64.wrap ((aQ x d).6.1 +(au r d).2)) (IntKind.i64.wrap ((aQ x d).6.2 +(au r d).3)) (IntKind.i64.wrap ((aQ x d).6.3 +(au r d).4)) (IntKind.i64.wrap ((aQ x d).6.4 +(au r d).5)) (aQ x d).6.5) (aQ x d).7 (aQ x d).8 (aQ x d).9 (aQ x d).10 (aQ x d).11 (aQ x d).12 (aQ x d).13 (aQ x d).14 (aQ x d).15 (aQ x d).16 (aQ x d).17 (aQ x d).18 (aQ x d).19 (aQ x d).20 (aQ x d).21 (aQ x d).22 (aQ x d).23;let r4:Bool:=eC r r3 (au r d).7;let r5:Innings:=ah r r3 (au r d).7;let r6:Bool:=bif d.1 ==(1:Int) then false else bif r2 then true else r5.17;let r7:Int:=bif d.1 ==(1:Int) then r5.1 else bif r2 then r5.1 else r5.1;let r8:Int:=bif d.1 ==(1:Int) then r5.2 else bif r2 then r5.2 else r5.2;let r9:Int:=bif d.1 ==(1:Int) then r5.3 else bif r2 then r5.3 else r5.3;let r10:Int:=bif d.1 ==(1:Int) then r5.4 else bif r2 then r5.4 else r5.4;let r11:Int:=bif d.1 ==(1:Int) then r5.5 else bif r2 then r5.5 else r5.5;let r12:Int:=bif d.1 ==(1:Int) then r5.7 else bif r2 then r5.7 else r5.7;let r13:Int:=bif d.1 ==(1:Int) then r5.8 else bif r2 then r5.8 else r5.8;let r14:Int:=bif d.1 ==(1:Int) then r5.10 else bif r2 then r5.10 else r5.10;let r15:Int:=bif d.1 ==(1:Int) then r5.9 else bif r2 then r5.9 else r5.9;let r16:Int:=bif d.1 ==(1:Int) then r5.12 else bif r2 then r5.12 else r5.12;let r17:Bool:=bif d.1 ==(1:Int) then r5.15 else bif r2 then r5.15 else r5.15;let r18:Int:=bif d.1 ==(1:Int) then r5.18 else bif r2 then r5.18 else r5.18;let r19:Int:=bif d.1 ==(1:Int) then r5.19 else bif r2 then r5.19 else r5.19;let r20:Int:=bif d.1 ==(1:Int) then r5.20 else bif r2 then r5.20 else r5.20;let r21:Int:=bif d.1 ==(1:Int) then r5.23 else bif r2 then r5.23 else r5.23;let r22:Extras:=Extras.mk (bif d.1 ==(1:Int) then r5.6.1 else bif r2 then r5.6.1 else r5.6.1) (bif d.1 ==(1:Int) then r5.6.2 else bif r2 then r5.6.2 else r5.6.2) (bif d.1 ==(1:Int) then r5.6.3 else bif r2 then r5.6.3 else r5.6.3) (bif d.1 ==(1:Int) then r5.6.4 else bif r2 then r5.6.4 else r5.6.4) (bif d.1 ==(1:Int) then r5.6.5 else bif r2 then r5.6.5 else r5.6.5);(r1=true→aj x∧(x,cW r x d,()) =(du r x d,cW r x d,()))∧(r1=false→aj x∧aj r3∧(r4=true→aj r5∧(Innings.mk r7 r8 r9 r10 r11 r22 r12 r13 r14 r15 (bif d.1 ==(1:Int) then r5.11 else bif r2 then r5.11 else r5.11) r16 (bif d.1 ==(1:Int) then r5.13 else bif r2 then r5.13 else r5.13) (bif d.1 ==(1:Int) then r5.14 else bif r2 then r5.14 else r5.14) r17 (bif d.1 ==(1:Int) then r5.16 else bif r2 then r5.16 else r5.16) r6 r18 r19 r20 (bif d.1 ==(1:Int) then r5.21 else bif r2 then r5.21 else r5.21) (bif d.1 ==(1:Int) then r5.22.1 else bif r2 then r5.22.1 else r5.22.1,bif d.1 ==(1:Int) then r5.22.2.1 else bif r2 then r5.22.2.1 else r5.22.2.1,()) r21,(0:Int),()) =(du r x d,cW r x d,()))∧(r4=false→(Innings.mk r7 r8 r9 r10 r11 r22 r12 r13 r15 r14 r5.11 r16 r5.13 r5.14 r17 r5.16 r6 r18 r19 r20 r5.21 (bif d.1 ==(1:Int) then r5.22.1 else bif r2 then r5.22.1 else r5.22.1,bif d.1 ==(1:Int) then r5.22.2.1 else bif r2 then r5.22.2.1 else r5.22.2.1,()) r21,(0:Int),()) =(du r x d,cW r x d,()))))
 intro r1 r2 r3 r4 r5 r6 r7 r8 r9 r10 r11 r12 r13 r14 r15 r16 r17 r18 r19 r20 r21 r22
 clear_value (hr1:r1=_) (hr2:r2=_) (hr3:r3=_) (hr4:r4=_) (hr5:r5=_) (hr6:r6=_) (hr7:r7=_) (hr8:r8=_) (hr9:r9=_) (hr10:r10=_) (hr11:r11=_) (hr12:r12=_) (hr13:r13=_) (hr14:r14=_) (hr15:r15=_) (hr16:r16=_) (hr17:r17=_) (hr18:r18=_) (hr19:r19=_) (hr20:r20=_) (hr21:r21=_) (hr22:r22=_)
 simp only [Bool.cond_self] at *
 have e3:r3=tI (aQ x d) (au r d):=hr3
 have e22:r22=r5.Extras:=hr22
 have e2:r2 =(d.Typ==3&&r.FreeHit):=by rw [hr2];cases d.Typ==3 <;> rfl
 have s3:dK r3:=by rw [e3];exact nW d hs
 clear hr3 hr22 hr2
 subst hr7 hr8 hr9 hr10 hr11 hr12 hr13 hr14 hr15 hr16 hr17 hr18 hr19 hr20 hr21 e22
 refine ⟨fun h=>⟨hZ hs,?_⟩,fun h=>⟨hZ hs,hZ s3,fun h4=>⟨?_,?_⟩,fun h4=>?_⟩⟩
 ·rw [hr1] at h;simp only [du,h];rfl
 ·rw [hr5];exact oM _ s3
 ·have hL:cW r x d=0:=by rw [hr1] at h;simpa using h
  have hp:du r x d=mz r (d6 r r3 (au r d).Counts) d:=by simp only [du,hL,e3];rfl
  have ho:d6 r r3 (au r d).Counts=fU r5:=by unfold d6;rw [←hr4,←hr5,h4];rfl
  rw [hp,ho,hL]
  unfold mz
  rw [←e2,hr6]
  cases d.Typ==1 <;> cases r2 <;> rfl
 ·have hL:cW r x d=0:=by rw [hr1] at h;simpa using h
  have hp:du r x d=mz r (d6 r r3 (au r d).Counts) d:=by simp only [du,hL,e3];rfl
  have ho:d6 r r3 (au r d).Counts=r5:=by unfold d6;rw [←hr4,←hr5,h4];rfl
  rw [hp,ho,hL]
  unfold mz
  rw [←e2,hr6]
  cases d.Typ==1 <;> cases r2 <;> rfl
def JJ:FuncId×Ctr:=(133,ae KE vF q2L yy)
theorem Mz:CtrOK Tryz.prog KE 133 (ae KE vF q2L yy):=by
 refine aq (C:=ao [dJ,xJ,pR,Nx,F9,k51,BM] Tryz.f133) (al (.consU gZ rfl (.consU Ep rfl (.consU x5 rfl (.consU Pw rfl (.consU J7 rfl (.consU Si rfl (.consU HN rfl .nil))))))) _) mixed (fn:=Tryz.f133) Tryz.func133 (by kernel_rfl) (by kernel_rfl) (by kernel_rfl) (by kernel_rfl) (by kernel_rfl) (by kernel_rfl) (Λ:=fun _ _=>none) ?_ ?_
 ·exact fun _ _ _ _ _ _ _ _ h=>by cases h
 ·rintro ⟨r,x,d,⟨⟩⟩ hw hn
  exact KU r x d (hn _ List.mem_cons_self)
theorem Fc (r:Rules) (x:Innings) (d:Delivery) (hs:dK x) :(evPat (ao [gv,k41,tv,k18,k43,B2,Gk,k54,lj,Gs] Tryz.f187) (fun _=>none) Tryz.f187 vF q2L (r,x,d,())).sat fun z_=>z_ =(yy (r,x,d,())).2:=by
 refine cast (by kernel_rfl) (?_:let r1:Bool:=cf d x.17 !=(0:Int);let r2:Bool:=bif d.1 ==(3:Int) then r.9 else false;let r3:Int:=IntKind.i64.wrap ((ah r (aQ x d) (au r d).7).4+rF (au r d));let r4:Int:=IntKind.i64.wrap ((ah r (aQ x d) (au r d).7).6.1 +(au r d).2);let r5:Int:=IntKind.i64.wrap ((ah r (aQ x d) (au r d).7).6.2 +(au r d).3);let r6:Int:=IntKind.i64.wrap ((ah r (aQ x d) (au r d).7).6.3 +(au r d).4);let r7:Int:=IntKind.i64.wrap ((ah r (aQ x d) (au r d).7).6.4 +(au r d).5);let r8:Bool:=bif d.1 ==(1:Int) then false else bif r2 then true else (ah r (aQ x d) (au r d).7).17;let r9:Int:=bif d.1 ==(1:Int) then (ah r (aQ x d) (au r d).7).1 else bif r2 then (ah r (aQ x d) (au r d).7).1 else (ah r (aQ x d) (au r d).7).1;let r10:Int:=bif d.1 ==(1:Int) then (ah r (aQ x d) (au r d).7).2 else bif r2 then (ah r (aQ x d) (au r d).7).2 else (ah r (aQ x d) (au r d).7).2;let r11:Int:=bif d.1 ==(1:Int) then (ah r (aQ x d) (au r d).7).3 else bif r2 then (ah r (aQ x d) (au r d).7).3 else (ah r (aQ x d) (au r d).7).3;let r12:Int:=bif d.1 ==(1:Int) then (ah r (aQ x d) (au r d).7).5 else bif r2 then (ah r (aQ x d) (au r d).7).5 else (ah r (aQ x d) (au r d).7).5;let r13:Int:=bif d.1 ==(1:Int) then (ah r (aQ x d) (au r d).7).7 else bif r2 then (ah r (aQ x d) (au r d).7).7 else (ah r (aQ x d) (au r d).7).7;let r14:Int:=bif d.1 ==(1:Int) then (ah r (aQ x d) (au r d).7).8 else bif r2 then (ah r (aQ x d) (au r d).7).8 else (ah r (aQ x d) (au r d).7).8;let r15:Int:=bif d.1 ==(1:Int) then (ah r (aQ x d) (au r d).7).10 else bif r2 then (ah r (aQ x d) (au r d).7).10 else (ah r (aQ x d) (au r d).7).10;let r16:Int:=bif d.1 ==(1:Int) then (ah r (aQ x d) (au r d).7).9 else bif r2 then (ah r (aQ x d) (au r d).7).9 else (ah r (aQ x d) (au r d).7).9;let r17:Int:=bif d.1 ==(1:Int) then (ah r (aQ x d) (au r d).7).12 else bif r2 then (ah r (aQ x d) (au r d).7).12 else (ah r (aQ x d) (au r d).7).12;let r18:Bool:=bif d.1 ==(1:Int) then (ah r (aQ x d) (au r d).7).15 else bif r2 then (ah r (aQ x d) (au r d).7).15 else (ah r (aQ x d) (au r d).7).15;let r19:Int:=bif d.1 ==(1:Int) then (ah r (aQ x d) (au r d).7).18 else bif r2 then (ah r (aQ x d) (au r d).7).18 else (ah r (aQ x d) (au r d).7).18;let r20:Int:=bif d.1 ==(1:Int) then (ah r (aQ x d) (au r d).7).19 else bif r2 then (ah r (aQ x d) (au r d).7).19 else (ah r (aQ x d) (au r d).7).19;let r21:Int:=bif d.1 ==(1:Int) then (ah r (aQ x d) (au r d).7).20 else bif r2 then (ah r (aQ x d) (au r d).7).20 else (ah r (aQ x d) (au r d).7).20;let r22:Int:=bif d.1 ==(1:Int) then (ah r (aQ x d) (au r d).7).23 else bif r2 then (ah r (aQ x d) (au r d).7).23 else (ah r (aQ x d) (au r d).7).23;let r23:Int:=bif d.1 ==(1:Int) then r3 else bif r2 then r3 else r3;let r24:Extras:=Extras.mk (bif d.1 ==(1:Int) then r4 else bif r2 then r4 else r4) (bif d.1 ==(1:Int) then r5 else bif r2 then r5 else r5) (bif d.1 ==(1:Int) then r6 else bif r2 then r6 else r6) (bif d.1 ==(1:Int) then r7 else bif r2 then r7 else r7) (bif d.1 ==(1:Int) then (ah r (aQ x d) (au r d).7).6.5 else bif r2 then (ah r (aQ x d) (au r d).7).6.5 else (ah r (aQ x d) (au r d).7).6.5);(b9 x=true→(x,(6:Int),()) =(du r x d,cW r x d,()))∧(b9 x=false→((x.12 ==(0:Int))=true→(x,(7:Int),()) =(du r x d,cW r x d,()))∧((x.12 ==(0:Int))=false→((ei r x !=(0:Int))=true→(x,ei r x,()) =(du r x d,cW r x d,()))∧((ei r x !=(0:Int))=false→((bV d !=(0:Int))=true→(x,bV d,()) =(du r x d,cW r x d,()))∧((bV d !=(0:Int))=false→(r1=true→(x,cf d x.17,()) =(du r x d,cW r x d,()))∧(r1=false→((cQ x d !=(0:Int))=true→(x,cQ x d,()) =(du r x d,cW r x d,()))∧((cQ x d !=(0:Int))=false→aj x∧aj (aQ x d)∧(eC r (aQ x d) (au r d).7=true→aj (ah r (aQ x d) (au r d).7)∧(Innings.mk r9 r10 r11 r23 r12 r24 r13 r14 r15 r16 (ah r (aQ x d) (au r d).7).11 r17 (ah r (aQ x d) (au r d).7).13 (ah r (aQ x d) (au r d).7).14 r18 (ah r (aQ x d) (au r d).7).16 r8 r19 r20 r21 (ah r (aQ x d) (au r d).7).21 (bif d.1 ==(1:Int) then (ah r (aQ x d) (au r d).7).22.1 else bif r2 then (ah r (aQ x d) (au r d).7).22.1 else (ah r (aQ x d) (au r d).7).22.1,bif d.1 ==(1:Int) then (ah r (aQ x d) (au r d).7).22.2.1 else bif r2 then (ah r (aQ x d) (au r d).7).22.2.1 else (ah r (aQ x d) (au r d).7).22.2.1,()) r22,(0:Int),()) =(du r x d,cW r x d,()))∧(eC r (aQ x d) (au r d).7=false→(Innings.mk r9 r10 r11 r23 r12 r24 r13 r14 r16 r15 (ah r (aQ x d) (au r d).7).11 r17 (ah r (aQ x d) (au r d).7).13 (ah r (aQ x d) (au r d).7).14 r18 (ah r (aQ x d) (au r d).7).16 r8 r19 r20 r21 (ah r (aQ x d) (au r d).7).21 (bif d.1 ==(1:Int) then (ah r (aQ x d) (au r d).7).22.1 else bif r2 then (ah r (aQ x d) (au r d).7).22.1 else (ah r (aQ x d) (au r d).7).22.1,bif d.1 ==(1:Int) then (ah r (aQ x d) (au r d).7).22.2.1 else bif r2 then (ah r (aQ x d) (au r d).7).22.2.1 else (ah r (aQ x d) (au r d).7).22.2.1,()) r22,(0:Int),()) =(du r x d,cW r x d,())))))))))
 intro r1 r2 r3 r4 r5 r6 r7 r8 r9 r10 r11 r12 r13 r14 r15 r16 r17 r18 r19 r20 r21 r22 r23 r24
 clear_value (hr1:r1=_) (hr2:r2=_) (hr3:r3=_) (hr4:r4=_) (hr5:r5=_) (hr6:r6=_) (hr7:r7=_) (hr8:r8=_) (hr9:r9=_) (hr10:r10=_) (hr11:r11=_) (hr12:r12=_) (hr13:r13=_) (hr14:r14=_) (hr15:r15=_) (hr16:r16=_) (hr17:r17=_) (hr18:r18=_) (hr19:r19=_) (hr20:r20=_) (hr21:r21=_) (hr22:r22=_) (hr23:r23=_) (hr24:r24=_)
 simp only [Bool.cond_self] at *
 rw [←wS d x.FreeHit] at hr1 ⊢
 have e2:r2 =(d.Typ==3&&r.FreeHit):=by rw [hr2];cases d.Typ==3 <;> rfl
 subst hr1
 clear hr2
 generalize hc:au r d=c at *
 generalize hy:ah r (aQ x d) c.Counts=y at *
 subst hr9 hr10 hr11 hr12 hr13 hr14 hr15 hr16 hr17 hr18 hr19 hr20 hr21 hr22 hr23 hr24 hr3 hr4 hr5 hr6 hr7
 refine ⟨fun h=>?_,fun a1=>⟨fun h=>?_,fun a2=>⟨fun h=>?_,fun a3=>⟨fun h=>?_,fun a4=>⟨fun h=>?_,fun a5=>⟨fun h=>?_,fun a6=>⟨hZ hs,hZ (nW d hs),fun h4=>⟨?_,?_⟩,fun h4=>?_⟩⟩⟩⟩⟩⟩⟩
 ·have hL:cW r x d=6:=by simp only [cW,h];rfl
  rw [nV (by rw [hL];rfl),hL]
 ·have hL:cW r x d=7:=by simp only [cW,a1,h];rfl
  rw [nV (by rw [hL];rfl),hL]
 ·have hL:cW r x d=ei r x:=by simp only [cW,a1,a2,h];rfl
  rw [nV (by rw [hL];exact h),hL]
 ·have hL:cW r x d=bV d:=by simp only [cW,a1,a2,a3,h];rfl
  rw [nV (by rw [hL];exact h),hL]
 ·have hL:cW r x d=bW d x.FreeHit:=by simp only [cW,a1,a2,a3,a4,h];rfl
  rw [nV (by rw [hL];exact h),hL]
 ·have hL:cW r x d=cQ x d:=by simp only [cW,a1,a2,a3,a4,a5];rfl
  rw [nV (by rw [hL];exact h),hL]
 ·rw [←hy];exact oM _ (nW d hs)
 ·have hL:cW r x d=0:=by
   have:cW r x d=cQ x d:=by simp only [cW,a1,a2,a3,a4,a5];rfl
   rw [this];simpa using a6
  have hp:du r x d=mz r (d6 r (tI (aQ x d) c) c.Counts) d:=by simp only [du,hL,hc];rfl
  have ho:d6 r (aQ x d) c.Counts=fU y:=by unfold d6;rw [h4,hy];rfl
  rw [hp,xj,ho,hL]
  unfold mz
  rw [←e2,hr8]
  cases d.Typ==1 <;> cases r2 <;> rfl
 ·have hL:cW r x d=0:=by
   have:cW r x d=cQ x d:=by simp only [cW,a1,a2,a3,a4,a5];rfl
   rw [this];simpa using a6
  have hp:du r x d=mz r (d6 r (tI (aQ x d) c) c.Counts) d:=by simp only [du,hL,hc];rfl
  have ho:d6 r (aQ x d) c.Counts=y:=by unfold d6;rw [h4,hy];rfl
  rw [hp,xj,ho,hL]
  unfold mz
  rw [←e2,hr8]
  cases d.Typ==1 <;> cases r2 <;> rfl
def BW:FuncId×Ctr:=(187,ae KE vF q2L yy)
theorem HW:CtrOK Tryz.prog KE 187 (ae KE vF q2L yy):=by
 refine aq (C:=ao [gv,k41,tv,k18,k43,B2,Gk,k54,lj,Gs] Tryz.f187) (al (.consU mR rfl (.consU Se rfl (.consU Cs rfl (.consU R9 rfl (.consU Sf rfl (.consU H4 rfl (.consU Kh rfl (.consU Sj rfl (.consU sm rfl (.consU Ko rfl .nil)))))))))) _) mixed (fn:=Tryz.f187) Tryz.func187 (by kernel_rfl) (by kernel_rfl) (by kernel_rfl) (by kernel_rfl) (by kernel_rfl) (by kernel_rfl) (Λ:=fun _ _=>none) ?_ ?_
 ·exact fun _ _ _ _ _ _ _ _ h=>by cases h
 ·rintro ⟨r,x,d,⟨⟩⟩ hw hn
  exact Fc r x d (hn _ List.mem_cons_self)
end Go.Proofs.YtkgplaoappjkcaaGreat
namespace Go.Proofs.YtkgplaoappjkcaaGreat
open Go Go.Mir
attribute [local irreducible] Go.Mir.DT.sat Go.Mir.evPat
def PG:Ty:= .prod .str (.prod (.int .u8) .unit)
def ixW (s:ByteArray) (c:Int):Int:=Lib.indexByte s.data.toList c.toNat.toUInt8
def Lx:Den PG→PRes:=fun x=>⟨[],.int .i64 (ixW x.1 x.2.1),[]⟩
def uE:FuncId×Ctr:=(90,ap KE PG Lx)
def kn (d:Delivery):Int:=
 if decide (d.Typ<1) ||(decide (d.Typ>3) ||(decide (d.Source>3)||decide (d.How>10))) then 3
 else if !inW d.Runs 0 7 ||(!inW d.Short 0 d.Runs ||(d.Boundary != 0&&(d.Boundary != 4&&d.Boundary != 6) ||(!inW d.Victim 0 2 ||(!inW d.Fielder 0 11 ||(!inW d.Second 0 11||!inW d.Sector 0 8))))) then 2 else 0
def yt:Den (tyP qD)→List Prop×Den (tyP be):=fun x=>([],(kn x.1,()))
def formsW:List event_form:= [⟨⟨#[84,79,83,83]⟩,⟨#[115,121]⟩,⟨#[66,65,84]⟩,⟨#[70,73,69,76,68]⟩⟩,⟨⟨#[79,80,69,78]⟩,⟨#[112,111]⟩,⟨#[]⟩,⟨#[]⟩⟩,⟨⟨#[66,79,87,76]⟩,⟨#[112]⟩,⟨#[]⟩,⟨#[]⟩⟩,⟨⟨#[66,65,76,76]⟩,⟨#[98]⟩,⟨#[]⟩,⟨#[]⟩⟩,⟨⟨#[69,78,84,69,82]⟩,⟨#[112]⟩,⟨#[]⟩,⟨#[]⟩⟩,⟨⟨#[82,69,84,73,82,69]⟩,⟨#[112,121]⟩,⟨#[72,85,82,84]⟩,⟨#[79,85,84]⟩⟩,⟨⟨#[70,73,69,76,68]⟩,⟨#[114]⟩,⟨#[]⟩,⟨#[]⟩⟩,⟨⟨#[75,69,69,80,69,82]⟩,⟨#[112]⟩,⟨#[]⟩,⟨#[]⟩⟩,⟨⟨#[83,85,66]⟩,⟨#[112,121]⟩,⟨#[79,78]⟩,⟨#[79,70,70]⟩⟩,⟨⟨#[78,69,87,66,65,76,76]⟩,⟨#[]⟩,⟨#[]⟩,⟨#[]⟩⟩,⟨⟨#[68,69,67,76,65,82,69]⟩,⟨#[115]⟩,⟨#[]⟩,⟨#[]⟩⟩,⟨⟨#[70,79,76,76,79,87]⟩,⟨#[115,121]⟩,⟨#[89,69,83]⟩,⟨#[78,79]⟩⟩,⟨⟨#[80,69,78,65,76,84,89]⟩,⟨#[115,114]⟩,⟨#[]⟩,⟨#[]⟩⟩,⟨⟨#[82,69,86,73,69,87]⟩,⟨#[115,121]⟩,⟨#[75,69,80,84]⟩,⟨#[76,79,83,84]⟩⟩,⟨⟨#[82,69,86,73,83,69]⟩,⟨#[114,118]⟩,⟨#[]⟩,⟨#[]⟩⟩,⟨⟨#[83,84,79,80]⟩,⟨#[]⟩,⟨#[]⟩,⟨#[]⟩⟩]
def FV (k:Int):ByteArray:=(formsW.getD (k - 1).toNat event_form.zero).fields
def loW (k:Int):Int:=if k==13 then 1 else 0
def hiW (k:Int):Int:=if k==7 then 11 else if k==13 then 99 else 100000
abbrev qKF:Pat:=cg [U8,U8]
def cM (k c:Int):Bool:=decide (ixW (FV k) c≥0) ||(k==5&&c==121)
def bA (k:Int):Prop:=1≤k∧k≤16
def Lu:Den (tyP qKF)→List Prop×Den (tyP ax):=fun x=>([bA x.1],(cM x.1 x.2.1,()))
abbrev qII:Pat:=cg [I,I]
def nX:Den (tyP qH)→List Prop×Den (tyP qII):=fun x=>([],(loW x.1,hiW x.1,()))
abbrev qU:Pat:=cg [.nm .ref08_Uses,.bool]
abbrev MX:Pat:=cg [.slice (.nm .event_form)]
def Fs:Den (tyP (cg []))→List Prop×Den (tyP MX):=fun _=>([],(formsW,()))
def oI (k:Int):Bool:=k==1||k==12||k==14||k==11||k==13
def jR (k:Int):Bool:=k==2||k==3||k==8||k==5||k==6||k==9
def mT (k:Int):Bool:=k==2
def I3 (k:Int):Bool:=k==1||k==12||k==14||k==5||k==6||k==9
def sC (k:Int):Bool:=k==7||k==13||k==15
def mU (k:Int):Bool:=k==15
def me (k:Int):Bool:=k==4
def eB (k:Int):ref08_Uses:=⟨oI k,jR k,mT k,I3 k,sC k,mU k,me k⟩
def AC:Den (tyP qH)→List Prop×Den (tyP qU):=fun x=>([],(eB x.1,inW x.1 1 16,()))
def Hi (d:Delivery):Bool:=d.Typ==0&&(d.Source==0&&(d.Runs==0&&(d.Short==0&&(d.Boundary==0&&(d.Crossed==false&&(d.How==0&&(d.Victim==0&&(d.Fielder==0&&(d.Second==0&&(d.Sub==false&&d.Sector==0))))))))))
def bk (e:Mir.Event):Int:=
 if !inW e.Kind 1 16 then 3
 else if !oI e.Kind&&e.Side != 0||!jR e.Kind&&e.Player != 0||!mT e.Kind&&e.Other != 0||!I3 e.Kind&&e.Yes||!sC e.Kind&&e.Runs != 0||!mU e.Kind&&e.Overs != 0||!me e.Kind&&!Hi e.Ball then 1
 else if oI e.Kind&&!inW e.Side 1 2||jR e.Kind&&!inW e.Player 1 11||mT e.Kind&&!inW e.Other 1 11||sC e.Kind&&!inW e.Runs (loW e.Kind) (hiW e.Kind)||mU e.Kind&&!inW e.Overs 0 90 then 2
 else if me e.Kind then kn e.Ball else 0
abbrev qE:Pat:=cg [.nm .Event]
def sEv:Den (tyP qE)→List Prop×Den (tyP be):=fun x=>([],(bk x.1,()))
theorem Nw :∀ (l:List UInt8) (c:UInt8),Lib.indexByte l c≤l.length
 | [],c=>by unfold Lib.indexByte;simp
 | b::l,c=>by
  have:=Nw l c
  unfold Lib.indexByte
  simp only [List.length_cons]
  split
  ·omega
  ·split <;> omega
def B3:Go.Shelf.Ren:=⟨fun|137=>90|217=>108|266=>128|n=>n,fun|9=>9|5=>5|3=>3|n=>n,fun|n=>n⟩
theorem L2:Go.Proofs.Lays.n137 Tryz.prog B3 where
 mixed:=by kernel_rfl
 f137:=Tryz.func90.trans (congrArg some (by kernel_rfl))
 f217:=Tryz.func108.trans (congrArg some (by kernel_rfl))
 f266:=Tryz.func128.trans (congrArg some (by kernel_rfl))
 t3:=Tryz.underlying3
 a3:=Tryz.isAgg3
 z3:=Tryz.sizeOf3
 v3:=Tryz.zeroValue3
 t5:=Tryz.underlying5
 a5:=Tryz.isAgg5
 z5:=Tryz.sizeOf5
 v5:=Tryz.zeroValue5
 t9:=Tryz.underlying9
 a9:=Tryz.isAgg9
 z9:=Tryz.sizeOf9
 v9:=Tryz.zeroValue9
theorem Cf:CtrOK Tryz.prog KE 90 (ap KE PG Lx):=by
 refine Jc Tryz.func90 (by kernel_rfl) (by kernel_rfl) (fun _=>⟨rfl,rfl⟩) (fun x av w E hw _ hav=>?_) (fun _ _=>rfl)
 obtain ⟨s,c,⟨⟩⟩:=x
 obtain ⟨a,r,rfl,h1,h2⟩:=pF hav
 obtain ⟨b,r2,rfl,h3,h4⟩:=pF h2
 have h5:r2=[]:=by cases r2 with|nil=>rfl|cons=>simp [bh,ai] at h4
 subst h5
 simp only [fS,ac] at h1 h3
 obtain ⟨rfl,hs⟩:=h1
 obtain ⟨rfl,hc⟩:=h3
 refine (Any.strings_IndexByte L2 s c w).mono fun e w' ⟨h6,h7⟩=>⟨_,h6,h7,fun E'=>?_⟩
 refine iJ ?_
 have hge:=Lib.indexByte_ge s.data.toList c.toNat.toUInt8
 have hle:=Nw s.data.toList c.toNat.toUInt8
 have hl:s.data.toList.length≤aS:=by rw [Array.length_toList];exact hs
 unfold aS at hl
 have e1:IntKind.i64.min = -9223372036854775808:=by decide
 have e2:IntKind.i64.max=9223372036854775807:=by decide
 unfold ok
 rw [e1,e2]
 show _≤ixW s c∧ixW s c≤_
 unfold ixW
 omega
theorem Db (n:Int) (lo:Int) (hi:Int) :(evPat (ao [] Tryz.f92) (fun _=>none) Tryz.f92 q3 ax (n,lo,hi,())).sat fun z_=>z_ =(sIn (n,lo,hi,())).2:=by
 refine cast (by kernel_rfl) (?_ :(bif decide (n≥lo) then decide (n≤hi) else false,()) =(inW n lo hi,()))
 grind [inW]
def xP:FuncId×Ctr:=(92,ae KE q3 ax sIn)
theorem Ex:CtrOK Tryz.prog KE 92 (ae KE q3 ax sIn):=by
 refine aq (C:=ao [] Tryz.f92) (al (CtrsOK.nil) _) mixed (fn:=Tryz.f92) Tryz.func92 (by kernel_rfl) (by kernel_rfl) (by kernel_rfl) (by kernel_rfl) (by kernel_rfl) (by kernel_rfl) (Λ:=fun _ _=>none) ?_ ?_
 ·exact fun _ _ _ _ _ _ _ _ h=>by cases h
 ·rintro ⟨n,lo,hi,⟨⟩⟩ hw hn
  exact Db n lo hi
theorem Nc (n:Int) (lo:Int) (hi:Int) :(evPat (ao [] Tryz.f150) (fun _=>none) Tryz.f150 q3 ax (n,lo,hi,())).sat fun z_=>z_ =(sIn (n,lo,hi,())).2:=by
 refine cast (by kernel_rfl) (?_ :(bif decide (n≥lo) then decide (n≤hi) else false,()) =(inW n lo hi,()))
 grind [inW]
def NC:FuncId×Ctr:=(150,ae KE q3 ax sIn)
theorem Pz:CtrOK Tryz.prog KE 150 (ae KE q3 ax sIn):=by
 refine aq (C:=ao [] Tryz.f150) (al (CtrsOK.nil) _) mixed (fn:=Tryz.f150) Tryz.func150 (by kernel_rfl) (by kernel_rfl) (by kernel_rfl) (by kernel_rfl) (by kernel_rfl) (by kernel_rfl) (Λ:=fun _ _=>none) ?_ ?_
 ·exact fun _ _ _ _ _ _ _ _ h=>by cases h
 ·rintro ⟨n,lo,hi,⟨⟩⟩ hw hn
  exact Nc n lo hi
theorem CW (n:Int) (lo:Int) (hi:Int) :(evPat (ao [] Tryz.f63) (fun _=>none) Tryz.f63 q3 ax (n,lo,hi,())).sat fun z_=>z_ =(sIn (n,lo,hi,())).2:=by
 refine cast (by kernel_rfl) (?_ :(bif decide (n≥lo) then decide (n≤hi) else false,()) =(inW n lo hi,()))
 grind [inW]
def iU:FuncId×Ctr:=(63,ae KE q3 ax sIn)
theorem pk:CtrOK Tryz.prog KE 63 (ae KE q3 ax sIn):=by
 refine aq (C:=ao [] Tryz.f63) (al (CtrsOK.nil) _) mixed (fn:=Tryz.f63) Tryz.func63 (by kernel_rfl) (by kernel_rfl) (by kernel_rfl) (by kernel_rfl) (by kernel_rfl) (by kernel_rfl) (Λ:=fun _ _=>none) ?_ ?_
 ·exact fun _ _ _ _ _ _ _ _ h=>by cases h
 ·rintro ⟨n,lo,hi,⟨⟩⟩ hw hn
  exact CW n lo hi
theorem Nd (n:Int) (lo:Int) (hi:Int) :(evPat (ao [] Tryz.f117) (fun _=>none) Tryz.f117 q3 ax (n,lo,hi,())).sat fun z_=>z_ =(sIn (n,lo,hi,())).2:=by
 refine cast (by kernel_rfl) (?_ :(bif decide (n≥lo) then decide (n≤hi) else false,()) =(inW n lo hi,()))
 grind [inW]
def ND:FuncId×Ctr:=(117,ae KE q3 ax sIn)
theorem PA:CtrOK Tryz.prog KE 117 (ae KE q3 ax sIn):=by
 refine aq (C:=ao [] Tryz.f117) (al (CtrsOK.nil) _) mixed (fn:=Tryz.f117) Tryz.func117 (by kernel_rfl) (by kernel_rfl) (by kernel_rfl) (by kernel_rfl) (by kernel_rfl) (by kernel_rfl) (Λ:=fun _ _=>none) ?_ ?_
 ·exact fun _ _ _ _ _ _ _ _ h=>by cases h
 ·rintro ⟨n,lo,hi,⟨⟩⟩ hw hn
  exact Nd n lo hi
theorem IB (d:Delivery) :(evPat (ao [xP] Tryz.f65) (fun _=>none) Tryz.f65 qD be (d,())).sat fun z_=>z_ =(yt (d,())).2:=by
 refine cast (by kernel_rfl) (?_:let r1:Bool:=bif !inW d.8 (0:Int) (2:Int) then true else bif !inW d.9 (0:Int) (11:Int) then true else bif !inW d.10 (0:Int) (11:Int) then true else !inW d.12 (0:Int) (8:Int);let r2:Bool:=bif decide (d.1 <(1:Int)) then true else bif decide (d.1 >(3:Int)) then true else bif decide (d.2 >(3:Int)) then true else decide (d.7 >(10:Int));let r3:Bool:=bif !inW d.3 (0:Int) (7:Int) then true else bif !inW d.4 (0:Int) d.3 then true else bif d.5 !=(0:Int) then bif d.5 !=(4:Int) then bif d.5 !=(6:Int) then true else r1 else r1 else r1;(r2=true→((3:Int),()) =(kn d,()))∧(r2=false→(r3=true→((2:Int),()) =(kn d,()))∧(r3=false→((0:Int),()) =(kn d,()))))
 intro r1 r2 r3
 clear_value (hr1:r1=_) (hr2:r2=_) (hr3:r3=_)
 repeat' (first|refine And.intro ?_ ?_|intro h)
 all_goals grind (splits:=40) [kn]
def nG:FuncId×Ctr:=(65,ae KE qD be yt)
theorem vg:CtrOK Tryz.prog KE 65 (ae KE qD be yt):=by
 refine aq (C:=ao [xP] Tryz.f65) (al (.consU Ex rfl .nil) _) mixed (fn:=Tryz.f65) Tryz.func65 (by kernel_rfl) (by kernel_rfl) (by kernel_rfl) (by kernel_rfl) (by kernel_rfl) (by kernel_rfl) (Λ:=fun _ _=>none) ?_ ?_
 ·exact fun _ _ _ _ _ _ _ _ h=>by cases h
 ·rintro ⟨d,⟨⟩⟩ hw hn
  exact IB d
theorem Fi (d:Delivery) :(evPat (ao [NC] Tryz.f118) (fun _=>none) Tryz.f118 qD be (d,())).sat fun z_=>z_ =(yt (d,())).2:=by
 refine cast (by kernel_rfl) (?_:let r1:Bool:=bif !inW d.8 (0:Int) (2:Int) then true else bif !inW d.9 (0:Int) (11:Int) then true else bif !inW d.10 (0:Int) (11:Int) then true else !inW d.12 (0:Int) (8:Int);let r2:Bool:=bif decide (d.1 <(1:Int)) then true else bif decide (d.1 >(3:Int)) then true else bif decide (d.2 >(3:Int)) then true else decide (d.7 >(10:Int));let r3:Bool:=bif !inW d.3 (0:Int) (7:Int) then true else bif !inW d.4 (0:Int) d.3 then true else bif d.5 !=(0:Int) then bif d.5 !=(4:Int) then bif d.5 !=(6:Int) then true else r1 else r1 else r1;(r2=true→((3:Int),()) =(kn d,()))∧(r2=false→(r3=true→((2:Int),()) =(kn d,()))∧(r3=false→((0:Int),()) =(kn d,()))))
 intro r1 r2 r3
 clear_value (hr1:r1=_) (hr2:r2=_) (hr3:r3=_)
 repeat' (first|refine And.intro ?_ ?_|intro h)
 all_goals grind (splits:=40) [kn]
def B1:FuncId×Ctr:=(118,ae KE qD be yt)
theorem H3:CtrOK Tryz.prog KE 118 (ae KE qD be yt):=by
 refine aq (C:=ao [NC] Tryz.f118) (al (.consU Pz rfl .nil) _) mixed (fn:=Tryz.f118) Tryz.func118 (by kernel_rfl) (by kernel_rfl) (by kernel_rfl) (by kernel_rfl) (by kernel_rfl) (by kernel_rfl) (Λ:=fun _ _=>none) ?_ ?_
 ·exact fun _ _ _ _ _ _ _ _ h=>by cases h
 ·rintro ⟨d,⟨⟩⟩ hw hn
  exact Fi d
theorem Ii :(evPat (ao [] Tryz.f91) (fun _=>none) Tryz.f91 (cg []) MX ()).sat fun z_=>z_ =(Fs ()).2:=by
 refine cast (by kernel_rfl) (?_ :([event_form.mk (ByteArray.mk #[(84:UInt8),(79:UInt8),(83:UInt8),(83:UInt8)]) (ByteArray.mk #[(115:UInt8),(121:UInt8)]) (ByteArray.mk #[(66:UInt8),(65:UInt8),(84:UInt8)]) (ByteArray.mk #[(70:UInt8),(73:UInt8),(69:UInt8),(76:UInt8),(68:UInt8)]),event_form.mk (ByteArray.mk #[(79:UInt8),(80:UInt8),(69:UInt8),(78:UInt8)]) (ByteArray.mk #[(112:UInt8),(111:UInt8)]) (ByteArray.mk #[]) (ByteArray.mk #[]),event_form.mk (ByteArray.mk #[(66:UInt8),(79:UInt8),(87:UInt8),(76:UInt8)]) (ByteArray.mk #[(112:UInt8)]) (ByteArray.mk #[]) (ByteArray.mk #[]),event_form.mk (ByteArray.mk #[(66:UInt8),(65:UInt8),(76:UInt8),(76:UInt8)]) (ByteArray.mk #[(98:UInt8)]) (ByteArray.mk #[]) (ByteArray.mk #[]),event_form.mk (ByteArray.mk #[(69:UInt8),(78:UInt8),(84:UInt8),(69:UInt8),(82:UInt8)]) (ByteArray.mk #[(112:UInt8)]) (ByteArray.mk #[]) (ByteArray.mk #[]),event_form.mk (ByteArray.mk #[(82:UInt8),(69:UInt8),(84:UInt8),(73:UInt8),(82:UInt8),(69:UInt8)]) (ByteArray.mk #[(112:UInt8),(121:UInt8)]) (ByteArray.mk #[(72:UInt8),(85:UInt8),(82:UInt8),(84:UInt8)]) (ByteArray.mk #[(79:UInt8),(85:UInt8),(84:UInt8)]),event_form.mk (ByteArray.mk #[(70:UInt8),(73:UInt8),(69:UInt8),(76:UInt8),(68:UInt8)]) (ByteArray.mk #[(114:UInt8)]) (ByteArray.mk #[]) (ByteArray.mk #[]),event_form.mk (ByteArray.mk #[(75:UInt8),(69:UInt8),(69:UInt8),(80:UInt8),(69:UInt8),(82:UInt8)]) (ByteArray.mk #[(112:UInt8)]) (ByteArray.mk #[]) (ByteArray.mk #[]),event_form.mk (ByteArray.mk #[(83:UInt8),(85:UInt8),(66:UInt8)]) (ByteArray.mk #[(112:UInt8),(121:UInt8)]) (ByteArray.mk #[(79:UInt8),(78:UInt8)]) (ByteArray.mk #[(79:UInt8),(70:UInt8),(70:UInt8)]),event_form.mk (ByteArray.mk #[(78:UInt8),(69:UInt8),(87:UInt8),(66:UInt8),(65:UInt8),(76:UInt8),(76:UInt8)]) (ByteArray.mk #[]) (ByteArray.mk #[]) (ByteArray.mk #[]),event_form.mk (ByteArray.mk #[(68:UInt8),(69:UInt8),(67:UInt8),(76:UInt8),(65:UInt8),(82:UInt8),(69:UInt8)]) (ByteArray.mk #[(115:UInt8)]) (ByteArray.mk #[]) (ByteArray.mk #[]),event_form.mk (ByteArray.mk #[(70:UInt8),(79:UInt8),(76:UInt8),(76:UInt8),(79:UInt8),(87:UInt8)]) (ByteArray.mk #[(115:UInt8),(121:UInt8)]) (ByteArray.mk #[(89:UInt8),(69:UInt8),(83:UInt8)]) (ByteArray.mk #[(78:UInt8),(79:UInt8)]),event_form.mk (ByteArray.mk #[(80:UInt8),(69:UInt8),(78:UInt8),(65:UInt8),(76:UInt8),(84:UInt8),(89:UInt8)]) (ByteArray.mk #[(115:UInt8),(114:UInt8)]) (ByteArray.mk #[]) (ByteArray.mk #[]),event_form.mk (ByteArray.mk #[(82:UInt8),(69:UInt8),(86:UInt8),(73:UInt8),(69:UInt8),(87:UInt8)]) (ByteArray.mk #[(115:UInt8),(121:UInt8)]) (ByteArray.mk #[(75:UInt8),(69:UInt8),(80:UInt8),(84:UInt8)]) (ByteArray.mk #[(76:UInt8),(79:UInt8),(83:UInt8),(84:UInt8)]),event_form.mk (ByteArray.mk #[(82:UInt8),(69:UInt8),(86:UInt8),(73:UInt8),(83:UInt8),(69:UInt8)]) (ByteArray.mk #[(114:UInt8),(118:UInt8)]) (ByteArray.mk #[]) (ByteArray.mk #[]),event_form.mk (ByteArray.mk #[(83:UInt8),(84:UInt8),(79:UInt8),(80:UInt8)]) (ByteArray.mk #[]) (ByteArray.mk #[]) (ByteArray.mk #[])],()) =(formsW,()))
 rfl
def Ga:FuncId×Ctr:=(91,ae KE (cg []) MX Fs)
theorem J8:CtrOK Tryz.prog KE 91 (ae KE (cg []) MX Fs):=by
 refine aq (C:=ao [] Tryz.f91) (al (CtrsOK.nil) _) mixed (fn:=Tryz.f91) Tryz.func91 (by kernel_rfl) (by kernel_rfl) (by kernel_rfl) (by kernel_rfl) (by kernel_rfl) (by kernel_rfl) (Λ:=fun _ _=>none) ?_ ?_
 ·exact fun _ _ _ _ _ _ _ _ h=>by cases h
 ·rintro ⟨⟩ hw hn
  exact Ii
theorem EY (k:Int) :(evPat (ao [] Tryz.f62) (fun _=>none) Tryz.f62 qH qII (k,())).sat fun z_=>z_ =(nX (k,())).2:=by
 refine cast (by kernel_rfl) (?_ :((k ==(7:Int))=true→((0:Int),(11:Int),()) =(loW k,hiW k,()))∧((k ==(7:Int))=false→((k ==(13:Int))=true→((1:Int),(99:Int),()) =(loW k,hiW k,()))∧((k ==(13:Int))=false→((0:Int),(100000:Int),()) =(loW k,hiW k,()))))
 grind [loW,hiW]
def ko:FuncId×Ctr:=(62,ae KE qH qII nX)
theorem ri:CtrOK Tryz.prog KE 62 (ae KE qH qII nX):=by
 refine aq (C:=ao [] Tryz.f62) (al (CtrsOK.nil) _) mixed (fn:=Tryz.f62) Tryz.func62 (by kernel_rfl) (by kernel_rfl) (by kernel_rfl) (by kernel_rfl) (by kernel_rfl) (by kernel_rfl) (Λ:=fun _ _=>none) ?_ ?_
 ·exact fun _ _ _ _ _ _ _ _ h=>by cases h
 ·rintro ⟨k,⟨⟩⟩ hw hn
  exact EY k
theorem IK (k:Int) :(evPat (ao [] Tryz.f116) (fun _=>none) Tryz.f116 qH qII (k,())).sat fun z_=>z_ =(nX (k,())).2:=by
 refine cast (by kernel_rfl) (?_ :((k ==(7:Int))=true→((0:Int),(11:Int),()) =(loW k,hiW k,()))∧((k ==(7:Int))=false→((k ==(13:Int))=true→((1:Int),(99:Int),()) =(loW k,hiW k,()))∧((k ==(13:Int))=false→((0:Int),(100000:Int),()) =(loW k,hiW k,()))))
 grind [loW,hiW]
def Gq:FuncId×Ctr:=(116,ae KE qH qII nX)
theorem Km:CtrOK Tryz.prog KE 116 (ae KE qH qII nX):=by
 refine aq (C:=ao [] Tryz.f116) (al (CtrsOK.nil) _) mixed (fn:=Tryz.f116) Tryz.func116 (by kernel_rfl) (by kernel_rfl) (by kernel_rfl) (by kernel_rfl) (by kernel_rfl) (by kernel_rfl) (Λ:=fun _ _=>none) ?_ ?_
 ·exact fun _ _ _ _ _ _ _ _ h=>by cases h
 ·rintro ⟨k,⟨⟩⟩ hw hn
  exact IK k
theorem Dr (k:Int) :(evPat (ao [] Tryz.f115) (fun _=>none) Tryz.f115 qH qU (k,())).sat fun z_=>z_ =(AC (k,())).2:=by
 refine cast (by kernel_rfl) (?_:let r1:Bool:=bif k ==(3:Int) then k ==(3:Int) else k ==(8:Int);let r2:Bool:=bif k ==(10:Int) then k ==(10:Int) else k ==(16:Int);let r3:Bool:=bif k ==(1:Int) then k ==(1:Int) else bif k ==(12:Int) then k ==(12:Int) else k ==(14:Int);let r4:Bool:=bif k ==(5:Int) then k ==(5:Int) else bif k ==(6:Int) then k ==(6:Int) else k ==(9:Int);(r3=true→(ref08_Uses.mk true false false true false false false,true,()) =(eB k,inW k (1:Int) (16:Int),()))∧(r3=false→((k ==(2:Int))=true→(ref08_Uses.mk false true true false false false false,true,()) =(eB k,inW k (1:Int) (16:Int),()))∧((k ==(2:Int))=false→(r1=true→(ref08_Uses.mk false true false false false false false,true,()) =(eB k,inW k (1:Int) (16:Int),()))∧(r1=false→((k ==(4:Int))=true→(ref08_Uses.mk false false false false false false true,true,()) =(eB k,inW k (1:Int) (16:Int),()))∧((k ==(4:Int))=false→(r4=true→(ref08_Uses.mk false true false true false false false,true,()) =(eB k,inW k (1:Int) (16:Int),()))∧(r4=false→((k ==(7:Int))=true→(ref08_Uses.mk false false false false true false false,true,()) =(eB k,inW k (1:Int) (16:Int),()))∧((k ==(7:Int))=false→(r2=true→(ref08_Uses.mk false false false false false false false,true,()) =(eB k,inW k (1:Int) (16:Int),()))∧(r2=false→((k ==(11:Int))=true→(ref08_Uses.mk true false false false false false false,true,()) =(eB k,inW k (1:Int) (16:Int),()))∧((k ==(11:Int))=false→((k ==(13:Int))=true→(ref08_Uses.mk true false false false true false false,true,()) =(eB k,inW k (1:Int) (16:Int),()))∧((k ==(13:Int))=false→((k ==(15:Int))=true→(ref08_Uses.mk false false false false true true false,true,()) =(eB k,inW k (1:Int) (16:Int),()))∧((k ==(15:Int))=false→(ref08_Uses.mk false false false false false false false,false,()) =(eB k,inW k (1:Int) (16:Int),()))))))))))))
 intro r1 r2 r3 r4
 clear_value (hr1:r1=_) (hr2:r2=_) (hr3:r3=_) (hr4:r4=_)
 grind (splits:=40) [eB,oI,jR,mT,I3,sC,mU,me,inW]
def xU:FuncId×Ctr:=(115,ae KE qH qU AC)
theorem EC:CtrOK Tryz.prog KE 115 (ae KE qH qU AC):=by
 refine aq (C:=ao [] Tryz.f115) (al (CtrsOK.nil) _) mixed (fn:=Tryz.f115) Tryz.func115 (by kernel_rfl) (by kernel_rfl) (by kernel_rfl) (by kernel_rfl) (by kernel_rfl) (by kernel_rfl) (Λ:=fun _ _=>none) ?_ ?_
 ·exact fun _ _ _ _ _ _ _ _ h=>by cases h
 ·rintro ⟨k,⟨⟩⟩ hw hn
  exact Dr k
theorem KT (k:Int) (c:Int) (hk:bA k) :(evPat (ao [Ga,uE] Tryz.f64) (fun _=>none) Tryz.f64 qKF ax (k,c,())).sat fun z_=>z_ =(Lu (k,c,())).2:=by
 refine cast (by kernel_rfl) (?_:let r1:Int:=IntKind.u8.wrap (k - (1:Int));let r2:Int:=ixW (formsW.getD r1.toNat (dflt (Ty.nm Nm.event_form))).2 c;let r3:Bool:=decide (r2≥(0:Int));(((0:Int)≤r1∧r1 <(↑formsW.length:Int))∧(r3=true→True)∧(r3=false→((k ==(5:Int))=true→True)∧((k ==(5:Int))=false→True)))∧(true=true→(bif r3 then true else bif k ==(5:Int) then c ==(121:Int) else false,()) =(cM k c,())))
 intro r1 r2 r3
 clear_value (hr1:r1=_) (hr2:r2=_) (hr3:r3=_)
 obtain ⟨h1,h2⟩:=hk
 have hw:IntKind.u8.wrap (k - 1)=k - 1:=by
  simp only [IntKind.wrap,IntKind.bits,IntKind.signed]
  simp
  omega
 have hl:formsW.length=16:=rfl
 simp only [hw] at *
 have hd:dflt (Ty.nm Nm.event_form)=event_form.zero:=rfl
 refine ⟨⟨⟨by omega,by rw [hl];omega⟩,fun _=>trivial,fun _=>⟨fun _=>trivial,fun _=>trivial⟩⟩,fun _=>?_⟩
 simp only [cM,FV,hr1,hr2,hr3,hd]
 grind
def qY:FuncId×Ctr:=(64,ae KE qKF ax Lu)
theorem zM:CtrOK Tryz.prog KE 64 (ae KE qKF ax Lu):=by
 refine aq (C:=ao [Ga,uE] Tryz.f64) (al (.consU J8 rfl (.consU Cf rfl .nil)) _) mixed (fn:=Tryz.f64) Tryz.func64 (by kernel_rfl) (by kernel_rfl) (by kernel_rfl) (by kernel_rfl) (by kernel_rfl) (by kernel_rfl) (Λ:=fun _ _=>none) ?_ ?_
 ·exact fun _ _ _ _ _ _ _ _ h=>by cases h
 ·rintro ⟨k,c,⟨⟩⟩ hw hn
  exact KT k c (hn _ List.mem_cons_self)
theorem OS {k:Int} {p:Int→Prop} (h :∀ n:Fin 16,p ((n.val:Int)+1)) (h1:1≤k) (h2:k≤16):p k:=by
 have:=h ⟨(k - 1).toNat,by omega⟩
 have e :((k - 1).toNat:Int)+1=k:=by omega
 exact (congrArg p e).mp this
theorem LJ {k:Int} (h1:1≤k) (h2:k≤16):cM k 115=oI k∧cM k 112=jR k∧cM k 111=mT k∧cM k 121=I3 k∧cM k 114=sC k∧cM k 118=mU k∧cM k 98=me k:=
 OS (p:=fun k=>cM k 115=oI k∧cM k 112=jR k∧cM k 111=mT k∧cM k 121=I3 k∧cM k 114=sC k∧cM k 118=mU k∧cM k 98=me k) (by decide +kernel) h1 h2
theorem Ih (e:Mir.Event) :(evPat (ao [ko,iU,qY,nG] Tryz.f45) (find [(rid (aA Tryz.f45 0),cX 8 (ao [ko,iU,qY,nG] Tryz.f45) (fun _=>none) (aA Tryz.f45 0)),(rid (aA Tryz.f45 1),cX 8 (ao [ko,iU,qY,nG] Tryz.f45) (fun _=>none) (aA Tryz.f45 1))]) Tryz.f45 qE be (e,())).sat fun z_=>z_ =(sEv (e,())).2:=by
 refine cast (by kernel_rfl) (?_:let r1:Bool:=!inW e.2 (1:Int) (2:Int);let r2:Bool:=!inW e.3 (1:Int) (11:Int);let r3:Bool:=!inW e.4 (1:Int) (11:Int);let r4:Bool:=!inW e.7 (0:Int) (90:Int);let r5:Bool:=bif !!e.5 then !cM e.1 (121:Int) else false;let r6:Int:=IntKind.i64.wrap ((0:Int) +(1:Int));let r7:Bool:=bif !inW e.6 (loW e.1) (hiW e.1) then cM e.1 (114:Int) else false;let r8:Bool:=bif !e.2 ==(0:Int) then !cM e.1 (115:Int) else false;let r9:Bool:=bif !e.3 ==(0:Int) then !cM e.1 (112:Int) else false;let r10:Bool:=bif !e.4 ==(0:Int) then !cM e.1 (111:Int) else false;let r11:Bool:=bif !e.6 ==(0:Int) then !cM e.1 (114:Int) else false;let r12:Bool:=bif !e.7 ==(0:Int) then !cM e.1 (118:Int) else false;let r13:Bool:=bif r1 then cM e.1 (115:Int) else false;let r14:Bool:=bif r2 then cM e.1 (112:Int) else false;let r15:Bool:=bif r3 then cM e.1 (111:Int) else false;let r16:Bool:=bif r4 then cM e.1 (118:Int) else false;let r17:Int:=IntKind.i64.wrap (r6 +(1:Int));let r18:Bool:=bif decide (e.1 <(1:Int)) then true else decide (e.1 >(16:Int));let r19:Int:=IntKind.i64.wrap (r17 +(1:Int));let r20:Int:=IntKind.i64.wrap (r19 +(1:Int));let r21:Int:=IntKind.i64.wrap (r20 +(1:Int));let r22:Int:=IntKind.i64.wrap (r21 +(1:Int));let r23:Bool:=e.8.1 ==(0:Int)&&(e.8.2 ==(0:Int)&&(e.8.3 ==(0:Int)&&(e.8.4 ==(0:Int)&&(e.8.5 ==(0:Int)&&(e.8.6==false&&(e.8.7 ==(0:Int)&&(e.8.8 ==(0:Int)&&(e.8.9 ==(0:Int)&&(e.8.10 ==(0:Int)&&(e.8.11==false&&(e.8.12 ==(0:Int)&&true)))))))))));let r24:Bool:=!r23;let r25:Bool:=bif r24 then !cM e.1 (98:Int) else false;let r26:Int:=(↑[((115:Int),e.2 ==(0:Int),inW e.2 (1:Int) (2:Int),()),((112:Int),e.3 ==(0:Int),inW e.3 (1:Int) (11:Int),()),((111:Int),e.4 ==(0:Int),inW e.4 (1:Int) (11:Int),()),((121:Int),!e.5,true,()),((114:Int),e.6 ==(0:Int),inW e.6 (loW e.1) (hiW e.1),()),((118:Int),e.7 ==(0:Int),inW e.7 (0:Int) (90:Int),()),((98:Int),r23,true,())].length:Int);(r18=true→((3:Int),()) =(bk e,()))∧(r18=false→True∧((0:Int)≤(0:Int)∧(0:Int)<r26)∧(((!e.2 ==(0:Int))=true→((1:Int)≤e.1∧e.1≤(16:Int))∧True)∧((!e.2 ==(0:Int))=false→True))∧(true=true→(r8=true→((1:Int),()) =(bk e,()))∧(r8=false→((0:Int)≤r6∧r6<r26)∧(((!e.3 ==(0:Int))=true→((1:Int)≤e.1∧e.1≤(16:Int))∧True)∧((!e.3 ==(0:Int))=false→True))∧(true=true→(r9=true→((1:Int),()) =(bk e,()))∧(r9=false→((0:Int)≤r17∧r17<r26)∧(((!e.4 ==(0:Int))=true→((1:Int)≤e.1∧e.1≤(16:Int))∧True)∧((!e.4 ==(0:Int))=false→True))∧(true=true→(r10=true→((1:Int),()) =(bk e,()))∧(r10=false→((0:Int)≤r19∧r19<r26)∧(((!!e.5)=true→((1:Int)≤e.1∧e.1≤(16:Int))∧True)∧((!!e.5)=false→True))∧(true=true→(r5=true→((1:Int),()) =(bk e,()))∧(r5=false→((0:Int)≤r20∧r20<r26)∧(((!e.6 ==(0:Int))=true→((1:Int)≤e.1∧e.1≤(16:Int))∧True)∧((!e.6 ==(0:Int))=false→True))∧(true=true→(r11=true→((1:Int),()) =(bk e,()))∧(r11=false→((0:Int)≤r21∧r21<r26)∧(((!e.7 ==(0:Int))=true→((1:Int)≤e.1∧e.1≤(16:Int))∧True)∧((!e.7 ==(0:Int))=false→True))∧(true=true→(r12=true→((1:Int),()) =(bk e,()))∧(r12=false→((0:Int)≤r22∧r22<r26)∧((r24=true→((1:Int)≤e.1∧e.1≤(16:Int))∧True)∧(r24=false→True))∧(true=true→(r25=true→((1:Int),()) =(bk e,()))∧(r25=false→True∧((0:Int)≤(0:Int)∧(0:Int)<r26)∧((r1=true→((1:Int)≤e.1∧e.1≤(16:Int))∧True)∧(r1=false→True))∧(true=true→(r13=true→((2:Int),()) =(bk e,()))∧(r13=false→((0:Int)≤r6∧r6<r26)∧((r2=true→((1:Int)≤e.1∧e.1≤(16:Int))∧True)∧(r2=false→True))∧(true=true→(r14=true→((2:Int),()) =(bk e,()))∧(r14=false→((0:Int)≤r17∧r17<r26)∧((r3=true→((1:Int)≤e.1∧e.1≤(16:Int))∧True)∧(r3=false→True))∧(true=true→(r15=true→((2:Int),()) =(bk e,()))∧(r15=false→((0:Int)≤r19∧r19<r26)∧(((!true)=true→((1:Int)≤e.1∧e.1≤(16:Int))∧True)∧((!true)=false→True))∧(true=true→((bif !true then cM e.1 (121:Int) else false)=true→((2:Int),()) =(bk e,()))∧((bif !true then cM e.1 (121:Int) else false)=false→((0:Int)≤r20∧r20<r26)∧(((!inW e.6 (loW e.1) (hiW e.1))=true→((1:Int)≤e.1∧e.1≤(16:Int))∧True)∧((!inW e.6 (loW e.1) (hiW e.1))=false→True))∧(true=true→(r7=true→((2:Int),()) =(bk e,()))∧(r7=false→((0:Int)≤r21∧r21<r26)∧((r4=true→((1:Int)≤e.1∧e.1≤(16:Int))∧True)∧(r4=false→True))∧(true=true→(r16=true→((2:Int),()) =(bk e,()))∧(r16=false→((0:Int)≤r22∧r22<r26)∧(((!true)=true→((1:Int)≤e.1∧e.1≤(16:Int))∧True)∧((!true)=false→True))∧(true=true→((bif !true then cM e.1 (98:Int) else false)=true→((2:Int),()) =(bk e,()))∧((bif !true then cM e.1 (98:Int) else false)=false→((e.1 ==(4:Int))=true→(kn e.8,()) =(bk e,()))∧((e.1 ==(4:Int))=false→((0:Int),()) =(bk e,()))))))))))))))))))))))))))))))))
 intro r1 r2 r3 r4 r5 r6 r7 r8 r9 r10 r11 r12 r13 r14 r15 r16 r17 r18 r19 r20 r21 r22 r23 r24 r25 r26
 clear_value (hr1:r1=_) (hr2:r2=_) (hr3:r3=_) (hr4:r4=_) (hr5:r5=_) (hr6:r6=_) (hr7:r7=_) (hr8:r8=_) (hr9:r9=_) (hr10:r10=_) (hr11:r11=_) (hr12:r12=_) (hr13:r13=_) (hr14:r14=_) (hr15:r15=_) (hr16:r16=_) (hr17:r17=_) (hr18:r18=_) (hr19:r19=_) (hr20:r20=_) (hr21:r21=_) (hr22:r22=_) (hr23:r23=_) (hr24:r24=_) (hr25:r25=_) (hr26:r26=_)
 have h6:r6=1:=hr6
 have h17:r17=2:=by rw [hr17,h6];rfl
 have h19:r19=3:=by rw [hr19,h17];rfl
 have h20:r20=4:=by rw [hr20,h19];rfl
 have h21:r21=5:=by rw [hr21,h20];rfl
 have h22:r22=6:=by rw [hr22,h21];rfl
 have h26:r26=7:=hr26
 clear hr6 hr17 hr19 hr20 hr21 hr22 hr26
 have hz:r23=Hi e.8:=by rw [hr23];simp only [Hi,Bool.and_true]
 refine ⟨fun h=>?_,fun h=>?_⟩
 ·have:inW e.1 1 16=false:=by grind [inW]
  simp [bk,this]
 ·have hk:1≤e.1∧e.1≤16:=by grind
  obtain ⟨u1,u2,u3,u4,u5,u6,u7⟩:=LJ hk.1 hk.2
  simp only [u1,u2,u3,u4,u5,u6,u7] at hr5 hr7 hr8 hr9 hr10 hr11 hr12 hr13 hr14 hr15 hr16 hr25 ⊢
  have hi:inW e.1 1 16=true:=by grind [inW]
  have e0:bk e=if r8||r9||r10||r5||r11||r12||r25 then 1 else if r13||r14||r15||r7||r16 then 2 else if me e.1 then kn e.8 else 0:=by
   have t1 :∀ a b:Bool,(bif !a then !b else false) =(!b&&!a):=by decide
   have t2 :∀ a b:Bool,(bif a then b else false) =(b&&a):=by decide
   rw [t1] at hr8 hr9 hr10 hr11 hr12 hr5
   rw [hr24,t1,hz] at hr25
   rw [t2] at hr13 hr14 hr15 hr7 hr16
   rw [hr1] at hr13
   rw [hr2] at hr14
   rw [hr3] at hr15
   rw [hr4] at hr16
   rw [Bool.not_not] at hr5
   rw [hr8,hr9,hr10,hr5,hr11,hr12,hr25,hr13,hr14,hr15,hr7,hr16]
   unfold bk
   rw [hi]
   rfl
  clear hr1 hr2 hr3 hr4 hr5 hr7 hr8 hr9 hr10 hr11 hr12 hr13 hr14 hr15 hr16 hr18 hr23 hr24 hr25
  rw [e0]
  simp only [h6,h17,h19,h20,h21,h22,h26]
  clear u1 u2 u3 u4 u5 u6 u7 e0 hz
  repeat' (first|refine And.intro ?_ ?_|intro _)
  all_goals first|omega |(simp_all [me];done)
def li:FuncId×Ctr:=(45,ae KE qE be sEv)
theorem qh:CtrOK Tryz.prog KE 45 (ae KE qE be sEv):=by
 refine aq (C:=ao [ko,iU,qY,nG] Tryz.f45) (al (.consU ri rfl (.consU pk rfl (.consU zM rfl (.consU vg rfl .nil)))) _) mixed (fn:=Tryz.f45) Tryz.func45 (by kernel_rfl) (by kernel_rfl) (by kernel_rfl) (by kernel_rfl) (by kernel_rfl) (by kernel_rfl) (Λ:=fun x=>find [(rid (aA Tryz.f45 0),cX 8 (ao [ko,iU,qY,nG] Tryz.f45) (fun _=>none) (aA Tryz.f45 0)),(rid (aA Tryz.f45 1),cX 8 (ao [ko,iU,qY,nG] Tryz.f45) (fun _=>none) (aA Tryz.f45 1))]) ?_ ?_
 ·rintro ⟨e,⟨⟩⟩ hw hn
  exact LoopsOKp.at (by kernel_rfl) (.cons (by kernel_rfl) (iY 8 (al (.consU ri rfl (.consU pk rfl (.consU zM rfl (.consU vg rfl .nil)))) _) mixed (Λ:=fun _=>none) (b:=aA Tryz.f45 0) rfl (fun _ _ _ h=>by cases h)) (.cons (by kernel_rfl) (iY 8 (al (.consU ri rfl (.consU pk rfl (.consU zM rfl (.consU vg rfl .nil)))) _) mixed (Λ:=fun _=>none) (b:=aA Tryz.f45 1) rfl (fun _ _ _ h=>by cases h)) .nil))
 ·rintro ⟨e,⟨⟩⟩ hw hn
  exact Ih e
end Go.Proofs.YtkgplaoappjkcaaGreat
namespace Go.Proofs.YtkgplaoappjkcaaGreat
open Go Go.Mir
attribute [local irreducible] Go.Mir.DT.sat Go.Mir.evPat
theorem Fj (e:Mir.Event) :(evPat (ao [xU,Gq,ND,B1] Tryz.f100) (fun _=>none) Tryz.f100 qE be (e,())).sat fun z_=>z_ =(sEv (e,())).2:=by
 refine cast (by kernel_rfl) (?_:let r1:Bool:=!inW e.1 (1:Int) (16:Int);let r2:Bool:=bif mU e.1 then !inW e.7 (0:Int) (90:Int) else false;let r3:Bool:=bif sC e.1 then bif !inW e.6 (loW e.1) (hiW e.1) then true else r2 else r2;let r4:Bool:=bif mT e.1 then bif !inW e.4 (1:Int) (11:Int) then true else r3 else r3;let r5:Bool:=bif !me e.1 then !(e.8.1 ==(0:Int)&&(e.8.2 ==(0:Int)&&(e.8.3 ==(0:Int)&&(e.8.4 ==(0:Int)&&(e.8.5 ==(0:Int)&&(e.8.6==false&&(e.8.7 ==(0:Int)&&(e.8.8 ==(0:Int)&&(e.8.9 ==(0:Int)&&(e.8.10 ==(0:Int)&&(e.8.11==false&&(e.8.12 ==(0:Int)&&true)))))))))))) else false;let r6:Bool:=bif jR e.1 then bif !inW e.3 (1:Int) (11:Int) then true else r4 else r4;let r7:Bool:=bif !mU e.1 then bif e.7 !=(0:Int) then true else r5 else r5;let r8:Bool:=bif oI e.1 then bif !inW e.2 (1:Int) (2:Int) then true else r6 else r6;let r9:Bool:=bif !sC e.1 then bif e.6 !=(0:Int) then true else r7 else r7;let r10:Bool:=bif !I3 e.1 then bif e.5 then true else r9 else r9;let r11:Bool:=bif !mT e.1 then bif e.4 !=(0:Int) then true else r10 else r10;let r12:Bool:=bif !jR e.1 then bif e.3 !=(0:Int) then true else r11 else r11;let r13:Bool:=bif !oI e.1 then bif e.2 !=(0:Int) then true else r12 else r12;(r1=true→((3:Int),()) =(bk e,()))∧(r1=false→(r13=true→((1:Int),()) =(bk e,()))∧(r13=false→(r8=true→((2:Int),()) =(bk e,()))∧(r8=false→(me e.1=true→(kn e.8,()) =(bk e,()))∧(me e.1=false→((0:Int),()) =(bk e,()))))))
 intro r1 r2 r3 r4 r5 r6 r7 r8 r9 r10 r11 r12 r13
 clear_value (hr1:r1=_) (hr2:r2=_) (hr3:r3=_) (hr4:r4=_) (hr5:r5=_) (hr6:r6=_) (hr7:r7=_) (hr8:r8=_) (hr9:r9=_) (hr10:r10=_) (hr11:r11=_) (hr12:r12=_) (hr13:r13=_)
 grind (splits:=60) [bk,Hi]
def pX:FuncId×Ctr:=(100,ae KE qE be sEv)
theorem yb:CtrOK Tryz.prog KE 100 (ae KE qE be sEv):=by
 refine aq (C:=ao [xU,Gq,ND,B1] Tryz.f100) (al (.consU EC rfl (.consU Km rfl (.consU PA rfl (.consU H3 rfl .nil)))) _) mixed (fn:=Tryz.f100) Tryz.func100 (by kernel_rfl) (by kernel_rfl) (by kernel_rfl) (by kernel_rfl) (by kernel_rfl) (by kernel_rfl) (Λ:=fun _ _=>none) ?_ ?_
 ·exact fun _ _ _ _ _ _ _ _ h=>by cases h
 ·rintro ⟨e,⟨⟩⟩ hw hn
  exact Fj e
end Go.Proofs.YtkgplaoappjkcaaGreat
namespace Go.Proofs.YtkgplaoappjkcaaGreat
open Go Go.Mir
attribute [local irreducible] Go.Mir.DT.sat Go.Mir.evPat Go.Mir.RT.sat Go.Mir.evFn
def aB (r:Rules) (x:Innings) (e:Mir.Event):Innings:=
 if e.Kind==2 then eI x e.Player e.Other else if e.Kind==3 then ca r x e.Player else if e.Kind==4 then du r x e.Ball
 else if e.Kind==5 then (if e.Yes then ix x e.Player else fW x e.Player) else if e.Kind==6 then cm x e.Player e.Yes
 else if e.Kind==7 then am x e.Runs else if e.Kind==8 then af x e.Player else if e.Kind==9 then an x e.Player e.Yes
 else if e.Kind==10 then aU r x else if e.Kind==11 then kg r x e else if e.Kind==13 then pw x e else if e.Kind==14 then ge r x e.Side e.Yes else lJ r x e.Runs e.Overs
def bL (r:Rules) (x:Innings) (e:Mir.Event):Int:=
 if e.Kind==2 then fL x e.Player e.Other else if e.Kind==3 then cz r x e.Player else if e.Kind==4 then cW r x e.Ball
 else if e.Kind==5 then bq x e.Player else if e.Kind==6 then bI x e.Player e.Yes
 else if e.Kind==7 then cJ x e.Runs else if e.Kind==8 then bO x e.Player else if e.Kind==9 then db x e.Player e.Yes
 else if e.Kind==10 then oq r x else if e.Kind==11 then i5 r x e else if e.Kind==13 then kC e else if e.Kind==14 then fj r x e.Side else m0 r x e.Runs e.Overs
def vZ (e:Mir.Event):Prop:=e.Kind=14→gg e.Side
def Lk:Den (tyP gy)→List Prop×Den (tyP q2L):=fun x=>([dK x.2.1,vZ x.2.2.1],(aB x.1 x.2.1 x.2.2.1,bL x.1 x.2.1 x.2.2.1,()))
def gL (k:Int):Bool:=inW k 2 15&&k != 12
def bb (r:Rules) (x:Innings) (e:Mir.Event):Innings:=if gL e.Kind then aB r x e else x
def dn (r:Rules) (x:Innings) (e:Mir.Event):Int:=if gL e.Kind then bL r x e else 1
def PK:Den (tyP gy)→List Prop×Den (tyP q2L):=fun x=>([dK x.2.1,vZ x.2.2.1],(bb x.1 x.2.1 x.2.2.1,dn x.1 x.2.1 x.2.2.1,()))
def bZ (r:Rules) (x:Innings) (e:Mir.Event):Int:=
 if !aZ r x||bk e != 0 then 1 else if x.Ending != 0 then 26 else if !gL e.Kind||!ch x&&e.Kind != 2 then 1 else bL r x e
def uo (y:Innings) (e:Mir.Event):Innings:={ y with Fresh:=e.Kind==4 }
def tR (r:Rules) (y:Innings):Innings:=if y.Ending==0 then { y with Ending:=ol r y } else y
def cK (r:Rules) (x:Innings) (e:Mir.Event):Innings:=if bZ r x e != 0 then x else tR r (uo (aB r x e) e)
def yz:Den (tyP gy)→List Prop×Den (tyP q2L):=fun x=>([aj x.2.1],(cK x.1 x.2.1 x.2.2.1,bZ x.1 x.2.1 x.2.2.1,()))
theorem jY {r:Rules} {x:Innings} (h:aZ r x=true):dK x:=by
 unfold aZ at h
 simp only [Bool.and_eq_true,beq_iff_eq] at h
 obtain ⟨hc,_,hl,_,_,_,_,h1,h2,_,_⟩:=h
 obtain ⟨⟨_,hs⟩,_⟩:=gP hc
 simp only [p0,Bool.and_eq_true,beq_iff_eq] at hl
 obtain ⟨l1,l2,l3⟩:=hl
 have k1:=rK h1
 have k2:=rK h2
 have e1:x.Bowlers.length≤999999:=by rcases k1 with k|k;omega;rw [k];simp
 have e2:x.Before.length≤999999:=by rcases k2 with k|k;omega;rw [k];simp
 exact ⟨by omega,e1,e2,by omega,by omega⟩
theorem LX {e:Mir.Event} (h:bk e=0):inW e.Kind 1 16=true:=by
 cases hk:inW e.Kind 1 16 with
 | true=>rfl
 | false=>unfold bk at h;simp [hk] at h
theorem FU {e:Mir.Event} (h:bk e=0):vZ e:=fun hk=>by
 cases hs:inW e.Side 1 2 with
 | true=>simp only [inW,Bool.and_eq_true,decide_eq_true_eq] at hs;unfold gg;omega
 | false=>
  have hu:oI e.Kind=true:=by rw [hk];rfl
  unfold bk at h
  simp only [hu,hs] at h
  exfalso
  revert h
  repeat' split
  all_goals first |(intro h;exact absurd h (by decide))|simp_all
theorem aG {c:Prop} [Decidable c] {a b:Innings} (ha:aj a) (hb:aj b):aj (if c then a else b):=by
 by_cases h:c
 ·rw [if_pos h];exact ha
 ·rw [if_neg h];exact hb
theorem iX {x:Innings} (h:aj x) (p s:Int):aj (cc x p s):=by
 obtain ⟨h1,h2,h3,h4,h5⟩:=h
 simp [aj,cc,h1,h2,h3,h4,h5]
theorem wc {x:Innings} (h:aj x) (p:Int):aj (fc x p):=by
 have:aj (if aC x p then cc x p 2 else x):=aG (iX h _ _) h
 exact this
theorem qr {x:Innings} (h:aj x) (b:Bool):aj (cB x b):=aG (c:=b=true) (a:={ x with Striker:=0 }) (b:={ x with Other:=0 }) h h
theorem IW {x:Innings} (h:aj x) (p:Int) (b:Bool):aj (lF x p b):=by
 obtain ⟨h1,h2,h3,h4,h5⟩:=h
 simp [aj,lF,h1,h2,h3,h4,h5]
theorem px {r:Rules} {x:Innings} (e:Mir.Event) (hj:dK x):aj (aB r x e):=by
 have h:aj x:=hZ hj
 have hf :∀ y,aj y→aj (mz r y e.Ball):=fun y hy=>by
  unfold mz
  exact aG hy (aG hy hy)
 have hp:aj (du r x e.Ball):=by
  unfold du
  refine aG h (hf _ ?_)
  have hb:aj (ah r (tI (aQ x e.Ball) (au r e.Ball)) (au r e.Ball).Counts):=oM _ (nW e.Ball hj)
  unfold d6 Kq
  exact aG hb hb
 have k2:aj (eI x e.Player e.Other):=by
  unfold eI
  exact aG h (aG h (aG h (iX (iX h _ _) _ _)))
 have k3:aj (ca r x e.Player):=by unfold ca;exact aG h h
 have k5:aj (ix x e.Player):=by unfold ix;exact aG h (wc h _)
 have k5':aj (fW x e.Player):=by unfold fW;exact aG h (aG (iX h _ _) (iX h _ _))
 have k6:aj (cm x e.Player e.Yes):=by unfold cm;exact aG h (aG (iX (qr h _) _ _) (wc (qr h _) _))
 have k7:aj (am x e.Runs):=by unfold am;exact aG h h
 have k8:aj (af x e.Player):=by unfold af;exact aG h (aG h (aG h h))
 have k9:aj (an x e.Player e.Yes):=by unfold an;exact aG h (aG h (IW h _ _))
 have k10:aj (aU r x):=by unfold aU;exact aG h h
 have k11:aj (kg r x e):=by unfold kg;exact aG h h
 have k13:aj (pw x e):=by unfold pw;exact aG h (aG h (aG h h))
 have k14:aj (ge r x e.Side e.Yes):=by unfold ge;exact aG h (aG h h)
 have kT:aj (La x e.Runs):=by unfold La;exact aG h h
 have k15:aj (lJ r x e.Runs e.Overs):=by unfold lJ Ng;exact aG h (aG kT kT)
 unfold aB
 exact aG k2 (aG k3 (aG hp (aG (aG k5 k5') (aG k6 (aG k7 (aG k8 (aG k9 (aG k10 (aG k11 (aG k13 (aG k14 k15)))))))))))
theorem iI {r:Rules} {x:Innings} {e:Mir.Event} (h :(bZ r x e != 0)=true):cK r x e=x:=by simp only [cK,h,if_true]
theorem C2 (r:Rules) (x:Innings) (e:Mir.Event) (hs:dK x) (h2:vZ e) :(evPat (ao [JG,k50,JJ,xE,F7,BN,k67,k66,k46,k55,xG,NB,BQ,BR] Tryz.f110) (fun _=>none) Tryz.f110 gy q2L (r,x,e,())).sat fun z_=>z_ =(Lk (r,x,e,())).2:=by
 refine cast (by kernel_rfl) (?_ :((e.1 ==(2:Int))=true→aj x∧(eI x e.3 e.4,fL x e.3 e.4,()) =(aB r x e,bL r x e,()))∧((e.1 ==(2:Int))=false→((e.1 ==(3:Int))=true→aj x∧(ca r x e.3,cz r x e.3,()) =(aB r x e,bL r x e,()))∧((e.1 ==(3:Int))=false→((e.1 ==(4:Int))=true→dK x∧(du r x e.8,cW r x e.8,()) =(aB r x e,bL r x e,()))∧((e.1 ==(4:Int))=false→((e.1 ==(5:Int))=true→(e.5=true→aj x∧(ix x e.3,bq x e.3,()) =(aB r x e,bL r x e,()))∧(e.5=false→aj x∧(fW x e.3,bq x e.3,()) =(aB r x e,bL r x e,())))∧((e.1 ==(5:Int))=false→((e.1 ==(6:Int))=true→aj x∧(cm x e.3 e.5,bI x e.3 e.5,()) =(aB r x e,bL r x e,()))∧((e.1 ==(6:Int))=false→((e.1 ==(7:Int))=true→aj x∧(am x e.6,cJ x e.6,()) =(aB r x e,bL r x e,()))∧((e.1 ==(7:Int))=false→((e.1 ==(8:Int))=true→aj x∧(af x e.3,bO x e.3,()) =(aB r x e,bL r x e,()))∧((e.1 ==(8:Int))=false→((e.1 ==(9:Int))=true→aj x∧(an x e.3 e.5,db x e.3 e.5,()) =(aB r x e,bL r x e,()))∧((e.1 ==(9:Int))=false→((e.1 ==(10:Int))=true→aj x∧(aU r x,oq r x,()) =(aB r x e,bL r x e,()))∧((e.1 ==(10:Int))=false→((e.1 ==(11:Int))=true→aj x∧(kg r x e,i5 r x e,()) =(aB r x e,bL r x e,()))∧((e.1 ==(11:Int))=false→((e.1 ==(13:Int))=true→aj x∧(pw x e,kC e,()) =(aB r x e,bL r x e,()))∧((e.1 ==(13:Int))=false→((e.1 ==(14:Int))=true→aj x∧gg e.2∧(ge r x e.2 e.5,fj r x e.2,()) =(aB r x e,bL r x e,()))∧((e.1 ==(14:Int))=false→aj x∧(lJ r x e.6 e.7,m0 r x e.6 e.7,()) =(aB r x e,bL r x e,()))))))))))))))
 have hi:=hZ hs
 refine ⟨fun a2=>?_,fun n2=>⟨fun a3=>?_,fun n3=>⟨fun a4=>?_,fun n4=>⟨fun a5=>?_,fun n5=>⟨fun a6=>?_,fun n6=>⟨fun a7=>?_,fun n7=>⟨fun a8=>?_,fun n8=>⟨fun a9=>?_,fun n9=>⟨fun a10=>?_,fun n10=>⟨fun a11=>?_,fun n11=>⟨fun a13=>?_,fun n13=>⟨fun a14=>?_,fun n14=>?_⟩⟩⟩⟩⟩⟩⟩⟩⟩⟩⟩⟩
 ·exact ⟨hi,by simp only [aB,bL,a2];rfl⟩
 ·exact ⟨hi,by simp only [aB,bL,n2,a3];rfl⟩
 ·exact ⟨hs,by simp only [aB,bL,n2,n3,a4];rfl⟩
 ·exact ⟨fun y=>⟨hi,by simp only [aB,bL,n2,n3,n4,a5,y];rfl⟩,fun y=>⟨hi,by simp only [aB,bL,n2,n3,n4,a5,y];rfl⟩⟩
 ·exact ⟨hi,by simp only [aB,bL,n2,n3,n4,n5,a6];rfl⟩
 ·exact ⟨hi,by simp only [aB,bL,n2,n3,n4,n5,n6,a7];rfl⟩
 ·exact ⟨hi,by simp only [aB,bL,n2,n3,n4,n5,n6,n7,a8];rfl⟩
 ·exact ⟨hi,by simp only [aB,bL,n2,n3,n4,n5,n6,n7,n8,a9];rfl⟩
 ·exact ⟨hi,by simp only [aB,bL,n2,n3,n4,n5,n6,n7,n8,n9,a10];rfl⟩
 ·exact ⟨hi,by simp only [aB,bL,n2,n3,n4,n5,n6,n7,n8,n9,n10,a11];rfl⟩
 ·exact ⟨hi,by simp only [aB,bL,n2,n3,n4,n5,n6,n7,n8,n9,n10,n11,a13];rfl⟩
 ·exact ⟨hi,h2 (eq_of_beq a14),by simp only [aB,bL,n2,n3,n4,n5,n6,n7,n8,n9,n10,n11,n13,a14];rfl⟩
 ·exact ⟨hi,by simp only [aB,bL,n2,n3,n4,n5,n6,n7,n8,n9,n10,n11,n13,n14];rfl⟩
def xI:FuncId×Ctr:=(110,ae KE gy q2L Lk)
theorem Eo:CtrOK Tryz.prog KE 110 (ae KE gy q2L Lk):=by
 refine aq (C:=ao [JG,k50,JJ,xE,F7,BN,k67,k66,k46,k55,xG,NB,BQ,BR] Tryz.f110) (al (.consU Mx rfl (.consU Sh rfl (.consU Mz rfl (.consU Ej rfl (.consU J5 rfl (.consU HO rfl (.consU Ss rfl (.consU Sr rfl (.consU Sg rfl (.consU Sk rfl (.consU El rfl (.consU Py rfl (.consU HQ rfl (.consU HR rfl .nil)))))))))))))) _) mixed (fn:=Tryz.f110) Tryz.func110 (by kernel_rfl) (by kernel_rfl) (by kernel_rfl) (by kernel_rfl) (by kernel_rfl) (by kernel_rfl) (Λ:=fun _ _=>none) ?_ ?_
 ·exact fun _ _ _ _ _ _ _ _ h=>by cases h
 ·rintro ⟨r,x,e,⟨⟩⟩ hw hn
  exact C2 r x e (hn _ List.mem_cons_self) (hn _ (List.mem_cons_of_mem _ List.mem_cons_self))
theorem IE (r:Rules) (x:Innings) (e:Mir.Event) (hs:dK x) (h2:vZ e) :(evPat (ao [BT,BV,BW,se,xQ,uJ,k70,k68,k69,k56,gT,uL,uM] Tryz.f177) (fun _=>none) Tryz.f177 gy q2L (r,x,e,())).sat fun z_=>z_ =(PK (r,x,e,())).2:=by
 refine cast (by kernel_rfl) (?_:let r1:Bool:=decide (x.2 >(0:Int));((e.1 ==(2:Int))=true→aj x∧(eI x e.3 e.4,fL x e.3 e.4,()) =(bb r x e,dn r x e,()))∧((e.1 ==(2:Int))=false→((e.1 ==(3:Int))=true→aj x∧(ca r x e.3,cz r x e.3,()) =(bb r x e,dn r x e,()))∧((e.1 ==(3:Int))=false→((e.1 ==(4:Int))=true→dK x∧(du r x e.8,cW r x e.8,()) =(bb r x e,dn r x e,()))∧((e.1 ==(4:Int))=false→((e.1 ==(5:Int))=true→(e.5=true→aj x∧(ix x e.3,bq x e.3,()) =(bb r x e,dn r x e,()))∧(e.5=false→aj x∧(fW x e.3,bq x e.3,()) =(bb r x e,dn r x e,())))∧((e.1 ==(5:Int))=false→((e.1 ==(6:Int))=true→aj x∧(cm x e.3 e.5,bI x e.3 e.5,()) =(bb r x e,dn r x e,()))∧((e.1 ==(6:Int))=false→((e.1 ==(7:Int))=true→aj x∧(am x e.6,cJ x e.6,()) =(bb r x e,dn r x e,()))∧((e.1 ==(7:Int))=false→((e.1 ==(8:Int))=true→aj x∧(af x e.3,bO x e.3,()) =(bb r x e,dn r x e,()))∧((e.1 ==(8:Int))=false→((e.1 ==(9:Int))=true→aj x∧(an x e.3 e.5,db x e.3 e.5,()) =(bb r x e,dn r x e,()))∧((e.1 ==(9:Int))=false→((e.1 ==(10:Int))=true→aj x∧(aU r x,oq r x,()) =(bb r x e,dn r x e,()))∧((e.1 ==(10:Int))=false→((e.1 ==(11:Int))=true→((e.2 != x.1)=true→(x,(2:Int),()) =(bb r x e,dn r x e,()))∧((e.2 != x.1)=false→((r.4 !=(0:Int))=true→(x,(20:Int),()) =(bb r x e,dn r x e,()))∧((r.4 !=(0:Int))=false→(Innings.mk x.1 x.2 x.3 x.4 x.5 x.6 x.7 x.8 x.9 x.10 x.11 x.12 x.13 x.14 x.15 x.16 x.17 x.18 x.19 x.20 x.21 x.22 (4:Int),(0:Int),()) =(bb r x e,dn r x e,()))))∧((e.1 ==(11:Int))=false→((e.1 ==(13:Int))=true→((e.6 !=(5:Int))=true→(x,(23:Int),()) =(bb r x e,dn r x e,()))∧((e.6 !=(5:Int))=false→((e.2==x.1)=true→aj x∧(Innings.mk x.1 x.2 x.3 (W (x.4 +(5:Int))) x.5 (Extras.mk x.6.1 x.6.2 x.6.3 x.6.4 (W (x.6.5 +(5:Int)))) x.7 x.8 x.9 x.10 x.11 x.12 x.13 x.14 x.15 x.16 x.17 x.18 x.19 x.20 x.21 x.22 x.23,(0:Int),()) =(bb r x e,dn r x e,()))∧((e.2==x.1)=false→(Innings.mk (bif r1 then x.1 else x.1) (bif r1 then IntKind.i64.wrap (x.2 +(5:Int)) else x.2) (bif r1 then x.3 else x.3) (bif r1 then x.4 else x.4) (bif r1 then x.5 else x.5) (Extras.mk (bif r1 then x.6.1 else x.6.1) (bif r1 then x.6.2 else x.6.2) (bif r1 then x.6.3 else x.6.3) (bif r1 then x.6.4 else x.6.4) (bif r1 then x.6.5 else x.6.5)) (bif r1 then x.7 else x.7) (bif r1 then x.8 else x.8) (bif r1 then x.9 else x.9) (bif r1 then x.10 else x.10) (bif r1 then x.11 else x.11) (bif r1 then x.12 else x.12) (bif r1 then x.13 else x.13) (bif r1 then x.14 else x.14) (bif r1 then x.15 else x.15) (bif r1 then x.16 else x.16) (bif r1 then x.17 else x.17) (bif r1 then x.18 else x.18) (bif r1 then x.19 else x.19) (bif r1 then x.20 else x.20) (bif r1 then x.21 else x.21) (bif r1 then x.22.1 else x.22.1,bif r1 then x.22.2.1 else x.22.2.1,()) (bif r1 then x.23 else x.23),(0:Int),()) =(bb r x e,dn r x e,()))))∧((e.1 ==(13:Int))=false→((e.1 ==(14:Int))=true→gg e.2∧(ge r x e.2 e.5,fj r x e.2,()) =(bb r x e,dn r x e,()))∧((e.1 ==(14:Int))=false→((e.1 ==(15:Int))=true→(lJ r x e.6 e.7,m0 r x e.6 e.7,()) =(bb r x e,dn r x e,()))∧((e.1 ==(15:Int))=false→(x,(1:Int),()) =(bb r x e,dn r x e,())))))))))))))))
 intro r1
 clear_value (hr1:r1=_)
 have hi:=hZ hs
 refine ⟨fun a2=>?_,fun n2=>⟨fun a3=>?_,fun n3=>⟨fun a4=>?_,fun n4=>⟨fun a5=>?_,fun n5=>⟨fun a6=>?_,fun n6=>⟨fun a7=>?_,fun n7=>⟨fun a8=>?_,fun n8=>⟨fun a9=>?_,fun n9=>⟨fun a10=>?_,fun n10=>⟨fun a11=>?_,fun n11=>⟨fun a13=>?_,fun n13=>⟨fun a14=>?_,fun n14=>⟨fun a15=>?_,fun n15=>?_⟩⟩⟩⟩⟩⟩⟩⟩⟩⟩⟩⟩⟩
 ·have ak:gL e.Kind=true:=by rw [eq_of_beq a2];rfl
  exact ⟨hi,by simp only [bb,dn,ak,aB,bL,a2];rfl⟩
 ·have ak:gL e.Kind=true:=by rw [eq_of_beq a3];rfl
  exact ⟨hi,by simp only [bb,dn,ak,aB,bL,n2,a3];rfl⟩
 ·have ak:gL e.Kind=true:=by rw [eq_of_beq a4];rfl
  exact ⟨hs,by simp only [bb,dn,ak,aB,bL,n2,n3,a4];rfl⟩
 ·have ak:gL e.Kind=true:=by rw [eq_of_beq a5];rfl
  exact ⟨fun y=>⟨hi,by simp only [bb,dn,ak,aB,bL,n2,n3,n4,a5,y];rfl⟩,fun y=>⟨hi,by simp only [bb,dn,ak,aB,bL,n2,n3,n4,a5,y];rfl⟩⟩
 ·have ak:gL e.Kind=true:=by rw [eq_of_beq a6];rfl
  exact ⟨hi,by simp only [bb,dn,ak,aB,bL,n2,n3,n4,n5,a6];rfl⟩
 ·have ak:gL e.Kind=true:=by rw [eq_of_beq a7];rfl
  exact ⟨hi,by simp only [bb,dn,ak,aB,bL,n2,n3,n4,n5,n6,a7];rfl⟩
 ·have ak:gL e.Kind=true:=by rw [eq_of_beq a8];rfl
  exact ⟨hi,by simp only [bb,dn,ak,aB,bL,n2,n3,n4,n5,n6,n7,a8];rfl⟩
 ·have ak:gL e.Kind=true:=by rw [eq_of_beq a9];rfl
  exact ⟨hi,by simp only [bb,dn,ak,aB,bL,n2,n3,n4,n5,n6,n7,n8,a9];rfl⟩
 ·have ak:gL e.Kind=true:=by rw [eq_of_beq a10];rfl
  exact ⟨hi,by simp only [bb,dn,ak,aB,bL,n2,n3,n4,n5,n6,n7,n8,n9,a10];rfl⟩
 ·have ak:gL e.Kind=true:=by rw [eq_of_beq a11];rfl
  have hp:bb r x e=kg r x e∧dn r x e=i5 r x e:=by constructor <;>(simp only [bb,dn,ak,aB,bL,n2,n3,n4,n5,n6,n7,n8,n9,n10,a11];rfl)
  rw [hp.1,hp.2]
  refine ⟨fun b=>?_,fun b=>⟨fun c=>?_,fun c=>?_⟩⟩
  ·have e1:i5 r x e=2:=by simp only [i5,b];rfl
   simp only [kg,e1];rfl
  ·have e1:i5 r x e=20:=by simp only [i5,b,c];rfl
   simp only [kg,e1];rfl
  ·have e1:i5 r x e=0:=by simp only [i5,b,c];rfl
   simp only [kg,e1];rfl
 ·have ak:gL e.Kind=true:=by rw [eq_of_beq a13];rfl
  have hp:bb r x e=pw x e∧dn r x e=kC e:=by constructor <;>(simp only [bb,dn,ak,aB,bL,n2,n3,n4,n5,n6,n7,n8,n9,n10,n11,a13];rfl)
  rw [hp.1,hp.2]
  simp only [Bool.cond_self]
  refine ⟨fun b=>?_,fun b=>⟨fun c=>⟨hi,?_⟩,fun c=>?_⟩⟩
  ·have e1:kC e=23:=by simp only [kC,b];rfl
   simp only [pw,e1];rfl
  ·have e1:kC e=0:=by simp only [kC,b];rfl
   simp only [pw,e1,c];rfl
  ·have e1:kC e=0:=by simp only [kC,b];rfl
   simp only [pw,e1,c]
   cases r1 with
   | true=>have:x.Target>0:=of_decide_eq_true hr1.symm;simp only [if_pos this];rfl
   | false=>have :¬ x.Target>0:=of_decide_eq_false hr1.symm;simp only [if_neg this];rfl
 ·have ak:gL e.Kind=true:=by rw [eq_of_beq a14];rfl
  exact ⟨h2 (eq_of_beq a14),by simp only [bb,dn,ak,aB,bL,n2,n3,n4,n5,n6,n7,n8,n9,n10,n11,n13,a14];rfl⟩
 ·have ak:gL e.Kind=true:=by rw [eq_of_beq a15];rfl
  exact by simp only [bb,dn,ak,aB,bL,n2,n3,n4,n5,n6,n7,n8,n9,n10,n11,n13,n14];rfl
 ·have ak:gL e.Kind=false:=by
   cases h:gL e.Kind with
   | false=>rfl
   | true=>
    simp only [gL,inW,Bool.and_eq_true,decide_eq_true_eq,bne_iff_ne,ne_eq] at h
    have q :∀ k:Int,(e.Kind==k)=false→e.Kind≠k:=fun k h=>by simpa using h
    have:=q _ n2;have:=q _ n3;have:=q _ n4;have:=q _ n5;have:=q _ n6;have:=q _ n7;have:=q _ n8;have:=q _ n9;have:=q _ n10;have:=q _ n11;have:=q _ n13;have:=q _ n14;have:=q _ n15
    omega
  simp only [bb,dn,ak];rfl
def Gm:FuncId×Ctr:=(177,ae KE gy q2L PK)
theorem Kj:CtrOK Tryz.prog KE 177 (ae KE gy q2L PK):=by
 refine aq (C:=ao [BT,BV,BW,se,xQ,uJ,k70,k68,k69,k56,gT,uL,uM] Tryz.f177) (al (.consU HT rfl (.consU HV rfl (.consU HW rfl (.consU zP rfl (.consU Ey rfl (.consU Cl rfl (.consU Sw rfl (.consU Su rfl (.consU Sv rfl (.consU Sl rfl (.consU lw rfl (.consU Co rfl (.consU Cp rfl .nil))))))))))))) _) mixed (fn:=Tryz.f177) Tryz.func177 (by kernel_rfl) (by kernel_rfl) (by kernel_rfl) (by kernel_rfl) (by kernel_rfl) (by kernel_rfl) (Λ:=fun _ _=>none) ?_ ?_
 ·exact fun _ _ _ _ _ _ _ _ h=>by cases h
 ·rintro ⟨r,x,e,⟨⟩⟩ hw hn
  exact IE r x e (hn _ List.mem_cons_self) (hn _ (List.mem_cons_of_mem _ List.mem_cons_self))
theorem KX (r:Rules) (x:Innings) (e:Mir.Event) (hs:aj x) :(evPat (ao [dJ,pT,li,Ge,xI,BP] Tryz.f95) (fun _=>none) Tryz.f95 gy q2L (r,x,e,())).sat fun z_=>z_ =(yz (r,x,e,())).2:=by
 refine cast (by kernel_rfl) (?_:let r1:Bool:=bL r x e !=(0:Int);let r2:Bool:=(aB r x e).23 ==(0:Int);let r3:Bool:=bif !aZ r x then true else bk e !=(0:Int);let r4:Bool:=bif e.1 ==(1:Int) then true else bif e.1 ==(12:Int) then true else bif e.1 ==(16:Int) then true else bif !ch x then e.1 !=(2:Int) else false;let r5:Innings:=Innings.mk (aB r x e).1 (aB r x e).2 (aB r x e).3 (aB r x e).4 (aB r x e).5 (aB r x e).6 (aB r x e).7 (aB r x e).8 (aB r x e).9 (aB r x e).10 (aB r x e).11 (aB r x e).12 (aB r x e).13 (aB r x e).14 (e.1 ==(4:Int)) (aB r x e).16 (aB r x e).17 (aB r x e).18 (aB r x e).19 (aB r x e).20 (aB r x e).21 (aB r x e).22 (aB r x e).23;(aj x∧((!aZ r x)=true→True)∧((!aZ r x)=false→True))∧(true=true→(r3=true→aj x∧(x,(1:Int),()) =(cK r x e,bZ r x e,()))∧(r3=false→((x.23 !=(0:Int))=true→aj x∧(x,(26:Int),()) =(cK r x e,bZ r x e,()))∧((x.23 !=(0:Int))=false→(r4=true→aj x∧(x,(1:Int),()) =(cK r x e,bZ r x e,()))∧(r4=false→dK x∧vZ e∧(r1=true→aj x∧(x,bL r x e,()) =(cK r x e,bZ r x e,()))∧(r1=false→((r2=true→aj r5∧True)∧(r2=false→True))∧(true=true→(Innings.mk (bif r2 then (aB r x e).1 else (aB r x e).1) (bif r2 then (aB r x e).2 else (aB r x e).2) (bif r2 then (aB r x e).3 else (aB r x e).3) (bif r2 then (aB r x e).4 else (aB r x e).4) (bif r2 then (aB r x e).5 else (aB r x e).5) (Extras.mk (bif r2 then (aB r x e).6.1 else (aB r x e).6.1) (bif r2 then (aB r x e).6.2 else (aB r x e).6.2) (bif r2 then (aB r x e).6.3 else (aB r x e).6.3) (bif r2 then (aB r x e).6.4 else (aB r x e).6.4) (bif r2 then (aB r x e).6.5 else (aB r x e).6.5)) (bif r2 then (aB r x e).7 else (aB r x e).7) (bif r2 then (aB r x e).8 else (aB r x e).8) (bif r2 then (aB r x e).9 else (aB r x e).9) (bif r2 then (aB r x e).10 else (aB r x e).10) (bif r2 then (aB r x e).11 else (aB r x e).11) (bif r2 then (aB r x e).12 else (aB r x e).12) (bif r2 then (aB r x e).13 else (aB r x e).13) (bif r2 then (aB r x e).14 else (aB r x e).14) (bif r2 then e.1 ==(4:Int) else e.1 ==(4:Int)) (bif r2 then (aB r x e).16 else (aB r x e).16) (bif r2 then (aB r x e).17 else (aB r x e).17) (bif r2 then (aB r x e).18 else (aB r x e).18) (bif r2 then (aB r x e).19 else (aB r x e).19) (bif r2 then (aB r x e).20 else (aB r x e).20) (bif r2 then (aB r x e).21 else (aB r x e).21) (bif r2 then (aB r x e).22.1 else (aB r x e).22.1,bif r2 then (aB r x e).22.2.1 else (aB r x e).22.2.1,()) (bif r2 then ol r r5 else (aB r x e).23),(0:Int),()) =(cK r x e,bZ r x e,()))))))))
 intro r1 r2 r3 r4 r5
 clear_value (hr1:r1=_) (hr2:r2=_) (hr3:r3=_) (hr4:r4=_) (hr5:r5=_)
 simp only [Bool.cond_self] at *
 have e3:r3 =(!aZ r x||bk e != 0):=by rw [hr3];cases aZ r x <;> rfl
 have hv:r3=false→aZ r x=true∧bk e=0:=fun h=>by
  rw [e3] at h
  simpa using h
 have e4:r3=false→r4 =(!gL e.Kind||!ch x&&e.Kind != 2):=fun h=>by
  have hk:=LX (hv h).2
  simp only [inW,Bool.and_eq_true,decide_eq_true_eq] at hk
  have :(e.Kind==1 ||(e.Kind==12||e.Kind==16))=!gL e.Kind:=by
   unfold gL inW
   by_cases k1:e.Kind=1
   ·rw [k1];rfl
   ·by_cases k2:e.Kind=12
    ·rw [k2];rfl
    ·by_cases k3:e.Kind=16
     ·rw [k3];rfl
     ·have q1:e.Kind≥2:=by omega
      have q2:e.Kind≤15:=by omega
      have b1 :(e.Kind==1)=false:=by simpa using k1
      have b2 :(e.Kind==12)=false:=by simpa using k2
      have b3 :(e.Kind==16)=false:=by simpa using k3
      simp [b1,b2,b3,q1,q2,bne]
  rw [hr4,←this]
  cases e.Kind==1 <;> cases e.Kind==12 <;> cases e.Kind==16 <;> cases ch x <;> rfl
 have h5:r5=uo (aB r x e) e:=hr5
 clear hr3 hr4 hr5
 refine ⟨⟨hs,fun _=>trivial,fun _=>trivial⟩,fun _=>⟨fun a=>⟨hs,?_⟩,fun a=>⟨fun b=>⟨hs,?_⟩,fun b=>⟨fun c=>⟨hs,?_⟩,fun c=>⟨jY (hv a).1,FU (hv a).2,fun d=>⟨hs,?_⟩,fun d=>⟨⟨fun q=>⟨?_,trivial⟩,fun _=>trivial⟩,fun _=>?_⟩⟩⟩⟩⟩⟩
 ·have hL:bZ r x e=1:=by simp only [bZ,←e3,a];rfl
  rw [iI (by rw [hL];rfl),hL]
 ·have hL:bZ r x e=26:=by simp only [bZ,←e3,a,b];rfl
  rw [iI (by rw [hL];rfl),hL]
 ·have hL:bZ r x e=1:=by simp only [bZ,←e3,←e4 a,a,b,c];rfl
  rw [iI (by rw [hL];rfl),hL]
 ·have hL:bZ r x e=bL r x e:=by simp only [bZ,←e3,←e4 a,a,b,c];rfl
  rw [iI (by rw [hL,←hr1];exact d),hL]
 ·rw [h5];exact px e (jY (hv a).1)
 ·have hL:bZ r x e=0:=by
   have:bZ r x e=bL r x e:=by simp only [bZ,←e3,←e4 a,a,b,c];rfl
   rw [this]
   rw [hr1] at d
   simpa using d
  have hp:cK r x e=tR r r5:=by simp only [cK,hL,h5];rfl
  rw [hp,hL]
  have hE:r5.Ending =(aB r x e).Ending:=by rw [h5];rfl
  unfold tR
  rw [hE,←hr2]
  cases r2 with
  | true=>rw [if_pos rfl,h5];rfl
  | false=>rw [if_neg (by decide),h5];rfl
def zt:FuncId×Ctr:=(95,ae KE gy q2L yz)
theorem GH:CtrOK Tryz.prog KE 95 (ae KE gy q2L yz):=by
 refine aq (C:=ao [dJ,pT,li,Ge,xI,BP] Tryz.f95) (al (.consU gZ rfl (.consU ve rfl (.consU qh rfl (.consU Kb rfl (.consU Eo rfl (.consU HP rfl .nil)))))) _) mixed (fn:=Tryz.f95) Tryz.func95 (by kernel_rfl) (by kernel_rfl) (by kernel_rfl) (by kernel_rfl) (by kernel_rfl) (by kernel_rfl) (Λ:=fun _ _=>none) ?_ ?_
 ·exact fun _ _ _ _ _ _ _ _ h=>by cases h
 ·rintro ⟨r,x,e,⟨⟩⟩ hw hn
  exact KX r x e (hn _ List.mem_cons_self)
theorem Fb (r:Rules) (x:Innings) (e:Mir.Event) (hs:aj x) :(evPat (ao [kw,kx,pX,fH,Gm,uK] Tryz.f153) (fun _=>none) Tryz.f153 gy q2L (r,x,e,())).sat fun z_=>z_ =(yz (r,x,e,())).2:=by
 refine cast (by kernel_rfl) (?_:let r1:Bool:=dn r x e !=(0:Int);let r2:Bool:=(bb r x e).23 ==(0:Int);let r3:Bool:=bif !ch x then e.1 !=(2:Int) else false;let r4:Bool:=bif !aZ r x then true else bk e !=(0:Int);let r5:Innings:=Innings.mk (bb r x e).1 (bb r x e).2 (bb r x e).3 (bb r x e).4 (bb r x e).5 (bb r x e).6 (bb r x e).7 (bb r x e).8 (bb r x e).9 (bb r x e).10 (bb r x e).11 (bb r x e).12 (bb r x e).13 (bb r x e).14 (e.1 ==(4:Int)) (bb r x e).16 (bb r x e).17 (bb r x e).18 (bb r x e).19 (bb r x e).20 (bb r x e).21 (bb r x e).22 (bb r x e).23;aj x∧(aj x∧((!aZ r x)=true→True)∧((!aZ r x)=false→True))∧(true=true→(r4=true→(x,(1:Int),()) =(cK r x e,bZ r x e,()))∧(r4=false→((x.23 !=(0:Int))=true→(x,(26:Int),()) =(cK r x e,bZ r x e,()))∧((x.23 !=(0:Int))=false→(r3=true→(x,(1:Int),()) =(cK r x e,bZ r x e,()))∧(r3=false→aj x∧dK x∧vZ e∧(r1=true→(x,dn r x e,()) =(cK r x e,bZ r x e,()))∧(r1=false→((r2=true→aj r5∧True)∧(r2=false→True))∧(true=true→(Innings.mk (bif r2 then (bb r x e).1 else (bb r x e).1) (bif r2 then (bb r x e).2 else (bb r x e).2) (bif r2 then (bb r x e).3 else (bb r x e).3) (bif r2 then (bb r x e).4 else (bb r x e).4) (bif r2 then (bb r x e).5 else (bb r x e).5) (Extras.mk (bif r2 then (bb r x e).6.1 else (bb r x e).6.1) (bif r2 then (bb r x e).6.2 else (bb r x e).6.2) (bif r2 then (bb r x e).6.3 else (bb r x e).6.3) (bif r2 then (bb r x e).6.4 else (bb r x e).6.4) (bif r2 then (bb r x e).6.5 else (bb r x e).6.5)) (bif r2 then (bb r x e).7 else (bb r x e).7) (bif r2 then (bb r x e).8 else (bb r x e).8) (bif r2 then (bb r x e).9 else (bb r x e).9) (bif r2 then (bb r x e).10 else (bb r x e).10) (bif r2 then (bb r x e).11 else (bb r x e).11) (bif r2 then (bb r x e).12 else (bb r x e).12) (bif r2 then (bb r x e).13 else (bb r x e).13) (bif r2 then (bb r x e).14 else (bb r x e).14) (bif r2 then e.1 ==(4:Int) else e.1 ==(4:Int)) (bif r2 then (bb r x e).16 else (bb r x e).16) (bif r2 then (bb r x e).17 else (bb r x e).17) (bif r2 then (bb r x e).18 else (bb r x e).18) (bif r2 then (bb r x e).19 else (bb r x e).19) (bif r2 then (bb r x e).20 else (bb r x e).20) (bif r2 then (bb r x e).21 else (bb r x e).21) (bif r2 then (bb r x e).22.1 else (bb r x e).22.1,bif r2 then (bb r x e).22.2.1 else (bb r x e).22.2.1,()) (bif r2 then ol r r5 else (bb r x e).23),(0:Int),()) =(cK r x e,bZ r x e,()))))))))
 intro r1 r2 r3 r4 r5
 clear_value (hr1:r1=_) (hr2:r2=_) (hr3:r3=_) (hr4:r4=_) (hr5:r5=_)
 simp only [Bool.cond_self] at *
 have e4:r4 =(!aZ r x||bk e != 0):=by rw [hr4];cases aZ r x <;> rfl
 have hv:r4=false→aZ r x=true∧bk e=0:=fun h=>by
  rw [e4] at h
  simpa using h
 have e3:r3 =(!ch x&&e.Kind != 2):=by rw [hr3];cases ch x <;> rfl
 have h5:r5=uo (bb r x e) e:=hr5
 clear hr3 hr4 hr5
 refine ⟨hs,⟨hs,fun _=>trivial,fun _=>trivial⟩,fun _=>⟨fun a=>?_,fun a=>⟨fun b=>?_,fun b=>⟨fun c=>?_,fun c=>?_⟩⟩⟩⟩
 ·have hL:bZ r x e=1:=by simp only [bZ,←e4,a];rfl
  rw [iI (by rw [hL];rfl),hL]
 ·have hL:bZ r x e=26:=by simp only [bZ,←e4,a,b];rfl
  rw [iI (by rw [hL];rfl),hL]
 ·have hL:bZ r x e=1:=by simp only [bZ,←e4,←e3,a,b,c];cases gL e.Kind <;> rfl
  rw [iI (by rw [hL];rfl),hL]
 ·have hL:bZ r x e=dn r x e:=by simp only [bZ,dn,←e4,←e3,a,b,c];cases gL e.Kind <;> rfl
  have hj:=jY (hv a).1
  refine ⟨hs,hj,FU (hv a).2,fun d=>?_,fun d=>?_⟩
  ·rw [iI (by rw [hL,←hr1];exact d),hL]
  ·have hk:gL e.Kind=true:=by
    cases hk:gL e.Kind with
    | true=>rfl
    | false=>rw [hr1,dn,hk] at d;cases d
   have hy:bb r x e=aB r x e:=by simp only [bb,hk];rfl
   have h0:dn r x e=0:=by rw [hr1] at d;simpa using d
   rw [hy] at h5 hr2 ⊢
   refine ⟨⟨fun q=>⟨?_,trivial⟩,fun _=>trivial⟩,fun _=>?_⟩
   ·rw [h5];exact px e hj
   ·have hp:cK r x e=tR r r5:=by simp only [cK,hL,h0,h5];rfl
    rw [hp,hL,h0]
    have hE:r5.Ending =(aB r x e).Ending:=by rw [h5];rfl
    unfold tR
    rw [hE,←hr2]
    cases r2 with
    | true=>rw [if_pos rfl,h5];rfl
    | false=>rw [if_neg (by decide),h5];rfl
def pV:FuncId×Ctr:=(153,ae KE gy q2L yz)
theorem x8:CtrOK Tryz.prog KE 153 (ae KE gy q2L yz):=by
 refine aq (C:=ao [kw,kx,pX,fH,Gm,uK] Tryz.f153) (al (.consU po rfl (.consU pp rfl (.consU yb rfl (.consU lu rfl (.consU Kj rfl (.consU Cm rfl .nil)))))) _) mixed (fn:=Tryz.f153) Tryz.func153 (by kernel_rfl) (by kernel_rfl) (by kernel_rfl) (by kernel_rfl) (by kernel_rfl) (by kernel_rfl) (Λ:=fun _ _=>none) ?_ ?_
 ·exact fun _ _ _ _ _ _ _ _ h=>by cases h
 ·rintro ⟨r,x,e,⟨⟩⟩ hw hn
  exact Fb r x e (hn _ List.mem_cons_self)
end Go.Proofs.YtkgplaoappjkcaaGreat
namespace Go.Proofs.YtkgplaoappjkcaaGreat
open Go Go.Mir
attribute [local irreducible] Go.Mir.DT.sat Go.Mir.evPat Go.Mir.RT.sat Go.Mir.evFn
abbrev pC:Pat:=cg [.nm .Rules,I,I,I]
def tL (s t p:Int):Bool:=!inW s 1 2 ||(!inW t 0 1000000||!inW p 0 1000000)
def gn (r:Rules) (s t p:Int):Int:=if ar r != 0 then ar r else if tL s t p then 2 else 0
def gk {α:Type} (n:Int) (v:α):List α:=List.replicate n.toNat v
def LR (r:Rules) (s t p:Int):Innings:={ Innings.zero with Side:=s,Target:=t,Overs:=r.Overs,Runs:=p,Extras:={ Extras.zero with Penalties:=p },Batters:=gk r.Side 0,Bowled:=gk r.Side 0,Subs:=gk r.Side false }
def gM (r:Rules) (s t p:Int):Innings:=if gn r s t p != 0 then Innings.zero else LR r s t p
def rq:Den (tyP pC)→List Prop×Den (tyP q2L):=fun x=>([],(gM x.1 x.2.1 x.2.2.1 x.2.2.2.1,gn x.1 x.2.1 x.2.2.1 x.2.2.2.1,()))
abbrev Nv:List (Nat×PB):= [(0,.cells [.h I,.h I,.h I,.h I,.h I,.h I,.h I,.h I,.h I,.h I,.h I,.h I,.h I,.h I,.c (.osl 1 2),.h I,.h Is,.h Is,.h .bool,.c (.osl 3 4),.h .bool,.h I,.h I,.h I,.c (.osl 5 6),.h I,.h I,.h U8]),(1,.row 2 U8),(3,.row 4 I),(5,.row 6 .bool),(7,.dat (.nm .Innings))]
abbrev SK:Pat:=⟨[(11,.c (.ptr 0 0)),(8,.c (.ptr 7 0)),(42,.h I),(43,.h I)],Nv,8⟩
abbrev SO:List (Lf×Pat):= [(.ext 0,⟨[(11,.c (.ptr 0 0)),(8,.c (.ptr 7 0))],Nv,8⟩)]
abbrev OA:Type:=Int×Int×Int×Int×Int×Int×Int×Int×Int×Int×Int×Int×Int×Int×Int×Int×Int×List Int×List Int×Bool×Bool×Int×Int×Int×Int×Int×Int×List Int×List Int×List Bool×Innings×Unit
def qX (x:OA):Prop:=(0≤x.2.1∧x.2.1≤x.1∧x.1≤11)∧((x.2.2.2.2.2.2.2.2.2.2.2.2.2.2.2.2.2.2.2.2.2.2.2.2.2.2.2.1.length:Int)≤x.2.1∧(x.2.2.2.2.2.2.2.2.2.2.2.2.2.2.2.2.2.2.2.2.2.2.2.2.2.2.2.2.1.length:Int)≤x.2.1∧(x.2.2.2.2.2.2.2.2.2.2.2.2.2.2.2.2.2.2.2.2.2.2.2.2.2.2.2.2.2.1.length:Int)≤x.2.1)
def xX (x:OA):Nat:=(x.1 - x.2.1).toNat
def j9 (x:OA):=(x.2.2.1,x.2.2.2.1,x.2.2.2.2.1,x.2.2.2.2.2.1,x.2.2.2.2.2.2.1,x.2.2.2.2.2.2.2.1,x.2.2.2.2.2.2.2.2.1,x.2.2.2.2.2.2.2.2.2.1,x.2.2.2.2.2.2.2.2.2.2.1,x.2.2.2.2.2.2.2.2.2.2.2.1,x.2.2.2.2.2.2.2.2.2.2.2.2.1,x.2.2.2.2.2.2.2.2.2.2.2.2.2.1,x.2.2.2.2.2.2.2.2.2.2.2.2.2.2.1,x.2.2.2.2.2.2.2.2.2.2.2.2.2.2.2.1,x.2.2.2.2.2.2.2.2.2.2.2.2.2.2.2.2.1,x.2.2.2.2.2.2.2.2.2.2.2.2.2.2.2.2.2.1,x.2.2.2.2.2.2.2.2.2.2.2.2.2.2.2.2.2.2.1,x.2.2.2.2.2.2.2.2.2.2.2.2.2.2.2.2.2.2.2.1,x.2.2.2.2.2.2.2.2.2.2.2.2.2.2.2.2.2.2.2.2.1,x.2.2.2.2.2.2.2.2.2.2.2.2.2.2.2.2.2.2.2.2.2.1,x.2.2.2.2.2.2.2.2.2.2.2.2.2.2.2.2.2.2.2.2.2.2.1,x.2.2.2.2.2.2.2.2.2.2.2.2.2.2.2.2.2.2.2.2.2.2.2.1,x.2.2.2.2.2.2.2.2.2.2.2.2.2.2.2.2.2.2.2.2.2.2.2.2.1,x.2.2.2.2.2.2.2.2.2.2.2.2.2.2.2.2.2.2.2.2.2.2.2.2.2.1,x.2.2.2.2.2.2.2.2.2.2.2.2.2.2.2.2.2.2.2.2.2.2.2.2.2.2.1,x.2.2.2.2.2.2.2.2.2.2.2.2.2.2.2.2.2.2.2.2.2.2.2.2.2.2.2.1++gk (x.1 - x.2.1) (0:Int),x.2.2.2.2.2.2.2.2.2.2.2.2.2.2.2.2.2.2.2.2.2.2.2.2.2.2.2.2.1++gk (x.1 - x.2.1) (0:Int),x.2.2.2.2.2.2.2.2.2.2.2.2.2.2.2.2.2.2.2.2.2.2.2.2.2.2.2.2.2.1++gk (x.1 - x.2.1) false,x.2.2.2.2.2.2.2.2.2.2.2.2.2.2.2.2.2.2.2.2.2.2.2.2.2.2.2.2.2.2.1,())
theorem Ik (r:Rules) (s:Int) (t:Int) (p:Int) :(evPat (ao [k85,dg] Tryz.f93) (fun _=>none) Tryz.f93 pC q2L (r,s,t,p,())).sat fun z_=>z_ =(rq (r,s,t,p,())).2:=by
 refine cast (by kernel_rfl) (?_:let r1:Bool:=bif !inW s (1:Int) (2:Int) then true else bif !inW t (0:Int) (1000000:Int) then true else !inW p (0:Int) (1000000:Int);let r2:Innings:=Innings.mk (0:Int) (0:Int) (0:Int) (0:Int) (0:Int) (Extras.mk (0:Int) (0:Int) (0:Int) (0:Int) (0:Int)) (0:Int) (0:Int) (0:Int) (0:Int) [] (0:Int) [] [] false [] false (0:Int) (0:Int) (0:Int) [] ((0:Int),(0:Int),()) (0:Int);((ar r !=(0:Int))=true→(r2,ar r,()) =(gM r s t p,gn r s t p,()))∧((ar r !=(0:Int))=false→(r1=true→(r2,(2:Int),()) =(gM r s t p,gn r s t p,()))∧(r1=false→((0:Int)≤r.2∧r.2=r.2∧r.2≤(17179869184:Int))∧((0:Int)≤r.2∧r.2=r.2∧r.2≤(17179869184:Int))∧((0:Int)≤r.2∧r.2=r.2∧r.2≤(17179869184:Int))∧(Innings.mk s t r.4 p (0:Int) (Extras.mk (0:Int) (0:Int) (0:Int) (0:Int) p) (0:Int) (0:Int) (0:Int) (0:Int) (List.replicate r.2.toNat (0:Int)) (0:Int) [] [] false (List.replicate r.2.toNat (0:Int)) false (0:Int) (0:Int) (0:Int) (List.replicate r.2.toNat false) ((0:Int),(0:Int),()) (0:Int),(0:Int),()) =(gM r s t p,gn r s t p,()))))
 intro r1 r2
 clear_value (hr1:r1=_) (hr2:r2=_)
 have e1:r1=tL s t p:=by rw [hr1];unfold tL;cases inW s 1 2 <;> cases inW t 0 1000000 <;> rfl
 have e2:r2=Innings.zero:=hr2
 rw [e1,e2]
 refine ⟨fun h=>?_,fun h=>⟨fun h2=>?_,fun h2=>?_⟩⟩
 ·have hL:gn r s t p=ar r:=by simp only [gn,h,if_true]
  have hY:gM r s t p=Innings.zero:=by simp only [gM,hL,h,if_true]
  rw [hL,hY]
 ·have hL:gn r s t p=2:=by simp only [gn,h,h2];rfl
  have hY:gM r s t p=Innings.zero:=by simp only [gM,hL];rfl
  rw [hL,hY]
 ·have hL:gn r s t p=0:=by simp only [gn,h,h2];rfl
  have hY:gM r s t p=LR r s t p:=by simp only [gM,hL];rfl
  have hr:=(gP (r:=r) (by simpa using h)).1
  have hb:0≤r.Side∧r.Side=r.Side∧r.Side≤17179869184:=⟨by omega,rfl,by omega⟩
  rw [hL,hY]
  exact ⟨hb,hb,hb,rfl⟩
def Gd:FuncId×Ctr:=(93,ae KE pC q2L rq)
theorem Ka:CtrOK Tryz.prog KE 93 (ae KE pC q2L rq):=by
 refine aq (C:=ao [k85,dg] Tryz.f93) (al (.consU zK rfl (.consU fB rfl .nil)) _) mixed (fn:=Tryz.f93) Tryz.func93 (by kernel_rfl) (by kernel_rfl) (by kernel_rfl) (by kernel_rfl) (by kernel_rfl) (by kernel_rfl) (Λ:=fun _ _=>none) ?_ ?_
 ·exact fun _ _ _ _ _ _ _ _ h=>by cases h
 ·rintro ⟨r,s,t,p,⟨⟩⟩ hw hn
  exact Ik r s t p
theorem wv {α:Type} {n i:Int} (h:i<n) (v:α):gk (n - i) v=v::gk (n - (i+1)) v:=by
 unfold gk
 have :(n - i).toNat =(n - (i+1)).toNat+1:=by omega
 rw [this,List.replicate_succ]
theorem yQ {α:Type} {n i:Int} (h :¬ i<n) (v:α):gk (n - i) v=[]:=by
 unfold gk
 have :(n - i).toNat=0:=by omega
 rw [this];rfl
noncomputable def lpBg:Lp:=(⟨0,ao [] Tryz.f152,(fun _=>none),(aA Tryz.f152 0),SK,SO⟩:Lp)
theorem P5 (n:Int) (i:Int) (a1:Int) (a2:Int) (a3:Int) (a4:Int) (a5:Int) (a6:Int) (a7:Int) (a8:Int) (a9:Int) (a10:Int) (a11:Int) (a12:Int) (a13:Int) (a14:Int) (bo:Int) (bl:List Int) (bf:List Int) (fr:Bool) (fh:Bool) (ba:Int) (ke:Int) (ou:Int) (v1:Int) (v2:Int) (en:Int) (bs:List Int) (bw:List Int) (sb:List Bool) (zi:Innings) (hi:qX (n,i,a1,a2,a3,a4,a5,a6,a7,a8,a9,a10,a11,a12,a13,a14,bo,bl,bf,fr,fh,ba,ke,ou,v1,v2,en,bs,bw,sb,zi,())) :(Go.Mir.stepG lpBg j9 (fun y:Den (tyP lpBg.q)=>qX y∧xX y<xX (n,i,a1,a2,a3,a4,a5,a6,a7,a8,a9,a10,a11,a12,a13,a14,bo,bl,bf,fr,fh,ba,ke,ou,v1,v2,en,bs,bw,sb,zi,())) (n,i,a1,a2,a3,a4,a5,a6,a7,a8,a9,a10,a11,a12,a13,a14,bo,bl,bf,fr,fh,ba,ke,ou,v1,v2,en,bs,bw,sb,zi,())∧Go.Mir.stepE lpBg j9 (n,i,a1,a2,a3,a4,a5,a6,a7,a8,a9,a10,a11,a12,a13,a14,bo,bl,bf,fr,fh,ba,ke,ou,v1,v2,en,bs,bw,sb,zi,())=j9 (n,i,a1,a2,a3,a4,a5,a6,a7,a8,a9,a10,a11,a12,a13,a14,bo,bl,bf,fr,fh,ba,ke,ou,v1,v2,en,bs,bw,sb,zi,())):=by
 refine cast (by kernel_rfl) (?_ :((decide (i<n)=true→(bs.length+[(0:Int)].length) *(1:Nat)≤(70368744177664:Nat)∧(bw.length+[(0:Int)].length) *(8:Nat)≤(70368744177664:Nat)∧(sb.length+[false].length) *(1:Nat)≤(70368744177664:Nat)∧qX (n,IntKind.i64.wrap (i +(1:Int)),a1,a2,a3,a4,a5,a6,a7,a8,a9,a10,a11,a12,a13,a14,bo,bl,bf,fr,fh,ba,ke,ou,v1,v2,en,bs++[(0:Int)],bw++[(0:Int)],sb++[false],zi,())∧xX (n,IntKind.i64.wrap (i +(1:Int)),a1,a2,a3,a4,a5,a6,a7,a8,a9,a10,a11,a12,a13,a14,bo,bl,bf,fr,fh,ba,ke,ou,v1,v2,en,bs++[(0:Int)],bw++[(0:Int)],sb++[false],zi,())<xX (n,i,a1,a2,a3,a4,a5,a6,a7,a8,a9,a10,a11,a12,a13,a14,bo,bl,bf,fr,fh,ba,ke,ou,v1,v2,en,bs,bw,sb,zi,()))∧(decide (i<n)=false→True))∧(bif decide (i<n) then j9 (n,IntKind.i64.wrap (i +(1:Int)),a1,a2,a3,a4,a5,a6,a7,a8,a9,a10,a11,a12,a13,a14,bo,bl,bf,fr,fh,ba,ke,ou,v1,v2,en,bs++[(0:Int)],bw++[(0:Int)],sb++[false],zi,()) else (a1,a2,a3,a4,a5,a6,a7,a8,a9,a10,a11,a12,a13,a14,bo,bl,bf,fr,fh,ba,ke,ou,v1,v2,en,bs,bw,sb,zi,()))=j9 (n,i,a1,a2,a3,a4,a5,a6,a7,a8,a9,a10,a11,a12,a13,a14,bo,bl,bf,fr,fh,ba,ke,ou,v1,v2,en,bs,bw,sb,zi,()))
 obtain ⟨⟨h1,h2,h3⟩,h4,h5,h6⟩:=hi
 simp only at h1 h2 h3 h4 h5 h6
 refine ⟨⟨fun h=>?_,fun _=>trivial⟩,?_⟩
 ·have h:i<n:=of_decide_eq_true h
  rw [bi (n:=i+1) (by omega) (by omega)]
  refine ⟨by simp;omega,by simp;omega,by simp;omega,⟨⟨by simp only;omega,by simp only;omega,h3⟩,?_,?_,?_⟩,by simp only [xX];omega⟩ <;> simp only [List.length_append,List.length_cons,List.length_nil] <;> omega
 ·by_cases h:i<n
  ·rw [decide_eq_true h,cond_true,bi (n:=i+1) (by omega) (by omega)]
   simp only [j9]
   rw [wv h (0:Int),wv h false]
   simp
  ·rw [decide_eq_false h,cond_false]
   simp only [j9]
   rw [yQ h (0:Int),yQ h false]
   simp
noncomputable def Oc:LoopSum:=aI lpBg j9 qX
noncomputable def NP:Nat:=rid (aA Tryz.f152 0)
theorem O5:LoopOKp Tryz.prog 0 Tryz.f152.ntmps (aA Tryz.f152 0) (aI lpBg j9 qX):=
 bj lpBg (al (CtrsOK.nil) _) mixed (fun b hb S hS=>by cases hS) j9 qX xX (fun |⟨n,i,a1,a2,a3,a4,a5,a6,a7,a8,a9,a10,a11,a12,a13,a14,bo,bl,bf,fr,fh,ba,ke,ou,v1,v2,en,bs,bw,sb,zi,⟨⟩⟩,hi=>P5 n i a1 a2 a3 a4 a5 a6 a7 a8 a9 a10 a11 a12 a13 a14 bo bl bf fr fh ba ke ou v1 v2 en bs bw sb zi hi)
theorem Dh (r:Rules) (s:Int) (t:Int) (p:Int) :(evPat (ao [k86,jg] Tryz.f152) (find [(NP,Oc)]) Tryz.f152 pC q2L (r,s,t,p,())).sat fun z_=>z_ =(rq (r,s,t,p,())).2:=by
 refine cast (by kernel_rfl) (?_:let r1:Int:=r.2 - (0:Int);let r2:List Int:=gk r1 (0:Int);let r3:Bool:=bif !inW s (1:Int) (2:Int) then true else bif !inW t (0:Int) (1000000:Int) then true else !inW p (0:Int) (1000000:Int);let r4:Innings:=Innings.mk (0:Int) (0:Int) (0:Int) (0:Int) (0:Int) (Extras.mk (0:Int) (0:Int) (0:Int) (0:Int) (0:Int)) (0:Int) (0:Int) (0:Int) (0:Int) [] (0:Int) [] [] false [] false (0:Int) (0:Int) (0:Int) [] ((0:Int),(0:Int),()) (0:Int);((ar r !=(0:Int))=true→(r4,ar r,()) =(gM r s t p,gn r s t p,()))∧((ar r !=(0:Int))=false→(r3=true→(r4,(2:Int),()) =(gM r s t p,gn r s t p,()))∧(r3=false→((cR fun x=>none)∧((0:Int)≤(0:Int)∧(0:Int)≤r.2∧r.2≤(11:Int))∧(↑(0:Nat):Int)≤(0:Int)∧(↑(0:Nat):Int)≤(0:Int)∧(↑(0:Nat):Int)≤(0:Int))∧(Innings.mk s t r.4 p (0:Int) (Extras.mk (0:Int) (0:Int) (0:Int) (0:Int) p) (0:Int) (0:Int) (0:Int) (0:Int) ([]++r2) (0:Int) [] [] false ([]++r2) false (0:Int) (0:Int) (0:Int) ([]++gk r1 false) ((0:Int),(0:Int),()) (0:Int),(0:Int),()) =(gM r s t p,gn r s t p,()))))
 intro r1 r2 r3 r4
 clear_value (hr1:r1=_) (hr2:r2=_) (hr3:r3=_) (hr4:r4=_)
 have e3:r3=tL s t p:=by rw [hr3];unfold tL;cases inW s 1 2 <;> cases inW t 0 1000000 <;> rfl
 have e4:r4=Innings.zero:=hr4
 have e1:r1=r.Side:=by rw [hr1];omega
 rw [e3,e4]
 refine ⟨fun h=>?_,fun h=>⟨fun h2=>?_,fun h2=>?_⟩⟩
 ·have hL:gn r s t p=ar r:=by simp only [gn,h,if_true]
  have hY:gM r s t p=Innings.zero:=by simp only [gM,hL,h,if_true]
  rw [hL,hY]
 ·have hL:gn r s t p=2:=by simp only [gn,h,h2];rfl
  have hY:gM r s t p=Innings.zero:=by simp only [gM,hL];rfl
  rw [hL,hY]
 ·have hL:gn r s t p=0:=by simp only [gn,h,h2];rfl
  have hY:gM r s t p=LR r s t p:=by simp only [gM,hL];rfl
  have hr:=(gP (r:=r) (by simpa using h)).1
  rw [hL,hY,hr2,e1]
  exact ⟨⟨rfl,⟨Int.le_refl _,by omega,hr.2⟩,Int.le_refl _,Int.le_refl _,Int.le_refl _⟩,rfl⟩
def xS:FuncId×Ctr:=(152,ae KE pC q2L rq)
theorem EA:CtrOK Tryz.prog KE 152 (ae KE pC q2L rq):=by
 refine aq (C:=ao [k86,jg] Tryz.f152) (al (.consU u9 rfl (.consU lx rfl .nil)) _) mixed (fn:=Tryz.f152) Tryz.func152 (by kernel_rfl) (by kernel_rfl) (by kernel_rfl) (by kernel_rfl) (by kernel_rfl) (by kernel_rfl) (Λ:=fun x=>find [(NP,Oc)]) ?_ ?_
 ·rintro ⟨r,s,t,p,⟨⟩⟩ hw hn
  exact LoopsOKp.at (by kernel_rfl) (.cons (by kernel_rfl) (O5) .nil)
 ·rintro ⟨r,s,t,p,⟨⟩⟩ hw hn
  exact Dh r s t p
end Go.Proofs.YtkgplaoappjkcaaGreat
namespace Go.Proofs.YtkgplaoappjkcaaGreat
open Go Go.Mir
attribute [local irreducible] Go.Mir.DT.sat Go.Mir.evPat Go.Mir.RT.sat Go.Mir.evFn
abbrev I4:Ty:= .slice (.nm .Innings)
abbrev qM:Pat:=cg [.nm .Match]
abbrev qMI:Pat:=cg [.nm .Match,I]
def bX (s:Int):Int:=W (3 - s)
def rx:Den (tyP be)→List Prop×Den (tyP be):=fun x=>([],(bX x.1,()))
def tB (m:Match) (i:Int):Bool:=if m.Follow&&decide (i≥2) then i==2 else i.tmod 2==1
def tC (m:Match) (i:Int):Bool:=if m.Follow&&decide (i≥2) then !(i.tmod 2==1) else i.tmod 2==1
def cC (m:Match) (i:Int):Int:=if tB m i then bX m.First else m.First
def gb (m:Match) (i:Int):Int:=if tC m i then bX m.First else m.First
def Av:Den (tyP qMI)→List Prop×Den (tyP be):=fun x=>([],(cC x.1 x.2.1,()))
def Aw:Den (tyP qMI)→List Prop×Den (tyP be):=fun x=>([],(gb x.1 x.2.1,()))
def FL (s:Int):List Innings→Int→Int
 | [],n=>n
 | x::l,n=>FL s l (if x.Side==s then W (n+x.Runs) else n)
def fD (m:Match) (s:Int):Int:=FL s m.Innings 0
def yB:Den (tyP qMI)→List Prop×Den (tyP be):=fun x=>([],(fD x.1 x.2.1,()))
def fv (m:Match) (s:Int):Int:=
 if decide (W ((m.Innings.length:Int)+1)<W (2*m.Rules.Innings)) then 0 else W (W (fD m (bX s) - fD m s)+1)
def AB:Den (tyP qMI)→List Prop×Den (tyP be):=fun x=>([],(fv x.1 x.2.1,()))
abbrev qTo:Pat:=⟨[(5,.h I),(1,.h I),(9,.h I4),(10,.h I),(11,.h I)],[],0⟩
abbrev xTo:List (Lf×Pat):= [(.ext 0,⟨[(5,.h I)],[],0⟩)]
abbrev TTo:Type:=Int×Int×List Innings×Int×Int×Unit
def gQ (x:TTo):Prop:=x.2.2.2.1 =(x.2.2.1.length:Int)∧0≤x.2.2.2.2.1∧x.2.2.2.2.1≤x.2.2.2.1∧x.2.2.1.length≤aS
def sO (x:TTo):Nat:=(x.2.2.2.1 - x.2.2.2.2.1).toNat
def fN (x:TTo):Int×Unit:=(FL x.2.1 (x.2.2.1.drop x.2.2.2.2.1.toNat) x.1,())
theorem qx {m:Match} (h:wfD (.nm .Match) m):m.Innings.length≤aS:=
 cu (aY (aP (aP (aP (aP (Hh h))))))
theorem Iy (s:Int) :(evPat (ao [] Tryz.f66) (fun _=>none) Tryz.f66 be be (s,())).sat fun z_=>z_ =(rx (s,())).2:=by
 refine cast (by kernel_rfl) (?_ :(IntKind.i64.wrap ((3:Int) - s),()) =(bX s,()))
 rfl
def gG:FuncId×Ctr:=(66,ae KE be be rx)
theorem mQ:CtrOK Tryz.prog KE 66 (ae KE be be rx):=by
 refine aq (C:=ao [] Tryz.f66) (al (CtrsOK.nil) _) mixed (fn:=Tryz.f66) Tryz.func66 (by kernel_rfl) (by kernel_rfl) (by kernel_rfl) (by kernel_rfl) (by kernel_rfl) (by kernel_rfl) (Λ:=fun _ _=>none) ?_ ?_
 ·exact fun _ _ _ _ _ _ _ _ h=>by cases h
 ·rintro ⟨s,⟨⟩⟩ hw hn
  exact Iy s
theorem Dq (s:Int) :(evPat (ao [] Tryz.f119) (fun _=>none) Tryz.f119 be be (s,())).sat fun z_=>z_ =(rx (s,())).2:=by
 refine cast (by kernel_rfl) (?_ :(IntKind.i64.wrap ((3:Int) - s),()) =(bX s,()))
 rfl
def dV:FuncId×Ctr:=(119,ae KE be be rx)
theorem jm:CtrOK Tryz.prog KE 119 (ae KE be be rx):=by
 refine aq (C:=ao [] Tryz.f119) (al (CtrsOK.nil) _) mixed (fn:=Tryz.f119) Tryz.func119 (by kernel_rfl) (by kernel_rfl) (by kernel_rfl) (by kernel_rfl) (by kernel_rfl) (by kernel_rfl) (Λ:=fun _ _=>none) ?_ ?_
 ·exact fun _ _ _ _ _ _ _ _ h=>by cases h
 ·rintro ⟨s,⟨⟩⟩ hw hn
  exact Dq s
theorem Ix (m:Match) (i:Int) :(evPat (ao [gG] Tryz.f60) (fun _=>none) Tryz.f60 qMI be (m,i,())).sat fun z_=>z_ =(Av (m,i,())).2:=by
 refine cast (by kernel_rfl) (?_:let r1:Bool:=bif bif m.4 then decide (i≥(2:Int)) else false then i ==(2:Int) else i.tmod (2:Int) ==(1:Int);(2:Int)≠(0:Int)∧(r1=true→(bX m.3,()) =(cC m i,()))∧(r1=false→(m.3,()) =(cC m i,())))
 intro r1
 clear_value (hr1:r1=_)
 grind [cC,tB]
def zw:FuncId×Ctr:=(60,ae KE qMI be Av)
theorem Cj:CtrOK Tryz.prog KE 60 (ae KE qMI be Av):=by
 refine aq (C:=ao [gG] Tryz.f60) (al (.consU mQ rfl .nil) _) mixed (fn:=Tryz.f60) Tryz.func60 (by kernel_rfl) (by kernel_rfl) (by kernel_rfl) (by kernel_rfl) (by kernel_rfl) (by kernel_rfl) (Λ:=fun _ _=>none) ?_ ?_
 ·exact fun _ _ _ _ _ _ _ _ h=>by cases h
 ·rintro ⟨m,i,⟨⟩⟩ hw hn
  exact Ix m i
theorem Am (m:Match) (i:Int) :(evPat (ao [dV] Tryz.f149) (fun _=>none) Tryz.f149 qMI be (m,i,())).sat fun z_=>z_ =(Aw (m,i,())).2:=by
 refine cast (by kernel_rfl) (?_:let r1:Bool:=i.tmod (2:Int) ==(1:Int);let r2:Bool:=bif bif m.4 then decide (i≥(2:Int)) else false then !r1 else r1;(2:Int)≠(0:Int)∧(r2=true→(bX m.3,()) =(gb m i,()))∧(r2=false→(m.3,()) =(gb m i,())))
 intro r1 r2
 clear_value (hr1:r1=_) (hr2:r2=_)
 grind [gb,tC]
def pa:FuncId×Ctr:=(149,ae KE qMI be Aw)
theorem sn:CtrOK Tryz.prog KE 149 (ae KE qMI be Aw):=by
 refine aq (C:=ao [dV] Tryz.f149) (al (.consU jm rfl .nil) _) mixed (fn:=Tryz.f149) Tryz.func149 (by kernel_rfl) (by kernel_rfl) (by kernel_rfl) (by kernel_rfl) (by kernel_rfl) (by kernel_rfl) (Λ:=fun _ _=>none) ?_ ?_
 ·exact fun _ _ _ _ _ _ _ _ h=>by cases h
 ·rintro ⟨m,i,⟨⟩⟩ hw hn
  exact Am m i
noncomputable def lpTo:Lp:=(⟨0,ao [] Tryz.f70,(fun _=>none),(aA Tryz.f70 0),qTo,xTo⟩:Lp)
theorem Qi (a:Int) (s:Int) (xs:List Innings) (n:Int) (i:Int) (hi:gQ (a,s,xs,n,i,())) :(Go.Mir.stepG lpTo fN (fun y:Den (tyP lpTo.q)=>gQ y∧sO y<sO (a,s,xs,n,i,())) (a,s,xs,n,i,())∧Go.Mir.stepE lpTo fN (a,s,xs,n,i,())=fN (a,s,xs,n,i,())):=by
 refine cast (by kernel_rfl) (?_:let r1:Bool:=(xs.getD i.toNat (dflt (Ty.nm Nm.Innings))).1==s;let r2:Int×Unit:=fN (bif r1 then IntKind.i64.wrap (a +(xs.getD i.toNat (dflt (Ty.nm Nm.Innings))).4) else a,s,xs,n,IntKind.i64.wrap (i +(1:Int)),());((decide (i<n)=true→(((0:Int)≤i∧i <(↑xs.length:Int))∧(r1=true→True)∧(r1=false→True))∧(true=true→gQ (bif r1 then IntKind.i64.wrap (a +(xs.getD i.toNat (dflt (Ty.nm Nm.Innings))).4) else a,s,xs,n,IntKind.i64.wrap (i +(1:Int)),())∧sO (bif r1 then IntKind.i64.wrap (a +(xs.getD i.toNat (dflt (Ty.nm Nm.Innings))).4) else a,s,xs,n,IntKind.i64.wrap (i +(1:Int)),())<sO (a,s,xs,n,i,())))∧(decide (i<n)=false→True))∧(bif decide (i<n) then bif true&&true then r2 else bif true then r2 else bif r1 then dflt (I.prod Ty.unit) else dflt (I.prod Ty.unit) else (a,()))=fN (a,s,xs,n,i,()))
 intro r1 r2
 clear_value (hr1:r1=_) (hr2:r2=_)
 obtain ⟨h1,h2,h3,h4⟩:=hi
 simp only at h1 h2 h3 h4
 have h5 :(xs.length:Int)≤140737488355328:=by have:xs.length≤140737488355328:=h4;omega
 refine ⟨⟨fun h=>?_,fun _=>trivial⟩,?_⟩
 ·have h:i<n:=of_decide_eq_true h
  rw [bi (n:=i+1) (by omega) (by omega)]
  exact ⟨⟨⟨h2,by omega⟩,fun _=>trivial,fun _=>trivial⟩,fun _=>⟨⟨h1,by simp only;omega,by simp only;omega,h4⟩,by simp only [sO];omega⟩⟩
 ·by_cases h:i<n
  ·rw [bi (n:=i+1) (by omega) (by omega)] at hr2
   have e:xs.drop i.toNat=xs.getD i.toNat (dflt (Ty.nm Nm.Innings))::xs.drop (i+1).toNat:=b7 h2 (by omega) _
   rw [decide_eq_true h]
   show r2=_
   rw [hr2,hr1]
   generalize xs.getD i.toNat (dflt (Ty.nm Nm.Innings))=v at e ⊢
   simp only [fN,e,FL]
   cases v.Side==s <;> rfl
  ·rw [decide_eq_false h,cond_false]
   simp only [fN]
   rw [bK (l:=xs) (by omega)]
   rfl
noncomputable def Oo:LoopSum:=aI lpTo fN gQ
noncomputable def N0:Nat:=rid (aA Tryz.f70 0)
theorem Ph:LoopOKp Tryz.prog 0 Tryz.f70.ntmps (aA Tryz.f70 0) (aI lpTo fN gQ):=
 bj lpTo (al (CtrsOK.nil) _) mixed (fun b hb S hS=>by cases hS) fN gQ sO (fun |⟨a,s,xs,n,i,⟨⟩⟩,hi=>Qi a s xs n i hi)
theorem Iz (m:Match) (s:Int) (hx:m.Innings.length≤aS) :(evPat (ao [] Tryz.f70) (find [(N0,Oo)]) Tryz.f70 qMI be (m,s,())).sat fun z_=>z_ =(yB (m,s,())).2:=by
 refine cast (by kernel_rfl) (?_ :((cR fun x=>none)∧(↑m.5.length:Int) =(↑m.5.length:Int)∧(0:Int)≤(0:Int)∧(0:Int)≤(↑m.5.length:Int)∧m.5.length≤aS)∧(FL s (List.drop (Int.toNat (0:Int)) m.5) (0:Int),()) =(fD m s,()))
 exact ⟨⟨rfl,rfl,Int.le_refl _,by omega,hx⟩,rfl⟩
def nF:FuncId×Ctr:=(70,ae KE qMI be yB)
theorem vf:CtrOK Tryz.prog KE 70 (ae KE qMI be yB):=by
 refine aq (C:=ao [] Tryz.f70) (al (CtrsOK.nil) _) mixed (fn:=Tryz.f70) Tryz.func70 (by kernel_rfl) (by kernel_rfl) (by kernel_rfl) (by kernel_rfl) (by kernel_rfl) (by kernel_rfl) (Λ:=fun x=>find [(N0,Oo)]) ?_ ?_
 ·rintro ⟨m,s,⟨⟩⟩ hw hn
  exact LoopsOKp.at (by kernel_rfl) (.cons (by kernel_rfl) (Ph) .nil)
 ·rintro ⟨m,s,⟨⟩⟩ hw hn
  exact Iz m s (qx (aY hw))
noncomputable def lpTr:Lp:=(⟨0,ao [] Tryz.f122,(fun _=>none),(aA Tryz.f122 0),qTo,xTo⟩:Lp)
theorem Qj (a:Int) (s:Int) (xs:List Innings) (n:Int) (i:Int) (hi:gQ (a,s,xs,n,i,())) :(Go.Mir.stepG lpTr fN (fun y:Den (tyP lpTr.q)=>gQ y∧sO y<sO (a,s,xs,n,i,())) (a,s,xs,n,i,())∧Go.Mir.stepE lpTr fN (a,s,xs,n,i,())=fN (a,s,xs,n,i,())):=by
 refine cast (by kernel_rfl) (?_:let r1:Bool:=(xs.getD i.toNat (dflt (Ty.nm Nm.Innings))).1==s;let r2:Int×Unit:=fN (bif r1 then IntKind.i64.wrap (a +(xs.getD i.toNat (dflt (Ty.nm Nm.Innings))).4) else a,s,xs,n,IntKind.i64.wrap (i +(1:Int)),());((decide (i<n)=true→(((0:Int)≤i∧i <(↑xs.length:Int))∧(r1=true→True)∧(r1=false→True))∧(true=true→gQ (bif r1 then IntKind.i64.wrap (a +(xs.getD i.toNat (dflt (Ty.nm Nm.Innings))).4) else a,s,xs,n,IntKind.i64.wrap (i +(1:Int)),())∧sO (bif r1 then IntKind.i64.wrap (a +(xs.getD i.toNat (dflt (Ty.nm Nm.Innings))).4) else a,s,xs,n,IntKind.i64.wrap (i +(1:Int)),())<sO (a,s,xs,n,i,())))∧(decide (i<n)=false→True))∧(bif decide (i<n) then bif true&&true then r2 else bif true then r2 else bif r1 then dflt (I.prod Ty.unit) else dflt (I.prod Ty.unit) else (a,()))=fN (a,s,xs,n,i,()))
 intro r1 r2
 clear_value (hr1:r1=_) (hr2:r2=_)
 obtain ⟨h1,h2,h3,h4⟩:=hi
 simp only at h1 h2 h3 h4
 have h5 :(xs.length:Int)≤140737488355328:=by have:xs.length≤140737488355328:=h4;omega
 refine ⟨⟨fun h=>?_,fun _=>trivial⟩,?_⟩
 ·have h:i<n:=of_decide_eq_true h
  rw [bi (n:=i+1) (by omega) (by omega)]
  exact ⟨⟨⟨h2,by omega⟩,fun _=>trivial,fun _=>trivial⟩,fun _=>⟨⟨h1,by simp only;omega,by simp only;omega,h4⟩,by simp only [sO];omega⟩⟩
 ·by_cases h:i<n
  ·rw [bi (n:=i+1) (by omega) (by omega)] at hr2
   have e:xs.drop i.toNat=xs.getD i.toNat (dflt (Ty.nm Nm.Innings))::xs.drop (i+1).toNat:=b7 h2 (by omega) _
   rw [decide_eq_true h]
   show r2=_
   rw [hr2,hr1]
   generalize xs.getD i.toNat (dflt (Ty.nm Nm.Innings))=v at e ⊢
   simp only [fN,e,FL]
   cases v.Side==s <;> rfl
  ·rw [decide_eq_false h,cond_false]
   simp only [fN]
   rw [bK (l:=xs) (by omega)]
   rfl
noncomputable def Oq:LoopSum:=aI lpTr fN gQ
noncomputable def N1:Nat:=rid (aA Tryz.f122 0)
theorem Pi:LoopOKp Tryz.prog 0 Tryz.f122.ntmps (aA Tryz.f122 0) (aI lpTr fN gQ):=
 bj lpTr (al (CtrsOK.nil) _) mixed (fun b hb S hS=>by cases hS) fN gQ sO (fun |⟨a,s,xs,n,i,⟨⟩⟩,hi=>Qj a s xs n i hi)
theorem Dm (m:Match) (s:Int) (hx:m.Innings.length≤aS) :(evPat (ao [] Tryz.f122) (find [(N1,Oq)]) Tryz.f122 qMI be (m,s,())).sat fun z_=>z_ =(yB (m,s,())).2:=by
 refine cast (by kernel_rfl) (?_ :((cR fun x=>none)∧(↑m.5.length:Int) =(↑m.5.length:Int)∧(0:Int)≤(0:Int)∧(0:Int)≤(↑m.5.length:Int)∧m.5.length≤aS)∧(FL s (List.drop (Int.toNat (0:Int)) m.5) (0:Int),()) =(fD m s,()))
 exact ⟨⟨rfl,rfl,Int.le_refl _,by omega,hx⟩,rfl⟩
def iV:FuncId×Ctr:=(122,ae KE qMI be yB)
theorem pq:CtrOK Tryz.prog KE 122 (ae KE qMI be yB):=by
 refine aq (C:=ao [] Tryz.f122) (al (CtrsOK.nil) _) mixed (fn:=Tryz.f122) Tryz.func122 (by kernel_rfl) (by kernel_rfl) (by kernel_rfl) (by kernel_rfl) (by kernel_rfl) (by kernel_rfl) (Λ:=fun x=>find [(N1,Oq)]) ?_ ?_
 ·rintro ⟨m,s,⟨⟩⟩ hw hn
  exact LoopsOKp.at (by kernel_rfl) (.cons (by kernel_rfl) (Pi) .nil)
 ·rintro ⟨m,s,⟨⟩⟩ hw hn
  exact Dm m s (qx (aY hw))
theorem E6 (m:Match) (s:Int) :(evPat (ao [gG,nF] Tryz.f94) (fun _=>none) Tryz.f94 qMI be (m,s,())).sat fun z_=>z_ =(AB (m,s,())).2:=by
 refine cast (by kernel_rfl) (?_:let r1:Int:=IntKind.i64.wrap ((2:Int)*m.1.3);let r2:Int:=IntKind.i64.wrap ((↑m.5.length:Int) +(1:Int));let r3:Bool:=decide (r2<r1);(r3=true→((0:Int),()) =(fv m s,()))∧(r3=false→(IntKind.i64.wrap (IntKind.i64.wrap (fD m (bX s) - fD m s) +(1:Int)),()) =(fv m s,())))
 intro r1 r2 r3
 clear_value (hr1:r1=_) (hr2:r2=_) (hr3:r3=_)
 grind [fv]
def BS:FuncId×Ctr:=(94,ae KE qMI be AB)
theorem HS:CtrOK Tryz.prog KE 94 (ae KE qMI be AB):=by
 refine aq (C:=ao [gG,nF] Tryz.f94) (al (.consU mQ rfl (.consU vf rfl .nil)) _) mixed (fn:=Tryz.f94) Tryz.func94 (by kernel_rfl) (by kernel_rfl) (by kernel_rfl) (by kernel_rfl) (by kernel_rfl) (by kernel_rfl) (Λ:=fun _ _=>none) ?_ ?_
 ·exact fun _ _ _ _ _ _ _ _ h=>by cases h
 ·rintro ⟨m,s,⟨⟩⟩ hw hn
  exact E6 m s
end Go.Proofs.YtkgplaoappjkcaaGreat
