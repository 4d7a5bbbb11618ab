/- Texts of the mirror and contracts, put together. -/
import Derived.Test.YtffdpnmioidloaaGreatDoorPW7
import Derived.Test.YtffdpnmioidloaaGreatDoorPW6
import Derived.Test.YtffdpnmioidloaaGreatDoorPW4
import Derived.Test.YtffdpnmioidloaaGreatDoorPW5
import Derived.Test.YtffdpnmioidloaaGreatDoorPW3
import Derived.Test.YtffdpnmioidloaaGreatDoorTie
import Derived.SizedLaws
import Derived.LaidMore
import Derived.OpenShut
import Derived.ProofKit
namespace Go.Proofs.YtffdpnmioidloaaGreatDoor
section
open Go Go.Mir
attribute [local irreducible] Go.Mir.DT.sat Go.Mir.evPat Go.Mir.RT.sat Go.Mir.evFn
abbrev qML:Pat:=bX [.nm .Match,Evs]
def bM:Match→List Mir.Event→Int→Match×Int×Int
 | m,[],_=>(m,-1,0)
 | m,e::l,i=>if decide (i≥4000) then (m,i,26) else if bp m e != 0 then (m,i,bp m e) else bM (aZ m e) l (i+1)
def N6:Den (tyP qML)→List Prop×Den (tyP nO):=fun x=>([aK x.1],((bM x.1 x.2.1 0).1,(bM x.1 x.2.1 0).2.1,(bM x.1 x.2.1 0).2.2,()))
abbrev Ue:List (Nat×PB):= [(0,.dat (.nm .Match)),(1,.dat (.nm .Match))]
abbrev qFm:Pat:=⟨[(2,.c (.ptr 0 0)),(4,.c (.ptr 1 0)),(11,.h Evs),(12,.h I),(13,.h I)],Ue,2⟩
abbrev xFm:List (Lf×Pat):= [(.ret,⟨[(4,.c (.ptr 1 0)),(5,.h I),(6,.h I)],[(1,.dat (.nm .Match))],2⟩),(.ext 0,⟨[(2,.c (.ptr 0 0)),(4,.c (.ptr 1 0))],Ue,2⟩)]
abbrev TFm:Type:=List Mir.Event×Int×Int×Match×Match×Unit
abbrev OFm:Type:=Sum (Int×Int×Match×Unit) (Match×Match×Unit)
def y4 (x:TFm):Prop:=(x.2.1 =(x.1.length:Int)∧0≤x.2.2.1∧x.2.2.1≤x.2.1∧x.1.length≤aJ)∧aK x.2.2.2.1
def Kb (x:TFm):Nat:=(x.2.1 - x.2.2.1).toNat
def tT (z:Match) (p:Match×Int×Int):OFm:=if p.2.2 != 0 then .inl (p.2.1,p.2.2,p.1,()) else .inr (p.1,z,())
def kS (x:TFm):OFm:=tT x.2.2.2.2.1 (bM x.2.2.2.1 (x.1.drop x.2.2.1.toNat) x.2.2.1)
theorem ly :∀ (l:List Mir.Event) (m:Match) (i:Int) (o:List Delivered),bM m l i =(dP m l i o).2
 | [],_,_,_=>rfl
 | e::l,m,i,o=>by
  unfold bM dP kz dK
  by_cases h:decide (i≥4000)=true
  ·simp only [if_pos h];rfl
  ·simp only [if_neg h]
   by_cases hc :(bp m e != 0)=true
   ·rw [if_pos hc,if_pos hc]
   ·rw [if_neg hc,if_neg hc]
    exact ly l _ _ _
theorem wc (l:List Mir.Event) (m:Match) (i:Int) (h :(bM m l i).2.2=0) :(bM m l i).2.1 = -1:=by
 rw [ly l m i []] at h ⊢
 exact xh l m i [] h
theorem oD :∀ (l:List Mir.Event) (m:Match) (i:Int),0≤i→(bM m l i).2.2≠0→i≤(bM m l i).2.1∧(bM m l i).2.1<i +(l.length:Int)
 | [],_,_,_,h=>absurd rfl h
 | e::l,m,i,hi,h=>by
  simp only [List.length_cons]
  unfold bM at h ⊢
  by_cases hd:decide (i≥4000)=true
  ·simp only [if_pos hd];omega
  ·simp only [if_neg hd] at h ⊢
   by_cases hc :(bp m e != 0)=true
   ·simp only [if_pos hc];omega
   ·simp only [if_neg hc] at h ⊢
    have:=oD l (aZ m e) (i+1) (by omega) h
    omega
noncomputable def lpFm:Lp:=(⟨0,al [lF] Tryz.f189,(fun _=>none),(az Tryz.f189 0),qFm,xFm⟩:Lp)
theorem TA (xs:List Mir.Event) (n:Int) (i:Int) (m:Match) (z:Match) (hi:y4 (xs,n,i,m,z,())) :(Go.Mir.stepG lpFm kS (fun y:Den (tyP lpFm.q)=>y4 y∧Kb y<Kb (xs,n,i,m,z,())) (xs,n,i,m,z,())∧Go.Mir.stepE lpFm kS (xs,n,i,m,z,())=kS (xs,n,i,m,z,())):=by
 refine cast (by kernel_rfl) (?_:let r1:Bool:=decide (i≥4000);let r2:Bool:=bp m (xs.getD i.toNat (dflt (Ty.nm Nm.Event))) != 0;((decide (i<n)=true→(0≤i∧i <(↑xs.length:Int))∧(r1=true→True)∧(r1=false→aK m∧(r2=true→True)∧(r2=false→y4 (xs,n,IntKind.i64.wrap (i+1),aZ m (xs.getD i.toNat (dflt (Ty.nm Nm.Event))),z,())∧Kb (xs,n,IntKind.i64.wrap (i+1),aZ m (xs.getD i.toNat (dflt (Ty.nm Nm.Event))),z,())<Kb (xs,n,i,m,z,()))))∧(decide (i<n)=false→True))∧(cond (decide (i<n)) (cond r1 (Sum.inl (i,26,m,())) (cond r2 (Sum.inl (i,bp m (xs.getD i.toNat (dflt (Ty.nm Nm.Event))),m,())) (kS (xs,n,IntKind.i64.wrap (i+1),aZ m (xs.getD i.toNat (dflt (Ty.nm Nm.Event))),z,())))) (Sum.inr (m,z,())))=kS (xs,n,i,m,z,()))
 intro r1 r2
 clear_value (hr1:r1=_) (hr2:r2=_)
 obtain ⟨⟨h1,h2,h3,h4⟩,hm⟩:=hi
 simp only at h1 h2 h3 h4 hm
 have hx :(xs.length:Int)≤140737488355328:=by have:xs.length≤140737488355328:=h4;omega
 by_cases h:i<n
 ·have e:xs.drop i.toNat=xs.getD i.toNat (dflt (Ty.nm Nm.Event))::xs.drop (i+1).toNat:=b8 h2 (by omega) _
  rw [decide_eq_true h,cond_true,bc (n:=i+1) (by omega) (by omega)]
  generalize xs.getD i.toNat (dflt (Ty.nm Nm.Event))=v at *
  refine ⟨⟨fun _=>⟨⟨h2,by omega⟩,fun _=>trivial,fun a=>⟨hm,fun _=>trivial,fun _=>⟨⟨⟨h1,by simp only;omega,by simp only;omega,h4⟩,ot v hm⟩,by simp only [Kb];omega⟩⟩⟩,fun z=>Bool.noConfusion z⟩,?_⟩
  have eP:bM m (xs.drop i.toNat) i=if r1 then (m,i,26) else if r2 then (m,i,bp m v) else bM (aZ m v) (xs.drop (i+1).toNat) (i+1):=by rw [e,hr1,hr2];rfl
  simp only [kS]
  rw [eP]
  cases r1 with
  | true=>rfl
  | false=>
   cases r2 with
   | true=>
    show _=tT z (m,i,bp m v)
    unfold tT;simp only;rw [←hr2];rfl
   | false=>rfl
 ·rw [decide_eq_false h,cond_false]
  refine ⟨⟨fun z=>Bool.noConfusion z,fun _=>trivial⟩,?_⟩
  simp only [kS]
  rw [bJ (l:=xs) (by omega)]
  rfl
noncomputable def RD:LoopSum:=aM lpFm kS y4
noncomputable def Rc:Nat:=rid (az Tryz.f189 0)
theorem Ss:LoopOKp Tryz.prog 0 Tryz.f189.ntmps (az Tryz.f189 0) (aM lpFm kS y4):=
 bk lpFm (aj (.consU o9 rfl .nil) _) mixed (fun b hb S hS=>by cases hS) kS y4 Kb (fun |⟨xs,n,i,m,z,⟨⟩⟩,hi=>TA xs n i m z hi)
theorem HI (m:Match) (l:List Mir.Event) (hm:aK m) (hx:l.length≤aJ) :(evPat (al [lF] Tryz.f189) (find [(Rc,RD)]) Tryz.f189 qML nO (m,l,())).sat fun z_=>z_ =(N6 (m,l,())).2:=by
 refine cast (by kernel_rfl) (?_:let r1:Bool:=isL (kS (l,(↑l.length:Int),0,m,Match.mk (Rules.mk ByteArray.empty 0 0 0 0 0 0 0 false 0 0 0 0 []) 0 0 false [] (0,0,()) (Result.mk 0 0 0),()));let r2:Int×Int×Match×PUnit:=jm (dflt (I.prod (I.prod ((Ty.nm Nm.Match).prod Ty.unit)))) (kS (l,(↑l.length:Int),0,m,Match.mk (Rules.mk ByteArray.empty 0 0 0 0 0 0 0 false 0 0 0 0 []) 0 0 false [] (0,0,()) (Result.mk 0 0 0),()));((cZ fun x=>none)∧((↑l.length:Int) =(↑l.length:Int)∧(0:Int)≤0∧0≤(↑l.length:Int)∧l.length≤aJ)∧aK m)∧(r1=true→(r2.2.2.1,r2.1,r2.2.1,()) =((bM m l 0).1,(bM m l 0).2.1,(bM m l 0).2.2,()))∧(r1=false→((si (dflt ((Ty.nm Nm.Match).prod ((Ty.nm Nm.Match).prod Ty.unit))) (kS (l,(↑l.length:Int),0,m,Match.mk (Rules.mk ByteArray.empty 0 0 0 0 0 0 0 false 0 0 0 0 []) 0 0 false [] (0,0,()) (Result.mk 0 0 0),()))).1,(-1:Int),0,()) =((bM m l 0).1,(bM m l 0).2.1,(bM m l 0).2.2,())))
 intro r1 r2
 clear_value (hr1:r1=_) (hr2:r2=_)
 have er :∀ z:Match,kS (l,(l.length:Int),0,m,z,())=tT z (bM m l 0):=fun _=>rfl
 rw [er] at hr1 hr2 ⊢
 refine ⟨⟨rfl,⟨rfl,Int.le_refl _,by omega,hx⟩,hm⟩,?_⟩
 cases hl :(bM m l 0).2.2 != 0 with
 | true=>
  have eo :∀ z,tT z (bM m l 0) = .inl ((bM m l 0).2.1,(bM m l 0).2.2,(bM m l 0).1,()):=fun z=>by unfold tT;rw [hl];rfl
  rw [eo] at hr1 hr2
  have e1:r1=true:=hr1
  subst e1 hr2
  exact ⟨fun _=>rfl,fun z=>Bool.noConfusion z⟩
 | false=>
  have eo :∀ z,tT z (bM m l 0) = .inr ((bM m l 0).1,z,()):=fun z=>by unfold tT;rw [hl];rfl
  rw [eo] at hr1 ⊢
  have e1:r1=false:=hr1
  have k1 :(bM m l 0).2.2=0:=by simpa using hl
  have k2:=wc l m 0 k1
  subst e1
  refine ⟨fun z=>Bool.noConfusion z,fun _=>?_⟩
  rw [k1,k2];rfl
def DZ:FuncId×Ctr:=(189,ae KE qML nO N6)
theorem KD:CtrOK Tryz.prog KE 189 (ae KE qML nO N6):=by
 refine an (C:=al [lF] Tryz.f189) (aj (.consU o9 rfl .nil) _) mixed (fn:=Tryz.f189) Tryz.func189 (by kernel_rfl) (by kernel_rfl) (by kernel_rfl) (by kernel_rfl) (by kernel_rfl) (by kernel_rfl) (Λ:=fun x=>find [(Rc,RD)]) ?_ ?_
 ·rintro ⟨m,l,⟨⟩⟩ hw hn
  exact LoopsOKp.at (by kernel_rfl) (.cons (by kernel_rfl) (Ss) .nil)
 ·rintro ⟨m,l,⟨⟩⟩ hw hn
  exact HI m l (hn _ List.mem_cons_self) (cN (aU (aN hw)))
theorem Cc (r:Rules) (l:List Mir.Event) :(evPat (al [uW,DZ] Tryz.f143) (fun _=>none) Tryz.f143 qRL nO (r,l,())).sat fun z_=>z_ =(pj (r,l,())).2:=by
 refine cast (by kernel_rfl) (?_ :((aq r != 0)=true→(Match.mk (Rules.mk ByteArray.empty 0 0 0 0 0 0 0 false 0 0 0 0 []) 0 0 false [] (0,0,()) (Result.mk 0 0 0),0,1,()) =((aF r l).2.1,(aF r l).2.2.1,(aF r l).2.2.2,()))∧((aq r != 0)=false→aK (jr r)∧((bM (jr r) l 0).1,(bM (jr r) l 0).2.1,(bM (jr r) l 0).2.2,()) =((aF r l).2.1,(aF r l).2.2.1,(aF r l).2.2.2,())))
 refine ⟨fun h=>?_,fun h=>?_⟩
 ·have:aF r l =([],Match.zero,0,1):=by unfold aF;rw [h];rfl
  rw [this];rfl
 ·have h0:aq r=0:=by simpa using h
  have hP:aF r l=dP (kA r) l 0 []:=by unfold aF;rw [h];rfl
  rw [BK h0,hP,ly l (kA r) 0 []]
  exact ⟨qg h0,rfl⟩
def ma:FuncId×Ctr:=(143,ae KE qRL nO pj)
theorem tR:CtrOK Tryz.prog KE 143 (ae KE qRL nO pj):=by
 refine an (C:=al [uW,DZ] Tryz.f143) (aj (.consU Ew rfl (.consU KD rfl .nil)) _) mixed (fn:=Tryz.f143) Tryz.func143 (by kernel_rfl) (by kernel_rfl) (by kernel_rfl) (by kernel_rfl) (by kernel_rfl) (by kernel_rfl) (Λ:=fun _ _=>none) ?_ ?_
 ·exact fun _ _ _ _ _ _ _ _ h=>by cases h
 ·rintro ⟨r,l,⟨⟩⟩ hw hn
  exact Cc r l
theorem FE (r:Rules) (l:List Mir.Event) :(evPat (al [k86,ma] Tryz.f88) (fun _=>none) Tryz.f88 qRL bb (r,l,())).sat fun z_=>z_ =(pd (r,l,())).2:=by
 refine cast (by kernel_rfl) (?_:let r1:Bool:=decide ((aF r l).2.2.1≥0);let r2:Bool:=decide ((↑l.length:Int)>4000);((aq r != 0)=true→(aq r,()) =(bW r l,()))∧((aq r != 0)=false→(r2=true→(9,()) =(bW r l,()))∧(r2=false→(r1=true→(10,()) =(bW r l,()))∧(r1=false→(0,()) =(bW r l,())))))
 intro r1 r2
 clear_value (hr1:r1=_) (hr2:r2=_)
 have e1 :(aq r != 0)=false→r1 =((aF r l).2.2.2 != 0):=fun h=>by
  have hP:aF r l=dP (kA r) l 0 []:=by unfold aF;rw [h];rfl
  rw [hr1,hP,←ly l (kA r) 0 []]
  by_cases hc :(bM (kA r) l 0).2.2=0
  ·rw [wc _ _ _ hc,hc];rfl
  ·have:=oD l (kA r) 0 (by omega) hc
   rw [decide_eq_true (by omega)]
   simp [hc]
 refine ⟨fun h=>?_,fun h=>⟨fun a=>?_,fun a=>⟨fun b=>?_,fun b=>?_⟩⟩⟩
 ·simp only [bW,h,if_true]
 ·have:bW r l=9:=by unfold bW;rw [h,←hr2,a];rfl
  rw [this]
 ·have:bW r l=10:=by unfold bW;rw [h,←hr2,a,←e1 h,b];rfl
  rw [this]
 ·have:bW r l=0:=by unfold bW;rw [h,←hr2,a,←e1 h,b];rfl
  rw [this]
def zL:FuncId×Ctr:=(88,ae KE qRL bb pd)
theorem GQ:CtrOK Tryz.prog KE 88 (ae KE qRL bb pd):=by
 refine an (C:=al [k86,ma] Tryz.f88) (aj (.consU wS rfl (.consU tR rfl .nil)) _) mixed (fn:=Tryz.f88) Tryz.func88 (by kernel_rfl) (by kernel_rfl) (by kernel_rfl) (by kernel_rfl) (by kernel_rfl) (by kernel_rfl) (Λ:=fun _ _=>none) ?_ ?_
 ·exact fun _ _ _ _ _ _ _ _ h=>by cases h
 ·rintro ⟨r,l,⟨⟩⟩ hw hn
  exact FE r l
def tW (r:Rules):Match→List Mir.Event→Int→List Delivered→Match×List Delivered
 | m,[],_,o=>(m,o)
 | m,e::l,i,o=>tW r (aZ m e) l (i+1) (x5 r i m (aZ m e) e o)
abbrev VC:List (Nat×PB):= [(0,.dat (.nm .Rules)),(1,.dat (.nm .Match)),(2,.dat (.nm .Match)),(3,.dat (.nm .Match)),(4,.row 5 (.nm .Delivered))]
abbrev qPg:Pat:=⟨[(2,.c (.ptr 0 0)),(5,.c (.ptr 1 0)),(8,.c (.ptr 2 0)),(9,.h I),(10,.h I),(12,.c (.ptr 3 0)),(11,.c (.osl 4 5)),(43,.h Evs),(44,.h I),(45,.h I)],VC,6⟩
abbrev xPg:List (Lf×Pat):= [(.ext 0,⟨[(5,.c (.ptr 1 0)),(8,.c (.ptr 2 0)),(9,.h I),(10,.h I),(11,.c (.osl 4 5))],[(1,.dat (.nm .Match)),(2,.dat (.nm .Match)),(4,.row 5 (.nm .Delivered))],6⟩)]
abbrev TPg:Type:=Int×Int×List Mir.Event×Int×Int×Rules×Match×Match×Match×List Delivered×Unit
def okG (m:Match) (l:List Mir.Event) (i:Int):Prop:=(bM m l i).2.2=0
def tE (x:TPg):Prop:=(x.2.2.2.1 =(x.2.2.1.length:Int)∧0≤x.2.2.2.2.1∧x.2.2.2.2.1≤x.2.2.2.1∧x.2.2.1.length≤aJ)∧aK x.2.2.2.2.2.2.2.2.1∧okG x.2.2.2.2.2.2.2.2.1 (x.2.2.1.drop x.2.2.2.2.1.toNat) x.2.2.2.2.1∧(x.2.2.2.2.2.2.2.2.2.1.length:Int)≤x.2.2.2.2.1∧x.2.2.2.2.2.2.2.2.2.1.length≤4000
def yq (x:TPg):Nat:=(x.2.2.2.1 - x.2.2.2.2.1).toNat
def nU (x:TPg):Int×Int×Match×Match×List Delivered×Unit:=(x.1,x.2.1,x.2.2.2.2.2.2.1,x.2.2.2.2.2.2.2.1,(tW x.2.2.2.2.2.1 x.2.2.2.2.2.2.2.2.1 (x.2.2.1.drop x.2.2.2.2.1.toNat) x.2.2.2.2.1 x.2.2.2.2.2.2.2.2.2.1).2,())
theorem C7 (m:Match) (s:Int) :(aw m s).Rules=m.Rules:=by
 unfold aw
 cases ez s m.Innings m.Innings.length <;> rfl
theorem G0 (m:Match) (e:Mir.Event) :(ag m e).Rules=m.Rules:=by
 unfold ag
 split
 ·rfl
 ·split
  ·rw [C7];rfl
  ·rfl
theorem GY (m:Match) (e:Mir.Event) :(ab m e).Rules=m.Rules:=by
 unfold ab
 split
 ·rfl
 ·unfold fW
  split
  ·rfl
  ·split
   ·unfold aa;split <;> rfl
   ·split
    ·rfl
    ·split
     ·unfold dF bO;split <;> rfl
     ·exact G0 m e
theorem xS (m:Match) (e:Mir.Event) :(aZ m e).Rules=m.Rules:=by
 unfold aZ
 split
 ·rfl
 ·rw [tc,GY]
theorem Ee {m:Match} {e:Mir.Event} {l:List Mir.Event} {i:Int} (h:okG m (e::l) i):i<4000∧bp m e=0∧okG (aZ m e) l (i+1):=by
 unfold okG bM at h
 by_cases hd:decide (i≥4000)=true
 ·rw [if_pos hd] at h;exact absurd (show (26:Int)=0 from h) (by decide)
 ·rw [if_neg hd] at h
  by_cases hc :(bp m e != 0)=true
  ·rw [if_pos hc] at h
   have h:bp m e=0:=h
   rw [h] at hc;cases hc
  ·rw [if_neg hc] at h
   exact ⟨by simpa using hd,by simpa using hc,h⟩
theorem Au {m:Match} {e:Mir.Event} (l:List Mir.Event) {i:Int} (o:List Delivered) (h1:i<4000) (h2:bp m e=0):dP m (e::l) i o=dP (aZ m e) l (i+1) (x5 m.Rules i m (aZ m e) e o):=by
 have hd:decide (i≥4000)=false:=decide_eq_false (by omega)
 have hL:kz m i e=0:=by unfold kz;rw [hd];exact h2
 have hY:dK m i e=aZ m e:=by unfold dK;rw [hd];rfl
 show (if kz m i e != 0 then _ else _)=_
 rw [hL,hY];rfl
theorem II :∀ (l:List Mir.Event) (m:Match) (i:Int) (r:Rules) (o:List Delivered),okG m l i→m.Rules=r→(tW r m l i o).2 =(dP m l i o).1
 | [],_,_,_,_,_,_=>rfl
 | e::l,m,i,r,o,h,hr=>by
  obtain ⟨h1,h2,h3⟩:=Ee h
  rw [Au l o h1 h2,hr]
  exact II l _ _ r _ h3 (by rw [xS];exact hr)
theorem LQ :∀ (l:List Mir.Event) (m:Match) (i:Int),0≤i→(bM m l i).2.2≠0→
  okG m (l.take ((bM m l i).2.1 - i).toNat) i∧∀ (r:Rules) (o:List Delivered),m.Rules=r→(tW r m (l.take ((bM m l i).2.1 - i).toNat) i o).2 =(dP m l i o).1
 | [],_,_,_,h=>absurd rfl h
 | e::l,m,i,hi,h=>by
  by_cases hd:decide (i≥4000)=true
  ·have e1:bM m (e::l) i =(m,i,26):=by unfold bM;rw [if_pos hd]
   have e2 :∀ o,dP m (e::l) i o =(o,m,i,26):=fun o=>by unfold dP kz;rw [if_pos hd];rfl
   rw [e1]
   simp only [Int.sub_self]
   exact ⟨rfl,fun r o _=>by rw [e2];rfl⟩
  ·by_cases hc :(bp m e != 0)=true
   ·have e1:bM m (e::l) i =(m,i,bp m e):=by unfold bM;rw [if_neg hd,if_pos hc]
    have e2 :∀ o,dP m (e::l) i o =(o,m,i,bp m e):=fun o=>by unfold dP kz;rw [if_neg hd,if_pos hc]
    rw [e1]
    simp only [Int.sub_self]
    exact ⟨rfl,fun r o _=>by rw [e2];rfl⟩
   ·have e1:bM m (e::l) i=bM (aZ m e) l (i+1):=by show (if _ then _ else _)=_;rw [if_neg hd,if_neg hc]
    have h1:i<4000:=by simpa using hd
    have h2:bp m e=0:=by simpa using hc
    rw [e1] at h ⊢
    have hs:=oD l (aZ m e) (i+1) (by omega) h
    obtain ⟨k1,k2⟩:=LQ l (aZ m e) (i+1) (by omega) h
    have ek :((bM (aZ m e) l (i+1)).2.1 - i).toNat =((bM (aZ m e) l (i+1)).2.1 - (i+1)).toNat+1:=by omega
    rw [ek,List.take_succ_cons]
    refine ⟨?_,fun r o hr=>?_⟩
    ·unfold okG bM
     rw [if_neg hd,if_neg hc];exact k1
    ·rw [Au l o h1 h2,hr]
     exact k2 r _ (by rw [xS];exact hr)
noncomputable def lpPg:Lp:=(⟨0,al [lF,nu] Tryz.f81,(fun _=>none),(az Tryz.f81 0),qPg,xPg⟩:Lp)
theorem TG (k:Int) (w:Int) (xs:List Mir.Event) (n:Int) (i:Int) (r:Rules) (u:Match) (z:Match) (m:Match) (o:List Delivered) (hi:tE (k,w,xs,n,i,r,u,z,m,o,())) :(Go.Mir.stepG lpPg nU (fun y:Den (tyP lpPg.q)=>tE y∧yq y<yq (k,w,xs,n,i,r,u,z,m,o,())) (k,w,xs,n,i,r,u,z,m,o,())∧Go.Mir.stepE lpPg nU (k,w,xs,n,i,r,u,z,m,o,())=nU (k,w,xs,n,i,r,u,z,m,o,())):=by
 refine cast (by kernel_rfl) (?_:let r1:Int:=IntKind.i64.wrap (i+1);let r2:Bool:=(xs.getD i.toNat (dflt (Ty.nm Nm.Event))).1==4;let r3:Int:=IntKind.i64.wrap ((↑m.5.length:Int) - 1);let r4:Innings:=m.5.getD r3.toNat (dflt (Ty.nm Nm.Innings));let r5:Innings:=(aZ m (xs.getD i.toNat (dflt (Ty.nm Nm.Event)))).5.getD r3.toNat (dflt (Ty.nm Nm.Innings));let r6:List Delivered:= [Delivered.mk i r3 r4.7 r4.8 r4.12 r4.9 r4.10 r4.17 (xs.getD i.toNat (dflt (Ty.nm Nm.Event))).8 (ao r (xs.getD i.toNat (dflt (Ty.nm Nm.Event))).8) r5.4 r5.5];((decide (i<n)=true→(0≤i∧i <(↑xs.length:Int))∧aK m∧(r2=true→(0≤r3∧r3 <(↑m.5.length:Int))∧(0≤r3∧r3 <(↑(aZ m (xs.getD i.toNat (dflt (Ty.nm Nm.Event)))).5.length:Int))∧(o.length+r6.length) *(216:Nat)≤(70368744177664:Nat)∧tE (k,w,xs,n,r1,r,u,z,aZ m (xs.getD i.toNat (dflt (Ty.nm Nm.Event))),o++r6,())∧yq (k,w,xs,n,r1,r,u,z,aZ m (xs.getD i.toNat (dflt (Ty.nm Nm.Event))),o++r6,())<yq (k,w,xs,n,i,r,u,z,m,o,()))∧(r2=false→tE (k,w,xs,n,r1,r,u,z,aZ m (xs.getD i.toNat (dflt (Ty.nm Nm.Event))),o,())∧yq (k,w,xs,n,r1,r,u,z,aZ m (xs.getD i.toNat (dflt (Ty.nm Nm.Event))),o,())<yq (k,w,xs,n,i,r,u,z,m,o,())))∧(decide (i<n)=false→True))∧(cond (decide (i<n)) (cond r2 (nU (k,w,xs,n,r1,r,u,z,aZ m (xs.getD i.toNat (dflt (Ty.nm Nm.Event))),o++r6,())) (nU (k,w,xs,n,r1,r,u,z,aZ m (xs.getD i.toNat (dflt (Ty.nm Nm.Event))),o,()))) (k,w,u,z,o,()))=nU (k,w,xs,n,i,r,u,z,m,o,()))
 intro r1 r2 r3 r4 r5 r6
 clear_value (hr1:r1=_) (hr2:r2=_) (hr3:r3=_) (hr4:r4=_) (hr5:r5=_) (hr6:r6=_)
 obtain ⟨⟨h1,h2,h3,h4⟩,hm,hg,h5,h6⟩:=hi
 simp only at h1 h2 h3 h4 hm hg h5 h6
 have hx :(xs.length:Int)≤140737488355328:=by have:xs.length≤140737488355328:=h4;omega
 by_cases h:i<n
 ·have e:xs.drop i.toNat=xs.getD i.toNat (dflt (Ty.nm Nm.Event))::xs.drop (i+1).toNat:=b8 h2 (by omega) _
  have e1:r1=i+1:=by rw [hr1];exact bc (by omega) (by omega)
  rw [e] at hg
  rw [decide_eq_true h,cond_true]
  generalize xs.getD i.toNat (dflt (Ty.nm Nm.Event))=v at *
  obtain ⟨g1,g2,g3⟩:=Ee hg
  have hb:r2=true→0<m.Innings.length∧(aZ m v).Innings.length=m.Innings.length:=fun b=>AQ g2 (by rw [hr2] at b;exact eq_of_beq b)
  have hx2:=hm.2.1
  have e3:r2=true→r3 =(m.Innings.length:Int) - 1:=fun b=>by have:=(hb b).1;rw [hr3];exact bc (by omega) (by omega)
  have hA:r2=true→r6=[lY r i m (aZ m v) v.Ball]:=fun b=>by
   have k1:=e3 b
   have k2:=hb b
   have k3:r3.toNat=m.Innings.length - 1:=by omega
   have k4:r4=bt m:=by rw [hr4,k3];rfl
   have k5:r5=bt (aZ m v):=by rw [hr5,k3,←k2.2];rfl
   rw [hr6,k4,k5,hr3];rfl
  have hK :∀ o':List Delivered,(o'.length:Int)≤i+1→o'.length≤4000→tE (k,w,xs,n,r1,r,u,z,aZ m v,o',())∧yq (k,w,xs,n,r1,r,u,z,aZ m v,o',())<yq (k,w,xs,n,i,r,u,z,m,o,()):=fun o' k1 k2=>
   ⟨⟨⟨h1,by simp only;omega,by simp only;omega,h4⟩,ot v hm,by simp only;rw [e1];exact g3,by simp only;omega,k2⟩,by simp only [yq];omega⟩
  refine ⟨⟨fun _=>⟨⟨h2,by omega⟩,hm,fun b=>⟨?_,?_,?_,?_⟩,fun _=>hK o (by omega) h6⟩,fun q=>Bool.noConfusion q⟩,?_⟩
  ·have:=e3 b;have:=hb b;omega
  ·have:=e3 b;have:=hb b;omega
  ·rw [hA b,List.length_singleton];omega
  ·refine hK _ ?_ ?_ <;> rw [hA b,List.length_append,List.length_singleton] <;> omega
  ·have eD:x5 r i m (aZ m v) v o=bif r2 then o++r6 else o:=by
    unfold x5;rw [←hr2]
    cases hb2:r2 with
    | true=>rw [hA hb2];rfl
    | false=>rfl
   have eP:tW r m (xs.drop i.toNat) i o=tW r (aZ m v) (xs.drop (i+1).toNat) (i+1) (bif r2 then o++r6 else o):=by rw [e,←eD];rfl
   simp only [nU]
   rw [eP,e1]
   cases r2 <;> rfl
 ·rw [decide_eq_false h,cond_false]
  refine ⟨⟨fun q=>Bool.noConfusion q,fun _=>trivial⟩,?_⟩
  simp only [nU]
  rw [bJ (l:=xs) (by omega)]
  rfl
noncomputable def RH:LoopSum:=aM lpPg nU tE
noncomputable def Rh:Nat:=rid (az Tryz.f81 0)
theorem Sx:LoopOKp Tryz.prog 0 Tryz.f81.ntmps (az Tryz.f81 0) (aM lpPg nU tE):=
 bk lpPg (aj (.consU o9 rfl (.consU sH rfl .nil)) _) mixed (fun b hb S hS=>by cases hS) nU tE yq (fun |⟨k,w,xs,n,i,r,u,z,m,o,⟨⟩⟩,hi=>TG k w xs n i r u z m o hi)
theorem HJ (r:Rules) (l:List Mir.Event) (hx:l.length≤aJ) :(evPat (al [ma,uW,lF,nu] Tryz.f81) (find [(Rh,RH)]) Tryz.f81 qRL qy (r,l,())).sat fun z_=>z_ =(sT (r,l,())).2:=by
 refine cast (by kernel_rfl) (?_:let r1:Bool:=decide ((aF r l).2.2.1≥0);let r2:List Mir.Event:=cond r1 (List.drop (Int.toNat 0) (List.take (aF r l).2.2.1.toNat l)) l;let r3:Int:=(↑r2.length:Int);let r4:List Mir.Event:=List.drop (Int.toNat 0) r2;((r1=true→((0:Int)≤0∧0≤(aF r l).2.2.1∧(aF r l).2.2.1≤(↑l.length:Int))∧True)∧(r1=false→True))∧(true=true→((aq r != 0)=true→([],(aF r l).2.1,(aF r l).2.2.1,(aF r l).2.2.2,()) =((aF r l).1,(aF r l).2.1,(aF r l).2.2.1,(aF r l).2.2.2,()))∧((aq r != 0)=false→((cZ fun x=>none)∧(r3 =(↑r2.length:Int)∧(0:Int)≤0∧0≤r3∧r2.length≤aJ)∧aK (jr r)∧okG (jr r) r4 0∧(↑(0:Nat):Int)≤0∧(0:Nat)≤(4000:Nat))∧((tW r (jr r) r4 0 []).2,(aF r l).2.1,(aF r l).2.2.1,(aF r l).2.2.2,()) =((aF r l).1,(aF r l).2.1,(aF r l).2.2.1,(aF r l).2.2.2,()))))
 intro r1 r2 r3 r4
 clear_value (hr1:r1=_) (hr2:r2=_) (hr3:r3=_) (hr4:r4=_)
 cases hc:aq r != 0 with
 | true=>
  have hP:aF r l =([],Match.zero,0,1):=by unfold aF;rw [hc];rfl
  refine ⟨⟨fun _=>⟨?_,trivial⟩,fun _=>trivial⟩,fun _=>⟨fun _=>?_,fun q=>Bool.noConfusion q⟩⟩
  ·rw [hP];exact ⟨by decide,by decide,by show (0:Int)≤_;omega⟩
  ·rw [hP]
 | false=>
  have h0:aq r=0:=by simpa using hc
  have hP:aF r l=dP (kA r) l 0 []:=by unfold aF;rw [hc];rfl
  have hF:=ly l (kA r) 0 []
  have key :(r1=true→0≤(aF r l).2.2.1∧(aF r l).2.2.1≤(l.length:Int))∧okG (kA r) r4 0∧(tW r (kA r) r4 0 []).2 =(aF r l).1∧r2.length≤aJ:=by
   rw [hP] at hr1 hr2 ⊢
   rw [←hF] at hr1 hr2 ⊢
   by_cases hl :(bM (kA r) l 0).2.2=0
   ·have h1:=wc l (kA r) 0 hl
    have q1:r1=false:=by rw [hr1,h1];rfl
    rw [q1] at hr2
    have q4:r4=l:=by rw [hr4,hr2];rfl
    rw [q4,q1,hr2]
    exact ⟨fun q=>Bool.noConfusion q,hl,II l (kA r) 0 r [] hl rfl,hx⟩
   ·have h1:=oD l (kA r) 0 (by omega) hl
    have q1:r1=true:=by rw [hr1];exact decide_eq_true h1.1
    obtain ⟨k1,k2⟩:=LQ l (kA r) 0 (by omega) hl
    rw [q1] at hr2
    have q2:r2=l.take ((bM (kA r) l 0).2.1 - 0).toNat:=by rw [hr2,Int.sub_zero];rfl
    have q4:r4=l.take ((bM (kA r) l 0).2.1 - 0).toNat:=by rw [hr4,q2];rfl
    rw [q4,q2]
    refine ⟨fun _=>⟨h1.1,by omega⟩,k1,k2 r [] rfl,?_⟩
    exact Nat.le_trans (List.length_take_le' _ _) hx
  refine ⟨⟨fun a=>⟨⟨by decide,key.1 a⟩,trivial⟩,fun _=>trivial⟩,fun _=>⟨fun q=>Bool.noConfusion q,fun _=>?_⟩⟩
  rw [BK h0]
  exact ⟨⟨rfl,⟨hr3,by decide,by omega,key.2.2.2⟩,qg h0,key.2.1,Int.le_refl _,Nat.zero_le _⟩,by rw [key.2.2.1]⟩
def D0:FuncId×Ctr:=(81,ae KE qRL qy sT)
theorem KF:CtrOK Tryz.prog KE 81 (ae KE qRL qy sT):=by
 refine an (C:=al [ma,uW,lF,nu] Tryz.f81) (aj (.consU tR rfl (.consU Ew rfl (.consU o9 rfl (.consU sH rfl .nil)))) _) mixed (fn:=Tryz.f81) Tryz.func81 (by kernel_rfl) (by kernel_rfl) (by kernel_rfl) (by kernel_rfl) (by kernel_rfl) (by kernel_rfl) (Λ:=fun x=>find [(Rh,RH)]) ?_ ?_
 ·rintro ⟨r,l,⟨⟩⟩ hw hn
  exact LoopsOKp.at (by kernel_rfl) (.cons (by kernel_rfl) (Sx) .nil)
 ·rintro ⟨r,l,⟨⟩⟩ hw hn
  exact HJ r l (cN (aU (aN hw)))
abbrev nP:Pat:=bX [I]
abbrev qIb:Pat:=bX [I,I]
abbrev b9:Pat:=bX [.str]
def dgs36:ByteArray:=⟨#[48,49,50,51,52,53,54,55,56,57,97,98,99,100,101,102,103,104,105,106,107,108,109,110,111,112,113,114,115,116,117,118,119,120,121,122]⟩
def sm200:ByteArray:=⟨((List.range 100).flatMap fun n=> [UInt8.ofNat (48+n / 10),UInt8.ofNat (48+n % 10)]).toArray⟩
def dy (n:Int):ByteArray:=if decide (n<10) then dgs36.extract n.toNat (n+1).toNat else sm200.extract (n*2).toNat (n*2+2).toNat
def fu (n:Int):Prop:=0≤n∧n<100
def vn (n:Int):Prop:=n=10
def iZ:Den (tyP nP)→List Prop×Den (tyP b9):=fun x=>([fu x.1],(dy x.1,()))
def Lu:Den (tyP qIb)→List Prop×Den (tyP b9):=fun x=>([fu x.1,vn x.2.1],(dy x.1,()))
def mV (n:Int):ByteArray:=Utf8.encode (IntKind.i32.wrap (IntKind.i64.wrap (48+n)))
def HT:Den (tyP nP)→List Prop×Den (tyP b9):=fun x=>([],(mV x.1,()))
def gQ (t s:Int):ByteArray:=if s==0 then (if t != 2 then ⟨#[46]⟩ else ⟨#[]⟩) else if s==1 then (if t==2 then ⟨#[111]⟩ else ⟨#[]⟩) else if s==2 then ⟨#[98]⟩ else if s==3 then ⟨#[108]⟩ else ⟨#[]⟩
def Co:Den (tyP qD)→List Prop×Den (tyP b9):=fun x=>([],(gQ x.1.Typ x.1.Source,()))
def lets:ByteArray:=⟨#[78,66,67,76,83,72,82,84,79,77,81]⟩
def L5 (h:Int):ByteArray:=lets.extract h.toNat (h+1).toNat
def ug (d:Delivery):Bool:=d.Fielder != 0 ||(d.Second != 0||d.Sub)
def Iw (d:Delivery):ByteArray:=(⟨#[47]⟩++L5 d.How)++mV d.Victim
def LD (d:Delivery):ByteArray:=Iw d ++(⟨#[40]⟩++dy d.Fielder)
def FW (d:Delivery):ByteArray:=if d.Second != 0 then LD d ++(⟨#[44]⟩++dy d.Second) else LD d
def Ix (d:Delivery):ByteArray:=if d.Sub then FW d ++⟨#[115]⟩ else FW d
def s8 (d:Delivery):ByteArray:=if d.How==0&&(d.Victim==0&&!ug d) then ⟨#[]⟩ else if ug d then Ix d ++⟨#[41]⟩ else Iw d
def J3 (d:Delivery):Prop:=(0≤d.How∧d.How≤10)∧fu d.Fielder∧fu d.Second
def Cs:Den (tyP qD)→List Prop×Den (tyP b9):=fun x=>([J3 x.1],(s8 x.1,()))
def xZ (t:Int):ByteArray:=if t==2 then ⟨#[119]⟩ else if t==3 then ⟨#[110]⟩ else ⟨#[]⟩
theorem Ua (n:Int) :(Utf8.encode n).size≤4:=by
 unfold Utf8.encode
 generalize (if Utf8.valid n then n.toNat else Utf8.runeError)=c
 show (ite _ _ _:ByteArray).size≤4
 by_cases h1:c<0x80
 ·rw [if_pos h1];exact Nat.le_of_ble_eq_true rfl
 ·rw [if_neg h1]
  by_cases h2:c<0x800
  ·rw [if_pos h2];exact Nat.le_of_ble_eq_true rfl
  ·rw [if_neg h2]
   by_cases h3:c<0x10000
   ·rw [if_pos h3];exact Nat.le_of_ble_eq_true rfl
   ·rw [if_neg h3];exact Nat.le_of_ble_eq_true rfl
theorem vz {n:Int} (h:fu n) :(dy n).size≤200:=by
 have z5:dgs36.size=36:=rfl
 have z6:sm200.size=200:=by kernel_rfl
 unfold dy
 split <;> rw [ByteArray.size_extract] <;> omega
theorem E6 (n:Int) (hk:fu n) :(evPat (al [] Tryz.f210) (fun _=>none) Tryz.f210 nP b9 (n,())).sat fun z_=>z_ =(iZ (n,())).2:=by
 refine cast (by kernel_rfl) (?_:let r1:Int:=IntKind.i64.wrap (n+1);let r2:Int:=IntKind.i64.wrap (n*2);let r3:Bool:=decide (n<10);let r4:Int:=IntKind.i64.wrap (r2+2);let r5:ByteArray:=ByteArray.mk #[48,49,50,51,52,53,54,55,56,57,97,98,99,100,101,102,103,104,105,106,107,108,109,110,111,112,113,114,115,116,117,118,119,120,121,122];let r6:ByteArray:=ByteArray.mk (([(48:UInt8),(48:UInt8),(48:UInt8),(49:UInt8),(48:UInt8),(50:UInt8),(48:UInt8),(51:UInt8),(48:UInt8),(52:UInt8),(48:UInt8),(53:UInt8),(48:UInt8),(54:UInt8),(48:UInt8),(55:UInt8),(48:UInt8),(56:UInt8),(48:UInt8),(57:UInt8),(49:UInt8),(48:UInt8),(49:UInt8),(49:UInt8),(49:UInt8),(50:UInt8),(49:UInt8),(51:UInt8),(49:UInt8),(52:UInt8),(49:UInt8),(53:UInt8),(49:UInt8),(54:UInt8),(49:UInt8),(55:UInt8),(49:UInt8),(56:UInt8),(49:UInt8),(57:UInt8),(50:UInt8),(48:UInt8),(50:UInt8),(49:UInt8),(50:UInt8),(50:UInt8),(50:UInt8),(51:UInt8),(50:UInt8),(52:UInt8)].append [(50:UInt8),(53:UInt8),(50:UInt8),(54:UInt8),(50:UInt8),(55:UInt8),(50:UInt8),(56:UInt8),(50:UInt8),(57:UInt8),(51:UInt8),(48:UInt8),(51:UInt8),(49:UInt8),(51:UInt8),(50:UInt8),(51:UInt8),(51:UInt8),(51:UInt8),(52:UInt8),(51:UInt8),(53:UInt8),(51:UInt8),(54:UInt8),(51:UInt8),(55:UInt8),(51:UInt8),(56:UInt8),(51:UInt8),(57:UInt8),(52:UInt8),(48:UInt8),(52:UInt8),(49:UInt8),(52:UInt8),(50:UInt8),(52:UInt8),(51:UInt8),(52:UInt8),(52:UInt8),(52:UInt8),(53:UInt8),(52:UInt8),(54:UInt8),(52:UInt8),(55:UInt8),(52:UInt8),(56:UInt8),(52:UInt8),(57:UInt8)]).append ([(53:UInt8),(48:UInt8),(53:UInt8),(49:UInt8),(53:UInt8),(50:UInt8),(53:UInt8),(51:UInt8),(53:UInt8),(52:UInt8),(53:UInt8),(53:UInt8),(53:UInt8),(54:UInt8),(53:UInt8),(55:UInt8),(53:UInt8),(56:UInt8),(53:UInt8),(57:UInt8),(54:UInt8),(48:UInt8),(54:UInt8),(49:UInt8),(54:UInt8),(50:UInt8),(54:UInt8),(51:UInt8),(54:UInt8),(52:UInt8),(54:UInt8),(53:UInt8),(54:UInt8),(54:UInt8),(54:UInt8),(55:UInt8),(54:UInt8),(56:UInt8),(54:UInt8),(57:UInt8),(55:UInt8),(48:UInt8),(55:UInt8),(49:UInt8),(55:UInt8),(50:UInt8),(55:UInt8),(51:UInt8),(55:UInt8),(52:UInt8)].append [(55:UInt8),(53:UInt8),(55:UInt8),(54:UInt8),(55:UInt8),(55:UInt8),(55:UInt8),(56:UInt8),(55:UInt8),(57:UInt8),(56:UInt8),(48:UInt8),(56:UInt8),(49:UInt8),(56:UInt8),(50:UInt8),(56:UInt8),(51:UInt8),(56:UInt8),(52:UInt8),(56:UInt8),(53:UInt8),(56:UInt8),(54:UInt8),(56:UInt8),(55:UInt8),(56:UInt8),(56:UInt8),(56:UInt8),(57:UInt8),(57:UInt8),(48:UInt8),(57:UInt8),(49:UInt8),(57:UInt8),(50:UInt8),(57:UInt8),(51:UInt8),(57:UInt8),(52:UInt8),(57:UInt8),(53:UInt8),(57:UInt8),(54:UInt8),(57:UInt8),(55:UInt8),(57:UInt8),(56:UInt8),(57:UInt8),(57:UInt8)])).toArray;(r3=true→(0≤n∧n≤r1∧r1≤(↑r5.size:Int))∧(r5.extract n.toNat r1.toNat,()) =(dy n,()))∧(r3=false→(0≤r2∧r2≤r4∧r4≤(↑r6.size:Int))∧(r6.extract r2.toNat r4.toNat,()) =(dy n,())))
 intro r1 r2 r3 r4 r5 r6
 clear_value (hr1:r1=_) (hr2:r2=_) (hr3:r3=_) (hr4:r4=_) (hr5:r5=_) (hr6:r6=_)
 obtain ⟨h0,h1⟩:=hk
 have e1:r1=n+1:=by rw [hr1];exact de (by omega) (by omega)
 have e2:r2=n*2:=by rw [hr2];exact de (by omega) (by omega)
 have e4:r4=n*2+2:=by rw [hr4,e2];exact de (by omega) (by omega)
 have e5:r5=dgs36:=hr5
 have e6:r6=sm200:=by rw [hr6];kernel_rfl
 have z5:dgs36.size=36:=rfl
 have z6:sm200.size=200:=by kernel_rfl
 clear hr1 hr2 hr4 hr5 hr6
 subst e1 e2 e4 e5 e6
 refine ⟨fun h=>?_,fun h=>?_⟩
 ·rw [hr3] at h
  have hd:=of_decide_eq_true h
  refine ⟨⟨h0,by omega,by omega⟩,?_⟩
  unfold dy;rw [h];rfl
 ·rw [hr3] at h
  refine ⟨⟨by omega,by omega,by omega⟩,?_⟩
  unfold dy;rw [h];rfl
def za:FuncId×Ctr:=(210,ae KE nP b9 iZ)
theorem Gv:CtrOK Tryz.prog KE 210 (ae KE nP b9 iZ):=by
 refine an (C:=al [] Tryz.f210) (aj (CtrsOK.nil) _) mixed (fn:=Tryz.f210) Tryz.func210 (by kernel_rfl) (by kernel_rfl) (by kernel_rfl) (by kernel_rfl) (by kernel_rfl) (by kernel_rfl) (Λ:=fun _ _=>none) ?_ ?_
 ·exact fun _ _ _ _ _ _ _ _ h=>by cases h
 ·rintro ⟨n,⟨⟩⟩ hw hn
  exact E6 n (hn _ List.mem_cons_self)
theorem KL (n:Int) (b:Int) (hk:fu n) (hb:vn b) :(evPat (al [za] Tryz.f169) (fun _=>none) Tryz.f169 qIb b9 (n,b,())).sat fun z_=>z_ =(Lu (n,b,())).2:=by
 refine cast (by kernel_rfl) (?_:let r1:Bool:=cond (decide (0≤n)) (decide (n<100)) false;((b==10)=true→(r1=true→fu n∧(dy n,()) =(dy n,()))∧(r1=false→False))∧((b==10)=false→False))
 intro r1
 clear_value (hr1:r1=_)
 have hb:b=10:=hb
 have e1:r1=true:=by rw [hr1,decide_eq_true hk.1,decide_eq_true hk.2];rfl
 subst hb
 exact ⟨fun _=>⟨fun _=>⟨hk,rfl⟩,fun h=>by rw [e1] at h;cases h⟩,fun h=>by cases h⟩
def IU:FuncId×Ctr:=(169,ae KE qIb b9 Lu)
theorem MM:CtrOK Tryz.prog KE 169 (ae KE qIb b9 Lu):=by
 refine an (C:=al [za] Tryz.f169) (aj (.consU Gv rfl .nil) _) mixed (fn:=Tryz.f169) Tryz.func169 (by kernel_rfl) (by kernel_rfl) (by kernel_rfl) (by kernel_rfl) (by kernel_rfl) (by kernel_rfl) (Λ:=fun _ _=>none) ?_ ?_
 ·exact fun _ _ _ _ _ _ _ _ h=>by cases h
 ·rintro ⟨n,b,⟨⟩⟩ hw hn
  exact KL n b (hn _ List.mem_cons_self) (hn _ (List.mem_cons_of_mem _ List.mem_cons_self))
theorem He (n:Int) (b:Int) (hk:fu n) (hb:vn b) :(evPat (al [IU] Tryz.f105) (fun _=>none) Tryz.f105 qIb b9 (n,b,())).sat fun z_=>z_ =(Lu (n,b,())).2:=by
 refine cast (by kernel_rfl) (?_:fu n∧vn b∧(dy n,()) =(dy n,()))
 exact ⟨hk,hb,rfl⟩
def DD:FuncId×Ctr:=(105,ae KE qIb b9 Lu)
theorem Ki:CtrOK Tryz.prog KE 105 (ae KE qIb b9 Lu):=by
 refine an (C:=al [IU] Tryz.f105) (aj (.consU MM rfl .nil) _) mixed (fn:=Tryz.f105) Tryz.func105 (by kernel_rfl) (by kernel_rfl) (by kernel_rfl) (by kernel_rfl) (by kernel_rfl) (by kernel_rfl) (Λ:=fun _ _=>none) ?_ ?_
 ·exact fun _ _ _ _ _ _ _ _ h=>by cases h
 ·rintro ⟨n,b,⟨⟩⟩ hw hn
  exact He n b (hn _ List.mem_cons_self) (hn _ (List.mem_cons_of_mem _ List.mem_cons_self))
theorem Fh (n:Int) (hk:fu n) :(evPat (al [DD] Tryz.f45) (fun _=>none) Tryz.f45 nP b9 (n,())).sat fun z_=>z_ =(iZ (n,())).2:=by
 refine cast (by kernel_rfl) (?_:fu n∧vn 10∧(dy n,()) =(dy n,()))
 exact ⟨hk,rfl,rfl⟩
def zo:FuncId×Ctr:=(45,ae KE nP b9 iZ)
theorem GD:CtrOK Tryz.prog KE 45 (ae KE nP b9 iZ):=by
 refine an (C:=al [DD] Tryz.f45) (aj (.consU Ki rfl .nil) _) mixed (fn:=Tryz.f45) Tryz.func45 (by kernel_rfl) (by kernel_rfl) (by kernel_rfl) (by kernel_rfl) (by kernel_rfl) (by kernel_rfl) (Λ:=fun _ _=>none) ?_ ?_
 ·exact fun _ _ _ _ _ _ _ _ h=>by cases h
 ·rintro ⟨n,⟨⟩⟩ hw hn
  exact Fh n (hn _ List.mem_cons_self)
theorem Lb (n:Int) :(evPat (al [] Tryz.f152) (fun _=>none) Tryz.f152 nP b9 (n,())).sat fun z_=>z_ =(HT (n,())).2:=by
 refine cast (by kernel_rfl) (?_ :(Utf8.encode (IntKind.i32.wrap (IntKind.i64.wrap (48+n))),()) =(mV n,()))
 rfl
def uU:FuncId×Ctr:=(152,ae KE nP b9 HT)
theorem En:CtrOK Tryz.prog KE 152 (ae KE nP b9 HT):=by
 refine an (C:=al [] Tryz.f152) (aj (CtrsOK.nil) _) mixed (fn:=Tryz.f152) Tryz.func152 (by kernel_rfl) (by kernel_rfl) (by kernel_rfl) (by kernel_rfl) (by kernel_rfl) (by kernel_rfl) (Λ:=fun _ _=>none) ?_ ?_
 ·exact fun _ _ _ _ _ _ _ _ h=>by cases h
 ·rintro ⟨n,⟨⟩⟩ hw hn
  exact Lb n
theorem Hv (d:Delivery) :(evPat (al [] Tryz.f151) (fun _=>none) Tryz.f151 qD b9 (d,())).sat fun z_=>z_ =(Co (d,())).2:=by
 refine cast (by kernel_rfl) (?_ :(((d.2==0)=true→((d.1 != 2)=true→(ByteArray.mk #[46],()) =(gQ d.1 d.2,()))∧((d.1 != 2)=false→True))∧((d.2==0)=false→((d.2==1)=true→((d.1==2)=true→(ByteArray.mk #[111],()) =(gQ d.1 d.2,()))∧((d.1==2)=false→True))∧((d.2==1)=false→((d.2==2)=true→(ByteArray.mk #[98],()) =(gQ d.1 d.2,()))∧((d.2==2)=false→((d.2==3)=true→(ByteArray.mk #[108],()) =(gQ d.1 d.2,()))∧((d.2==3)=false→True)))))∧((cond (d.2==0) (!d.1 != 2) (cond (d.2==1) (!d.1==2) (cond (d.2==2) false (!d.2==3))))=true→(ByteArray.mk #[],()) =(gQ d.1 d.2,())))
 unfold gQ
 generalize d.Typ=t
 generalize d.Source=s
 cases h0:s==0 <;> cases h1:s==1 <;> cases h2:s==2 <;> cases h3:s==3 <;> cases ht:t==2 <;> simp [h0,h1,h2,h3,ht,bne]
def DQ:FuncId×Ctr:=(151,ae KE qD b9 Co)
theorem Ku:CtrOK Tryz.prog KE 151 (ae KE qD b9 Co):=by
 refine an (C:=al [] Tryz.f151) (aj (CtrsOK.nil) _) mixed (fn:=Tryz.f151) Tryz.func151 (by kernel_rfl) (by kernel_rfl) (by kernel_rfl) (by kernel_rfl) (by kernel_rfl) (by kernel_rfl) (Λ:=fun _ _=>none) ?_ ?_
 ·exact fun _ _ _ _ _ _ _ _ h=>by cases h
 ·rintro ⟨d,⟨⟩⟩ hw hn
  exact Hv d
theorem Hw (d:Delivery) (hd:J3 d) :(evPat (al [uU,zo] Tryz.f153) (fun _=>none) Tryz.f153 qD b9 (d,())).sat fun z_=>z_ =(Cs (d,())).2:=by
 refine cast (by kernel_rfl) (?_:let r1:Int:=IntKind.u8.wrap (d.7+1);let r2:ByteArray:=ByteArray.mk #[40]++dy d.9;let r3:ByteArray:=ByteArray.mk #[44]++dy d.10;let r4:Bool:=!cond (d.9 != 0) true (cond (d.10 != 0) true d.11);let r5:Bool:=cond (d.7==0) (cond (d.8==0) r4 false) false;let r6:ByteArray:=ByteArray.mk #[78,66,67,76,83,72,82,84,79,77,81];let r7:ByteArray:=r6.extract d.7.toNat r1.toNat;let r8:ByteArray:=ByteArray.mk #[47]++r7;let r9:ByteArray:=r8++mV d.8;let r10:ByteArray:=r9++r2;let r11:ByteArray:=cond (d.10 != 0) (r10++r3) r10;let r12:ByteArray:=cond d.11 (r11++ByteArray.mk #[115]) r11;(r5=true→(ByteArray.mk #[],()) =(s8 d,()))∧(r5=false→(0≤d.7∧d.7≤r1∧r1≤(↑r6.size:Int))∧(ByteArray.mk #[47]).size+r7.size≤aJ∧r8.size +(mV d.8).size≤aJ∧(r4=true→(r9,()) =(s8 d,()))∧(r4=false→fu d.9∧(ByteArray.mk #[40]).size +(dy d.9).size≤aJ∧r9.size+r2.size≤aJ∧(((d.10 != 0)=true→fu d.10∧(ByteArray.mk #[44]).size +(dy d.10).size≤aJ∧r10.size+r3.size≤aJ∧True)∧((d.10 != 0)=false→True))∧(true=true→((d.11=true→r11.size +(ByteArray.mk #[115]).size≤aJ∧True)∧(d.11=false→True))∧(true=true→r12.size +(ByteArray.mk #[41]).size≤aJ∧(r12++ByteArray.mk #[41],()) =(s8 d,()))))))
 intro r1 r2 r3 r4 r5 r6 r7 r8 r9 r10 r11 r12
 clear_value (hr1:r1=_) (hr2:r2=_) (hr3:r3=_) (hr4:r4=_) (hr5:r5=_) (hr6:r6=_) (hr7:r7=_) (hr8:r8=_) (hr9:r9=_) (hr10:r10=_) (hr11:r11=_) (hr12:r12=_)
 obtain ⟨⟨h0,h1⟩,hf,hs⟩:=hd
 have e1:r1=d.How+1:=by
  rw [hr1]
  simp only [IntKind.wrap,IntKind.bits,IntKind.signed]
  simp
  omega
 have e6:r6.size=11:=by rw [hr6];rfl
 have z7:r7.size≤11:=by rw [hr7,ByteArray.size_extract];omega
 have zd:=Ua (IntKind.i32.wrap (IntKind.i64.wrap (48+d.Victim)))
 have zd :(mV d.Victim).size≤4:=zd
 have zf:=vz hf
 have zs:=vz hs
 have z8:r8.size≤12:=by rw [hr8,ByteArray.size_append];show 1+_≤_;omega
 have z9:r9.size≤16:=by rw [hr9,ByteArray.size_append];omega
 have z2:r2.size≤201:=by rw [hr2,ByteArray.size_append];show 1+_≤_;omega
 have z3:r3.size≤201:=by rw [hr3,ByteArray.size_append];show 1+_≤_;omega
 have z10:r10.size≤217:=by rw [hr10,ByteArray.size_append];omega
 have z11:r11.size≤418:=by
  rw [hr11]
  cases d.Second != 0
  ·show r10.size≤_;omega
  ·show (r10++r3).size≤_;rw [ByteArray.size_append];omega
 have z12:r12.size≤419:=by
  rw [hr12]
  cases d.Sub
  ·show r11.size≤_;omega
  ·show (r11++_).size≤_;rw [ByteArray.size_append];show _+1≤_;omega
 have one :∀ c:UInt8,(ByteArray.mk #[c]).size=1:=fun _=>rfl
 have hL :(500:Nat)≤aJ:=by decide
 have eA:r4=!ug d:=by rw [hr4];unfold ug;cases d.Fielder != 0 <;> cases d.Second != 0 <;> rfl
 have e7:r7=L5 d.How:=by rw [hr7,e1,hr6];rfl
 have w1:r9=Iw d:=by rw [hr9,hr8,e7];rfl
 have w2:r10=LD d:=by rw [hr10,w1,hr2];rfl
 have w3:r11=FW d:=by rw [hr11,w2,hr3];unfold FW;cases d.Second != 0 <;> rfl
 have w4:r12=Ix d:=by rw [hr12,w3];unfold Ix;cases d.Sub <;> rfl
 have e5 :(d.How==0&&(d.Victim==0&&!ug d))=r5:=by rw [hr5,eA];cases d.How==0 <;> cases d.Victim==0 <;> rfl
 refine ⟨fun h=>?_,fun h=>⟨⟨h0,by omega,by omega⟩,by rw [one];omega,by omega,fun a=>?_,fun a=>⟨hf,by rw [one];omega,by omega,⟨fun _=>⟨hs,by rw [one];omega,by omega,trivial⟩,fun _=>trivial⟩,fun _=>⟨⟨fun _=>⟨by rw [one];omega,trivial⟩,fun _=>trivial⟩,fun _=>⟨by rw [one];omega,?_⟩⟩⟩⟩⟩
 ·unfold s8;rw [e5,h];rfl
 ·have:ug d=false:=by rw [eA] at a;simpa using a
  unfold s8;rw [e5,h,this,w1];rfl
 ·have:ug d=true:=by rw [eA] at a;simpa using a
  unfold s8;rw [e5,h,this,w4];rfl
def DR:FuncId×Ctr:=(153,ae KE qD b9 Cs)
theorem Kv:CtrOK Tryz.prog KE 153 (ae KE qD b9 Cs):=by
 refine an (C:=al [uU,zo] Tryz.f153) (aj (.consU En rfl (.consU GD rfl .nil)) _) mixed (fn:=Tryz.f153) Tryz.func153 (by kernel_rfl) (by kernel_rfl) (by kernel_rfl) (by kernel_rfl) (by kernel_rfl) (by kernel_rfl) (Λ:=fun _ _=>none) ?_ ?_
 ·exact fun _ _ _ _ _ _ _ _ h=>by cases h
 ·rintro ⟨d,⟨⟩⟩ hw hn
  exact Hw d (hn _ List.mem_cons_self)
abbrev ET:Pat:=bX [.str,I]
def cb (b:Bool) (x y:ByteArray):ByteArray:=bif b then x else y
def Oo (d:Delivery) (src:ByteArray):Bool:=decide (d.Runs>0) ||((src.toList ==(ByteArray.mk #[]).toList)&&(d.Boundary==0&&d.Typ != 2))
def prA (d:Delivery):ByteArray:=xZ d.Typ++gQ d.Typ d.Source
def prB (d:Delivery):ByteArray:=cb (Oo d (gQ d.Typ d.Source)) (prA d++mV d.Runs) (prA d)
def prC (d:Delivery):ByteArray:=cb (d.Boundary==4) (prB d ++⟨#[70]⟩) (cb (d.Boundary==6) (prB d ++⟨#[83]⟩) (prB d))
def prD (d:Delivery):ByteArray:=cb (decide (d.Short>0)) (prC d ++(⟨#[45]⟩++mV d.Short)) (prC d)
def prE (d:Delivery):ByteArray:=cb d.Crossed (prD d ++⟨#[120]⟩) (prD d)
def prF (d:Delivery):ByteArray:=prE d++s8 d
def prG (d:Delivery):ByteArray:=cb (decide (d.Sector>0)) (prF d ++(⟨#[64]⟩++mV d.Sector)) (prF d)
def prS (d:Delivery):ByteArray:=if bZ d != 0 then ⟨#[]⟩ else prG d
def H6:Den (tyP qD)→List Prop×Den (tyP ET):=fun x=>([],(prS x.1,bZ x.1,()))
abbrev qTS:Pat:=bX [U8,U8]
abbrev qT:Pat:=bX [U8]
def Ok:Den (tyP qT)→List Prop×Den (tyP b9):=fun x=>([],(xZ x.1,()))
def Oe:Den (tyP qTS)→List Prop×Den (tyP b9):=fun x=>([],(gQ x.1 x.2.1,()))
theorem TW {n:Nm} {x:n.T} (h:wfD (.nm n) x):wfD n.flds (n.to x):=by
 obtain ⟨S,w,cs,h⟩:=h
 cases h with
 | nm h=>exact ⟨_,_,_,h⟩
theorem TV {k:IntKind} {n:Int} (h:wfD (.int k) n):Mir.ok k n:=by
 obtain ⟨S,w,cs,h⟩:=h
 cases h with
 | int h=>exact h
theorem OK {d:Delivery} (h:wfD (.nm .Delivery) d):0≤d.How:=by
 have h1:wfD (.prod (.int .u8) (.prod (.int .u8) (.prod I (.prod I (.prod I (.prod .bool (.prod (.int .u8) (.prod I (.prod I (.prod I (.prod .bool (.prod I .unit)))))))))))) (d.Typ,d.Source,d.Runs,d.Short,d.Boundary,d.Crossed,d.How,d.Victim,d.Fielder,d.Second,d.Sub,d.Sector,()):=TW h
 exact (TV (aU (aN (aN (aN (aN (aN (aN h1)))))))).1
theorem wa {d:Delivery} (h:bZ d=0) :(1≤d.Typ∧d.Typ≤3)∧d.Source≤3∧d.How≤10∧(0≤d.Fielder∧d.Fielder≤11)∧(0≤d.Second∧d.Second≤11):=by
 unfold bZ at h
 split at h
 ·cases h
 ·rename_i h1
  split at h
  ·cases h
  ·rename_i h2
   simp [inW] at h1 h2
   omega
theorem AP (t s:Int) :(gQ t s).size≤1:=by
 unfold gQ
 repeat' split
 all_goals exact Nat.le_of_ble_eq_true rfl
theorem AW (t:Int) :(xZ t).size≤1:=by
 unfold xZ
 repeat' split
 all_goals exact Nat.le_of_ble_eq_true rfl
theorem fc (n:Int) :(mV n).size≤4:=Ua _
theorem FX {d:Delivery} (h:J3 d) :(s8 d).size≤500:=by
 obtain ⟨⟨h0,h1⟩,hf,hs⟩:=h
 have one :∀ c:UInt8,(ByteArray.mk #[c]).size=1:=fun _=>rfl
 have zh :(L5 d.How).size≤11:=by
  have:lets.size=11:=rfl
  unfold L5;rw [ByteArray.size_extract];omega
 have zd:=fc d.Victim
 have zf:=vz hf
 have zs:=vz hs
 have z1 :(Iw d).size≤16:=by unfold Iw;rw [ByteArray.size_append,ByteArray.size_append,one];omega
 have z2 :(LD d).size≤217:=by unfold LD;rw [ByteArray.size_append,ByteArray.size_append,one];omega
 have z3 :(FW d).size≤418:=by
  unfold FW
  split
  ·rw [ByteArray.size_append,ByteArray.size_append,one];omega
  ·omega
 have z4 :(Ix d).size≤419:=by
  unfold Ix
  split
  ·rw [ByteArray.size_append,one];omega
  ·omega
 unfold s8
 split
 ·exact Nat.zero_le _
 ·split
  ·rw [ByteArray.size_append,one];omega
  ·omega
theorem fL {b:Bool} {x y:ByteArray} {n:Nat} (hx:x.size≤n) (hy:y.size≤n) :(cb b x y).size≤n:=by cases b <;> assumption
theorem Ld (d:Delivery) (hp:0≤d.How) :(evPat (al [kJ,DQ,uU,DR] Tryz.f87) (fun _=>none) Tryz.f87 qD ET (d,())).sat fun z_=>z_ =(H6 (d,())).2:=by
 refine cast (by kernel_rfl) (?_:let r1:Int:=IntKind.u8.wrap (d.1 - 1);let r2:Bool:=decide (d.4>0);let r3:Bool:=decide (d.12>0);let r4:ByteArray:=ByteArray.mk #[45]++mV d.4;let r5:ByteArray:=ByteArray.mk #[64]++mV d.12;let r6:List ByteArray:= [ByteArray.mk #[],ByteArray.mk #[119],ByteArray.mk #[110]];let r7:ByteArray:=r6.getD r1.toNat (dflt Ty.str);let r8:Bool:=cond (decide (d.3>0)) true (cond ((gQ d.1 d.2).toList ==(ByteArray.mk #[]).toList) (cond (d.5==0) (d.1 != 2) false) false);let r9:ByteArray:=r7++gQ d.1 d.2;let r10:ByteArray:=cond r8 (r9++mV d.3) r9;let r11:ByteArray:=cond (d.5==4) (r10++ByteArray.mk #[70]) (cond (d.5==6) (r10++ByteArray.mk #[83]) r10);let r12:ByteArray:=cond r2 (r11++r4) r11;let r13:ByteArray:=cond d.6 (r12++ByteArray.mk #[120]) r12;let r14:ByteArray:=r13++s8 d;((bZ d != 0)=true→(ByteArray.mk #[],bZ d,()) =(prS d,bZ d,()))∧((bZ d != 0)=false→(0≤r1∧r1 <(↑r6.length:Int))∧r7.size +(gQ d.1 d.2).size≤aJ∧((r8=true→r9.size +(mV d.3).size≤aJ∧True)∧(r8=false→True))∧(true=true→(((d.5==4)=true→r10.size +(ByteArray.mk #[70]).size≤aJ∧True)∧((d.5==4)=false→((d.5==6)=true→r10.size +(ByteArray.mk #[83]).size≤aJ∧True)∧((d.5==6)=false→True)))∧(true=true→((r2=true→(ByteArray.mk #[45]).size +(mV d.4).size≤aJ∧r11.size+r4.size≤aJ∧True)∧(r2=false→True))∧(true=true→((d.6=true→r12.size +(ByteArray.mk #[120]).size≤aJ∧True)∧(d.6=false→True))∧(true=true→J3 d∧r13.size +(s8 d).size≤aJ∧((r3=true→(ByteArray.mk #[64]).size +(mV d.12).size≤aJ∧r14.size+r5.size≤aJ∧True)∧(r3=false→True))∧(true=true→(cond r3 (r14++r5) r14,0,()) =(prS d,bZ d,()))))))))
 intro r1 r2 r3 r4 r5 r6 r7 r8 r9 r10 r11 r12 r13 r14
 clear_value (hr1:r1=_) (hr2:r2=_) (hr3:r3=_) (hr4:r4=_) (hr5:r5=_) (hr6:r6=_) (hr7:r7=_) (hr8:r8=_) (hr9:r9=_) (hr10:r10=_) (hr11:r11=_) (hr12:r12=_) (hr13:r13=_) (hr14:r14=_)
 refine ⟨fun h=>by unfold prS;rw [if_pos h],fun h=>?_⟩
 have hF:bZ d=0:=by simpa using h
 obtain ⟨⟨t1,t3⟩,s3,ho,⟨f0,f1⟩,k0,k1⟩:=wa hF
 have hD:J3 d:=⟨⟨hp,ho⟩,⟨f0,by omega⟩,⟨k0,by omega⟩⟩
 have e1:r1=d.Typ - 1:=by
  rw [hr1]
  simp only [IntKind.wrap,IntKind.bits,IntKind.signed]
  simp
  omega
 have e6:r6.length=3:=by rw [hr6];rfl
 have e7:r7=xZ d.Typ:=by
  rw [hr7,e1,hr6]
  rcases (by omega:d.Typ=1∨d.Typ=2∨d.Typ=3) with h|h|h <;> rw [h] <;> rfl
 have one :∀ c:UInt8,(ByteArray.mk #[c]).size=1:=fun _=>rfl
 have hL :(2000:Nat)≤aJ:=by decide
 have zt:=AW d.Typ
 have zs:=AP d.Typ d.Source
 have zr:=fc d.Runs
 have zh:=fc d.Short
 have zx:=fc d.Sector
 have zw:=FX hD
 have e9:r9=prA d:=by rw [hr9,e7];rfl
 have e8:r8=Oo d (gQ d.Typ d.Source):=by
  rw [hr8];unfold Oo
  cases decide (d.Runs>0) <;> cases (gQ d.Typ d.Source).toList ==(ByteArray.mk #[]).toList <;> cases d.Boundary==0 <;> rfl
 have e10:r10=prB d:=by rw [hr10,e8,e9];rfl
 have e11:r11=prC d:=by rw [hr11,e10];rfl
 have e12:r12=prD d:=by rw [hr12,e11,hr2,hr4];rfl
 have e13:r13=prE d:=by rw [hr13,e12];rfl
 have e14:r14=prF d:=by rw [hr14,e13];rfl
 have z4:r4.size≤5:=by rw [hr4,ByteArray.size_append,one];omega
 have z5:r5.size≤5:=by rw [hr5,ByteArray.size_append,one];omega
 have zA :(prA d).size≤2:=by unfold prA;rw [ByteArray.size_append];omega
 have zB :(prB d).size≤6:=fL (by rw [ByteArray.size_append];omega) (by omega)
 have zC :(prC d).size≤7:=fL (by rw [ByteArray.size_append,one];omega) (fL (by rw [ByteArray.size_append,one];omega) (by omega))
 have zD :(prD d).size≤12:=fL (by rw [ByteArray.size_append,ByteArray.size_append,one];omega) (by omega)
 have zE :(prE d).size≤13:=fL (by rw [ByteArray.size_append,one];omega) (by omega)
 have zF :(prF d).size≤513:=by unfold prF;rw [ByteArray.size_append];omega
 have eS:prS d=prG d:=by unfold prS;rw [hF];rfl
 rw [e7,e9,e10,e11,e12,e13,e14,eS,hF]
 refine ⟨⟨by omega,by omega⟩,by omega,⟨fun _=>⟨by omega,trivial⟩,fun _=>trivial⟩,fun _=>⟨⟨fun _=>⟨by rw [one];omega,trivial⟩,fun _=>⟨fun _=>⟨by rw [one];omega,trivial⟩,fun _=>trivial⟩⟩,fun _=>⟨⟨fun _=>⟨by rw [one];omega,by omega,trivial⟩,fun _=>trivial⟩,fun _=>⟨⟨fun _=>⟨by rw [one];omega,trivial⟩,fun _=>trivial⟩,fun _=>⟨hD,by omega,⟨fun _=>⟨by rw [one];omega,by omega,trivial⟩,fun _=>trivial⟩,fun _=>?_⟩⟩⟩⟩⟩
 rw [hr3,hr5];rfl
def re:FuncId×Ctr:=(87,ae KE qD ET H6)
theorem wY:CtrOK Tryz.prog KE 87 (ae KE qD ET H6):=by
 refine an (C:=al [kJ,DQ,uU,DR] Tryz.f87) (aj (.consU rG rfl (.consU Ku rfl (.consU En rfl (.consU Kv rfl .nil)))) _) mixed (fn:=Tryz.f87) Tryz.func87 (by kernel_rfl) (by kernel_rfl) (by kernel_rfl) (by kernel_rfl) (by kernel_rfl) (by kernel_rfl) (Λ:=fun _ _=>none) ?_ ?_
 ·exact fun _ _ _ _ _ _ _ _ h=>by cases h
 ·rintro ⟨d,⟨⟩⟩ hw hn
  exact Ld d (OK (aU hw))
theorem FH (t:Int) :(evPat (al [] Tryz.f157) (fun _=>none) Tryz.f157 qT b9 (t,())).sat fun z_=>z_ =(Ok (t,())).2:=by
 refine cast (by kernel_rfl) (?_ :((t==2)=true→(ByteArray.mk #[119],()) =(xZ t,()))∧((t==2)=false→((t==3)=true→(ByteArray.mk #[110],()) =(xZ t,()))∧((t==3)=false→(ByteArray.mk #[],()) =(xZ t,()))))
 unfold xZ
 cases h2:t==2 <;> cases h3:t==3 <;> simp [h2,h3]
def zO:FuncId×Ctr:=(157,ae KE qT b9 Ok)
theorem GT:CtrOK Tryz.prog KE 157 (ae KE qT b9 Ok):=by
 refine an (C:=al [] Tryz.f157) (aj (CtrsOK.nil) _) mixed (fn:=Tryz.f157) Tryz.func157 (by kernel_rfl) (by kernel_rfl) (by kernel_rfl) (by kernel_rfl) (by kernel_rfl) (by kernel_rfl) (Λ:=fun _ _=>none) ?_ ?_
 ·exact fun _ _ _ _ _ _ _ _ h=>by cases h
 ·rintro ⟨t,⟨⟩⟩ hw hn
  exact FH t
theorem yH (t:Int) (s:Int) :(evPat (al [] Tryz.f156) (fun _=>none) Tryz.f156 qTS b9 (t,s,())).sat fun z_=>z_ =(Oe (t,s,())).2:=by
 refine cast (by kernel_rfl) (?_:let r1:Bool:=cond (t==2) (s==1) false;let r2:Bool:=cond (t != 2) (s==0) false;((s==2)=true→(ByteArray.mk #[98],()) =(gQ t s,()))∧((s==2)=false→((s==3)=true→(ByteArray.mk #[108],()) =(gQ t s,()))∧((s==3)=false→(r1=true→(ByteArray.mk #[111],()) =(gQ t s,()))∧(r1=false→(r2=true→(ByteArray.mk #[46],()) =(gQ t s,()))∧(r2=false→(ByteArray.mk #[],()) =(gQ t s,()))))))
 intro r1 r2
 clear_value (hr1:r1=_) (hr2:r2=_)
 unfold gQ
 cases h0:s==0 <;> cases h1:s==1 <;> cases h2:s==2 <;> cases h3:s==3 <;> cases ht:t==2 <;> simp_all [bne]
def tJ:FuncId×Ctr:=(156,ae KE qTS b9 Oe)
theorem BS:CtrOK Tryz.prog KE 156 (ae KE qTS b9 Oe):=by
 refine an (C:=al [] Tryz.f156) (aj (CtrsOK.nil) _) mixed (fn:=Tryz.f156) Tryz.func156 (by kernel_rfl) (by kernel_rfl) (by kernel_rfl) (by kernel_rfl) (by kernel_rfl) (by kernel_rfl) (Λ:=fun _ _=>none) ?_ ?_
 ·exact fun _ _ _ _ _ _ _ _ h=>by cases h
 ·rintro ⟨t,s,⟨⟩⟩ hw hn
  exact yH t s
end
section
open Go Go.Mir
def qA (p:Delivered):Row:={ Innings:=p.Innings,Over:=p.Over,Ball:=p.Ball,Bowler:=p.Bowler,Striker:=p.Striker,Partner:=p.Partner,Symbol:=prS p.Delivery,Total:=p.Runs,Wickets:=p.Wickets }
def wrF:List Delivered→List Row→Sum (Int×Unit) (List Row×Unit)
 | [],o=> .inr (o,())
 | p::l,o=>if bZ p.Delivery != 0 then .inl (bZ p.Delivery,()) else wrF l (o++[qA p])
def Vw (x:Sum (Int×Unit) (List Row×Unit)):List Row×Int:=match x with | .inl z=>([],z.1) | .inr y=>(y.1,0)
def ga (r:Rules) (l:List Mir.Event):List Row×Int:=if bW r l != 0 then ([],bW r l) else Vw (wrF (aF r l).1 [])
def fZ (r:Rules) (l:List Mir.Event):List Row×Int:=if bW r l != 0 then ([],bW r l) else ((aF r l).1.map qA,0)
theorem Aw :∀ (l:List Mir.Event) (m:Match) (i:Int) (o:List Delivered),(o.length:Int)≤i→i≤4000→(dP m l i o).1.length≤4000
 | [],_,i,o,h,h1=>by show o.length≤4000;omega
 | e::l,m,i,o,h,h1=>by
  unfold dP
  cases hc:kz m i e != 0 with
  | true=>rw [if_pos rfl];show o.length≤4000;omega
  | false=>
   rw [if_neg Bool.false_ne_true]
   have:=(Gn hc).1
   refine Aw l _ _ _ ?_ (by omega)
   unfold x5
   split
   ·rw [List.length_append,List.length_singleton];omega
   ·omega
theorem Ar (r:Rules) (l:List Mir.Event) :(aF r l).1.length≤4000:=by
 unfold aF
 split
 ·exact Nat.zero_le _
 ·exact Aw l _ _ _ (Int.le_refl _) (by decide)
theorem OT {e:Mir.Event} (h:bB e=0) (hk:e.Kind=4):bZ e.Ball=0:=by
 have hb:mJ e.Kind=true:=by rw [hk];rfl
 unfold bB at h
 split at h
 ·exact absurd h (by decide)
 ·split at h
  ·exact absurd h (by decide)
  ·split at h
   ·exact absurd h (by decide)
   ·first|exact h |(rw [if_pos hb] at h;exact h)
theorem Av :∀ (l:List Mir.Event) (m:Match) (i:Int) (o:List Delivered),(∀ p∈o,bZ p.Delivery=0)→∀ p∈(dP m l i o).1,bZ p.Delivery=0
 | [],_,_,_,h=>h
 | e::l,m,i,o,h=>by
  unfold dP
  cases hc:kz m i e != 0 with
  | true=>rw [if_pos rfl];exact h
  | false=>
   rw [if_neg Bool.false_ne_true]
   refine Av l _ _ _ ?_
   unfold x5
   split
   ·rename_i hk
    have hs:=(Gn hc).2
    intro p hp
    rcases List.mem_append.1 hp with hp|hp
    ·exact h p hp
    ·rw [List.mem_singleton.1 hp]
     exact OT (qG hs).2.1 (by simpa using hk)
   ·exact h
theorem xg (r:Rules) (l:List Mir.Event) :∀ p∈(aF r l).1,bZ p.Delivery=0:=by
 unfold aF
 split
 ·intro p hp;cases hp
 ·exact Av l _ _ _ fun p hp=>by cases hp
theorem C2 :∀ (l:List Delivered) (o:List Row),(∀ p∈l,bZ p.Delivery=0)→wrF l o = .inr (o++l.map qA,())
 | [],o,_=>by show Sum.inr (o,())=_;rw [List.map_nil,List.append_nil]
 | p::l,o,h=>by
  have hp:=h p List.mem_cons_self
  unfold wrF
  rw [hp]
  show wrF l (o++[qA p])=_
  rw [C2 l _ fun q hq=>h q (List.mem_cons_of_mem _ hq),List.map_cons,List.append_assoc]
  rfl
theorem FY (r:Rules) (l:List Mir.Event):ga r l=fZ r l:=by
 unfold ga fZ
 rw [C2 _ _ (xg r l)]
 rfl
end
section
open Go Go.Mir
attribute [local irreducible] Go.Mir.DT.sat Go.Mir.evPat Go.Mir.RT.sat Go.Mir.evFn
def Iv (w:Int):Prop:=w=1
def Ck:Den (tyP qIb)→List Prop×Den (tyP b9):=fun x=>([fu x.1,Iv x.2.1],(dy x.1,()))
abbrev qPd:Pat:=⟨[(1,.h I),(5,.h .str),(6,.h (.int .u64)),(7,.h .str),(8,.h .str)],[],0⟩
abbrev xPd:List (Lf×Pat):= [(.ext 0,⟨[(5,.h .str),(8,.h .str)],[],0⟩)]
abbrev TPd:Type:=Int×ByteArray×Int×ByteArray×ByteArray×Unit
def dgs10:ByteArray:=⟨#[48,49,50,51,52,53,54,55,56,57]⟩
def dg1 (n:Int):ByteArray:=dgs10.extract n.toNat (n+1).toNat
def ux (u:Int) (s:ByteArray):ByteArray:=if decide (u≥10) then dg1 (u / 10) ++(dg1 (u % 10)++s) else if decide (u>0)||decide ((s.size:Int)<1) then dg1 u++s else s
def y5 (x:TPd):Prop:=x.1=1∧(0≤x.2.2.1∧x.2.2.1<100)∧x.2.2.2.1=dgs10∧(x.2.2.2.2.1.size:Int)+x.2.2.1≤200
def MJ (x:TPd):Nat:=x.2.2.1.toNat +(if x.2.2.2.2.1.size=0 then 1 else 0)
def ub (x:TPd):ByteArray×ByteArray×Unit:=(x.2.1,ux x.2.2.1 x.2.2.2.2.1,())
def xD:Den (tyP qD)→List Prop×Den (tyP ET):=fun x=>([],(prS x.1,bZ x.1,()))
theorem oz {a b:ByteArray} (h:a.data.toList=b.data.toList):a=b:=ByteArray.ext (Array.toList_inj.1 h)
theorem J1 (a:ByteArray):ByteArray.mk #[]++a=a:=oz (by simp [ByteArray.data_append])
theorem JO (a:ByteArray):a++ByteArray.mk #[]=a:=oz (by simp [ByteArray.data_append])
theorem uJ {n:Int} (h0:0≤n) (h1:n≤9):mV n=dy n:=by
 have key :((List.range 10).all fun k=>(mV (k:Int)).data.toList ==(dy (k:Int)).data.toList)=true:=by kernel_rfl
 have:=List.all_eq_true.1 key n.toNat (List.mem_range.2 (by omega))
 rw [show ((n.toNat:Nat):Int)=n from by omega] at this
 exact oz (eq_of_beq this)
theorem PK {n:Int} (h:fu n):ux n ⟨#[]⟩=dy n:=by
 have key :((List.range 100).all fun k=>(ux (k:Int) ⟨#[]⟩).data.toList ==(dy (k:Int)).data.toList)=true:=by kernel_rfl
 have:=List.all_eq_true.1 key n.toNat (List.mem_range.2 (by have:=h.1;have:=h.2;omega))
 rw [show ((n.toNat:Nat):Int)=n from by have:=h.1;omega] at this
 exact oz (eq_of_beq this)
theorem LS {n:Int} (h0:0≤n) (h1:n≤9) :(dg1 n).size=1:=by
 have:dgs10.size=10:=rfl
 unfold dg1;rw [ByteArray.size_extract];omega
theorem OM {n:Int} (h0:0≤n) (h1:n<18446744073709551616):IntKind.u64.wrap n=n:=by
 simp only [IntKind.wrap,IntKind.bits,IntKind.signed]
 simp
 omega
theorem J4 {d:Delivery} (h:bZ d=0) :(0≤d.Runs∧d.Runs≤7)∧(0≤d.Short∧d.Short≤7)∧(0≤d.Victim∧d.Victim≤2)∧(0≤d.Sector∧d.Sector≤8):=by
 unfold bZ at h
 split at h
 ·cases h
 ·rename_i h1
  split at h
  ·cases h
  ·rename_i h2
   simp [inW] at h1 h2
   omega
noncomputable def lpPd:Lp:=(⟨0,al [] Tryz.f121,(fun _=>none),(az Tryz.f121 0),qPd,xPd⟩:Lp)
theorem TF (w:Int) (sg:ByteArray) (u:Int) (dg:ByteArray) (s:ByteArray) (hi:y5 (w,sg,u,dg,s,())) :(Go.Mir.stepG lpPd ub (fun y:Den (tyP lpPd.q)=>y5 y∧MJ y<MJ (w,sg,u,dg,s,())) (w,sg,u,dg,s,())∧Go.Mir.stepE lpPd ub (w,sg,u,dg,s,())=ub (w,sg,u,dg,s,())):=by
 refine cast (by kernel_rfl) (?_:let r1:Int:=IntKind.u64.wrap (u.tmod (10:Int)+1);let r2:Int:=if 20<w then 20 else w;let r3:ByteArray:=dg.extract (u.tmod 10).toNat r1.toNat;let r4:Int:=if r2>1 then r2 else 1;let r5:Bool:=cond (decide (u>0)) true (decide ((↑s.size:Int)<r4));((r5=true→(10:Int)≠0∧(10:Int)≠0∧(0≤u.tmod 10∧u.tmod 10≤r1∧r1≤(↑dg.size:Int))∧r3.size+s.size≤aJ∧(10:Int)≠0∧y5 (w,sg,IntKind.u64.wrap (u.tdiv 10),dg,r3++s,())∧MJ (w,sg,IntKind.u64.wrap (u.tdiv 10),dg,r3++s,())<MJ (w,sg,u,dg,s,()))∧(r5=false→True))∧(cond r5 (ub (w,sg,IntKind.u64.wrap (u.tdiv 10),dg,r3++s,())) (sg,s,()))=ub (w,sg,u,dg,s,()))
 intro r1 r2 r3 r4 r5
 clear_value (hr1:r1=_) (hr2:r2=_) (hr3:r3=_) (hr4:r4=_) (hr5:r5=_)
 obtain ⟨h1,⟨h2,h3⟩,h4,h5⟩:=hi
 have h1:w=1:=h1
 have h2:0≤u:=h2
 have h3:u<100:=h3
 have h4:dg=dgs10:=h4
 have h5 :(s.size:Int)+u≤200:=h5
 have et:u.tmod 10=u % 10:=Int.tmod_eq_emod_of_nonneg h2
 have ed:u.tdiv 10=u / 10:=Int.tdiv_eq_ediv_of_nonneg h2
 rw [ed]
 rw [et] at hr1 hr3 ⊢
 have e1:r1=u % 10+1:=by rw [hr1];exact OM (by omega) (by omega)
 have e2:r2=1:=by rw [hr2,h1];rfl
 have e4:r4=1:=by rw [hr4,e2];rfl
 have e3:r3=dg1 (u % 10):=by rw [hr3,e1,h4];rfl
 have z3:=LS (n:=u % 10) (by omega) (by omega)
 have zs :(r3++s).size=1+s.size:=by rw [ByteArray.size_append,e3,z3]
 have eW:IntKind.u64.wrap (u / 10)=u / 10:=OM (by omega) (by omega)
 have hL :(500:Nat)≤aJ:=by decide
 have e5:r5 =(decide (u>0)||decide ((s.size:Int)<1)):=by rw [hr5,e4];cases decide (u>0) <;> rfl
 have hc:r5=true→u>0∨(s.size:Int)<1:=fun h=>by rw [e5] at h;simpa using h
 have z10 :(dgs10.size:Int)=10:=rfl
 rw [eW]
 refine ⟨⟨fun h=>⟨by decide,by decide,⟨by omega,by omega,by rw [h4];omega⟩,by rw [e3,z3];omega,by decide,⟨h1,⟨by show 0≤u / 10;omega,by show u / 10<100;omega⟩,h4,?_⟩,?_⟩,fun _=>trivial⟩,?_⟩
 ·show ((r3++s).size:Int)+u / 10≤200
  rw [zs]
  rcases hc h with h|h <;> omega
 ·show (u / 10).toNat +(if (r3++s).size=0 then 1 else 0)<u.toNat +(if s.size=0 then 1 else 0)
  rw [zs,if_neg (by omega)]
  rcases hc h with h|h
  ·omega
  ·rw [if_pos (by omega)];omega
 ·cases hb:r5 with
  | true=>
   have hc:=hc hb
   show (sg,ux (u / 10) (r3++s),()) =(sg,ux u s,())
   have:ux (u / 10) (r3++s)=ux u s:=by
    unfold ux
    by_cases h10:u≥10
    ·rw [decide_eq_true h10,decide_eq_false (show ¬ u / 10≥10 by omega),decide_eq_true (show u / 10>0 by omega),e3]
     simp
    ·have hu:u / 10=0:=by omega
     have hm:u % 10=u:=by omega
     rw [e5] at hb
     rw [decide_eq_false h10,hu,decide_eq_false (show ¬(0:Int)≥10 by decide),hb,decide_eq_false (show ¬(0:Int)>0 by decide),decide_eq_false (show ¬((r3++s).size:Int)<1 by rw [zs];omega),e3,hm]
     simp
   rw [this]
  | false=>
   rw [e5] at hb
   have hb':=hb
   simp only [Bool.or_eq_false_iff,decide_eq_false_iff_not] at hb'
   show (sg,s,()) =(sg,ux u s,())
   have:ux u s=s:=by
    unfold ux
    rw [decide_eq_false (show ¬ u≥10 by omega),hb]
    simp
   rw [this]
noncomputable def RG:LoopSum:=aM lpPd ub y5
noncomputable def Rg:Nat:=rid (az Tryz.f121 0)
theorem Sw:LoopOKp Tryz.prog 0 Tryz.f121.ntmps (az Tryz.f121 0) (aM lpPd ub y5):=
 bk lpPd (aj (CtrsOK.nil) _) mixed (fun b hb S hS=>by cases hS) ub y5 MJ (fun |⟨w,sg,u,dg,s,⟨⟩⟩,hi=>TF w sg u dg s hi)
theorem FG (n:Int) (w:Int) (hk:fu n) (hw1:Iv w) :(evPat (al [] Tryz.f121) (find [(Rg,RG)]) Tryz.f121 qIb b9 (n,w,())).sat fun z_=>z_ =(Ck (n,w,())).2:=by
 refine cast (by kernel_rfl) (?_:let r1:Bool:=decide (n<0);let r2:ByteArray:=cond r1 (ByteArray.mk #[45]) (ByteArray.mk #[]);let r3:Int:=cond r1 (IntKind.u64.wrap (0 - IntKind.u64.wrap n)) (IntKind.u64.wrap n);let r4:ByteArray:=ux r3 (ByteArray.mk #[]);((cZ fun x=>none)∧w=1∧(0≤r3∧r3<100)∧ByteArray.mk #[48,49,50,51,52,53,54,55,56,57]=dgs10∧(↑(ByteArray.mk #[]).size:Int)+r3≤200)∧r2.size+r4.size≤aJ∧(r2++r4,()) =(dy n,()))
 intro r1 r2 r3 r4
 clear_value (hr1:r1=_) (hr2:r2=_) (hr3:r3=_) (hr4:r4=_)
 obtain ⟨k0,k1⟩:=hk
 have e1:r1=false:=by rw [hr1];exact decide_eq_false (by omega)
 have e2:r2=ByteArray.mk #[]:=by rw [hr2,e1];rfl
 have e3:r3=n:=by rw [hr3,e1];exact OM k0 (by omega)
 have e4:r4=dy n:=by rw [hr4,e3];exact PK ⟨k0,k1⟩
 have z:=vz ⟨k0,k1⟩
 have hL :(500:Nat)≤aJ:=by decide
 rw [e2,e3,e4,J1]
 exact ⟨⟨rfl,hw1,⟨k0,k1⟩,rfl,by show (0:Int)+n≤200;omega⟩,by show 0+_≤_;omega,rfl⟩
def zN:FuncId×Ctr:=(121,ae KE qIb b9 Ck)
theorem GS:CtrOK Tryz.prog KE 121 (ae KE qIb b9 Ck):=by
 refine an (C:=al [] Tryz.f121) (aj (CtrsOK.nil) _) mixed (fn:=Tryz.f121) Tryz.func121 (by kernel_rfl) (by kernel_rfl) (by kernel_rfl) (by kernel_rfl) (by kernel_rfl) (by kernel_rfl) (Λ:=fun x=>find [(Rg,RG)]) ?_ ?_
 ·rintro ⟨n,w,⟨⟩⟩ hw hn
  exact LoopsOKp.at (by kernel_rfl) (.cons (by kernel_rfl) (Sw) .nil)
 ·rintro ⟨n,w,⟨⟩⟩ hw hn
  exact FG n w (hn _ List.mem_cons_self) (hn _ (List.mem_cons_of_mem _ List.mem_cons_self))
theorem Cd (n:Int) (hk:fu n) :(evPat (al [zN] Tryz.f71) (fun _=>none) Tryz.f71 nP b9 (n,())).sat fun z_=>z_ =(iZ (n,())).2:=by
 refine cast (by kernel_rfl) (?_:fu n∧Iv 1∧(dy n,()) =(dy n,()))
 exact ⟨hk,rfl,rfl⟩
def wC:FuncId×Ctr:=(71,ae KE nP b9 iZ)
theorem Ey:CtrOK Tryz.prog KE 71 (ae KE nP b9 iZ):=by
 refine an (C:=al [zN] Tryz.f71) (aj (.consU GS rfl .nil) _) mixed (fn:=Tryz.f71) Tryz.func71 (by kernel_rfl) (by kernel_rfl) (by kernel_rfl) (by kernel_rfl) (by kernel_rfl) (by kernel_rfl) (Λ:=fun _ _=>none) ?_ ?_
 ·exact fun _ _ _ _ _ _ _ _ h=>by cases h
 ·rintro ⟨n,⟨⟩⟩ hw hn
  exact Cd n (hn _ List.mem_cons_self)
theorem NY (n:Int) (hk:fu n) :(evPat (al [wC] Tryz.f158) (fun _=>none) Tryz.f158 nP b9 (n,())).sat fun z_=>z_ =(iZ (n,())).2:=by
 refine cast (by kernel_rfl) (?_:fu n∧(dy n,()) =(dy n,()))
 exact ⟨hk,rfl⟩
def Mz:FuncId×Ctr:=(158,ae KE nP b9 iZ)
theorem PH:CtrOK Tryz.prog KE 158 (ae KE nP b9 iZ):=by
 refine an (C:=al [wC] Tryz.f158) (aj (.consU Ey rfl .nil) _) mixed (fn:=Tryz.f158) Tryz.func158 (by kernel_rfl) (by kernel_rfl) (by kernel_rfl) (by kernel_rfl) (by kernel_rfl) (by kernel_rfl) (Λ:=fun _ _=>none) ?_ ?_
 ·exact fun _ _ _ _ _ _ _ _ h=>by cases h
 ·rintro ⟨n,⟨⟩⟩ hw hn
  exact NY n (hn _ List.mem_cons_self)
theorem HL (d:Delivery) (hp:0≤d.How) :(evPat (al [rk,zO,tJ,Mz] Tryz.f89) (fun _=>none) Tryz.f89 qD ET (d,())).sat fun z_=>z_ =(xD (d,())).2:=by
 refine cast (by kernel_rfl) (?_:let r1:ByteArray:=xZ d.1++gQ d.1 d.2;let r2:Int:=IntKind.u8.wrap (d.7+1);let r3:Bool:=decide (d.4>0);let r4:Bool:=decide (d.12>0);let r5:ByteArray:=ByteArray.mk #[45]++dy d.4;let r6:ByteArray:=ByteArray.mk #[40]++dy d.9;let r7:ByteArray:=ByteArray.mk #[44]++dy d.10;let r8:ByteArray:=ByteArray.mk #[64]++dy d.12;let r9:Bool:=cond (d.9 != 0) true (cond (d.10 != 0) true d.11);let r10:Bool:=cond (d.7 != 0) true (cond (d.8 != 0) true r9);let r11:Bool:=cond (decide (d.3>0)) true (cond ((gQ d.1 d.2).toList ==(ByteArray.mk #[]).toList) (cond (d.5==0) (d.1 != 2) false) false);let r12:ByteArray:=ByteArray.mk #[78,66,67,76,83,72,82,84,79,77,81];let r13:ByteArray:=r12.extract d.7.toNat r2.toNat;let r14:ByteArray:=cond r11 (r1++dy d.3) r1;let r15:ByteArray:=ByteArray.mk #[47]++r13;let r16:ByteArray:=r15++dy d.8;let r17:ByteArray:=cond (d.5==4) (r14++ByteArray.mk #[70]) (cond (d.5==6) (r14++ByteArray.mk #[83]) r14);let r18:ByteArray:=cond r3 (r17++r5) r17;let r19:ByteArray:=cond d.6 (r18++ByteArray.mk #[120]) r18;let r20:ByteArray:=r19++r16;let r21:ByteArray:=r20++r6;let r22:ByteArray:=cond (d.10 != 0) (r21++r7) r21;let r23:ByteArray:=cond d.11 (r22++ByteArray.mk #[115]) r22;let r24:ByteArray:=cond r10 (cond r9 (r23++ByteArray.mk #[41]) r20) r19;((bZ d != 0)=true→(ByteArray.mk #[],bZ d,()) =(prS d,bZ d,()))∧((bZ d != 0)=false→(xZ d.1).size +(gQ d.1 d.2).size≤aJ∧((r11=true→fu d.3∧r1.size +(dy d.3).size≤aJ∧True)∧(r11=false→True))∧(true=true→(((d.5==4)=true→r14.size +(ByteArray.mk #[70]).size≤aJ∧True)∧((d.5==4)=false→((d.5==6)=true→r14.size +(ByteArray.mk #[83]).size≤aJ∧True)∧((d.5==6)=false→True)))∧(true=true→((r3=true→fu d.4∧(ByteArray.mk #[45]).size +(dy d.4).size≤aJ∧r17.size+r5.size≤aJ∧True)∧(r3=false→True))∧(true=true→((d.6=true→r18.size +(ByteArray.mk #[120]).size≤aJ∧True)∧(d.6=false→True))∧(true=true→((r10=true→(0≤d.7∧d.7≤r2∧r2≤(↑r12.size:Int))∧(ByteArray.mk #[47]).size+r13.size≤aJ∧fu d.8∧r15.size +(dy d.8).size≤aJ∧r19.size+r16.size≤aJ∧(r9=true→fu d.9∧(ByteArray.mk #[40]).size +(dy d.9).size≤aJ∧r20.size+r6.size≤aJ∧(((d.10 != 0)=true→fu d.10∧(ByteArray.mk #[44]).size +(dy d.10).size≤aJ∧r21.size+r7.size≤aJ∧True)∧((d.10 != 0)=false→True))∧(true=true→((d.11=true→r22.size +(ByteArray.mk #[115]).size≤aJ∧True)∧(d.11=false→True))∧(true=true→r23.size +(ByteArray.mk #[41]).size≤aJ∧True)))∧(r9=false→True))∧(r10=false→True))∧((cond r10 (cond r9 (true&&true) true) true)=true→((r4=true→fu d.12∧(ByteArray.mk #[64]).size +(dy d.12).size≤aJ∧r24.size+r8.size≤aJ∧True)∧(r4=false→True))∧(true=true→(cond r4 (r24++r8) r24,0,()) =(prS d,bZ d,())))))))))
 intro r1 r2 r3 r4 r5 r6 r7 r8 r9 r10 r11 r12 r13 r14 r15 r16 r17 r18 r19 r20 r21 r22 r23 r24
 clear_value (hr1:r1=_) (hr2:r2=_) (hr3:r3=_) (hr4:r4=_) (hr5:r5=_) (hr6:r6=_) (hr7:r7=_) (hr8:r8=_) (hr9:r9=_) (hr10:r10=_) (hr11:r11=_) (hr12:r12=_) (hr13:r13=_) (hr14:r14=_) (hr15:r15=_) (hr16:r16=_) (hr17:r17=_) (hr18:r18=_) (hr19:r19=_) (hr20:r20=_) (hr21:r21=_) (hr22:r22=_) (hr23:r23=_) (hr24:r24=_)
 refine ⟨fun h=>by unfold prS;rw [if_pos h],fun h=>?_⟩
 have hF:bZ d=0:=by simpa using h
 obtain ⟨⟨t1,t3⟩,s3,ho,⟨f0,f1⟩,k0,k1⟩:=wa hF
 obtain ⟨⟨a0,a1⟩,⟨b0,b1⟩,⟨c0,c1⟩,g0,g1⟩:=J4 hF
 have nR:fu d.Runs:=⟨a0,by omega⟩
 have nS:fu d.Short:=⟨b0,by omega⟩
 have nV:fu d.Victim:=⟨c0,by omega⟩
 have nX:fu d.Sector:=⟨g0,by omega⟩
 have nF:fu d.Fielder:=⟨f0,by omega⟩
 have nG:fu d.Second:=⟨k0,by omega⟩
 have hD:J3 d:=⟨⟨hp,ho⟩,nF,nG⟩
 have e2:r2=d.How+1:=by
  rw [hr2]
  simp only [IntKind.wrap,IntKind.bits,IntKind.signed]
  simp
  omega
 have eR:=uJ a0 (by omega)
 have eSh:=uJ b0 (by omega)
 have eV:=uJ c0 (by omega)
 have eX:=uJ g0 (by omega)
 rw [←eR] at hr14
 rw [←eSh] at hr5
 rw [←eV] at hr16
 rw [←eX] at hr8
 have one :∀ c:UInt8,(ByteArray.mk #[c]).size=1:=fun _=>rfl
 have hL :(5000:Nat)≤aJ:=by decide
 have zt:=AW d.Typ
 have zs:=AP d.Typ d.Source
 have zr:=vz nR
 have zh:=vz nS
 have zv:=vz nV
 have zx:=vz nX
 have zf:=vz nF
 have zg:=vz nG
 have zw:=FX hD
 have z12:r12.size=11:=by rw [hr12];rfl
 have e1:r1=prA d:=hr1
 have e11:r11=Oo d (gQ d.Typ d.Source):=by
  rw [hr11];unfold Oo
  cases decide (d.Runs>0) <;> cases (gQ d.Typ d.Source).toList ==(ByteArray.mk #[]).toList <;> cases d.Boundary==0 <;> rfl
 have e14:r14=prB d:=by rw [hr14,e11,e1];rfl
 have e17:r17=prC d:=by rw [hr17,e14];rfl
 have e18:r18=prD d:=by rw [hr18,e17,hr3,hr5];rfl
 have e19:r19=prE d:=by rw [hr19,e18];rfl
 have e13:r13=L5 d.How:=by rw [hr13,e2,hr12];rfl
 have e16:r16=Iw d:=by rw [hr16,hr15,e13];rfl
 have e9:r9=ug d:=by rw [hr9];unfold ug;cases d.Fielder != 0 <;> cases d.Second != 0 <;> rfl
 have e20:r20=prE d++Iw d:=by rw [hr20,e19,e16]
 have e21:r21=prE d++LD d:=by rw [hr21,e20,hr6,ByteArray.append_assoc];rfl
 have e22:r22=prE d++FW d:=by
  rw [hr22,e21,hr7];unfold FW
  cases d.Second != 0
  ·rfl
  ·exact ByteArray.append_assoc
 have e23:r23=prE d++Ix d:=by
  rw [hr23,e22];unfold Ix
  cases d.Sub
  ·rfl
  ·exact ByteArray.append_assoc
 have e10:r10=!(d.How==0&&(d.Victim==0&&!ug d)):=by rw [hr10,e9];cases hh:d.How==0 <;> cases hv:d.Victim==0 <;> simp [bne,hh,hv]
 have e24:r24=prF d:=by
  rw [hr24,e10,e9,e19,e20,e23]
  unfold prF s8
  cases d.How==0&&(d.Victim==0&&!ug d)
  ·cases ug d
   ·rfl
   ·exact ByteArray.append_assoc
  ·exact (JO _).symm
 have z5:r5.size≤5:=by rw [hr5,ByteArray.size_append,one];have:=fc d.Short;omega
 have z8:r8.size≤5:=by rw [hr8,ByteArray.size_append,one];have:=fc d.Sector;omega
 have z6:r6.size≤201:=by rw [hr6,ByteArray.size_append,one];omega
 have z7:r7.size≤201:=by rw [hr7,ByteArray.size_append,one];omega
 have zA :(prA d).size≤2:=by unfold prA;rw [ByteArray.size_append];omega
 have zB :(prB d).size≤6:=fL (by rw [ByteArray.size_append];have:=fc d.Runs;omega) (by omega)
 have zC :(prC d).size≤7:=fL (by rw [ByteArray.size_append,one];omega) (fL (by rw [ByteArray.size_append,one];omega) (by omega))
 have zD :(prD d).size≤12:=fL (by rw [ByteArray.size_append,ByteArray.size_append,one];have:=fc d.Short;omega) (by omega)
 have zE :(prE d).size≤13:=fL (by rw [ByteArray.size_append,one];omega) (by omega)
 have zF :(prF d).size≤513:=by unfold prF;rw [ByteArray.size_append];omega
 have z13:r13.size≤11:=by rw [hr13,ByteArray.size_extract];omega
 have z15:r15.size≤12:=by rw [hr15,ByteArray.size_append,one];omega
 have z16:r16.size≤16:=by rw [hr16,ByteArray.size_append];have:=fc d.Victim;omega
 have z20:r20.size≤29:=by rw [hr20,ByteArray.size_append,e19];omega
 have z21:r21.size≤230:=by rw [hr21,ByteArray.size_append];omega
 have z22:r22.size≤431:=by
  rw [hr22]
  exact fL (b:=d.Second != 0) (by rw [ByteArray.size_append];omega) (by omega)
 have z23:r23.size≤432:=by
  rw [hr23]
  exact fL (b:=d.Sub) (by rw [ByteArray.size_append,one];omega) (by omega)
 have eS:prS d=prG d:=by unfold prS;rw [hF];rfl
 rw [e1,e14,e17,e18,e19,e24,eS,hF]
 refine ⟨by omega,⟨fun _=>⟨nR,by omega,trivial⟩,fun _=>trivial⟩,fun _=>⟨⟨fun _=>⟨by rw [one];omega,trivial⟩,fun _=>⟨fun _=>⟨by rw [one];omega,trivial⟩,fun _=>trivial⟩⟩,fun _=>⟨⟨fun _=>⟨nS,by rw [one];omega,by omega,trivial⟩,fun _=>trivial⟩,fun _=>⟨⟨fun _=>⟨by rw [one];omega,trivial⟩,fun _=>trivial⟩,fun _=>⟨⟨fun _=>⟨⟨hp,by omega,by omega⟩,by rw [one];omega,nV,by omega,by omega,fun _=>⟨nF,by rw [one];omega,by omega,⟨fun _=>⟨nG,by rw [one];omega,by omega,trivial⟩,fun _=>trivial⟩,fun _=>⟨⟨fun _=>⟨by rw [one];omega,trivial⟩,fun _=>trivial⟩,fun _=>⟨by rw [one];omega,trivial⟩⟩⟩,fun _=>trivial⟩,fun _=>trivial⟩,fun _=>⟨⟨fun _=>⟨nX,by rw [one];omega,by omega,trivial⟩,fun _=>trivial⟩,fun _=>?_⟩⟩⟩⟩⟩⟩
 rw [hr4,hr8];rfl
def wD:FuncId×Ctr:=(89,ae KE qD ET xD)
theorem Ag:CtrOK Tryz.prog KE 89 (ae KE qD ET xD):=by
 refine an (C:=al [rk,zO,tJ,Mz] Tryz.f89) (aj (.consU Af rfl (.consU GT rfl (.consU BS rfl (.consU PH rfl .nil)))) _) mixed (fn:=Tryz.f89) Tryz.func89 (by kernel_rfl) (by kernel_rfl) (by kernel_rfl) (by kernel_rfl) (by kernel_rfl) (by kernel_rfl) (Λ:=fun _ _=>none) ?_ ?_
 ·exact fun _ _ _ _ _ _ _ _ h=>by cases h
 ·rintro ⟨d,⟨⟩⟩ hw hn
  exact HL d (OK (aU hw))
abbrev Rwl:Ty:= .slice (.nm .Row)
abbrev P4:Pat:=⟨[(0,.c (.osl 0 1)),(1,.h I)],[(0,.row 1 (.nm .Row))],2⟩
abbrev P5:Pat:=bX [Rwl,I]
def Ih:Den (tyP qRL)→List Prop×Den (tyP P4):=fun x=>([],((ga x.1 x.2.1).2,(ga x.1 x.2.1).1,()))
def Ct:Den (tyP qRL)→List Prop×Den (tyP P5):=fun x=>([],((fZ x.1 x.2.1).1,(fZ x.1 x.2.1).2,()))
abbrev OX:List (Nat×PB):= [(0,.row 1 (.nm .Row))]
abbrev qWr:Pat:=⟨[(11,.c (.osl 0 1)),(30,.h RU),(31,.h I),(32,.h I)],OX,2⟩
abbrev qWs:Pat:=⟨[(11,.c (.osl 0 1)),(31,.h RU),(32,.h I),(33,.h I)],OX,2⟩
abbrev xWr:List (Lf×Pat):= [(.ret,⟨[(4,.c .nilsl),(5,.h I)],[],0⟩),(.ext 0,⟨[(11,.c (.osl 0 1))],OX,2⟩)]
abbrev xWs:List (Lf×Pat):= [(.ext 0,⟨[(11,.c (.osl 0 1))],OX,2⟩)]
abbrev TWr:Type:=List Delivered×Int×Int×List Row×Unit
def mP (x:TWr):Prop:=(x.2.1 =(x.1.length:Int)∧0≤x.2.2.1∧x.2.2.1≤x.2.1∧x.1.length≤4000)∧(x.2.2.2.1.length:Int)≤x.2.2.1
def uq (x:TWr):Nat:=(x.2.1 - x.2.2.1).toNat
def kV (x:TWr):Sum (Int×Unit) (List Row×Unit):=wrF (x.1.drop x.2.2.1.toNat) x.2.2.2.1
def pN (x:TWr):List Row×Unit:=(x.2.2.2.1 ++(x.1.drop x.2.2.1.toNat).map qA,())
noncomputable def lpWr:Lp:=(⟨0,al [re] Tryz.f30,(fun _=>none),(az Tryz.f30 0),qWr,xWr⟩:Lp)
theorem TQ (xs:List Delivered) (n:Int) (i:Int) (o:List Row) (hi:mP (xs,n,i,o,())) :(Go.Mir.stepG lpWr kV (fun y:Den (tyP lpWr.q)=>mP y∧uq y<uq (xs,n,i,o,())) (xs,n,i,o,())∧Go.Mir.stepE lpWr kV (xs,n,i,o,())=kV (xs,n,i,o,())):=by
 refine cast (by kernel_rfl) (?_:let r1:Bool:=bZ (xs.getD i.toNat (dflt (Ty.nm Nm.Delivered))).9 != 0;let r2:List Row:= [Row.mk (xs.getD i.toNat (dflt (Ty.nm Nm.Delivered))).2 (xs.getD i.toNat (dflt (Ty.nm Nm.Delivered))).3 (xs.getD i.toNat (dflt (Ty.nm Nm.Delivered))).4 (xs.getD i.toNat (dflt (Ty.nm Nm.Delivered))).5 (xs.getD i.toNat (dflt (Ty.nm Nm.Delivered))).6 (xs.getD i.toNat (dflt (Ty.nm Nm.Delivered))).7 (prS (xs.getD i.toNat (dflt (Ty.nm Nm.Delivered))).9) (xs.getD i.toNat (dflt (Ty.nm Nm.Delivered))).11 (xs.getD i.toNat (dflt (Ty.nm Nm.Delivered))).12];((decide (i<n)=true→(0≤i∧i <(↑xs.length:Int))∧(r1=true→True)∧(r1=false→(o.length+r2.length) *(80:Nat)≤(70368744177664:Nat)∧mP (xs,n,IntKind.i64.wrap (i+1),o++r2,())∧uq (xs,n,IntKind.i64.wrap (i+1),o++r2,())<uq (xs,n,i,o,())))∧(decide (i<n)=false→True))∧(cond (decide (i<n)) (cond r1 (Sum.inl (bZ (xs.getD i.toNat (dflt (Ty.nm Nm.Delivered))).9,())) (kV (xs,n,IntKind.i64.wrap (i+1),o++r2,()))) (Sum.inr (o,())))=kV (xs,n,i,o,()))
 intro r1 r2
 clear_value (hr1:r1=_) (hr2:r2=_)
 obtain ⟨⟨h1,h2,h3,h4⟩,h5⟩:=hi
 simp only at h1 h2 h3 h4 h5
 by_cases h:i<n
 ·have e:xs.drop i.toNat=xs.getD i.toNat (dflt (Ty.nm Nm.Delivered))::xs.drop (i+1).toNat:=b8 h2 (by omega) _
  have ew:IntKind.i64.wrap (i+1)=i+1:=bc (by omega) (by omega)
  rw [decide_eq_true h,ew,cond_true]
  generalize xs.getD i.toNat (dflt (Ty.nm Nm.Delivered))=v at *
  have e2:r2=[qA v]:=by rw [hr2];rfl
  have hl1:r2.length=1:=by rw [e2];rfl
  have hl :(o++r2).length=o.length+1:=by rw [List.length_append,hl1]
  refine ⟨⟨fun _=>⟨⟨h2,by omega⟩,fun _=>trivial,fun _=>⟨by omega,⟨⟨h1,by simp only;omega,by simp only;omega,h4⟩,by simp only;omega⟩,by simp only [uq];omega⟩⟩,fun z=>Bool.noConfusion z⟩,?_⟩
  simp only [kV]
  rw [e,e2,hr1]
  show _=if bZ v.Delivery != 0 then _ else _
  cases bZ v.Delivery != 0 <;> rfl
 ·rw [decide_eq_false h,cond_false]
  refine ⟨⟨fun z=>Bool.noConfusion z,fun _=>trivial⟩,?_⟩
  simp only [kV]
  rw [bJ (l:=xs) (by omega)]
  rfl
noncomputable def RO:LoopSum:=aM lpWr kV mP
noncomputable def Rp:Nat:=rid (az Tryz.f30 0)
theorem SF:LoopOKp Tryz.prog 0 Tryz.f30.ntmps (az Tryz.f30 0) (aM lpWr kV mP):=
 bk lpWr (aj (.consU wY rfl .nil) _) mixed (fun b hb S hS=>by cases hS) kV mP uq (fun |⟨xs,n,i,o,⟨⟩⟩,hi=>TQ xs n i o hi)
theorem Ht (r:Rules) (l:List Mir.Event) :(evPat (al [I4,Bw,re] Tryz.f30) (find [(Rp,RO)]) Tryz.f30 qRL P4 (r,l,())).sat fun z_=>z_ =(Ih (r,l,())).2:=by
 refine cast (by kernel_rfl) (?_:let r1:Bool:=isL (kV ((aF r l).1,(↑(aF r l).1.length:Int),0,[],()));((bW r l != 0)=true→(bW r l,[],()) =((ga r l).2,(ga r l).1,()))∧((bW r l != 0)=false→((cZ fun x=>none)∧((↑(aF r l).1.length:Int) =(↑(aF r l).1.length:Int)∧(0:Int)≤0∧0≤(↑(aF r l).1.length:Int)∧(aF r l).1.length≤(4000:Nat))∧(↑(0:Nat):Int)≤0)∧(r1=true→((jm (dflt (I.prod Ty.unit)) (kV ((aF r l).1,(↑(aF r l).1.length:Int),0,[],()))).1,[],()) =((ga r l).2,(ga r l).1,()))∧(r1=false→(0,si (dflt ((Ty.nm Nm.Row).slice.prod Ty.unit)) (kV ((aF r l).1,(↑(aF r l).1.length:Int),0,[],()))) =((ga r l).2,(ga r l).1,()))))
 intro r1
 clear_value (hr1:r1=_)
 have hl:=Ar r l
 have er:kV ((aF r l).1,((aF r l).1.length:Int),0,[],()) = .inr ((aF r l).1.map qA,()):=by
  show wrF (aF r l).1 []=_
  rw [C2 _ _ (xg r l)];rfl
 rw [er] at hr1 ⊢
 refine ⟨fun h=>?_,fun h=>⟨⟨rfl,⟨rfl,Int.le_refl _,by omega,hl⟩,Int.le_refl _⟩,fun a=>?_,fun a=>?_⟩⟩
 ·have:ga r l =([],bW r l):=by unfold ga;rw [h];rfl
  rw [this]
 ·rw [hr1] at a;cases a
 ·have:ga r l =((aF r l).1.map qA,0):=by rw [FY];unfold fZ;rw [h];rfl
  rw [this];rfl
def rb:FuncId×Ctr:=(30,ae KE qRL P4 Ih)
theorem Ab:CtrOK Tryz.prog KE 30 (ae KE qRL P4 Ih):=by
 refine an (C:=al [I4,Bw,re] Tryz.f30) (aj (.consU MY rfl (.consU Js rfl (.consU wY rfl .nil))) _) mixed (fn:=Tryz.f30) Tryz.func30 (by kernel_rfl) (by kernel_rfl) (by kernel_rfl) (by kernel_rfl) (by kernel_rfl) (by kernel_rfl) (Λ:=fun x=>find [(Rp,RO)]) ?_ ?_
 ·rintro ⟨r,l,⟨⟩⟩ hw hn
  exact LoopsOKp.at (by kernel_rfl) (.cons (by kernel_rfl) (SF) .nil)
 ·rintro ⟨r,l,⟨⟩⟩ hw hn
  exact Ht r l
noncomputable def lpWs:Lp:=(⟨0,al [wD] Tryz.f31,(fun _=>none),(az Tryz.f31 0),qWs,xWs⟩:Lp)
theorem TR (xs:List Delivered) (n:Int) (i:Int) (o:List Row) (hi:mP (xs,n,i,o,())) :(Go.Mir.stepG lpWs pN (fun y:Den (tyP lpWs.q)=>mP y∧uq y<uq (xs,n,i,o,())) (xs,n,i,o,())∧Go.Mir.stepE lpWs pN (xs,n,i,o,())=pN (xs,n,i,o,())):=by
 refine cast (by kernel_rfl) (?_:let r1:List Row:= [Row.mk (xs.getD i.toNat (dflt (Ty.nm Nm.Delivered))).2 (xs.getD i.toNat (dflt (Ty.nm Nm.Delivered))).3 (xs.getD i.toNat (dflt (Ty.nm Nm.Delivered))).4 (xs.getD i.toNat (dflt (Ty.nm Nm.Delivered))).5 (xs.getD i.toNat (dflt (Ty.nm Nm.Delivered))).6 (xs.getD i.toNat (dflt (Ty.nm Nm.Delivered))).7 (prS (xs.getD i.toNat (dflt (Ty.nm Nm.Delivered))).9) (xs.getD i.toNat (dflt (Ty.nm Nm.Delivered))).11 (xs.getD i.toNat (dflt (Ty.nm Nm.Delivered))).12];((decide (i<n)=true→(0≤i∧i <(↑xs.length:Int))∧(o.length+r1.length) *(80:Nat)≤(70368744177664:Nat)∧mP (xs,n,IntKind.i64.wrap (i+1),o++r1,())∧uq (xs,n,IntKind.i64.wrap (i+1),o++r1,())<uq (xs,n,i,o,()))∧(decide (i<n)=false→True))∧(cond (decide (i<n)) (pN (xs,n,IntKind.i64.wrap (i+1),o++r1,())) (o,()))=pN (xs,n,i,o,()))
 intro r1
 clear_value (hr1:r1=_)
 obtain ⟨⟨h1,h2,h3,h4⟩,h5⟩:=hi
 simp only at h1 h2 h3 h4 h5
 by_cases h:i<n
 ·have e:xs.drop i.toNat=xs.getD i.toNat (dflt (Ty.nm Nm.Delivered))::xs.drop (i+1).toNat:=b8 h2 (by omega) _
  have ew:IntKind.i64.wrap (i+1)=i+1:=bc (by omega) (by omega)
  rw [decide_eq_true h,ew,cond_true]
  generalize xs.getD i.toNat (dflt (Ty.nm Nm.Delivered))=v at *
  have e2:r1=[qA v]:=by rw [hr1];rfl
  have hl1:r1.length=1:=by rw [e2];rfl
  have hl :(o++r1).length=o.length+1:=by rw [List.length_append,hl1]
  refine ⟨⟨fun _=>⟨⟨h2,by omega⟩,by omega,⟨⟨h1,by simp only;omega,by simp only;omega,h4⟩,by simp only;omega⟩,by simp only [uq];omega⟩,fun z=>Bool.noConfusion z⟩,?_⟩
  simp only [pN]
  rw [e,e2,List.map_cons,List.append_assoc]
  rfl
 ·rw [decide_eq_false h,cond_false]
  refine ⟨⟨fun z=>Bool.noConfusion z,fun _=>trivial⟩,?_⟩
  simp only [pN]
  rw [bJ (l:=xs) (by omega)]
  simp
noncomputable def RP:LoopSum:=aM lpWs pN mP
noncomputable def Rq:Nat:=rid (az Tryz.f31 0)
theorem SG:LoopOKp Tryz.prog 0 Tryz.f31.ntmps (az Tryz.f31 0) (aM lpWs pN mP):=
 bk lpWs (aj (.consU Ag rfl .nil) _) mixed (fun b hb S hS=>by cases hS) pN mP uq (fun |⟨xs,n,i,o,⟨⟩⟩,hi=>TR xs n i o hi)
theorem FF (r:Rules) (l:List Mir.Event) :(evPat (al [zL,D0,wD] Tryz.f31) (find [(Rq,RP)]) Tryz.f31 qRL P5 (r,l,())).sat fun z_=>z_ =(Ct (r,l,())).2:=by
 refine cast (by kernel_rfl) (?_ :((bW r l != 0)=true→([],bW r l,()) =((fZ r l).1,(fZ r l).2,()))∧((bW r l != 0)=false→((cZ fun x=>none)∧((↑(aF r l).1.length:Int) =(↑(aF r l).1.length:Int)∧(0:Int)≤0∧0≤(↑(aF r l).1.length:Int)∧(aF r l).1.length≤(4000:Nat))∧(↑(0:Nat):Int)≤0)∧([]++List.map qA (List.drop (Int.toNat 0) (aF r l).1),0,()) =((fZ r l).1,(fZ r l).2,())))
 refine ⟨fun h=>?_,fun h=>⟨⟨rfl,⟨rfl,Int.le_refl _,by omega,Ar r l⟩,Int.le_refl _⟩,?_⟩⟩
 ·have:fZ r l =([],bW r l):=by unfold fZ;rw [h];rfl
  rw [this]
 ·have:fZ r l =((aF r l).1.map qA,0):=by unfold fZ;rw [h];rfl
  rw [this];rfl
def zM:FuncId×Ctr:=(31,ae KE qRL P5 Ct)
theorem GR:CtrOK Tryz.prog KE 31 (ae KE qRL P5 Ct):=by
 refine an (C:=al [zL,D0,wD] Tryz.f31) (aj (.consU GQ rfl (.consU KF rfl (.consU Ag rfl .nil))) _) mixed (fn:=Tryz.f31) Tryz.func31 (by kernel_rfl) (by kernel_rfl) (by kernel_rfl) (by kernel_rfl) (by kernel_rfl) (by kernel_rfl) (Λ:=fun x=>find [(Rq,RP)]) ?_ ?_
 ·rintro ⟨r,l,⟨⟩⟩ hw hn
  exact LoopsOKp.at (by kernel_rfl) (.cons (by kernel_rfl) (SG) .nil)
 ·rintro ⟨r,l,⟨⟩⟩ hw hn
  exact FF r l
def hd (s:ByteArray):Int:=((s.data.getD 0 0).toNat:Int)
def emp (s:ByteArray):Bool:=s.toList ==(ByteArray.mk #[]).toList
def tl (s:ByteArray):ByteArray:=s.extract 1 s.size
def tkB (s:ByteArray) (c:Int):Bool:=!emp s&&hd s==c
def tkR (s:ByteArray) (c:Int):ByteArray:=if tkB s c then tl s else s
def lz (s:ByteArray):Bool:=!emp s&&(decide (hd s≥48)&&decide (hd s≤57))
def dgV (s:ByteArray):Int:=if lz s then hd s - 48 else 0
def dgR (s:ByteArray):ByteArray:=if lz s then tl s else s
def nmV (s:ByteArray):Int:=if lz (dgR s) then 10*dgV s+dgV (dgR s) else dgV s
def nmR (s:ByteArray):ByteArray:=if lz (dgR s) then dgR (dgR s) else dgR s
def soV (t:Int) (s:ByteArray):Int:=if tkB s 98 then 2 else if tkB s 108 then 3 else if t==2&&tkB s 111 then 1 else if t==2 then 0 else if tkB s 46 then 0 else 1
def soR (t:Int) (s:ByteArray):ByteArray:=if tkB s 98 then tl s else if tkB s 108 then tl s else if t==2&&tkB s 111 then tl s else if t==2 then s else tkR s 46
abbrev L7:List (Nat×PB):= [(0,.cells [.h .str])]
abbrev qTk:Pat:=⟨[(0,.c (.ptr 0 0)),(1,.h U8)],L7,1⟩
abbrev P2:Pat:=⟨[(0,.h .bool)],L7,1⟩
abbrev qRd:Pat:=⟨[(0,.c (.ptr 0 0))],L7,1⟩
abbrev ua:Pat:=⟨[(0,.h I)],L7,1⟩
abbrev JB:Pat:=⟨[(0,.h U8)],L7,1⟩
def Ic:Den (tyP qTk)→List Prop×Den (tyP P2):=fun x=>([],(tkB x.2.1 x.1,tkR x.2.1 x.1,()))
def H7:Den (tyP qRd)→List Prop×Den (tyP ua):=fun x=>([],(dgV x.1,dgR x.1,()))
def H8:Den (tyP qRd)→List Prop×Den (tyP ua):=fun x=>([],(nmV x.1,nmR x.1,()))
def H9:Den (tyP qTk)→List Prop×Den (tyP JB):=fun x=>([],(soV x.1 x.2.1,soR x.1 x.2.1,()))
theorem qL {s:ByteArray} (h:emp s=false):1≤s.size:=by
 rcases Nat.eq_zero_or_pos s.size with hz|hz
 ·have hl:s.data.toList =(ByteArray.mk #[]).data.toList:=by
   have:s.data.toList.length=0:=by simpa using hz
   rw [List.eq_nil_of_length_eq_zero this]
  have:emp s=true:=bytes_eq_iff.2 hl
  rw [h] at this;cases this
 ·exact hz
theorem L4 (s:ByteArray):0≤hd s∧hd s≤255:=by
 unfold hd
 have:=(s.data.getD 0 0).toNat_lt
 omega
theorem TS {s:ByteArray} {c:Int} (h:emp s=true):tkB s c=false:=by unfold tkB;rw [h];rfl
theorem mG {s:ByteArray} {c:Int} (h:tkB s c=false):tkR s c=s:=by unfold tkR;rw [h];rfl
theorem iw {s:ByteArray} {c:Int} (h:tkB s c=true):tkR s c=tl s:=by unfold tkR;rw [h];rfl
theorem Le (c:Int) (s:ByteArray) :(evPat (al [] Tryz.f116) (fun _=>none) Tryz.f116 qTk P2 (c,s,())).sat fun z_=>z_ =(Ic (c,s,())).2:=by
 refine cast (by kernel_rfl) (?_:let r1:Bool:=s.toList ==(ByteArray.mk #[]).toList;let r2:Bool:=cond r1 true ((↑(s.1.getD (Int.toNat 0) (0:UInt8)).toNat:Int) != c);((r1=true→True)∧(r1=false→((0:Int)≤0∧0 <(↑s.size:Int))∧True))∧(true=true→(r2=true→(false,s,()) =(tkB s c,tkR s c,()))∧(r2=false→((0:Int)≤1∧1≤(↑s.size:Int)∧(↑s.size:Int)≤(↑s.size:Int))∧(true,s.extract (Int.toNat 1) (↑s.size:Int).toNat,()) =(tkB s c,tkR s c,()))))
 intro r1 r2
 clear_value (hr1:r1=_) (hr2:r2=_)
 have e1:r1=emp s:=hr1
 have e2:r2=!tkB s c:=by rw [hr2,e1];unfold tkB;show (bif emp s then true else hd s != c)=_;cases emp s <;> simp [bne]
 have hz:r1=false→1≤s.size:=fun h=>qL (by rw [←e1];exact h)
 refine ⟨⟨fun _=>trivial,fun h=>⟨⟨Int.le_refl _,by have:=hz h;omega⟩,trivial⟩⟩,fun _=>⟨fun h=>?_,fun h=>?_⟩⟩
 ·have hb:tkB s c=false:=by rw [e2] at h;simpa using h
  rw [hb,mG hb]
 ·have hb:tkB s c=true:=by rw [e2] at h;simpa using h
  have h1:r1=false:=by rw [e1];cases he:emp s with|false=>rfl|true=>rw [TS he] at hb;cases hb
  have:=hz h1
  rw [hb,iw hb]
  exact ⟨⟨by decide,by omega,Int.le_refl _⟩,rfl⟩
def oO:FuncId×Ctr:=(116,ae KE qTk P2 Ic)
theorem wZ:CtrOK Tryz.prog KE 116 (ae KE qTk P2 Ic):=by
 refine an (C:=al [] Tryz.f116) (aj (CtrsOK.nil) _) mixed (fn:=Tryz.f116) Tryz.func116 (by kernel_rfl) (by kernel_rfl) (by kernel_rfl) (by kernel_rfl) (by kernel_rfl) (by kernel_rfl) (Λ:=fun _ _=>none) ?_ ?_
 ·exact fun _ _ _ _ _ _ _ _ h=>by cases h
 ·rintro ⟨c,s,⟨⟩⟩ hw hn
  exact Le c s
theorem Hx (s:ByteArray) :(evPat (al [] Tryz.f118) (fun _=>none) Tryz.f118 qRd ua (s,())).sat fun z_=>z_ =(H7 (s,())).2:=by
 refine cast (by kernel_rfl) (?_:let r1:Bool:=s.toList ==(ByteArray.mk #[]).toList;let r2:Int:=(↑(s.1.getD (Int.toNat 0) (0:UInt8)).toNat:Int);let r3:Bool:=decide (r2<48);let r4:Bool:=cond r1 true (cond r3 true (decide (r2>57)));((r1=true→True)∧(r1=false→((0:Int)≤0∧0 <(↑s.size:Int))∧(r3=true→True)∧(r3=false→((0:Int)≤0∧0 <(↑s.size:Int))∧True)))∧(true=true→(r4=true→(0,s,()) =(dgV s,dgR s,()))∧(r4=false→((0:Int)≤0∧0 <(↑s.size:Int))∧((0:Int)≤1∧1≤(↑s.size:Int)∧(↑s.size:Int)≤(↑s.size:Int))∧(IntKind.i64.wrap (IntKind.u8.wrap (r2 - 48)),s.extract (Int.toNat 1) (↑s.size:Int).toNat,()) =(dgV s,dgR s,()))))
 intro r1 r2 r3 r4
 clear_value (hr1:r1=_) (hr2:r2=_) (hr3:r3=_) (hr4:r4=_)
 have e1:r1=emp s:=hr1
 have e2:r2=hd s:=hr2
 have hr:=L4 s
 have e4:r4=!lz s:=by
  rw [hr4,hr3,e1,e2];unfold lz
  by_cases h1:hd s<48
  ·rw [decide_eq_true h1,decide_eq_false (show ¬ hd s≥48 by omega)];cases emp s <;> rfl
  ·rw [decide_eq_false h1,decide_eq_true (show hd s≥48 by omega)]
   by_cases h2:hd s≤57
   ·rw [decide_eq_true h2,decide_eq_false (show ¬ hd s>57 by omega)];cases emp s <;> rfl
   ·rw [decide_eq_false h2,decide_eq_true (show hd s>57 by omega)];cases emp s <;> rfl
 have hz:r1=false→1≤s.size:=fun h=>qL (by rw [←e1];exact h)
 refine ⟨⟨fun _=>trivial,fun h=>⟨⟨Int.le_refl _,by have:=hz h;omega⟩,fun _=>trivial,fun _=>⟨⟨Int.le_refl _,by have:=hz h;omega⟩,trivial⟩⟩⟩,fun _=>⟨fun h=>?_,fun h=>?_⟩⟩
 ·have hb:lz s=false:=by rw [e4] at h;simpa using h
  unfold dgV dgR;rw [hb];rfl
 ·have hb:lz s=true:=by rw [e4] at h;simpa using h
  have hb':=hb
  unfold lz at hb'
  simp only [Bool.and_eq_true,Bool.not_eq_true',decide_eq_true_eq] at hb'
  have h1:r1=false:=by rw [e1];exact hb'.1
  have:=hz h1
  have ew:IntKind.i64.wrap (IntKind.u8.wrap (r2 - 48))=hd s - 48:=by
   rw [e2]
   have:IntKind.u8.wrap (hd s - 48)=hd s - 48:=by
    simp only [IntKind.wrap,IntKind.bits,IntKind.signed]
    simp
    omega
   rw [this]
   exact bc (by omega) (by omega)
  rw [ew]
  refine ⟨⟨Int.le_refl _,by omega⟩,⟨by decide,by omega,Int.le_refl _⟩,?_⟩
  unfold dgV dgR;rw [hb];rfl
def lC:FuncId×Ctr:=(118,ae KE qRd ua H7)
theorem sG:CtrOK Tryz.prog KE 118 (ae KE qRd ua H7):=by
 refine an (C:=al [] Tryz.f118) (aj (CtrsOK.nil) _) mixed (fn:=Tryz.f118) Tryz.func118 (by kernel_rfl) (by kernel_rfl) (by kernel_rfl) (by kernel_rfl) (by kernel_rfl) (by kernel_rfl) (Λ:=fun _ _=>none) ?_ ?_
 ·exact fun _ _ _ _ _ _ _ _ h=>by cases h
 ·rintro ⟨s,⟨⟩⟩ hw hn
  exact Hx s
theorem Fm (s:ByteArray) :(evPat (al [lC] Tryz.f175) (fun _=>none) Tryz.f175 qRd ua (s,())).sat fun z_=>z_ =(H8 (s,())).2:=by
 refine cast (by kernel_rfl) (?_:let r1:Bool:=!(dgR s).toList ==(ByteArray.mk #[]).toList;let r2:Int:=(↑((dgR s).1.getD (Int.toNat 0) (0:UInt8)).toNat:Int);let r3:Bool:=decide (r2≥48);let r4:Bool:=cond r1 (cond r3 (decide (r2≤57)) false) false;(((r1=true→((0:Int)≤0∧0 <(↑(dgR s).size:Int))∧(r3=true→((0:Int)≤0∧0 <(↑(dgR s).size:Int))∧True)∧(r3=false→True))∧(r1=false→True))∧(true=true→(r4=true→True)∧(r4=false→True)))∧(true=true→(cond r4 (IntKind.i64.wrap (IntKind.i64.wrap (10*dgV s)+dgV (dgR s))) (dgV s),cond r4 (dgR (dgR s)) (dgR s),()) =(nmV s,nmR s,())))
 intro r1 r2 r3 r4
 clear_value (hr1:r1=_) (hr2:r2=_) (hr3:r3=_) (hr4:r4=_)
 have e1:r1=!emp (dgR s):=hr1
 have e2:r2=hd (dgR s):=hr2
 have hz:r1=true→1≤(dgR s).size:=fun h=>qL (by rw [e1] at h;simpa using h)
 have e4:r4=lz (dgR s):=by
  rw [hr4,hr3,e1,e2];unfold lz
  cases emp (dgR s) <;> cases decide (hd (dgR s)≥48) <;> rfl
 have hv :∀ z:ByteArray,0≤dgV z∧dgV z≤9:=fun z=>by
  unfold dgV
  split
  ·rename_i h
   unfold lz at h
   simp only [Bool.and_eq_true,Bool.not_eq_true',decide_eq_true_eq] at h
   omega
  ·omega
 have a:=hv s
 have b:=hv (dgR s)
 have ew:IntKind.i64.wrap (IntKind.i64.wrap (10*dgV s)+dgV (dgR s))=10*dgV s+dgV (dgR s):=by
  rw [show IntKind.i64.wrap (10*dgV s)=10*dgV s from bc (by omega) (by omega)]
  exact bc (by omega) (by omega)
 refine ⟨⟨⟨fun h=>⟨⟨Int.le_refl _,by have:=hz h;omega⟩,fun _=>⟨⟨Int.le_refl _,by have:=hz h;omega⟩,trivial⟩,fun _=>trivial⟩,fun _=>trivial⟩,fun _=>⟨fun _=>trivial,fun _=>trivial⟩⟩,fun _=>?_⟩
 rw [ew,e4]
 unfold nmV nmR
 cases lz (dgR s) <;> rfl
def zy:FuncId×Ctr:=(175,ae KE qRd ua H8)
theorem GI:CtrOK Tryz.prog KE 175 (ae KE qRd ua H8):=by
 refine an (C:=al [lC] Tryz.f175) (aj (.consU sG rfl .nil) _) mixed (fn:=Tryz.f175) Tryz.func175 (by kernel_rfl) (by kernel_rfl) (by kernel_rfl) (by kernel_rfl) (by kernel_rfl) (by kernel_rfl) (Λ:=fun _ _=>none) ?_ ?_
 ·exact fun _ _ _ _ _ _ _ _ h=>by cases h
 ·rintro ⟨s,⟨⟩⟩ hw hn
  exact Fm s
theorem Fo (t:Int) (s:ByteArray) :(evPat (al [oO] Tryz.f117) (fun _=>none) Tryz.f117 qTk JB (t,s,())).sat fun z_=>z_ =(H9 (t,s,())).2:=by
 refine cast (by kernel_rfl) (?_:let r1:Bool:=cond (t==2) (tkB (tkR (tkR s 98) 108) 111) false;let r2:ByteArray:=cond (t==2) (tkR (tkR (tkR s 98) 108) 111) (tkR (tkR s 98) 108);let r3:Bool:=tkB r2 46;(tkB s 98=true→(2,tkR s 98,()) =(soV t s,soR t s,()))∧(tkB s 98=false→(tkB (tkR s 98) 108=true→(3,tkR (tkR s 98) 108,()) =(soV t s,soR t s,()))∧(tkB (tkR s 98) 108=false→(r1=true→(1,r2,()) =(soV t s,soR t s,()))∧(r1=false→((t==2)=true→(0,r2,()) =(soV t s,soR t s,()))∧((t==2)=false→(r3=true→(0,tkR r2 46,()) =(soV t s,soR t s,()))∧(r3=false→(1,tkR r2 46,()) =(soV t s,soR t s,())))))))
 intro r1 r2 r3
 clear_value (hr1:r1=_) (hr2:r2=_) (hr3:r3=_)
 unfold soV soR
 cases hb:tkB s 98 with
 | true=>exact ⟨fun _=>(by rw [iw hb];rfl),fun h=>(by cases h)⟩
 | false=>
  rw [mG hb] at hr1 hr2 ⊢
  refine ⟨fun h=>(by cases h),fun _=>?_⟩
  cases hl:tkB s 108 with
  | true=>exact ⟨fun _=>(by rw [iw hl];rfl),fun h=>(by cases h)⟩
  | false=>
   rw [mG hl] at hr1 hr2 ⊢
   refine ⟨fun h=>(by cases h),fun _=>?_⟩
   cases ht:t==2 with
   | false=>
    rw [ht] at hr1 hr2
    have e1:r1=false:=hr1
    have e2:r2=s:=hr2
    rw [e1,hr3,e2]
    refine ⟨fun h=>(by cases h),fun _=>⟨fun h=>(by cases h),fun _=>⟨fun h=>?_,fun h=>?_⟩⟩⟩
    ·rw [h];rfl
    ·rw [h];rfl
   | true=>
    rw [ht] at hr1 hr2
    have e1:r1=tkB s 111:=hr1
    have e2:r2=tkR s 111:=hr2
    rw [e1,e2]
    refine ⟨fun h=>?_,fun h=>⟨fun _=>?_,fun h=>(by cases h)⟩⟩
    ·rw [h,iw h];rfl
    ·rw [h,mG h];rfl
def zz:FuncId×Ctr:=(117,ae KE qTk JB H9)
theorem GJ:CtrOK Tryz.prog KE 117 (ae KE qTk JB H9):=by
 refine an (C:=al [oO] Tryz.f117) (aj (.consU wZ rfl .nil) _) mixed (fn:=Tryz.f117) Tryz.func117 (by kernel_rfl) (by kernel_rfl) (by kernel_rfl) (by kernel_rfl) (by kernel_rfl) (by kernel_rfl) (Λ:=fun _ _=>none) ?_ ?_
 ·exact fun _ _ _ _ _ _ _ _ h=>by cases h
 ·rintro ⟨t,s,⟨⟩⟩ hw hn
  exact Fo t s
abbrev Uh:List (Nat×PB):= [(0,.cells [.h .str]),(1,.dat (.nm .Delivery))]
abbrev qWk:Pat:=⟨[(0,.c (.ptr 0 0)),(1,.c (.ptr 1 0))],Uh,2⟩
abbrev P3:Pat:=⟨[],Uh,2⟩
def mxI (x:Int):Int:=if (0:Int)>x then 0 else x
def hwV (s:ByteArray):Int:=IntKind.u8.wrap (mxI (ixW lets (hd s)))
def wk1 (s:ByteArray):ByteArray:=tkR s 47
def OL (s:ByteArray):Bool:=tkB s 47&&!emp (wk1 s)
def wk2 (s:ByteArray):ByteArray:=tl (wk1 s)
def wk3 (s:ByteArray):ByteArray:=dgR (wk2 s)
def wk4 (s:ByteArray):ByteArray:=tkR (wk3 s) 40
def wk5 (s:ByteArray):ByteArray:=nmR (wk4 s)
def wk6 (s:ByteArray):ByteArray:=if tkB (wk5 s) 44 then nmR (tl (wk5 s)) else wk5 s
def wk7 (s:ByteArray):ByteArray:=tkR (wk6 s) 115
def Vv (d:Delivery) (s:ByteArray):Delivery:={ d with How:=hwV (wk1 s),Victim:=dgV (wk2 s) }
def V6 (d:Delivery) (s:ByteArray):Delivery:={ Vv d s with Fielder:=nmV (wk4 s),Second:=if tkB (wk5 s) 44 then nmV (tl (wk5 s)) else d.Second,Sub:=tkB (wk6 s) 115 }
def wkD (d:Delivery) (s:ByteArray):Delivery:=if !OL s then d else if !tkB (wk3 s) 40 then Vv d s else V6 d s
def wkR (s:ByteArray):ByteArray:=if !OL s then wk1 s else if !tkB (wk3 s) 40 then wk3 s else tkR (wk7 s) 41
def Ia:Den (tyP qWk)→List Prop×Den (tyP P3):=fun x=>([],(wkR x.1,wkD x.2.1 x.1,()))
abbrev Qg:Pat:=bX [.str]
abbrev P0:Pat:=bX [.nm .Delivery,I]
def paT (s:ByteArray):Int:=if tkB s 119 then 2 else if tkB s 110 then 3 else 1
def pa1 (s:ByteArray):ByteArray:=if tkB s 119 then tl s else tkR s 110
def pa2 (s:ByteArray):ByteArray:=soR (paT s) (pa1 s)
def pa3 (s:ByteArray):ByteArray:=dgR (pa2 s)
def pa4 (s:ByteArray):ByteArray:=if tkB (pa3 s) 70 then tl (pa3 s) else tkR (pa3 s) 83
def pa5 (s:ByteArray):ByteArray:=if tkB (pa4 s) 45 then dgR (tl (pa4 s)) else pa4 s
def pa6 (s:ByteArray):ByteArray:=tkR (pa5 s) 120
def paD (s:ByteArray):Delivery:={ Typ:=paT s,Source:=soV (paT s) (pa1 s),Runs:=dgV (pa2 s),Short:=if tkB (pa4 s) 45 then dgV (tl (pa4 s)) else 0,Boundary:=if tkB (pa3 s) 70 then 4 else if tkB (pa3 s) 83 then 6 else 0,Crossed:=tkB (pa5 s) 120,How:=0,Victim:=0,Fielder:=0,Second:=0,Sub:=false,Sector:=0 }
def paW (s:ByteArray):Delivery:=wkD (paD s) (pa6 s)
def pa7 (s:ByteArray):ByteArray:=wkR (pa6 s)
def KH (s:ByteArray):Delivery:={ paW s with Sector:=if tkB (pa7 s) 64 then dgV (tl (pa7 s)) else (paW s).Sector }
def Jx (s:ByteArray):Bool:=bZ (KH s) != 0||!((prS (KH s)).toList==s.toList)
def kB (s:ByteArray):Delivery:=if Jx s then Delivery.zero else KH s
def BV (s:ByteArray):Int:=if Jx s then 4 else 0
def HZ:Den (tyP Qg)→List Prop×Den (tyP P0):=fun x=>([],(kB x.1,BV x.1,()))
theorem Fp (s:ByteArray) (d:Delivery) :(evPat (al [oO,lC,zy,l8] Tryz.f119) (fun _=>none) Tryz.f119 qWk P3 (s,d,())).sat fun z_=>z_ =(Ia (s,d,())).2:=by
 refine cast (by kernel_rfl) (?_:let r1:ByteArray:=cond (!tkB s 47) (tkR s 47) (tkR s 47);let r2:Int:=(↑r1.size:Int);let r3:Bool:=cond (!tkB s 47) true ((tkR s 47).toList ==(ByteArray.mk #[]).toList);let r4:ByteArray:=r1.extract (Int.toNat 1) r2.toNat;let r5:ByteArray:=dgR r4;let r6:Int:=dgV r4;let r7:ByteArray:=tkR r5 40;let r8:Bool:=!tkB r5 40;let r9:ByteArray:=nmR r7;let r10:Int:=nmV r7;let r11:Bool:=tkB r9 44;let r12:ByteArray:=tkR r9 44;let r13:Int:=ixW (ByteArray.mk #[78,66,67,76,83,72,82,84,79,77,81]) (↑(r1.1.getD (Int.toNat 0) (0:UInt8)).toNat:Int);let r14:ByteArray:=cond r11 (nmR r12) r12;let r15:Int:=IntKind.u8.wrap (if 0>r13 then 0 else r13);(r3=true→(r1,d,()) =(wkR s,wkD d s,()))∧(r3=false→((0:Int)≤0∧0<r2)∧((0:Int)≤1∧1≤r2∧r2≤r2)∧(r8=true→(r7,Delivery.mk d.1 d.2 d.3 d.4 d.5 d.6 r15 r6 d.9 d.10 d.11 d.12,()) =(wkR s,wkD d s,()))∧(r8=false→(tkR (tkR r14 115) 41,Delivery.mk (cond r11 d.1 d.1) (cond r11 d.2 d.2) (cond r11 d.3 d.3) (cond r11 d.4 d.4) (cond r11 d.5 d.5) (cond r11 d.6 d.6) (cond r11 r15 r15) (cond r11 r6 r6) (cond r11 r10 r10) (cond r11 (nmV r12) d.10) (tkB r14 115) (cond r11 d.12 d.12),()) =(wkR s,wkD d s,()))))
 intro r1 r2 r3 r4 r5 r6 r7 r8 r9 r10 r11 r12 r13 r14 r15
 clear_value (hr1:r1=_) (hr2:r2=_) (hr3:r3=_) (hr4:r4=_) (hr5:r5=_) (hr6:r6=_) (hr7:r7=_) (hr8:r8=_) (hr9:r9=_) (hr10:r10=_) (hr11:r11=_) (hr12:r12=_) (hr13:r13=_) (hr14:r14=_) (hr15:r15=_)
 have e1:r1=wk1 s:=by rw [hr1];cases tkB s 47 <;> rfl
 have e2:r2 =((wk1 s).size:Int):=by rw [hr2,e1]
 have e3:r3=!OL s:=by
  rw [hr3];unfold OL
  show (bif !tkB s 47 then true else emp (wk1 s))=_
  cases tkB s 47 <;> cases emp (wk1 s) <;> rfl
 have e4:r4=wk2 s:=by rw [hr4,e2,e1];rfl
 have e5:r5=wk3 s:=by rw [hr5,e4];rfl
 have e6:r6=dgV (wk2 s):=by rw [hr6,e4]
 have e7:r7=wk4 s:=by rw [hr7,e5];rfl
 have e8:r8=!tkB (wk3 s) 40:=by rw [hr8,e5]
 have e9:r9=wk5 s:=by rw [hr9,e7];rfl
 have e10:r10=nmV (wk4 s):=by rw [hr10,e7]
 have e11:r11=tkB (wk5 s) 44:=by rw [hr11,e9]
 have e12:r12=tkR (wk5 s) 44:=by rw [hr12,e9]
 have e15:r15=hwV (wk1 s):=by rw [hr15,hr13,e1];rfl
 have e14:r14=wk6 s:=by
  rw [hr14,e11,e12];unfold wk6
  cases h:tkB (wk5 s) 44 with
  | true=>rw [iw h];rfl
  | false=>rw [mG h];rfl
 have hz:r3=false→1≤(wk1 s).size:=fun h=>by
  rw [e3] at h
  unfold OL at h
  cases ha:tkB s 47 with
  | false=>rw [ha] at h;cases h
  | true=>rw [ha] at h;exact qL (by simpa using h)
 refine ⟨fun h=>?_,fun h=>⟨⟨Int.le_refl _,by have:=hz h;omega⟩,⟨by decide,by have:=hz h;omega,Int.le_refl _⟩,fun a=>?_,fun a=>?_⟩⟩
 ·rw [e3] at h
  unfold wkR wkD
  rw [h,e1];rfl
 ·rw [e3] at h
  rw [e8] at a
  have h40:tkB (wk3 s) 40=false:=by simpa using a
  unfold wkR wkD
  rw [h,a,e7,e15,e6]
  unfold wk4
  rw [mG h40];rfl
 ·rw [e3] at h
  rw [e8] at a
  have h40:tkB (wk3 s) 40=true:=by simpa using a
  unfold wkR wkD
  rw [h,a,e14,e15,e6,e10,e11,e12]
  have e13 :(bif tkB (wk5 s) 44 then nmV (tkR (wk5 s) 44) else d.Second)=if tkB (wk5 s) 44 then nmV (tl (wk5 s)) else d.Second:=by
   cases h:tkB (wk5 s) 44 with
   | true=>rw [iw h];rfl
   | false=>rfl
  rw [e13]
  simp only [Bool.cond_self]
  rfl
def zG:FuncId×Ctr:=(119,ae KE qWk P3 Ia)
theorem GK:CtrOK Tryz.prog KE 119 (ae KE qWk P3 Ia):=by
 refine an (C:=al [oO,lC,zy,l8] Tryz.f119) (aj (.consU wZ rfl (.consU sG rfl (.consU GI rfl (.consU tL rfl .nil)))) _) mixed (fn:=Tryz.f119) Tryz.func119 (by kernel_rfl) (by kernel_rfl) (by kernel_rfl) (by kernel_rfl) (by kernel_rfl) (by kernel_rfl) (Λ:=fun _ _=>none) ?_ ?_
 ·exact fun _ _ _ _ _ _ _ _ h=>by cases h
 ·rintro ⟨s,d,⟨⟩⟩ hw hn
  exact Fp s d
theorem Lc (s:ByteArray) :(evPat (al [oO,zz,lC,zG,re] Tryz.f67) (fun _=>none) Tryz.f67 Qg P0 (s,())).sat fun z_=>z_ =(HZ (s,())).2:=by
 refine cast (by kernel_rfl) (?_:let r1:Int:=cond (tkB s 119) 2 (cond (tkB (tkR s 119) 110) 3 1);let r2:Int:=cond (tkB s 119) 0 (cond (tkB (tkR s 119) 110) 0 0);let r3:ByteArray:=cond (tkB s 119) (tkR s 119) (cond (tkB (tkR s 119) 110) (tkR (tkR s 119) 110) (tkR (tkR s 119) 110));let r4:ByteArray:=soR r1 r3;let r5:Int:=soV r1 r3;let r6:ByteArray:=dgR r4;let r7:Int:=dgV r4;let r8:Bool:=tkB r6 70;let r9:ByteArray:=tkR r6 70;let r10:Bool:=tkB r9 83;let r11:ByteArray:=tkR r9 83;let r12:Int:=cond r8 4 (cond r10 6 r2);let r13:Int:=cond r8 r1 (cond r10 r1 r1);let r14:Int:=cond r8 r2 (cond r10 r2 r2);let r15:Int:=cond r8 r5 (cond r10 r5 r5);let r16:Int:=cond r8 r7 (cond r10 r7 r7);let r17:ByteArray:=cond r8 r9 (cond r10 r11 r11);let r18:Bool:=tkB r17 45;let r19:ByteArray:=tkR r17 45;let r20:Int:=cond r18 r14 r14;let r21:ByteArray:=cond r18 (dgR r19) r19;let r22:ByteArray:=tkR r21 120;let r23:ByteArray:=wkR r22;let r24:Bool:=tkB r23 64;let r25:Delivery:=wkD (Delivery.mk (cond r18 r13 r13) (cond r18 r15 r15) (cond r18 r16 r16) (cond r18 (dgV r19) r14) (cond r18 r12 r12) (tkB r21 120) r20 r20 r20 r20 false r20) r22;let r26:Delivery:=Delivery.mk (cond r24 r25.1 r25.1) (cond r24 r25.2 r25.2) (cond r24 r25.3 r25.3) (cond r24 r25.4 r25.4) (cond r24 r25.5 r25.5) (cond r24 r25.6 r25.6) (cond r24 r25.7 r25.7) (cond r24 r25.8 r25.8) (cond r24 r25.9 r25.9) (cond r24 r25.10 r25.10) (cond r24 r25.11 r25.11) (cond r24 (dgV (tkR r23 64)) r25.12);let r27:Bool:=cond (bZ r26 != 0) true (!(prS r26).toList==s.toList);(r27=true→(Delivery.mk 0 0 0 0 0 false 0 0 0 0 false 0,4,()) =(kB s,BV s,()))∧(r27=false→(r26,0,()) =(kB s,BV s,())))
 intro r1 r2 r3 r4 r5 r6 r7 r8 r9 r10 r11 r12 r13 r14 r15 r16 r17 r18 r19 r20 r21 r22 r23 r24 r25 r26 r27
 clear_value (hr1:r1=_) (hr2:r2=_) (hr3:r3=_) (hr4:r4=_) (hr5:r5=_) (hr6:r6=_) (hr7:r7=_) (hr8:r8=_) (hr9:r9=_) (hr10:r10=_) (hr11:r11=_) (hr12:r12=_) (hr13:r13=_) (hr14:r14=_) (hr15:r15=_) (hr16:r16=_) (hr17:r17=_) (hr18:r18=_) (hr19:r19=_) (hr20:r20=_) (hr21:r21=_) (hr22:r22=_) (hr23:r23=_) (hr24:r24=_) (hr25:r25=_) (hr26:r26=_) (hr27:r27=_)
 have n119:tkB s 119=false→tkR s 119=s:=fun h=>mG h
 have e1:r1=paT s:=by
  rw [hr1];unfold paT
  cases h:tkB s 119 with
  | true=>rfl
  | false=>rw [n119 h];cases tkB s 110 <;> rfl
 have e2:r2=0:=by rw [hr2];simp only [Bool.cond_self]
 have e3:r3=pa1 s:=by
  rw [hr3];unfold pa1
  cases h:tkB s 119 with
  | true=>rw [iw h];rfl
  | false=>rw [n119 h];cases tkB s 110 <;> rfl
 have e4:r4=pa2 s:=by rw [hr4,e1,e3];rfl
 have e5:r5=soV (paT s) (pa1 s):=by rw [hr5,e1,e3]
 have e6:r6=pa3 s:=by rw [hr6,e4];rfl
 have e7:r7=dgV (pa2 s):=by rw [hr7,e4]
 have e8:r8=tkB (pa3 s) 70:=by rw [hr8,e6]
 have e9:tkB (pa3 s) 70=false→r9=pa3 s:=fun h=>by rw [hr9,e6];exact mG h
 have e12:r12=if tkB (pa3 s) 70 then 4 else if tkB (pa3 s) 83 then 6 else 0:=by
  rw [hr12,e8,hr10,e2]
  cases h:tkB (pa3 s) 70 with
  | true=>rfl
  | false=>rw [e9 h];cases tkB (pa3 s) 83 <;> rfl
 have e13:r13=paT s:=by rw [hr13,e1];simp only [Bool.cond_self]
 have e14:r14=0:=by rw [hr14,e2];simp only [Bool.cond_self]
 have e15:r15=soV (paT s) (pa1 s):=by rw [hr15,e5];simp only [Bool.cond_self]
 have e16:r16=dgV (pa2 s):=by rw [hr16,e7];simp only [Bool.cond_self]
 have e17:r17=pa4 s:=by
  rw [hr17,e8,hr11];unfold pa4
  cases h:tkB (pa3 s) 70 with
  | true=>rw [hr9,e6,iw h];rfl
  | false=>rw [e9 h];cases r10 <;> rfl
 have e18:r18=tkB (pa4 s) 45:=by rw [hr18,e17]
 have e19:tkB (pa4 s) 45=true→r19=tl (pa4 s):=fun h=>by rw [hr19,e17];exact iw h
 have e20:r20=0:=by rw [hr20,e14];simp only [Bool.cond_self]
 have e21:r21=pa5 s:=by
  rw [hr21,e18];unfold pa5
  cases h:tkB (pa4 s) 45 with
  | true=>rw [e19 h];rfl
  | false=>rw [hr19,e17];exact mG h
 have e22:r22=pa6 s:=by rw [hr22,e21];rfl
 have e23:r23=pa7 s:=by rw [hr23,e22];rfl
 have e25:r25=paW s:=by
  rw [hr25,e22,e13,e15,e16,e14,e12,e20,e21,e18]
  have h :(bif tkB (pa4 s) 45 then dgV r19 else 0)=if tkB (pa4 s) 45 then dgV (tl (pa4 s)) else 0:=by
   cases h:tkB (pa4 s) 45 with
   | true=>rw [e19 h];rfl
   | false=>rfl
  rw [h];simp only [Bool.cond_self];rfl
 have e26:r26=KH s:=by
  rw [hr26,hr24,e23,e25]
  have h :(bif tkB (pa7 s) 64 then dgV (tkR (pa7 s) 64) else (paW s).Sector)=if tkB (pa7 s) 64 then dgV (tl (pa7 s)) else (paW s).Sector:=by
   cases h:tkB (pa7 s) 64 with
   | true=>rw [iw h];rfl
   | false=>rfl
  unfold KH
  rw [←h];simp only [Bool.cond_self]
 have e27:r27=Jx s:=by
  rw [hr27,e26];unfold Jx
  cases bZ (KH s) != 0 <;> rfl
 refine ⟨fun h=>?_,fun h=>?_⟩
 ·rw [e27] at h;unfold kB BV;rw [h];rfl
 ·rw [e27] at h;unfold kB BV;rw [h,e26];rfl
def Bz:FuncId×Ctr:=(67,ae KE Qg P0 HZ)
theorem Eo:CtrOK Tryz.prog KE 67 (ae KE Qg P0 HZ):=by
 refine an (C:=al [oO,zz,lC,zG,re] Tryz.f67) (aj (.consU wZ rfl (.consU GJ rfl (.consU sG rfl (.consU GK rfl (.consU wY rfl .nil))))) _) mixed (fn:=Tryz.f67) Tryz.func67 (by kernel_rfl) (by kernel_rfl) (by kernel_rfl) (by kernel_rfl) (by kernel_rfl) (by kernel_rfl) (Λ:=fun _ _=>none) ?_ ?_
 ·exact fun _ _ _ _ _ _ _ _ h=>by cases h
 ·rintro ⟨s,⟨⟩⟩ hw hn
  exact Lc s
end
section
open Go Go.Mir
def nxB (r:Rules) (o:Int) (c:Bool):Int:=if c then W (o+1) else o
def nxO (r:Rules) (k o:Int) (c:Bool):Int:=if nxB r o c≥r.Balls then W (k+1) else k
def nxI (r:Rules) (o:Int) (c:Bool):Int:=if nxB r o c≥r.Balls then 0 else nxB r o c
abbrev Bef:Type:=Option (Row×Bool)
def inS (r:Rules) (n:Int):Bool:=decide (n≥1)&&decide (n≤r.Side)
def wH (r:Rules) (n:Int) (x:Row):Bool:=decide (x.Innings≥n)&&(decide (x.Innings<W (2*r.Innings))&&(x.Over==0&&x.Ball==0))
def mq (r:Rules) (b:Bef) (x:Row):Bool:=match b with
 | none=>wH r 0 x
 | some (y,c)=>if x.Innings==y.Innings then x.Over==nxO r y.Over y.Ball c&&x.Ball==nxI r y.Ball c else wH r (W (y.Innings+1)) x
def SY (r:Rules) (x:Row):Int:=mH (ao r (kB x.Symbol))
def PJ (x:Row):Int:=if (kB x.Symbol).How != 0 then 1 else 0
def QD (r:Rules) (b:Bef) (x:Row):Int:=match b with
 | none=>SY r x
 | some (y,_)=>if y.Innings==x.Innings then W (SY r x+y.Total) else SY r x
def TY (b:Bef) (x:Row):Int:=match b with
 | none=>PJ x
 | some (y,_)=>if y.Innings==x.Innings then W (PJ x+y.Wickets) else PJ x
def CW (r:Rules) (b:Bef) (x:Row):Bool:=decide (x.Total<QD r b x) ||((W (x.Total - QD r b x)).tmod 5 != 0 ||(decide (x.Wickets<TY b x) ||(decide (x.Wickets>r.Side)||decide (x.Total>1000000))))
def C0 (r:Rules) (x:Row):Bool:=!inS r x.Bowler ||(!inS r x.Striker ||(!inS r x.Partner||x.Striker==x.Partner))
def ln (r:Rules) (b:Bef) (x:Row):Int:=
 if BV x.Symbol != 0 then 4 else if bP (kB x.Symbol) != 0 then 1 else if C0 r x then 2 else if !mq r b x then 8 else if CW r b x then 12 else 0
def Ea (r:Rules) (x:Row):Bef:=some (x,(ao r (kB x.Symbol)).Counts)
def iT (r:Rules):Bef→Int→List Row→Int×Int
 | _,_,[]=>(-1,0)
 | b,i,x::l=>if ln r b x != 0 then (i,ln r b x) else iT r (Ea r x) (i+1) l
def cq (r:Rules) (l:List Row):Int×Int:=if aq r != 0 then (-1,aq r) else if decide ((l.length:Int)>4000) then (-1,9) else iT r none 0 l
end
end Go.Proofs.YtffdpnmioidloaaGreatDoor
namespace Go.Mir
section
open Go.RowKit
variable {P:Program}
def cT (C:Cfg) (Λ κ:Nat→Option LoopSum):Code→St→Tr
 | .seq a b,st=>match κ (rid (.seq a b)) with
  | some S=> .need (S.pre st) (S.T st)
  | none=>Ij st (cT C Λ κ a st) fun d nx=>cT C Λ κ b (st.app d nx)
 | .cond c x y,st=>match EE st.tm c with
  | .kb true=>cT C Λ κ x st
  | .kb false=>cT C Λ κ y st
  | .bool b=> .br b (cT C Λ κ x st) (cT C Λ κ y st)
  | .hint q true=> .both (.when q (cT C Λ κ x st)) (cT C Λ κ y st)
  | .hint q false=> .both (.when q (cT C Λ κ y st)) (cT C Λ κ x st)
  | _=> .bad
 | .block id b,st=>(cT C Λ κ b st).catch id
 | .skip,st=>bL C Λ .skip st
 | .ret,st=>bL C Λ .ret st
 | .exit id,st=>bL C Λ (.exit id) st
 | .region id ops dr,st=>bL C Λ (.region id ops dr) st
 | .loop b,st=>bL C Λ (.loop b) st
 | _,_=> .bad
def fQ (κ:Nat→Option LoopSum):Code→List Code
 | .seq a b=>match κ (rid (.seq a b)) with
  | some _=> [.seq a b]
  | none=>fQ κ a++fQ κ b
 | .cond _ a b=>fQ κ a++fQ κ b
 | .block _ b=>fQ κ b
 | _=> []
def gY (Λ κ:Nat→Option LoopSum):Code→List Code
 | .seq a b=>match κ (rid (.seq a b)) with
  | some _=> []
  | none=>gY Λ κ a++gY Λ κ b
 | .cond _ a b=>gY Λ κ a++gY Λ κ b
 | .block _ b=>gY Λ κ b
 | .loop b=>bh Λ (.loop b)
 | _=> []
def QG (P:Program) (N:Nat) (B:Base) (c:Code) (S:LoopSum):Prop:=
 ∀ (st:St) (Q:Lf→Dl→Nat→Prop) (CQ:Exit→Act→World→Prop),S.pre st→(S.T st).sat Q→(∀ e d nx a w,Q e d nx→at_ B N st d nx a w→CQ (eK e) a w)→∀ a w,gB B N st a w→c.wp P CQ a w
theorem dz {C:Cfg} (hC:CfgOK P C) (hP:P.follows .mixedOrders=true) {Λ κ:Nat→Option LoopSum} {B:Base} :∀ (c:Code),(∀ b∈gY Λ κ c,∀ L,Λ (rid b)=some L→pV P C.N B b L)→(∀ d∈fQ κ c,∀ S,κ (rid d)=some S→QG P C.N B d S)→
  ∀ (st:St) (Q:Lf→Dl→Nat→Prop) (CQ:Exit→Act→World→Prop),(cT C Λ κ c st).sat Q→(∀ e d nx a w,Q e d nx→at_ B C.N st d nx a w→CQ (eK e) a w)→∀ a w,gB B C.N st a w→c.wp P CQ a w
 | .skip,_,_,st,Q,CQ,h,hQ,a,w,hs=>bQ hC hP .skip (fun b hb=>by cases hb) st Q CQ h hQ a w hs
 | .ret,_,_,st,Q,CQ,h,hQ,a,w,hs=>bQ hC hP .ret (fun b hb=>by cases hb) st Q CQ h hQ a w hs
 | .exit id,_,_,st,Q,CQ,h,hQ,a,w,hs=>bQ hC hP (.exit id) (fun b hb=>by cases hb) st Q CQ h hQ a w hs
 | .region id ops dr,_,_,st,Q,CQ,h,hQ,a,w,hs=>bQ hC hP (.region id ops dr) (fun b hb=>by cases hb) st Q CQ h hQ a w hs
 | .loop b,hL,_,st,Q,CQ,h,hQ,a,w,hs=>bQ hC hP (.loop b) hL st Q CQ h hQ a w hs
 | .seq x y,hL,hK,st,Q,CQ,h,hQ,a,w,hs=>by
  simp only [cT] at h
  simp only [gY] at hL
  simp only [fQ] at hK
  cases hk:κ (rid (.seq x y)) with
  | some S=>
   rw [hk] at h hK
   simp only at h hK
   exact hK _ (List.mem_singleton.2 rfl) S hk st Q CQ h.1 h.2 hQ a w hs
  | none=>
   rw [hk] at h hK hL
   simp only at h hK hL
   have hx:=dz hC hP (Λ:=Λ) (κ:=κ) (B:=B) x (fun b hb=>hL b (List.mem_append_left _ hb)) (fun b hb=>hK b (List.mem_append_left _ hb))
   have hy:=dz hC hP (Λ:=Λ) (κ:=κ) (B:=B) y (fun b hb=>hL b (List.mem_append_right _ hb)) (fun b hb=>hK b (List.mem_append_right _ hb))
   have h2:=nZ (B:=B) (N:=C.N) (Y:=fun a w=>y.wp P CQ a w) h (fun d nx hk a w ha=>by
    rw [gH] at hk
    exact hy (st.app d nx) _ CQ hk (fun e d' nx' a w hq hat=>hQ e _ _ a w hq (at_pre.1 hat)) a w (at_here.1 ha))
   refine wp_seq (hx st _ _ h2 (fun e d nx a w hq hat=>?_) a w hs)
   cases e with
   | nrm=>exact hq a w hat
   | ext id=>exact hQ (.ext id) d nx a w hq hat
   | ret=>exact hQ .ret d nx a w hq hat
 | .cond c x y,hL,hK,st,Q,CQ,h,hQ,a,w,hs=>by
  simp only [cT] at h
  have hx:=dz hC hP (Λ:=Λ) (κ:=κ) (B:=B) x (fun b hb=>hL b (by simp only [gY];exact List.mem_append_left _ hb)) (fun b hb=>hK b (by simp only [fQ];exact List.mem_append_left _ hb))
  have hy:=dz hC hP (Λ:=Λ) (κ:=κ) (B:=B) y (fun b hb=>hL b (by simp only [gY];exact List.mem_append_right _ hb)) (fun b hb=>hK b (by simp only [fQ];exact List.mem_append_right _ hb))
  have hv :∃ E:Env,ju E (find st.tm) a:=by
   obtain ⟨⟨E,_,_,_,_,hT⟩,_⟩:=hs
   exact ⟨E,hT⟩
  obtain ⟨E,hT⟩:=hv
  have hc:=kc hT c
  split at h
  ·rename_i e;rw [e] at hc;simp only [af] at hc
   exact wp_cond_true hc (hx st Q CQ h hQ a w hs)
  ·rename_i e;rw [e] at hc;simp only [af] at hc
   exact wp_cond_false hc (hy st Q CQ h hQ a w hs)
  ·rename_i b e;rw [e] at hc;simp only [af] at hc
   exact wp_cond_split hc (fun hb=>hx st Q CQ (h.1 hb) hQ a w hs) (fun hb=>hy st Q CQ (h.2 hb) hQ a w hs)
  ·rename_i q e;rw [e] at hc;simp only [af] at hc
   obtain ⟨b,hc,hq⟩:=hc
   exact wp_cond_split hc (fun hb=>hx st Q CQ (h.1 (hq hb)) hQ a w hs) (fun _=>hy st Q CQ h.2 hQ a w hs)
  ·rename_i q e;rw [e] at hc;simp only [af] at hc
   obtain ⟨b,hc,hq⟩:=hc
   exact wp_cond_split hc (fun _=>hx st Q CQ h.2 hQ a w hs) (fun hb=>hy st Q CQ (h.1 (hq hb)) hQ a w hs)
  ·exact h.elim
 | .block id b,hL,hK,st,Q,CQ,h,hQ,a,w,hs=>by
  simp only [cT] at h
  refine wp_block (dz hC hP (Λ:=Λ) (κ:=κ) (B:=B) b (fun b' hb=>hL b' (by simpa only [gY] using hb)) (fun b' hb=>hK b' (by simpa only [fQ] using hb)) st _ _ (ee h) (fun e d nx a w hq hat=>?_) a w hs)
  cases e with
  | nrm=>exact hQ .nrm d nx a w hq hat
  | ret=>exact hQ .ret d nx a w hq hat
  | ext id'=>
   simp only [eK,Exit.inBlock]
   simp only at hq
   split
   ·rename_i e;rw [if_pos e] at hq;exact hQ .nrm d nx a w hq hat
   ·rename_i e;rw [if_neg e] at hq;exact hQ (.ext id') d nx a w hq hat
 | .rangeFunc _ _ _ _,_,_,_,_,_,h,_,_,_,_=>h.elim
 | .scope _,_,_,_,_,_,h,_,_,_,_=>h.elim
 | .label _,_,_,_,_,_,h,_,_,_,_=>h.elim
 | .goto _,_,_,_,_,_,h,_,_,_,_=>h.elim
 | .refuse _,_,_,_,_,_,h,_,_,_,_=>h.elim
def vh (P:Program) (p N:Nat) (c:Code) (S:LoopSum):Prop:=∀ (B:Base),B.pins p→QG P N B c S
def CutsOKp (P:Program) (p N:Nat) (l:List Code) (κ:Nat→Option LoopSum):Prop:=∀ b∈l,∀ S,κ (rid b)=some S→vh P p N b S
theorem CutsOKp.nil {p N:Nat} {κ:Nat→Option LoopSum}:CutsOKp P p N [] κ:=fun b hb=>by simp at hb
theorem CutsOKp.cons {p N:Nat} {b:Code} {l:List Code} {κ:Nat→Option LoopSum} {S:LoopSum} (h0:κ (rid b)=some S) (h1:vh P p N b S) (h2:CutsOKp P p N l κ):CutsOKp P p N (b::l) κ:=fun b' hb S' hS=>by
 rcases List.mem_cons.1 hb with rfl|hb
 ·rw [h0] at hS;cases hS;exact h1
 ·exact h2 b' hb S' hS
theorem CutsOKp.at {p N:Nat} {c:Code} {κ:Nat→Option LoopSum} {l:List Code} (e:fQ κ c=l) (h:CutsOKp P p N l κ) :∀ b∈fQ κ c,∀ S,κ (rid b)=some S→vh P p N b S:=by rw [e];exact h
section
variable (L:Lp) (κ:Nat→Option LoopSum) (res:Den (tyP L.q)→je L.X)
def stepEK (x:Den (tyP L.q)):je L.X:=evT (mK L.X) (hdL L res (put L.q x)) (cT L.C L.Λ κ L.body (put L.q x))
def stepGK (inv:Den (tyP L.q)→Prop) (x:Den (tyP L.q)):Prop:=jd (mK L.X) (hdL L res (put L.q x)) (okL L inv (put L.q x)) (cT L.C L.Λ κ L.body (put L.q x))
end
def yN (fn:Func):Code:=match fn.body with|some c=>c|none=> .skip
def AllOKp (P:Program) (p N:Nat) (l:List Code) (Λ:Nat→Option LoopSum):Prop:=∀ b∈l,∀ L,Λ (rid b)=some L→LoopOKp P p N b L
theorem AllOKp.nil {p N:Nat} {Λ:Nat→Option LoopSum}:AllOKp P p N [] Λ:=fun b hb=>by simp at hb
theorem AllOKp.cons {p N:Nat} {b:Code} {l:List Code} {Λ:Nat→Option LoopSum} {L:LoopSum} (h0:Λ (rid b)=some L) (h1:LoopOKp P p N b L) (h2:AllOKp P p N l Λ):AllOKp P p N (b::l) Λ:=fun b' hb L' hL=>by
 rcases List.mem_cons.1 hb with rfl|hb
 ·rw [h0] at hL;cases hL;exact h1
 ·exact h2 b' hb L' hL
theorem AllOKp.at {p N:Nat} {fn:Func} {l:List Code} {Λ κ:Nat→Option LoopSum} (he:gY Λ κ (yN fn)=l) (h:AllOKp P p N l Λ) :∀ c,fn.body=some c→∀ b∈gY Λ κ c,∀ L,Λ (rid b)=some L→LoopOKp P p N b L:=fun c hc=>by
 have:yN fn=c:=by unfold yN;rw [hc]
 rw [←this,he]
 exact h
theorem CutsOKp.of {p N:Nat} {fn:Func} {l:List Code} {κ:Nat→Option LoopSum} (he:fQ κ (yN fn)=l) (h:CutsOKp P p N l κ) :∀ c,fn.body=some c→∀ b∈fQ κ c,∀ S,κ (rid b)=some S→vh P p N b S:=fun c hc=>by
 have:yN fn=c:=by unfold yN;rw [hc]
 rw [←this,he]
 exact h
end
section
open Go.RowKit
variable {P:Program}
section
variable (L:Lp) (κ:Nat→Option LoopSum) (q0:Pat) (res:Den (tyP L.q)→je L.X)
def stepE0 (x:Den (tyP q0)):je L.X:=evT (mK L.X) (hdL L res (put q0 x)) (cT L.C L.Λ κ L.body (put q0 x))
def stepG0 (inv:Den (tyP L.q)→Prop) (x:Den (tyP q0)):Prop:=jd (mK L.X) (hdL L res (put q0 x)) (okL L inv (put q0 x)) (cT L.C L.Λ κ L.body (put q0 x))
end
def qV (L:Lp) (q0:Pat) (res0:Den (tyP q0)→je L.X) (ok:Den (tyP q0)→Prop):LoopSum:=
 ⟨fun st=>cZ st.H0∧ifB (wL st.nx st.hp) (match gR L.p q0 st with|some x=>ok x|none=>False),
  fun st=>match gR L.p q0 st with|some x=>pI st (TX L.X (res0 x))|none=> .bad⟩
theorem F2 (L:Lp) (κ:Nat→Option LoopSum) (q0:Pat) (hC:CfgOK P L.C) (hP:P.follows .mixedOrders=true) (hΛ :∀ b∈gY L.Λ κ L.body,∀ S,L.Λ (rid b)=some S→LoopOKp P L.p L.C.N b S) (hκ :∀ b∈fQ κ L.body,∀ S,κ (rid b)=some S→vh P L.p L.C.N b S)
  (res:Den (tyP L.q)→je L.X) (inv:Den (tyP L.q)→Prop) (μ:Den (tyP L.q)→Nat)
  (step :∀ x,inv x→stepGK L κ res (fun y=>inv y∧μ y<μ x) x∧stepEK L κ res x=res x)
  (res0:Den (tyP q0)→je L.X) (inv0:Den (tyP q0)→Prop) (μ0:Den (tyP q0)→Nat)
  (xQ :∀ x,inv0 x→stepG0 L κ q0 res (fun y=>inv y∧μ y<μ0 x) x∧stepE0 L κ q0 res x=res0 x):LoopOKp P L.p L.C.N L.body (qV L q0 res0 inv0):=by
 intro B hB st Q CQ hpre hT hQ a w hs
 simp only [qV] at hpre hT
 obtain ⟨hH0,hpre⟩:=hpre
 obtain ⟨hl,hpre⟩:=ifB_iff.1 hpre
 cases hr:gR L.p q0 st with
 | none=>rw [hr] at hpre;exact hpre.elim
 | some x0=>
 rw [hr] at hpre hT
 simp only at hpre hT
 have hT:=fg hT
 obtain ⟨hp0,hg0⟩:=dV hr
 have start:gB B L.C.N (put q0 x0) a w:=fe hB hg0 hp0 hs
 have key :∀ n x a w,inv x→μ x<n→(TX L.X (res x)).sat (fun e d nx=>Q e ⟨d.tm++mc st.tm,d.hp++jV (Nat.max nx st.nx) st.hp⟩ (Nat.max nx st.nx+1))→gB B L.C.N (put L.q x) a w→Code.rounds P L.body CQ n a w:=by
  intro n
  induction n with
  | zero=>intro x a w _ hlt;omega
  | succ n ih=>
   intro x a w hx hlt hTx hs
   rw [rounds_succ]
   obtain ⟨hG,hE⟩:=step x hx
   refine dz hC hP (B:=B) L.body (fun b hb S hS=>hΛ b hb S hS B hB) (fun b hb S hS=>hκ b hb S hS B hB) (put L.q x) _ _ (ff _ _ _ _ hG) (fun e d nx a w hq hat=>?_) a w hs
   have hat:=at_here.1 hat
   obtain ⟨hok,hv⟩:=hq
   change hdL L res (put L.q x) e d nx=stepEK L κ res x at hv
   rw [hE] at hv
   have out :∀ e:Lf,(match pA L.p L.X e ((put L.q x).app d nx) with|some _=>True|none=>False)→(match pA L.p L.X e ((put L.q x).app d nx) with|some o=>o|none=>mK L.X)=res x→CQ (eK e) a w:=fun e hok hv=>by
    cases ho:pA L.p L.X e ((put L.q x).app d nx) with
    | none=>rw [ho] at hok;exact hok.elim
    | some o=>
     rw [ho] at hv
     simp only at hv
     subst hv
     obtain ⟨q,y,h1,h2⟩:=A2 ho hTx
     obtain ⟨h3,h4⟩:=dV h1
     have h5:=fe hB h4 h3 hat
     exact hQ e _ _ a w h2 (uY hH0 hl h5)
   cases e with
   | nrm=>
    simp only [okL] at hok
    simp only [hdL] at hv
    cases hr2:gR L.p L.q ((put L.q x).app d nx) with
    | none=>rw [hr2] at hok;exact hok.elim
    | some y=>
     rw [hr2] at hok
     obtain ⟨h3,h4⟩:=dV hr2
     rw [h4] at hv
     simp only at hok hv
     exact ih y a w hok.1 (by omega) (by rw [hv];exact hTx) (fe hB h4 h3 hat)
   | ext id=>exact out (.ext id) hok hv
   | ret=>exact out .ret hok hv
 refine wp_loop_rounds (μ0 x0+1) ?_
 rw [rounds_succ]
 obtain ⟨hG,hE⟩:=xQ x0 hpre
 refine dz hC hP (B:=B) L.body (fun b hb S hS=>hΛ b hb S hS B hB) (fun b hb S hS=>hκ b hb S hS B hB) (put q0 x0) _ _ (ff _ _ _ _ hG) (fun e d nx a w hq hat=>?_) a w start
 have hat:=at_here.1 hat
 obtain ⟨hok,hv⟩:=hq
 change hdL L res (put q0 x0) e d nx=stepE0 L κ q0 res x0 at hv
 rw [hE] at hv
 have out :∀ e:Lf,(match pA L.p L.X e ((put q0 x0).app d nx) with|some _=>True|none=>False)→(match pA L.p L.X e ((put q0 x0).app d nx) with|some o=>o|none=>mK L.X)=res0 x0→CQ (eK e) a w:=fun e hok hv=>by
  cases ho:pA L.p L.X e ((put q0 x0).app d nx) with
  | none=>rw [ho] at hok;exact hok.elim
  | some o=>
   rw [ho] at hv
   simp only at hv
   subst hv
   obtain ⟨q,y,h1,h2⟩:=A2 ho hT
   obtain ⟨h3,h4⟩:=dV h1
   have h5:=fe hB h4 h3 hat
   exact hQ e _ _ a w h2 (uY hH0 hl h5)
 cases e with
 | nrm=>
  simp only [okL] at hok
  simp only [hdL] at hv
  cases hr2:gR L.p L.q ((put q0 x0).app d nx) with
  | none=>rw [hr2] at hok;exact hok.elim
  | some y=>
   rw [hr2] at hok
   obtain ⟨h3,h4⟩:=dV hr2
   rw [h4] at hv
   simp only at hok hv
   exact key _ y a w hok.1 hok.2 (by rw [hv];exact hT) (fe hB h4 h3 hat)
 | ext id=>exact out (.ext id) hok hv
 | ret=>exact out .ret hok hv
end
section
open Go.RowKit
variable {P:Program}
inductive PF where
 | dat
 | ptr
 | clo (g:FuncId)
def Jy (H:bj) (t:Ty):V→Option (Den t)
 | .ptr h off=>match Nat.beq off 0 with
  | true=>match H h with
   | some (.cells cs)=>uv H t cs
   | _=>none
  | false=>none
 | .fp t' xs i off=>match Nat.beq off 0 with
  | true=>if e:t'=t then xs[i.toNat]?.map fun x=>(e▸x:Den t) else none
  | false=>none
 | _=>none
def QI (H:bj) (g:FuncId) (t:Ty):V→Option (Den t)
 | .fn g' [.nilmap,p]=>match Nat.beq g' g with
  | true=>Jy H t p
  | false=>none
 | _=>none
def Ju (H:bj) (q:PF) (a:Ty) (v:V):Option (Den a):=
 match q with
 | .ptr=>Jy H a v
 | .clo g=>QI H g a v
 | .dat=>(eb H (.prod a .unit) [v]).map (·.1)
def dI (H:bj):List PF→(ps:Ty)→List V→Option (Den ps)
 | q,.prod a b,v::vs=>match Ju H (q.headD .dat) a v with
  | some x=>match dI H q.tail b vs with
   | some y=>some (x,y)
   | none=>none
  | none=>none
 | _,.unit,[]=>some ()
 | _,_,_=>none
def T6 (q:PF) (a:Ty) (x:Den a):V:=
 match q with
 | .ptr=> .fp a [x] 0 0
 | .clo g=> .fn g [.nilmap,.fp a [x] 0 0]
 | .dat=>gq a x
def m0:List PF→(ps:Ty)→Den ps→List V
 | q,.prod a b,x=>T6 (q.headD .dat) a x.1::m0 q.tail b x.2
 | _,_,_=> []
def Ui (H:bj):V→List Nat
 | .ptr h _=>(match H h with|some (.cells cs)=>hss cs|_=> [])
 | _=> []
def R4 (H:bj):List PF→List V→List Nat
 | q,v::vs=>(match q.headD .dat with
  | .ptr=>Ui H v
  | .clo _=>(match v with | .fn _ [_,p]=>Ui H p|_=> [])
  | .dat=>v.hs)++R4 H q.tail vs
 | _,[]=> []
def sK (K:Nat) (q:List PF) (ps:Ty) (spec:Den ps→PRes):Ctr:=fun args H m=>
 match dI (roL H (R4 H q args)) q ps args with
 | some x=>
  let r:=spec x
  bif Nat.ble r.rows.length K&&r.flat then some (r.needs,r.v.shift m,kj m 0 r.rows) else none
 | none=>none
def F1 (E:Env):Env:=⟨fun _=>False,fun _=>none,fun b=>b<E.w.heap.size,E.w,fun _=>none⟩
theorem tZ {B:Base} {E:Env} (hE:HRel B E) {t:Ty} {v:V} {u:Value} {x:Den t} (hv:af E v u) (h:Jy E.H t v=some x) :
  af (F1 E) (.fp t [x] 0 0) u∧∃ cs,Rd (fun b=>b<E.w.heap.size) E.w t x cs:=by
 have up :∀ {t:Ty} {x:Den t} {cs:List Value},Rd E.S E.w t x cs→Rd (fun b=>b<E.w.heap.size) E.w t x cs:=fun h=>h.ext (fun b hb=>hE.stab b hb) (fun _ _=>rfl)
 unfold Jy at h
 split at h
 ·rename_i hh off
  split at h
  case h_2=>cases h
  rename_i hoff
  have hoff:=Nat.eq_of_beq_eq_true hoff
  subst hoff
  split at h
  case h_2=>cases h
  rename_i cs hcs
  obtain ⟨b,c,T,fr,k1,k2,k3,k4,k5⟩:=hE.blk _ _ hcs
  have hrd:=db hE h k5
  have hp:=hv
  simp only [af] at hp
  obtain ⟨b',k6,k7⟩:=hp.2.2 cs hcs
  rw [k1] at k6
  cases k6
  have hlen:=hrd.len
  refine ⟨?_,_,up hrd⟩
  simp only [af]
  refine ⟨b,0,c,T,fr,hE.lt _ _ _ hcs k1,k2,?_,fun j hj=>?_,Int.le_refl _,by simp,?_⟩
  ·simp only [List.length_singleton]
   have:c.toList.length=c.size:=by simp
   omega
  ·have:j=0:=by simpa using hj
   subst this
   have e:seg c (0+0*sz t) (sz t)=c.toList:=by
    unfold seg
    simp only [Nat.zero_mul,Nat.add_zero,List.drop_zero]
    exact List.take_of_length_le (by omega)
   rw [e]
   exact up hrd
  ·rw [k7];simp
 ·rename_i t' xs i off
  split at h
  case h_2=>cases h
  rename_i hoff
  have hoff:=Nat.eq_of_beq_eq_true hoff
  subst hoff
  split at h
  case isFalse=>cases h
  rename_i e
  subst e
  simp only [af] at hv
  obtain ⟨b,o,c,T,fr,k1,k2,k3,k4,k5,k6,k7⟩:=hv
  rw [List.getElem?_eq_getElem k6] at h
  simp only [Option.map_some,Option.some.injEq] at h
  subst h
  have hm :(i.toNat+1)*sz t'≤xs.length*sz t':=Nat.mul_le_mul_right _ k6
  rw [Nat.add_mul] at hm
  refine ⟨?_,_,up (k4 _ k6)⟩
  simp only [af]
  refine ⟨b,o+i.toNat*sz t',c,T,fr,hE.stab _ k1,k2,by simp only [List.length_singleton];omega,fun j hj=>?_,Int.le_refl _,by simp,?_⟩
  ·have:j=0:=by simpa using hj
   subst this
   simp only [Nat.zero_mul,Nat.add_zero]
   exact up (k4 _ k6)
  ·rw [k7];simp
 ·cases h
theorem EB {B:Base} {E:Env} (hE:HRel B E) {q:PF} {t:Ty} {v:V} {u:Value} {x:Den t} (hv:af E v u) (h:Ju E.H q t v=some x) :
  af (F1 E) (T6 q t x) u∧∃ cs,Rd (fun b=>b<E.w.heap.size) E.w t x cs:=by
 have up :∀ {t:Ty} {x:Den t} {cs:List Value},Rd E.S E.w t x cs→Rd (fun b=>b<E.w.heap.size) E.w t x cs:=fun h=>h.ext (fun b hb=>hE.stab b hb) (fun _ _=>rfl)
 cases q with
 | ptr=>exact tZ hE hv h
 | clo g=>
  simp only [Ju] at h
  unfold QI at h
  split at h
  ·rename_i g' p
   split at h
   case h_2=>cases h
   rename_i hg
   have hg:=Nat.eq_of_beq_eq_true hg
   subst hg
   simp only [af] at hv
   obtain ⟨l,h1,h2⟩:=hv
   obtain ⟨l⟩:=l
   match l,h2 with
   | [m,pv],h2=>
    simp only [ah] at h2
    obtain ⟨k1,k2⟩:=tZ hE h2.2.1 h
    refine ⟨?_,k2⟩
    show af (F1 E) (.fn g' [.nilmap,.fp t [x] 0 0]) u
    unfold af
    exact ⟨⟨[m,pv]⟩,h1,by simp only [ah];exact ⟨by simpa only [af] using h2.1,k1,trivial⟩⟩
   | [],h2=>simp [ah] at h2
   | [_],h2=>simp [ah] at h2
   | _::_::_::_,h2=>simp [ah] at h2
  ·cases h
 | dat=>
  simp only [Ju,Option.map_eq_some_iff] at h
  obtain ⟨x1,hx1,rfl⟩:=h
  let Ec:Env:=⟨fun _=>False,fun _=>none,E.S,E.w,fun _=>none⟩
  have hv1:ah E [v] [u]:=by simp only [ah];exact ⟨hv,trivial⟩
  obtain ⟨j1,cs1,j2⟩:=gG hE (Ec:=Ec) rfl rfl hv1 hx1
  have X:Ext Ec (F1 E):=⟨fun _ h=>h,fun b hb=>hE.stab b hb,fun _ _=>rfl,fun h cs _ hx=>(by cases hx),fun h ver rw t xs _ _ hx=>(by cases hx),fun h ver esz cs _ _ hx=>(by cases hx),fun h es _ hx=>(by cases hx),fun h k t x _ hx=>(by cases hx)⟩
  have j3:=bD X _ _ j1
  simp only [bF,ah] at j3
  refine ⟨j3.1,?_⟩
  cases j2 with
  | prod ha hb=>exact ⟨_,up ha⟩
theorem uw {B:Base} {E:Env} (hE:HRel B E) :∀ {q:List PF} {ps:Ty} {args:List V} {av:List Value} {x:Den ps},ah E args av→dI E.H q ps args=some x→
  ah (F1 E) (m0 q ps x) av∧∃ cs,Rd (fun b=>b<E.w.heap.size) E.w ps x cs:=by
 intro q ps
 induction ps generalizing q with
 | prod a b iha ihb=>
  intro args av x hv h
  cases args with
  | nil=>simp [dI] at h
  | cons v vs=>
   cases av with
   | nil=>simp [ah] at hv
   | cons u us=>
    simp only [ah] at hv
    simp only [dI] at h
    simp only [m0,ah]
    split at h
    case h_2=>cases h
    rename_i x1 hx1
    split at h
    case h_2=>cases h
    rename_i y1 hy1
    cases h
    obtain ⟨i1,cs2,i2⟩:=ihb hv.2 hy1
    obtain ⟨k1,cs1,k2⟩:=EB hE hv.1 hx1
    exact ⟨⟨k1,i1⟩,_,.prod k2 i2⟩
 | unit=>
  intro args av x hv h
  cases args with
  | nil=>
   cases av with
   | nil=>exact ⟨trivial,[],.unit⟩
   | cons=>simp [ah] at hv
  | cons=>simp [dI] at h
 | int=>intro args av x hv h;cases args <;> simp [dI] at h
 | bool=>intro args av x hv h;cases args <;> simp [dI] at h
 | str=>intro args av x hv h;cases args <;> simp [dI] at h
 | slice=>intro args av x hv h;cases args <;> simp [dI] at h
 | nm=>intro args av x hv h;cases args <;> simp [dI] at h
theorem Nl {C:Cfg} (hC:CfgOK P C) (hP:P.follows .mixedOrders=true) {f:FuncId} {fn:Func} (hf:P.funcs[f]?=some fn) (hbody:fn.body.isSome=true) (hname :(fn.name == "runtime.NumGoroutine")=false) (hN:C.N=fn.ntmps)
  {q:List PF} {ps:Ty} {spec:Den ps→PRes} {Λ:Den ps→Nat→Option LoopSum}
  (hΛ :∀ x:Den ps,wfD ps x→(∀ p∈(spec x).needs,p)→∀ c,fn.body=some c→∀ b∈bh (Λ x) c,∀ L,Λ x (rid b)=some L→LoopOK P C.N b L) (hlen :∀ x:Den ps,(m0 q ps x).length≤fn.ntmps)
  (h :∀ x:Den ps,wfD ps x→(∀ p∈(spec x).needs,p)→(evFn C (Λ x) fn (m0 q ps x)).sat fun v rows=>leV v (spec x).v∧rows =(spec x).rows):CtrOK P C.K f (sK C.K q ps spec):=by
 refine ⟨⟨fn,hf,hbody,hname⟩,fun B E hE args av hav m hm ps' v dh hct hps=>?_⟩
 unfold sK at hct
 split at hct
 case h_2=>cases hct
 rename_i x hx
 simp only at hct
 cases hle:Nat.ble (spec x).rows.length C.K&&(spec x).flat with
 | false=>rw [hle] at hct;cases hct
 | true=>
  rw [hle] at hct
  simp only [cond_true,Option.some.injEq,Prod.mk.injEq] at hct
  obtain ⟨rfl,rfl,rfl⟩:=hct
  simp only [Bool.and_eq_true] at hle
  obtain ⟨hle,hfl⟩:=hle
  obtain ⟨hSE,XS⟩:=dv hE (R4 E.H q args)
  have hE0:HRel (Da E.w (fun _=>False) (fun b=>b<E.w.heap.size) hE.glob0) (F1 E):=by
   refine ⟨fun h b hx=>?_,fun b hb=>hb,fun h k b hx=>?_,fun h h' k k' b hx=>?_,fun h k hx=>?_,Keeps.refl _ _,fun h k b hx=>?_,fun _ h=>h,fun _ h=> .inl h⟩ <;> cases hx
  obtain ⟨hav0,cs,hrd⟩:=uw hSE (bD XS _ _ hav) hx
  have hav0:ah (F1 E) (m0 q ps x) av:=hav0
  have hwf:wfD ps x:=⟨_,_,_,hrd⟩
  have hl0:av.length≤fn.ntmps:=by rw [←bu hav0];exact hlen x
  refine Calls.mono (vL hC hP hf hN (hΛ x hwf hps) (h x hwf hps) hE0 (fun _=>trivial) rfl rfl (fun _ h=>h) hav0 hl0) fun e w' hr=>?_
  obtain ⟨Ec,v',v0,v,acc,rfl,hEc,rfl,hv,hcan,hq1,hq2⟩:=hr
  have hcs:=pY hEc m v0 [] v acc v' hcan hv
  have hacc:=hcs.acc ⟨by simp,fun h r hr=>by simp at hr⟩
  have hlenK:acc.length≤C.K:=by
   have:=Nat.le_of_ble_eq_true hle
   rw [←hq2] at this
   simpa using this
  simp only [PRes.flat,Bool.and_eq_true,List.all_eq_true] at hfl
  obtain ⟨E',G,hren,_⟩:=LI hE hm (S1:=fun b=>b<E.w.heap.size) (fun b hb=>hE.stab b hb) hEc hacc hlenK (.inr fun q hq=>hfl.2 _ (by rw [←hq2];exact List.mem_map_of_mem hq))
  refine ⟨E',v',rfl,?_,?_⟩
  ·rw [←hq2];exact G
  ·exact oS _ _ _ hq1 (hcs.rel E' G.w (.inr (BA _ _ hq1 hfl.1)) hren)
end
section
open Go.RowKit
variable {P:Program}
def orC (A B:Ctr):Ctr:=fun a h m=>match A a h m with
 | some r=>some r
 | none=>B a h m
theorem CtrOK.or {K:Nat} {f:FuncId} {A B:Ctr} (hA:CtrOK P K f A) (hB:CtrOK P K f B):CtrOK P K f (orC A B):=⟨hA.fn,fun Bs E hE args av hav m hm ps v dh hc hp=>by
 unfold orC at hc
 split at hc
 ·rename_i r e
  cases hc
  exact hA.calls Bs E hE args av hav m hm ps v dh e hp
 ·exact hB.calls Bs E hE args av hav m hm ps v dh hc hp⟩
end
end Go.Mir
namespace Go.Proofs.YtffdpnmioidloaaGreatDoor
section
open Go Go.Mir
attribute [local irreducible] Go.Mir.DT.sat Go.Mir.evPat Go.Mir.RT.sat Go.Mir.evFn
abbrev Rwk:Ty:= .slice (.nm .Row)
abbrev PV:Ty:= .prod I (.prod (.nm .Rules) .unit)
def JG:Den PV→PRes:=fun x=>⟨[],.bool (inS x.2.1 x.1),[]⟩
abbrev PY:Ty:= .prod (.nm .Rules) (.prod (.nm .Row) (.prod .bool (.prod (.nm .Row) .unit)))
def Qu:Den PY→PRes:=fun x=>⟨[],.bool (mq x.1 (some (x.2.1,x.2.2.1)) x.2.2.2.1),[]⟩
abbrev Qe:Pat:=⟨[(0,.h (.nm .Rules)),(1,.c .nilptr),(2,.h .bool),(3,.h (.nm .Row))],[],0⟩
def S9:Den (tyP Qe)→List Prop×Den (tyP ax):=fun x=>([],(mq x.1 none x.2.2.1,()))
def Nf (p:Int×Int):Sum (Int×Int×Unit) Unit:=if p.2 != 0 then .inl (p.1,p.2,()) else .inr ()
abbrev Uc:List (Nat×PB):= [(0,.dat (.nm .Rules))]
abbrev qCh:Pat:=⟨[(1,.h Rwk),(2,.c (.ptr 0 0)),(7,.c (.fn 92 [.ptr 0 0])),(8,.p (.nm .Row)),(9,.h .bool),(26,.h Rwk),(27,.h I),(28,.h I)],Uc,1⟩
abbrev qC0:Pat:=⟨[(1,.h Rwk),(2,.c (.ptr 0 0)),(7,.c (.fn 92 [.ptr 0 0])),(8,.c .nilptr),(9,.h .bool),(26,.h Rwk),(27,.h I),(28,.h I)],Uc,1⟩
abbrev xCh:List (Lf×Pat):= [(.ret,⟨[(4,.h I),(5,.h I)],[],0⟩),(.ext 0,⟨[],[],0⟩)]
abbrev TCh:Type:=List Row×Row×Bool×List Row×Int×Int×Rules×Unit
abbrev TC0:Type:=List Row×Bool×List Row×Int×Int×Rules×Unit
def yY (x:TCh):Prop:=x.2.2.2.1=x.1∧x.2.2.2.2.1 =(x.1.length:Int)∧(0≤x.2.2.2.2.2.1∧x.2.2.2.2.2.1≤x.2.2.2.2.1)∧x.1.length≤4000
def BH (x:TCh):Nat:=(x.2.2.2.2.1 - x.2.2.2.2.2.1).toNat
def kO (x:TCh):Sum (Int×Int×Unit) Unit:=Nf (iT x.2.2.2.2.2.2.1 (some (x.2.1,x.2.2.1)) x.2.2.2.2.2.1 (x.1.drop x.2.2.2.2.2.1.toNat))
def IT (x:TC0):Prop:=x.2.2.1=x.1∧x.2.2.2.1 =(x.1.length:Int)∧(0≤x.2.2.2.2.1∧x.2.2.2.2.1≤x.2.2.2.1)∧x.1.length≤4000
def Pa (x:TC0):Nat:=(x.2.2.2.1 - x.2.2.2.2.1).toNat
def pM (x:TC0):Sum (Int×Int×Unit) Unit:=Nf (iT x.2.2.2.2.2.1 none x.2.2.2.2.1 (x.1.drop x.2.2.2.2.1.toNat))
abbrev qRk:Pat:=bX [.nm .Rules,Rwk]
abbrev P1:Pat:=bX [I,I]
def Cg:Den (tyP qRk)→List Prop×Den (tyP P1):=fun x=>([],((cq x.1 x.2.1).1,(cq x.1 x.2.1).2,()))
def klnPlacedO:FuncId×Ctr:=(94,orC (ae KE Qe ax S9) (sK KE [.dat,.ptr,.dat,.dat] PY Qu))
theorem gu (a b:Bool) :(bif a then true else b) =(a||b):=by cases a <;> rfl
theorem m7 (r:Rules) (b:Bef) (i:Int) (x:Row) (l:List Row):iT r b i (x::l)=if ln r b x != 0 then (i,ln r b x) else iT r (Ea r x) (i+1) l:=rfl
theorem vu {r:Rules} :∀ (l:List Row) (b:Bef) (i:Int),(iT r b i l).2=0→iT r b i l =(-1,0)
 | [],_,_,_=>rfl
 | x::l,b,i,h=>by
  rw [m7] at h ⊢
  cases hc:ln r b x != 0 with
  | true=>
   rw [hc,if_pos rfl] at h
   have h:ln r b x=0:=h
   rw [h] at hc;cases hc
  | false=>
   rw [hc,if_neg Bool.false_ne_true] at h
   rw [if_neg Bool.false_ne_true]
   exact vu l _ _ h
theorem Az {r:Rules} {b:Bef} {v:Row} {a3 a6 a10 a4 a16:Bool} (h3:a3 =(BV v.Symbol != 0)) (h6:a6 =(bP (kB v.Symbol) != 0)) (h10:a10=C0 r v) (h4:a4=!mq r b v) (h16:a16=CW r b v) :
  ln r b v=bif a3 then 4 else bif a6 then 1 else bif a10 then 2 else bif a4 then 8 else bif a16 then 12 else 0:=by
 unfold ln
 rw [←h3,←h6,←h10,←h4,←h16]
 cases a3 <;> cases a6 <;> cases a10 <;> cases a4 <;> cases a16 <;> rfl
theorem kD (a b:Bool) :(bif a then b else false) =(a&&b):=by cases a <;> rfl
theorem QW (r:Rules) (o:Int) (c:Bool):nxB r o c=bif c then W (o+1) else o:=by cases c <;> rfl
theorem Uv (r:Rules) (k o:Int) (c:Bool):nxO r k o c=bif decide ((bif c then W (o+1) else o)≥r.Balls) then W (k+1) else k:=by
 unfold nxO
 rw [QW]
 by_cases h :(bif c then W (o+1) else o)≥r.Balls
 ·rw [if_pos h,decide_eq_true h];rfl
 ·rw [if_neg h,decide_eq_false h];rfl
theorem Uu (r:Rules) (o:Int) (c:Bool):nxI r o c=bif decide ((bif c then W (o+1) else o)≥r.Balls) then 0 else bif c then W (o+1) else o:=by
 unfold nxI
 rw [QW]
 by_cases h :(bif c then W (o+1) else o)≥r.Balls
 ·rw [if_pos h,decide_eq_true h];rfl
 ·rw [if_neg h,decide_eq_false h];rfl
def Mu:FuncId×Ctr:=(92,sK KE ([.dat,.ptr]:List PF) PV JG)
theorem Qo (n:Int) (r:Rules) :(evFn (al [] Tryz.f92) (fun _=>none) Tryz.f92 (m0 ([.dat,.ptr]:List PF) PV (n,r,()))).sat fun v' rows=>leV v' (JG (n,r,())).v∧rows =(JG (n,r,())).rows:=by
 refine cast (by kernel_rfl) (?_ :(cond (decide (n≥1)) (decide (n≤([r].getD (Int.toNat 0) (dflt (Ty.nm Nm.Rules))).2)) false)=inS r n∧([]:List RowD)=[])
 exact ⟨kD _ _,rfl⟩
theorem MZ:CtrOK Tryz.prog KE 92 (sK KE ([.dat,.ptr]:List PF) PV JG):=by
 refine Nl (C:=al [] Tryz.f92) (aj (CtrsOK.nil) _) mixed (fn:=Tryz.f92) Tryz.func92 (by kernel_rfl) (by kernel_rfl) (by kernel_rfl) (Λ:=fun _ _=>none) ?_ ?_ ?_
 ·exact fun _ _ _ _ _ _ _ _ h=>by cases h
 ·rintro ⟨n,r,⟨⟩⟩
  exact of_decide_eq_true (by kernel_rfl)
 ·rintro ⟨n,r,⟨⟩⟩ hw hn
  exact Qo n r
theorem Fi (r:Rules) (y:Row) (c:Bool) (x:Row) :(evFn (al [] Tryz.f94) (fun _=>none) Tryz.f94 (m0 ([.dat,.ptr,.dat,.dat]:List PF) PY (r,y,c,x,()))).sat fun v' rows=>leV v' (Qu (r,y,c,x,())).v∧rows =(Qu (r,y,c,x,())).rows:=by
 refine cast (by kernel_rfl) (?_ :((x.1 ==([y].getD (Int.toNat 0) (dflt (Ty.nm Nm.Row))).1)=true→(cond (x.2==cond (decide ((cond c (IntKind.i64.wrap (([y].getD (Int.toNat 0) (dflt (Ty.nm Nm.Row))).3+1)) ([y].getD (Int.toNat 0) (dflt (Ty.nm Nm.Row))).3)≥r.5)) (IntKind.i64.wrap (([y].getD (Int.toNat 0) (dflt (Ty.nm Nm.Row))).2+1)) ([y].getD (Int.toNat 0) (dflt (Ty.nm Nm.Row))).2) (x.3==cond (decide ((cond c (IntKind.i64.wrap (([y].getD (Int.toNat 0) (dflt (Ty.nm Nm.Row))).3+1)) ([y].getD (Int.toNat 0) (dflt (Ty.nm Nm.Row))).3)≥r.5)) 0 (cond c (IntKind.i64.wrap (([y].getD (Int.toNat 0) (dflt (Ty.nm Nm.Row))).3+1)) ([y].getD (Int.toNat 0) (dflt (Ty.nm Nm.Row))).3)) false)=mq r (some (y,c)) x∧([]:List RowD)=[])∧((x.1 ==([y].getD (Int.toNat 0) (dflt (Ty.nm Nm.Row))).1)=false→(cond (decide (x.1≥IntKind.i64.wrap (([y].getD (Int.toNat 0) (dflt (Ty.nm Nm.Row))).1+1))) (cond (decide (x.1<IntKind.i64.wrap (2*r.3))) (cond (x.2==0) (x.3==0) false) false) false)=mq r (some (y,c)) x∧([]:List RowD)=[]))
 refine ⟨fun h=>⟨?_,rfl⟩,fun h=>⟨?_,rfl⟩⟩
 ·have h :(x.Innings==y.Innings)=true:=h
  show _=if x.Innings==y.Innings then _ else _
  rw [if_pos h,Uv,Uu]
  exact kD _ _
 ·have h :(x.Innings==y.Innings)=false:=h
  show _=if x.Innings==y.Innings then _ else _
  rw [if_neg (by rw [h];exact Bool.false_ne_true)]
  unfold wH
  rw [←kD,←kD,←kD];rfl
theorem GE:CtrOK Tryz.prog KE 94 (sK KE ([.dat,.ptr,.dat,.dat]:List PF) PY Qu):=by
 refine Nl (C:=al [] Tryz.f94) (aj (CtrsOK.nil) _) mixed (fn:=Tryz.f94) Tryz.func94 (by kernel_rfl) (by kernel_rfl) (by kernel_rfl) (Λ:=fun _ _=>none) ?_ ?_ ?_
 ·exact fun _ _ _ _ _ _ _ _ h=>by cases h
 ·rintro ⟨r,y,c,x,⟨⟩⟩
  exact of_decide_eq_true (by kernel_rfl)
 ·rintro ⟨r,y,c,x,⟨⟩⟩ hw hn
  exact Fi r y c x
theorem B2 (r:Rules) (c:Bool) (x:Row) :(evPat (al [] Tryz.f94) (fun _=>none) Tryz.f94 Qe ax (r,c,x,())).sat fun z_=>z_ =(S9 (r,c,x,())).2:=by
 refine cast (by kernel_rfl) (?_:let r1:Int:=IntKind.i64.wrap (2*r.3);(cond (decide (x.1≥0)) (cond (decide (x.1<r1)) (cond (x.2==0) (x.3==0) false) false) false,()) =(mq r none x,()))
 intro r1
 clear_value (hr1:r1=_)
 show _ =(wH r 0 x,())
 unfold wH
 rw [hr1,←kD,←kD,←kD]
theorem Ei:CtrOK Tryz.prog KE 94 (ae KE Qe ax S9):=by
 refine an (C:=al [] Tryz.f94) (aj (CtrsOK.nil) _) mixed (fn:=Tryz.f94) Tryz.func94 (by kernel_rfl) (by kernel_rfl) (by kernel_rfl) (by kernel_rfl) (by kernel_rfl) (by kernel_rfl) (Λ:=fun _ _=>none) ?_ ?_
 ·exact fun _ _ _ _ _ _ _ _ h=>by cases h
 ·rintro ⟨r,c,x,⟨⟩⟩ hw hn
  exact B2 r c x
theorem tM:CtrOK Tryz.prog KE 94 klnPlacedO.2:=CtrOK.or Ei GE
noncomputable def lpCh:Lp:=(⟨0,al [Mu,klnPlacedO,Bz,jo,jS,q9] Tryz.f33,(fun _=>none),(az Tryz.f33 0),qCh,xCh⟩:Lp)
theorem Tt (xs:List Row) (w:Row) (c:Bool) (l:List Row) (n:Int) (i:Int) (r:Rules) (hi:yY (xs,w,c,l,n,i,r,())) :(Go.Mir.stepGK lpCh (fun _=>none) kO (fun y:Den (tyP lpCh.q)=>yY y∧BH y<BH (xs,w,c,l,n,i,r,())) (xs,w,c,l,n,i,r,())∧Go.Mir.stepEK lpCh (fun _=>none) kO (xs,w,c,l,n,i,r,())=kO (xs,w,c,l,n,i,r,())):=by
 refine cast (by kernel_rfl) (?_:let r1:Credit:=ao r (kB (l.getD i.toNat (dflt (Ty.nm Nm.Row))).7);let r2:Int:=mH r1;let r3:Bool:=BV (l.getD i.toNat (dflt (Ty.nm Nm.Row))).7 != 0;let r4:Bool:=!mq r (some (w,c)) (l.getD i.toNat (dflt (Ty.nm Nm.Row)));let r5:Row:= [w].getD (Int.toNat 0) (dflt (Ty.nm Nm.Row));let r6:Bool:=bP (kB (l.getD i.toNat (dflt (Ty.nm Nm.Row))).7) != 0;let r7:Bool:=decide ((l.getD i.toNat (dflt (Ty.nm Nm.Row))).9>r.2);let r8:Int:=cond ((kB (l.getD i.toNat (dflt (Ty.nm Nm.Row))).7).7 != 0) 1 0;let r9:Bool:=r5.1 ==(l.getD i.toNat (dflt (Ty.nm Nm.Row))).1;let r10:Bool:=cond (!inS r (l.getD i.toNat (dflt (Ty.nm Nm.Row))).4) true (cond (!inS r (l.getD i.toNat (dflt (Ty.nm Nm.Row))).5) true (cond (!inS r (l.getD i.toNat (dflt (Ty.nm Nm.Row))).6) true ((l.getD i.toNat (dflt (Ty.nm Nm.Row))).5 ==(l.getD i.toNat (dflt (Ty.nm Nm.Row))).6)));let r11:Int:=cond r9 (IntKind.i64.wrap (r2+r5.8)) r2;let r12:Bool:=(IntKind.i64.wrap ((l.getD i.toNat (dflt (Ty.nm Nm.Row))).8 - r11)).tmod (5:Int) != 0;let r13:Int:=cond r9 (IntKind.i64.wrap (r8+r5.9)) r8;let r14:Bool:=decide ((l.getD i.toNat (dflt (Ty.nm Nm.Row))).8<r11);let r15:Bool:=decide ((l.getD i.toNat (dflt (Ty.nm Nm.Row))).9<r13);let r16:Bool:=cond r14 true (cond r12 true (cond r15 true (cond r7 true (decide ((l.getD i.toNat (dflt (Ty.nm Nm.Row))).8>1000000)))));((decide (i<n)=true→(0≤i∧i <(↑l.length:Int))∧(r3=true→True)∧(r3=false→(r6=true→True)∧(r6=false→(r10=true→True)∧(r10=false→(r4=true→True)∧(r4=false→((r14=true→True)∧(r14=false→(5:Int)≠0∧(r12=true→True)∧(r12=false→(r15=true→True)∧(r15=false→(r7=true→True)∧(r7=false→True)))))∧(true=true→(r16=true→True)∧(r16=false→(0≤i∧i <(↑xs.length:Int))∧yY (xs,xs.getD i.toNat (dflt (Ty.nm Nm.Row)),r1.7,l,n,IntKind.i64.wrap (i+1),r,())∧BH (xs,xs.getD i.toNat (dflt (Ty.nm Nm.Row)),r1.7,l,n,IntKind.i64.wrap (i+1),r,())<BH (xs,w,c,l,n,i,r,()))))))))∧(decide (i<n)=false→True))∧(cond (decide (i<n)) (cond r3 (Sum.inl (i,4,())) (cond r6 (Sum.inl (i,1,())) (cond r10 (Sum.inl (i,2,())) (cond r4 (Sum.inl (i,8,())) (cond (true&&(true&&(true&&(true&&true)))) (cond r16 (Sum.inl (i,12,())) (kO (xs,xs.getD i.toNat (dflt (Ty.nm Nm.Row)),r1.7,l,n,IntKind.i64.wrap (i+1),r,()))) (cond true (cond r16 (Sum.inl (i,12,())) (kO (xs,xs.getD i.toNat (dflt (Ty.nm Nm.Row)),r1.7,l,n,IntKind.i64.wrap (i+1),r,()))) (cond r14 (Sum.inl (dflt (I.prod (I.prod Ty.unit)))) (cond r12 (Sum.inl (dflt (I.prod (I.prod Ty.unit)))) (cond r15 (Sum.inl (dflt (I.prod (I.prod Ty.unit)))) (cond r7 (Sum.inl (dflt (I.prod (I.prod Ty.unit)))) (Sum.inl (dflt (I.prod (I.prod Ty.unit)))))))))))))) (Sum.inr ()))=kO (xs,w,c,l,n,i,r,()))
 intro r1 r2 r3 r4 r5 r6 r7 r8 r9 r10 r11 r12 r13 r14 r15 r16
 clear_value (hr1:r1=_) (hr2:r2=_) (hr3:r3=_) (hr4:r4=_) (hr5:r5=_) (hr6:r6=_) (hr7:r7=_) (hr8:r8=_) (hr9:r9=_) (hr10:r10=_) (hr11:r11=_) (hr12:r12=_) (hr13:r13=_) (hr14:r14=_) (hr15:r15=_) (hr16:r16=_)
 obtain ⟨h1,h2,⟨h3,h4⟩,h5⟩:=hi
 simp only at h1 h2 h3 h4 h5
 subst h1
 by_cases h:i<n
 ·have e:l.drop i.toNat=l.getD i.toNat (dflt (Ty.nm Nm.Row))::l.drop (i+1).toNat:=b8 h3 (by omega) _
  have ew:IntKind.i64.wrap (i+1)=i+1:=bc (by omega) (by omega)
  rw [decide_eq_true h,ew,cond_true]
  generalize l.getD i.toNat (dflt (Ty.nm Nm.Row))=v at *
  have k11:r11=QD r (some (w,c)) v:=by
   rw [hr11,hr9,hr5,hr2,hr1]
   show (bif w.Innings==v.Innings then _ else _)=if w.Innings==v.Innings then _ else _
   cases w.Innings==v.Innings <;> rfl
  have k8:r8=PJ v:=by
   rw [hr8]
   show (bif (kB v.Symbol).How != 0 then _ else _)=if (kB v.Symbol).How != 0 then _ else _
   cases (kB v.Symbol).How != 0 <;> rfl
  have k13:r13=TY (some (w,c)) v:=by
   rw [hr13,hr9,hr5,k8]
   show (bif w.Innings==v.Innings then _ else _)=if w.Innings==v.Innings then _ else _
   cases w.Innings==v.Innings <;> rfl
  have k10:r10=C0 r v:=by rw [hr10,gu,gu,gu];rfl
  have k16:r16=CW r (some (w,c)) v:=by
   rw [hr16,gu,gu,gu,gu,hr14,hr12,hr15,hr7,k11,k13];rfl
  have eE:=Az hr3 hr6 k10 hr4 k16
  have eN:Ea r v=some (v,r1.Counts):=by rw [hr1];rfl
  clear k11 k8 k13 k10 k16 hr16 hr12 hr14 hr15 hr13 hr11 hr10 hr7
  refine ⟨⟨fun _=>⟨⟨h3,by omega⟩,fun _=>trivial,fun _=>⟨fun _=>trivial,fun _=>⟨fun _=>trivial,fun _=>⟨fun _=>trivial,fun _=>⟨⟨fun _=>trivial,fun _=>⟨by decide,fun _=>trivial,fun _=>⟨fun _=>trivial,fun _=>⟨fun _=>trivial,fun _=>trivial⟩⟩⟩⟩,fun _=>⟨fun _=>trivial,fun _=>⟨⟨h3,by omega⟩,⟨rfl,h2,⟨by simp only;omega,by simp only;omega⟩,h5⟩,by simp only [BH];omega⟩⟩⟩⟩⟩⟩⟩,fun z=>Bool.noConfusion z⟩,?_⟩
  simp only [kO]
  rw [e,m7,eE,eN]
  clear eE eN hr3 hr6 hr4
  cases r3 <;> cases r6 <;> cases r10 <;> cases r4 <;> cases r16 <;> rfl
 ·rw [decide_eq_false h,cond_false]
  refine ⟨⟨fun z=>Bool.noConfusion z,fun _=>trivial⟩,?_⟩
  simp only [kO]
  rw [bJ (l:=l) (by omega)]
  rfl
theorem Tq (xs:List Row) (c:Bool) (l:List Row) (n:Int) (i:Int) (r:Rules) (hi:IT (xs,c,l,n,i,r,())) :(Go.Mir.stepG0 lpCh (fun _=>none) qC0 kO (fun y:Den (tyP lpCh.q)=>yY y∧BH y<Pa (xs,c,l,n,i,r,())) (xs,c,l,n,i,r,())∧Go.Mir.stepE0 lpCh (fun _=>none) qC0 kO (xs,c,l,n,i,r,())=pM (xs,c,l,n,i,r,())):=by
 refine cast (by kernel_rfl) (?_:let r1:Credit:=ao r (kB (l.getD i.toNat (dflt (Ty.nm Nm.Row))).7);let r2:Int:=mH r1;let r3:Bool:=!mq r none (l.getD i.toNat (dflt (Ty.nm Nm.Row)));let r4:Bool:=BV (l.getD i.toNat (dflt (Ty.nm Nm.Row))).7 != 0;let r5:Bool:=bP (kB (l.getD i.toNat (dflt (Ty.nm Nm.Row))).7) != 0;let r6:Bool:=decide ((l.getD i.toNat (dflt (Ty.nm Nm.Row))).9>r.2);let r7:Int:=cond ((kB (l.getD i.toNat (dflt (Ty.nm Nm.Row))).7).7 != 0) 1 0;let r8:Bool:=(IntKind.i64.wrap ((l.getD i.toNat (dflt (Ty.nm Nm.Row))).8 - r2)).tmod (5:Int) != 0;let r9:Bool:=decide ((l.getD i.toNat (dflt (Ty.nm Nm.Row))).8<r2);let r10:Bool:=cond (!inS r (l.getD i.toNat (dflt (Ty.nm Nm.Row))).4) true (cond (!inS r (l.getD i.toNat (dflt (Ty.nm Nm.Row))).5) true (cond (!inS r (l.getD i.toNat (dflt (Ty.nm Nm.Row))).6) true ((l.getD i.toNat (dflt (Ty.nm Nm.Row))).5 ==(l.getD i.toNat (dflt (Ty.nm Nm.Row))).6)));let r11:Bool:=decide ((l.getD i.toNat (dflt (Ty.nm Nm.Row))).9<r7);let r12:Bool:=cond r9 true (cond r8 true (cond r11 true (cond r6 true (decide ((l.getD i.toNat (dflt (Ty.nm Nm.Row))).8>1000000)))));((decide (i<n)=true→(0≤i∧i <(↑l.length:Int))∧(r4=true→True)∧(r4=false→(r5=true→True)∧(r5=false→(r10=true→True)∧(r10=false→(r3=true→True)∧(r3=false→((r9=true→True)∧(r9=false→((5:Int)=0→False)∧(r8=true→True)∧(r8=false→(r11=true→True)∧(r11=false→(r6=true→True)∧(r6=false→True)))))∧(true=true→(r12=true→True)∧(r12=false→(0≤i∧i <(↑xs.length:Int))∧yY (xs,xs.getD i.toNat (dflt (Ty.nm Nm.Row)),r1.7,l,n,IntKind.i64.wrap (i+1),r,())∧BH (xs,xs.getD i.toNat (dflt (Ty.nm Nm.Row)),r1.7,l,n,IntKind.i64.wrap (i+1),r,())<Pa (xs,c,l,n,i,r,()))))))))∧(decide (i<n)=false→True))∧(cond (decide (i<n)) (cond r4 (Sum.inl (i,4,())) (cond r5 (Sum.inl (i,1,())) (cond r10 (Sum.inl (i,2,())) (cond r3 (Sum.inl (i,8,())) (cond (true&&(true&&(true&&(true&&true)))) (cond r12 (Sum.inl (i,12,())) (kO (xs,xs.getD i.toNat (dflt (Ty.nm Nm.Row)),r1.7,l,n,IntKind.i64.wrap (i+1),r,()))) (cond true (cond r12 (Sum.inl (i,12,())) (kO (xs,xs.getD i.toNat (dflt (Ty.nm Nm.Row)),r1.7,l,n,IntKind.i64.wrap (i+1),r,()))) (cond r9 (Sum.inl (dflt (I.prod (I.prod Ty.unit)))) (cond r8 (Sum.inl (dflt (I.prod (I.prod Ty.unit)))) (cond r11 (Sum.inl (dflt (I.prod (I.prod Ty.unit)))) (cond r6 (Sum.inl (dflt (I.prod (I.prod Ty.unit)))) (Sum.inl (dflt (I.prod (I.prod Ty.unit)))))))))))))) (Sum.inr ()))=pM (xs,c,l,n,i,r,()))
 intro r1 r2 r3 r4 r5 r6 r7 r8 r9 r10 r11 r12
 clear_value (hr1:r1=_) (hr2:r2=_) (hr3:r3=_) (hr4:r4=_) (hr5:r5=_) (hr6:r6=_) (hr7:r7=_) (hr8:r8=_) (hr9:r9=_) (hr10:r10=_) (hr11:r11=_) (hr12:r12=_)
 obtain ⟨h1,h2,⟨h3,h4⟩,h5⟩:=hi
 simp only at h1 h2 h3 h4 h5
 subst h1
 by_cases h:i<n
 ·have e:l.drop i.toNat=l.getD i.toNat (dflt (Ty.nm Nm.Row))::l.drop (i+1).toNat:=b8 h3 (by omega) _
  have ew:IntKind.i64.wrap (i+1)=i+1:=bc (by omega) (by omega)
  rw [decide_eq_true h,ew,cond_true]
  generalize l.getD i.toNat (dflt (Ty.nm Nm.Row))=v at *
  have k2:r2=QD r none v:=by rw [hr2,hr1];rfl
  have k7:r7=TY none v:=by
   rw [hr7]
   show (bif (kB v.Symbol).How != 0 then _ else _)=if (kB v.Symbol).How != 0 then _ else _
   cases (kB v.Symbol).How != 0 <;> rfl
  have k10:r10=C0 r v:=by rw [hr10,gu,gu,gu];rfl
  have k12:r12=CW r none v:=by
   rw [hr12,gu,gu,gu,gu,hr9,hr8,hr11,hr6,k2,k7];rfl
  have eE:=Az hr4 hr5 k10 hr3 k12
  have eN:Ea r v=some (v,r1.Counts):=by rw [hr1];rfl
  clear k2 k7 k10 k12 hr12 hr8 hr9 hr11 hr10 hr6 hr7
  refine ⟨⟨fun _=>⟨⟨h3,by omega⟩,fun _=>trivial,fun _=>⟨fun _=>trivial,fun _=>⟨fun _=>trivial,fun _=>⟨fun _=>trivial,fun _=>⟨⟨fun _=>trivial,fun _=>⟨by decide,fun _=>trivial,fun _=>⟨fun _=>trivial,fun _=>⟨fun _=>trivial,fun _=>trivial⟩⟩⟩⟩,fun _=>⟨fun _=>trivial,fun _=>⟨⟨h3,by omega⟩,⟨rfl,h2,⟨by simp only;omega,by simp only;omega⟩,h5⟩,by simp only [BH,Pa];omega⟩⟩⟩⟩⟩⟩⟩,fun z=>Bool.noConfusion z⟩,?_⟩
  simp only [kO,pM]
  rw [e,m7,eE,eN]
  clear eE eN hr3 hr4 hr5
  cases r4 <;> cases r5 <;> cases r10 <;> cases r3 <;> cases r12 <;> rfl
 ·rw [decide_eq_false h,cond_false]
  refine ⟨⟨fun z=>Bool.noConfusion z,fun _=>trivial⟩,?_⟩
  simp only [pM]
  rw [bJ (l:=l) (by omega)]
  rfl
noncomputable def Ry:LoopSum:=qV lpCh qC0 pM IT
noncomputable def Q7:Nat:=rid (az Tryz.f33 0)
theorem Sm:LoopOKp Tryz.prog 0 Tryz.f33.ntmps (az Tryz.f33 0) (qV lpCh qC0 pM IT):=
 F2 lpCh (fun _=>none) qC0 (aj (.consU MZ rfl (.consU tM rfl (.consU Eo rfl (.consU nB rfl (.consU o0 rfl (.consU wV rfl .nil)))))) _) mixed (fun b hb S hS=>by cases hS) (fun b hb S hS=>by cases hS) kO yY BH (fun |⟨xs,w,c,l,n,i,r,⟨⟩⟩,hi=>Tt xs w c l n i r hi) pM IT Pa (fun |⟨xs,c,l,n,i,r,⟨⟩⟩,hi=>Tq xs c l n i r hi)
theorem Hs (r:Rules) (l:List Row) :(evPat (al [k85,Mu,klnPlacedO,Bz,jo,jS,q9] Tryz.f33) (find [(Q7,Ry)]) Tryz.f33 qRk P1 (r,l,())).sat fun z_=>z_ =(Cg (r,l,())).2:=by
 refine cast (by kernel_rfl) (?_:let r1:Bool:=decide ((↑l.length:Int)>4000);let r2:Bool:=isL (pM (l,false,l,(↑l.length:Int),0,r,()));((aq r != 0)=true→((-1:Int),aq r,()) =((cq r l).1,(cq r l).2,()))∧((aq r != 0)=false→(r1=true→((-1:Int),9,()) =((cq r l).1,(cq r l).2,()))∧(r1=false→((cZ fun x=>none)∧l=l∧(↑l.length:Int) =(↑l.length:Int)∧((0:Int)≤0∧0≤(↑l.length:Int))∧l.length≤(4000:Nat))∧(r2=true→jm (dflt (I.prod (I.prod Ty.unit))) (pM (l,false,l,(↑l.length:Int),0,r,())) =((cq r l).1,(cq r l).2,()))∧(r2=false→((-1:Int),0,()) =((cq r l).1,(cq r l).2,())))))
 intro r1 r2
 clear_value (hr1:r1=_) (hr2:r2=_)
 refine ⟨fun h=>?_,fun h=>⟨fun a=>?_,fun a=>?_⟩⟩
 ·have:cq r l =(-1,aq r):=by unfold cq;rw [h];rfl
  rw [this]
 ·have:cq r l =(-1,9):=by unfold cq;rw [h,←hr1,a];rfl
  rw [this]
 ·have eC:cq r l=iT r none 0 l:=by unfold cq;rw [h,←hr1,a];rfl
  have e0:pM (l,false,l,(l.length:Int),0,r,())=Nf (iT r none 0 l):=rfl
  rw [hr1] at a
  have hl:=of_decide_eq_false a
  rw [e0] at hr2 ⊢
  rw [eC]
  refine ⟨⟨rfl,rfl,rfl,⟨Int.le_refl _,by omega⟩,by omega⟩,fun b=>?_,fun b=>?_⟩
  ·rw [hr2] at b
   unfold Nf at b ⊢
   cases hc :(iT r none 0 l).2 != 0 with
   | true=>rfl
   | false=>rw [hc] at b;cases b
  ·rw [hr2] at b
   unfold Nf at b
   cases hc :(iT r none 0 l).2 != 0 with
   | true=>rw [hc] at b;cases b
   | false=>rw [vu l none 0 (by simpa using hc)]
def DN:FuncId×Ctr:=(33,ae KE qRk P1 Cg)
theorem Ks:CtrOK Tryz.prog KE 33 (ae KE qRk P1 Cg):=by
 refine an (C:=al [k85,Mu,klnPlacedO,Bz,jo,jS,q9] Tryz.f33) (aj (.consU wR rfl (.consU MZ rfl (.consU tM rfl (.consU Eo rfl (.consU nB rfl (.consU o0 rfl (.consU wV rfl .nil))))))) _) mixed (fn:=Tryz.f33) Tryz.func33 (by kernel_rfl) (by kernel_rfl) (by kernel_rfl) (by kernel_rfl) (by kernel_rfl) (by kernel_rfl) (Λ:=fun x=>find [(Q7,Ry)]) ?_ ?_
 ·rintro ⟨r,l,⟨⟩⟩ hw hn
  exact LoopsOKp.at (by kernel_rfl) (.cons (by kernel_rfl) (Sm) .nil)
 ·rintro ⟨r,l,⟨⟩⟩ hw hn
  exact Hs r l
abbrev P9 (a:Ty):Pat:=bX [.slice a,.slice a]
def S5 (a:Ty):Den (tyP (P9 a))→List Prop×Den (tyP ax):=fun x=>([x.1=x.2.1],(true,()))
abbrev V2 (a:Ty):Pat:=⟨[(0,.h (.slice a)),(1,.h (.slice a)),(12,.h I),(13,.h I)],[],0⟩
abbrev V8:List (Lf×Pat):= [(.ret,⟨[(4,.h .bool)],[],0⟩),(.ext 0,⟨[],[],0⟩)]
abbrev RW (a:Ty):Type:=List (Den a)×List (Den a)×Int×Int×Unit
def sn (a:Ty) (x:RW a):Prop:=x.2.2.1 =(x.1.length:Int)∧x.1=x.2.1∧0≤x.2.2.2.1∧x.2.2.2.1≤x.2.2.1∧x.1.length≤aJ
def zU (a:Ty) (x:RW a):Nat:=(x.2.2.1 - x.2.2.2.1).toNat
def nT (a:Ty) (_:RW a):Sum (Bool×Unit) Unit:= .inr ()
abbrev uB:Pat:=bX []
abbrev P6:Pat:=bX [.nm .Delivery]
abbrev Qa:Pat:=bX [.nm .Event]
abbrev Qf:Pat:=bX [.nm .Rules]
abbrev Qc:Pat:=bX [Evs]
def ev9:Mir.Event:=Mir.Event.zero
def pE (d:Delivery):Mir.Event:={ ev9 with Kind:=4,Ball:=d }
def de9:Delivery:=Delivery.zero
def Nx:Rules:={ Rules.zero with Name:={ data:=#[84,69,83,84] },Side:=2,Innings:=1,Overs:=1,Balls:=4,Wide:=1,NoBall:=1,Outside:=11 }
def Ur:List Mir.Event:= [{ ev9 with Kind:=1,Side:=1,Yes:=true },{ ev9 with Kind:=2,Player:=1,Other:=2 },{ ev9 with Kind:=8,Player:=2 },{ ev9 with Kind:=3,Player:=1 },
 pE { de9 with Typ:=1,Source:=1,Runs:=1 },pE { de9 with Typ:=1,How:=1,Victim:=1 },{ ev9 with Kind:=2,Player:=2,Other:=1 },{ ev9 with Kind:=8,Player:=1 },{ ev9 with Kind:=3,Player:=2 },
 pE { de9 with Typ:=2 },pE { de9 with Typ:=1,Source:=1,Boundary:=4 }]
def HQ:Den (tyP P6)→List Prop×Den (tyP Qa):=fun x=>([],(pE x.1,()))
def Cn:Den (tyP uB)→List Prop×Den (tyP Qf):=fun _=>([],(Nx,()))
def N8:Den (tyP uB)→List Prop×Den (tyP Qc):=fun _=>([],(Ur,()))
def Ie:Den (tyP uB)→List Prop×Den (tyP ax):=fun _=>([],(true,()))
noncomputable def lpLEqRow:Lp:=(⟨0,al [] Tryz.f24,(fun _=>none),(az Tryz.f24 0),(V2 (.nm .Row)),V8⟩:Lp)
theorem Ip (xs:List Row) (zs:List Row) (n:Int) (i:Int) (hi :(sn (.nm .Row)) (xs,zs,n,i,())) :(Go.Mir.stepG lpLEqRow (nT (.nm .Row)) (fun y:Den (tyP lpLEqRow.q)=>(sn (.nm .Row)) y∧(zU (.nm .Row)) y <(zU (.nm .Row)) (xs,zs,n,i,())) (xs,zs,n,i,())∧Go.Mir.stepE lpLEqRow (nT (.nm .Row)) (xs,zs,n,i,()) =(nT (.nm .Row)) (xs,zs,n,i,())):=by
 refine cast (by kernel_rfl) (?_:let r1:Bool:=!((xs.getD i.toNat (dflt (Ty.nm Nm.Row))).1 ==(zs.getD i.toNat (dflt (Ty.nm Nm.Row))).1&&((xs.getD i.toNat (dflt (Ty.nm Nm.Row))).2 ==(zs.getD i.toNat (dflt (Ty.nm Nm.Row))).2&&((xs.getD i.toNat (dflt (Ty.nm Nm.Row))).3 ==(zs.getD i.toNat (dflt (Ty.nm Nm.Row))).3&&((xs.getD i.toNat (dflt (Ty.nm Nm.Row))).4 ==(zs.getD i.toNat (dflt (Ty.nm Nm.Row))).4&&((xs.getD i.toNat (dflt (Ty.nm Nm.Row))).5 ==(zs.getD i.toNat (dflt (Ty.nm Nm.Row))).5&&((xs.getD i.toNat (dflt (Ty.nm Nm.Row))).6 ==(zs.getD i.toNat (dflt (Ty.nm Nm.Row))).6&&((xs.getD i.toNat (dflt (Ty.nm Nm.Row))).7.toList ==(zs.getD i.toNat (dflt (Ty.nm Nm.Row))).7.toList&&((xs.getD i.toNat (dflt (Ty.nm Nm.Row))).8 ==(zs.getD i.toNat (dflt (Ty.nm Nm.Row))).8&&((xs.getD i.toNat (dflt (Ty.nm Nm.Row))).9 ==(zs.getD i.toNat (dflt (Ty.nm Nm.Row))).9&&true)))))))));((decide (i<n)=true→(0≤i∧i <(↑xs.length:Int))∧(0≤i∧i <(↑zs.length:Int))∧(r1=true→True)∧(r1=false→sn (Ty.nm Nm.Row) (xs,zs,n,IntKind.i64.wrap (i+1),())∧zU (Ty.nm Nm.Row) (xs,zs,n,IntKind.i64.wrap (i+1),())<zU (Ty.nm Nm.Row) (xs,zs,n,i,())))∧(decide (i<n)=false→True))∧(cond (decide (i<n)) (cond r1 (Sum.inl (false,())) (nT (Ty.nm Nm.Row) (xs,zs,n,IntKind.i64.wrap (i+1),()))) (Sum.inr ()))=nT (Ty.nm Nm.Row) (xs,zs,n,i,()))
 intro r1
 clear_value (hr1:r1=_)
 obtain ⟨h1,h2,h3,h4,h5⟩:=hi
 simp only at h1 h2 h3 h4 h5
 subst h2
 have h1:n =(xs.length:Int):=h1
 have hx :(xs.length:Int)≤140737488355328:=by have:xs.length≤140737488355328:=h5;omega
 have h4:i≤n:=h4
 have e1:r1=false:=by rw [hr1];simp
 clear hr1
 subst e1
 by_cases h:i<n
 ·rw [decide_eq_true h,bc (n:=i+1) (by omega) (by omega)]
  exact ⟨⟨fun _=>⟨⟨h3,by omega⟩,⟨h3,by omega⟩,fun _=>trivial,fun _=>⟨⟨h1,rfl,by simp only;omega,by simp only;omega,h5⟩,by simp only [zU];omega⟩⟩,fun z=>Bool.noConfusion z⟩,rfl⟩
 ·rw [decide_eq_false h]
  exact ⟨⟨fun z=>Bool.noConfusion z,fun _=>trivial⟩,rfl⟩
noncomputable def AU:LoopSum:=aM lpLEqRow (nT (.nm .Row)) (sn (.nm .Row))
noncomputable def Ay:Nat:=rid (az Tryz.f24 0)
theorem Gr:LoopOKp Tryz.prog 0 Tryz.f24.ntmps (az Tryz.f24 0) (aM lpLEqRow (nT (.nm .Row)) (sn (.nm .Row))):=
 bk lpLEqRow (aj (CtrsOK.nil) _) mixed (fun b hb S hS=>by cases hS) (nT (.nm .Row)) (sn (.nm .Row)) (zU (.nm .Row)) (fun |⟨xs,zs,n,i,⟨⟩⟩,hi=>Ip xs zs n i hi)
theorem NB (xs:List Row) (zs:List Row) (he:xs=zs) (hx:xs.length≤aJ) :(evPat (al [] Tryz.f24) (find [(Ay,AU)]) Tryz.f24 (P9 (.nm .Row)) ax (xs,zs,())).sat fun z_=>z_ =((S5 (.nm .Row)) (xs,zs,())).2:=by
 refine cast (by kernel_rfl) (?_:let r1:Bool:=(↑xs.length:Int) !=(↑zs.length:Int);(r1=true→(false,()) =(true,()))∧(r1=false→((cZ fun x=>none)∧(↑xs.length:Int) =(↑xs.length:Int)∧xs=zs∧(0:Int)≤0∧0≤(↑xs.length:Int)∧xs.length≤aJ)∧(false=true→(false,()) =(true,()))∧(false=false→(true,()) =(true,()))))
 intro r1
 clear_value (hr1:r1=_)
 have e1:r1=false:=by rw [hr1,he];simp
 exact ⟨fun h=>(by rw [e1] at h;cases h),fun _=>⟨⟨rfl,rfl,he,Int.le_refl _,by omega,hx⟩,fun h=>(by cases h),fun _=>rfl⟩⟩
def Bt:FuncId×Ctr:=(24,ae KE (P9 (.nm .Row)) ax (S5 (.nm .Row)))
theorem Jm:CtrOK Tryz.prog KE 24 (ae KE (P9 (.nm .Row)) ax (S5 (.nm .Row))):=by
 refine an (C:=al [] Tryz.f24) (aj (CtrsOK.nil) _) mixed (fn:=Tryz.f24) Tryz.func24 (by kernel_rfl) (by kernel_rfl) (by kernel_rfl) (by kernel_rfl) (by kernel_rfl) (by kernel_rfl) (Λ:=fun x=>find [(Ay,AU)]) ?_ ?_
 ·rintro ⟨xs,zs,⟨⟩⟩ hw hn
  exact LoopsOKp.at (by kernel_rfl) (.cons (by kernel_rfl) (Gr) .nil)
 ·rintro ⟨xs,zs,⟨⟩⟩ hw hn
  exact NB xs zs (hn _ List.mem_cons_self) (cN (aU hw))
theorem Vz {b:Bool} {p:Prop} (e:b=false):b=true→p:=fun h=>by rw [e] at h;cases h
theorem FJ (d:Delivery) :(evPat (al [] Tryz.f97) (fun _=>none) Tryz.f97 P6 Qa (d,())).sat fun z_=>z_ =(HQ (d,())).2:=by
 refine cast (by kernel_rfl) (?_ :(Mir.Event.mk 4 0 0 0 false 0 0 d,()) =(pE d,()))
 rfl
def zQ:FuncId×Ctr:=(97,ae KE P6 Qa HQ)
theorem GV:CtrOK Tryz.prog KE 97 (ae KE P6 Qa HQ):=by
 refine an (C:=al [] Tryz.f97) (aj (CtrsOK.nil) _) mixed (fn:=Tryz.f97) Tryz.func97 (by kernel_rfl) (by kernel_rfl) (by kernel_rfl) (by kernel_rfl) (by kernel_rfl) (by kernel_rfl) (Λ:=fun _ _=>none) ?_ ?_
 ·exact fun _ _ _ _ _ _ _ _ h=>by cases h
 ·rintro ⟨d,⟨⟩⟩ hw hn
  exact FJ d
theorem FK :(evPat (al [] Tryz.f37) (fun _=>none) Tryz.f37 uB Qf ()).sat fun z_=>z_ =(Cn ()).2:=by
 refine cast (by kernel_rfl) (?_ :(Rules.mk (ByteArray.mk #[84,69,83,84]) 2 1 1 4 0 1 1 false 0 0 0 11 [],()) =(Nx,()))
 rfl
def zR:FuncId×Ctr:=(37,ae KE uB Qf Cn)
theorem GW:CtrOK Tryz.prog KE 37 (ae KE uB Qf Cn):=by
 refine an (C:=al [] Tryz.f37) (aj (CtrsOK.nil) _) mixed (fn:=Tryz.f37) Tryz.func37 (by kernel_rfl) (by kernel_rfl) (by kernel_rfl) (by kernel_rfl) (by kernel_rfl) (by kernel_rfl) (Λ:=fun _ _=>none) ?_ ?_
 ·exact fun _ _ _ _ _ _ _ _ h=>by cases h
 ·rintro ⟨⟩ hw hn
  exact FK
theorem Ls :(evPat (al [zQ] Tryz.f38) (fun _=>none) Tryz.f38 uB Qc ()).sat fun z_=>z_ =(N8 ()).2:=by
 refine cast (by kernel_rfl) (?_:let r1:Delivery:=Delivery.mk 0 0 0 0 0 false 0 0 0 0 false 0;([Mir.Event.mk 1 1 0 0 true 0 0 r1,Mir.Event.mk 2 0 1 2 false 0 0 r1,Mir.Event.mk 8 0 2 0 false 0 0 r1,Mir.Event.mk 3 0 1 0 false 0 0 r1,Mir.Event.mk 4 0 0 0 false 0 0 (Delivery.mk 1 1 1 0 0 false 0 0 0 0 false 0),Mir.Event.mk 4 0 0 0 false 0 0 (Delivery.mk 1 0 0 0 0 false 1 1 0 0 false 0),Mir.Event.mk 2 0 2 1 false 0 0 r1,Mir.Event.mk 8 0 1 0 false 0 0 r1,Mir.Event.mk 3 0 2 0 false 0 0 r1,Mir.Event.mk 4 0 0 0 false 0 0 (Delivery.mk 2 0 0 0 0 false 0 0 0 0 false 0),Mir.Event.mk 4 0 0 0 false 0 0 (Delivery.mk 1 1 0 0 4 false 0 0 0 0 false 0)],()) =(Ur,()))
 intro r1
 clear_value (hr1:r1=_)
 rw [hr1]
 rfl
def Jf:FuncId×Ctr:=(38,ae KE uB Qc N8)
theorem Nd:CtrOK Tryz.prog KE 38 (ae KE uB Qc N8):=by
 refine an (C:=al [zQ] Tryz.f38) (aj (.consU GV rfl .nil) _) mixed (fn:=Tryz.f38) Tryz.func38 (by kernel_rfl) (by kernel_rfl) (by kernel_rfl) (by kernel_rfl) (by kernel_rfl) (by kernel_rfl) (Λ:=fun _ _=>none) ?_ ?_
 ·exact fun _ _ _ _ _ _ _ _ h=>by cases h
 ·rintro ⟨⟩ hw hn
  exact Ls
theorem FL :(evPat (al [zR,Jf,rb,DN,Bt] Tryz.f19) (fun _=>none) Tryz.f19 uB ax ()).sat fun z_=>z_ =(Ie ()).2:=by
 refine cast (by kernel_rfl) (?_:let r1:Bool:=(0:Int) != 0;let r2:Int:=(0:Int)+1;let r3:Bool:=cond r1 true (!true);let r4:Int:=r2+1;let r5:Int:=r4+1;let r6:Int:=r5+1;let r7:Delivery:=Delivery.mk 0 0 0 0 0 false 0 0 0 0 false 0;let r8:Delivery:=Delivery.mk 1 1 1 0 0 false 0 0 0 0 false 0;let r9:Delivery:=Delivery.mk 1 0 0 0 0 false 1 1 0 0 false 0;let r10:Delivery:=Delivery.mk 2 0 0 0 0 false 0 0 0 0 false 0;let r11:Delivery:=Delivery.mk 1 1 0 0 4 false 0 0 0 0 false 0;let r12:Row:=Row.mk 0 0 0 1 1 2 (ByteArray.mk #[49]) 2 0;let r13:Int:=r6+1;let r14:Row:=Row.mk 0 0 1 1 2 1 (ByteArray.mk #[46,47,66,49]) 1 1;let r15:Int:=r13+1;let r16:Int:=r15+1;let r17:Rules:=Rules.mk (ByteArray.mk #[84,69,83,84]) 2 1 1 4 0 1 1 false 0 0 0 11 [];let r18:Int:=r16+1;let r19:Int:=r18+1;let r20:Int:=r19+1;let r21:List Row:= [Row.mk 0 0 0 1 1 2 (ByteArray.mk #[49]) 1 0,r14,Row.mk 1 0 0 2 2 1 (ByteArray.mk #[119]) 1 0,Row.mk 1 0 0 2 2 1 (ByteArray.mk #[70]) 5 0];let r22:Match:=dK (dK (dK (dK (kA r17) 0 (Mir.Event.mk 1 1 0 0 true 0 0 r7)) r2 (Mir.Event.mk 2 0 1 2 false 0 0 r7)) r4 (Mir.Event.mk 8 0 2 0 false 0 0 r7)) r5 (Mir.Event.mk 3 0 1 0 false 0 0 r7);let r23:Match:=dK r22 r6 (pE r8);let r24:Match:=dK r23 r13 (pE r9);let r25:Match:=dK (dK (dK r24 r15 (Mir.Event.mk 2 0 2 1 false 0 0 r7)) r16 (Mir.Event.mk 8 0 1 0 false 0 0 r7)) r18 (Mir.Event.mk 3 0 2 0 false 0 0 r7);let r26:Match:=dK r25 r19 (pE r10);((r1=true→True)∧(r1=false→ []++[qA (lY r17 r6 r22 r23 r8)]++[qA (lY r17 r13 r23 r24 r9)]++[qA (lY r17 r19 r25 r26 r10)]++[qA (lY r17 r20 r26 (dK r26 r20 (pE r11)) r11)]=r21∧True))∧(true=true→(r3=true→(false,()) =(true,()))∧(r3=false→((0:Int)≤0∧0 <(↑r21.length:Int))∧((0:Int)≤0∧0 <(↑(r21.set (Int.toNat 0) r12).length:Int))∧(cond ((0:Int)==0) (cond (ln r17 none r12==12) (cond (r2==1) (ln r17 (Ea r17 (Row.mk 0 0 0 1 1 2 (ByteArray.mk #[49]) 6 0)) r14==12) false) false) false,()) =(true,()))))
 intro r1 r2 r3 r4 r5 r6 r7 r8 r9 r10 r11 r12 r13 r14 r15 r16 r17 r18 r19 r20 r21 r22 r23 r24 r25 r26
 clear_value (hr1:r1=_) (hr2:r2=_) (hr3:r3=_) (hr4:r4=_) (hr5:r5=_) (hr6:r6=_) (hr7:r7=_) (hr8:r8=_) (hr9:r9=_) (hr10:r10=_) (hr11:r11=_) (hr12:r12=_) (hr13:r13=_) (hr14:r14=_) (hr15:r15=_) (hr16:r16=_) (hr17:r17=_) (hr18:r18=_) (hr19:r19=_) (hr20:r20=_) (hr21:r21=_) (hr22:r22=_) (hr23:r23=_) (hr24:r24=_) (hr25:r25=_) (hr26:r26=_)
 subst hr1 hr2 hr3 hr4 hr5 hr6 hr7 hr8 hr9 hr10 hr11 hr12 hr13 hr14 hr15 hr16 hr17 hr18 hr19 hr20 hr21 hr22 hr23 hr24 hr25 hr26
 refine ⟨⟨fun _=>trivial,fun _=>⟨by kernel_rfl,trivial⟩⟩,fun _=>⟨Vz (by kernel_rfl),fun _=>⟨⟨by decide,by decide⟩,⟨by decide,by decide⟩,by kernel_rfl⟩⟩⟩
def zS:FuncId×Ctr:=(19,ae KE uB ax Ie)
theorem GX:CtrOK Tryz.prog KE 19 (ae KE uB ax Ie):=by
 refine an (C:=al [zR,Jf,rb,DN,Bt] Tryz.f19) (aj (.consU GW rfl (.consU Nd rfl (.consU Ab rfl (.consU Ks rfl (.consU Jm rfl .nil))))) _) mixed (fn:=Tryz.f19) Tryz.func19 (by kernel_rfl) (by kernel_rfl) (by kernel_rfl) (by kernel_rfl) (by kernel_rfl) (by kernel_rfl) (Λ:=fun _ _=>none) ?_ ?_
 ·exact fun _ _ _ _ _ _ _ _ h=>by cases h
 ·rintro ⟨⟩ hw hn
  exact FL
abbrev EU:Pat:=bX [Evs]
def N5:Den (tyP EU)→List Prop×Den (tyP EU):=fun x=>([],(x.1.take 60,()))
def Rs:Den (tyP qRL)→List Prop×Den (tyP ax):=fun _=>([],(true,()))
theorem Lr (l:List Mir.Event) :(evPat (al [] Tryz.f26) (fun _=>none) Tryz.f26 EU EU (l,())).sat fun z_=>z_ =(N5 (l,())).2:=by
 refine cast (by kernel_rfl) (?_:let r1:Int:=if 60 <(↑l.length:Int) then 60 else (↑l.length:Int);((0:Int)≤0∧0≤r1∧r1≤(↑l.length:Int))∧(List.drop (Int.toNat 0) (List.take r1.toNat l),()) =(List.take (60:Nat) l,()))
 intro r1
 clear_value (hr1:r1=_)
 have e1:0≤r1∧r1≤(l.length:Int)∧r1.toNat=min 60 l.length:=by rw [hr1];split <;> omega
 refine ⟨⟨Int.le_refl _,e1.1,e1.2.1⟩,?_⟩
 rw [e1.2.2]
 have e2:l.take (min 60 l.length)=l.take 60:=by
  rw [List.take_eq_take_iff]
  omega
 rw [e2]
 rfl
def Je:FuncId×Ctr:=(26,ae KE EU EU N5)
theorem Nc:CtrOK Tryz.prog KE 26 (ae KE EU EU N5):=by
 refine an (C:=al [] Tryz.f26) (aj (CtrsOK.nil) _) mixed (fn:=Tryz.f26) Tryz.func26 (by kernel_rfl) (by kernel_rfl) (by kernel_rfl) (by kernel_rfl) (by kernel_rfl) (by kernel_rfl) (Λ:=fun _ _=>none) ?_ ?_
 ·exact fun _ _ _ _ _ _ _ _ h=>by cases h
 ·rintro ⟨l,⟨⟩⟩ hw hn
  exact Lr l
theorem Ce (r:Rules) (l:List Mir.Event) :(evPat (al [zS,Je,rb,zM,Bt] Tryz.f8) (fun _=>none) Tryz.f8 qRL ax (r,l,())).sat fun z_=>z_ =(Rs (r,l,())).2:=by
 refine cast (by kernel_rfl) (?_ :((!true)=true→(false,()) =(true,()))∧((!true)=false→((ga r (List.take (60:Nat) l)).1 =(fZ r (List.take (60:Nat) l)).1∧(true=true→True)∧(true=false→True))∧(true=true→(cond true ((ga r (List.take (60:Nat) l)).2 ==(fZ r (List.take (60:Nat) l)).2) false,()) =(true,()))))
 have e:=FY r (l.take 60)
 refine ⟨fun h=>Bool.noConfusion h,fun _=>⟨⟨by rw [e],fun _=>trivial,fun h=>Bool.noConfusion h⟩,fun _=>?_⟩⟩
 rw [e,beq_self_eq_true]
 rfl
theorem EA:CtrOK Tryz.prog KE 8 (ae KE qRL ax Rs):=by
 refine an (C:=al [zS,Je,rb,zM,Bt] Tryz.f8) (aj (.consU GX rfl (.consU Nc rfl (.consU Ab rfl (.consU GR rfl (.consU Jm rfl .nil))))) _) mixed (fn:=Tryz.f8) Tryz.func8 (by kernel_rfl) (by kernel_rfl) (by kernel_rfl) (by kernel_rfl) (by kernel_rfl) (by kernel_rfl) (Λ:=fun _ _=>none) ?_ ?_
 ·exact fun _ _ _ _ _ _ _ _ h=>by cases h
 ·rintro ⟨r,l,⟨⟩⟩ hw hn
  exact Ce r l
end
section
open Go Go.ChangeShapes Go.WideShapes Go.ChangeAt Go.RowKit
theorem V0:ownKnob Tryz.prog.godebug=none:=by kernel_rfl
abbrev Jg:List (String×DataW Unit):= [("math/bits.deBruijn32tab",Rows.laid_math_bits_deBruijn32tab),("math/bits.deBruijn64tab",Rows.laid_math_bits_deBruijn64tab),("internal/strconv.uint64pow10",Rows.laid_internal_strconv_uint64pow10)]
theorem LV (os:Os) (args:Array Value):laidMetH Tryz.prog Jg ((World.doorLaid Tryz.prog 72 os).forCall (fun _ _=>0) ⟨#[],args,[]⟩).memory:=
 laidMetH_of_parts3 (fuel:=8) (laidMet_of_run' 8 (by kernel_rfl) (by kernel_rfl)) (by kernel_rfl) (by kernel_rfl)
end
end Go.Proofs.YtffdpnmioidloaaGreatDoor
namespace Go.Mir
open Go.RowKit Go.ChangeShapes Go.WideShapes
open Go.Proofs.YtffdpnmioidloaaGreatDoor.Rows (uptoBulk uptoBulkAll)
section
variable {H:Type} {enc:TypeId×Value→H} {P:Program} {w:World}
theorem Gl {K:Nat} {f:FuncId} {fn:Func} {c:Ctr} (hc:CtrOK P K f c) {ps:Ty} (hps:xI P fn.params.toList ps=true) (hgl:vi w fun _=>False)
  (h :∀ x:Den ps,wfD ps x→∃ ls,c (bF ps x) (fun _=>none) 0=some (ls,.bool true,[])∧∀ p∈ls,p)
  {args:Array Value} {ds:List (DataW H)} {p:List MemPlace} (hA:DataW.TrodAll enc P w 0 (fun _=>true) true fn.params.toList args.toList ds p) (hval :∀ (j:Nat) t v,fn.params[j]?=some t→args[j]?=some v→∃ r b,Value.okWide P w r b t v)
  (hw :∀ m∈DataW.weightsEach P fn.params.toList ds,m≤aJ) :
  Calls P f args w fun e w'=>e = .returned (.bool true)∧Keeps w (fun _=>False) w':=by
 obtain ⟨x,k1,⟨cs,k2⟩,_,_,_⟩:=rU hA hps (fun j t v h1 h2=>hval j t v (by simpa using h1) (by simpa using h2)) hw
 obtain ⟨ls,e1,e2⟩:=h x ⟨_,_,_,k2⟩
 have hc:=hc.calls (QH w hgl) (OS w) (LX w hgl) _ _ k1 0 (fun n _ _ hu=>hu) ls _ _ e1 e2
 have e:args.toList.toArray=args:=by simp
 rw [e] at hc
 refine Calls.mono hc fun e w' hr=>?_
 obtain ⟨E',v',rfl,G,hv⟩:=hr
 simp only [af] at hv
 subst hv
 refine ⟨rfl,?_⟩
 have:=G.rel.keeps
 rw [G.w] at this
 exact this
end
end Go.Mir
