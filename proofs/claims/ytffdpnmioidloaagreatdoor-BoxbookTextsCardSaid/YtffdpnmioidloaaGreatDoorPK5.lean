/- Texts of the mirror and contracts, put together. -/
import Derived.Test.YtffdpnmioidloaaGreatDoorPK4
namespace Go.Proofs.YtffdpnmioidloaaGreatDoor
open Go Go.Mir
attribute [local irreducible] Go.Mir.RT.sat Go.Mir.evFn Go.Mir.stepObl
theorem QS :(evFn (Bw [] Tryz.f168) (fun _=>none) Tryz.f168 (eo KT ())).sat fun v' rows=>leV v' (yh ()).v∧rows =(yh ()).rows:=by
 refine cast (by kernel_rfl) (?_ :(nat_lit 0=nat_lit 0∧nat_lit 0=nat_lit 0)∧ [RowD.mk (Ty.nm Nm.dismissal_way) [dismissal_way.mk (0:Int) (ByteArray.mk #[78,79,84,79,85,84]) false false false false false,dismissal_way.mk (1:Int) (ByteArray.mk #[66,79,87,76,69,68]) true false false false false,dismissal_way.mk (2:Int) (ByteArray.mk #[67,65,85,71,72,84]) true false false true false,dismissal_way.mk (3:Int) (ByteArray.mk #[76,66,87]) true false false false false,dismissal_way.mk (4:Int) (ByteArray.mk #[83,84,85,77,80,69,68]) true true false true false,dismissal_way.mk (5:Int) (ByteArray.mk #[72,73,84,87,73,67,75,69,84]) true true false false false,dismissal_way.mk (6:Int) (ByteArray.mk #[82,85,78,79,85,84]) true true true true true,dismissal_way.mk (7:Int) (ByteArray.mk #[72,73,84,84,87,73,67,69]) true false true false false,dismissal_way.mk (8:Int) (ByteArray.mk #[79,66,83,84,82,85,67,84,73,78,71]) true true true false true,dismissal_way.mk (9:Int) (ByteArray.mk #[84,73,77,69,68,79,85,84]) false false false false false,dismissal_way.mk (10:Int) (ByteArray.mk #[82,69,84,73,82,69,68]) false false false false false]]=[RowD.mk (Ty.nm Nm.dismissal_way) wtab])
 exact ⟨⟨rfl,rfl⟩,by kernel_rfl⟩
theorem OD:CtrOK Tryz.prog KK 168 (aO KK KT yh):=by
 refine qE (C:=Bw [] Tryz.f168) (C8 CtrsOK.nil _) mixed (fn:=Tryz.f168) Tryz.func168 (by kernel_rfl) (by kernel_rfl) (by kernel_rfl) (Λ:=fun _ _=>none) ?_ ?_ ?_
 ·exact fun _ _ _ _ _ _ _ _ h=>by cases h
 ·rintro ⟨⟩
  exact of_decide_eq_true (by kernel_rfl)
 ·rintro ⟨⟩ _ _
  exact QS
theorem RN:wtab.length=11:=rfl
theorem De {α:Type} (p:α→Bool) :∀ (xs:List α) (i:Nat) (x:α),xs[i]?=some x→p x=true→(∀ y∈xs.take i,p y=false)→xs.find? p=some x
 | [],_,_,h,_,_=>by simp at h
 | y::xs,0,x,h,hp,_=>by simp at h;subst h;simp [hp]
 | y::xs,i+1,x,h,hp,hn=>by
  have h0:p y=false:=hn y (by simp)
  rw [List.find?_cons_of_neg (by simp [h0])]
  exact De p xs i x (by simpa using h) hp (fun z hz=>hn z (by simp [hz]))
theorem Kd {α:Type} {xs:List α} {i:Nat} (z:α) (h:i<xs.length):xs[i]?=some (xs.getD i z):=by
 rw [List.getD_eq_getElem?_getD,List.getElem?_eq_getElem h];rfl
theorem O7 (h:Int) (i:Nat) (hi:Ds h i) :(stepObl (J57 h) (Ds h) (fun i=>11 - i) i (T57 h) (aW (Bw [k61] Tryz.f104) (fun _=>none) (aq Tryz.f104 0) (J57 h i)) (L57 i)).1:=by
 refine cast (by kernel_rfl) (?_ :(decide ((↑i:Int) <(↑wtab.length:Int))=true→((0:Int)≤(↑i:Int)∧(↑i:Int) <(↑wtab.length:Int))∧(((wtab.getD (↑i:Int).toNat (dflt (Ty.nm Nm.dismissal_way))).1==h)=true→(wtab.any fun w=>w.1==h)=true∧(True∧True)∧((wtab.getD (↑i:Int).toNat (dflt (Ty.nm Nm.dismissal_way))).1 =(ofW h).1∧(wtab.getD (↑i:Int).toNat (dflt (Ty.nm Nm.dismissal_way))).2 =(ofW h).2∧(wtab.getD (↑i:Int).toNat (dflt (Ty.nm Nm.dismissal_way))).3 =(ofW h).3∧(wtab.getD (↑i:Int).toNat (dflt (Ty.nm Nm.dismissal_way))).4 =(ofW h).4∧(wtab.getD (↑i:Int).toNat (dflt (Ty.nm Nm.dismissal_way))).5 =(ofW h).5∧(wtab.getD (↑i:Int).toNat (dflt (Ty.nm Nm.dismissal_way))).6 =(ofW h).6∧(wtab.getD (↑i:Int).toNat (dflt (Ty.nm Nm.dismissal_way))).7 =(ofW h).7∧True)∧True)∧(((wtab.getD (↑i:Int).toNat (dflt (Ty.nm Nm.dismissal_way))).1==h)=false→Ds h (i +(1:Nat))∧(11:Nat) - (i +(1:Nat)) <(11:Nat) - i∧(h=h∧True∧True∧(↑wtab.length:Int) =(↑wtab.length:Int)∧IntKind.i64.wrap ((↑i:Int) +(1:Int)) =(↑(i +(1:Nat)):Int)∧True)∧RowD.mk (Ty.nm Nm.dismissal_way) wtab=RowD.mk (Ty.nm Nm.dismissal_way) wtab∧((0:Int) =(0:Int)∧ByteArray.empty=ByteArray.empty∧false=false∧false=false∧false=false∧false=false∧false=false∧True)∧True))∧(decide ((↑i:Int) <(↑wtab.length:Int))=false→(wtab.any fun w=>w.1==h)=false∧(True∧True)∧((0:Int) =(0:Int)∧ByteArray.empty=ByteArray.empty∧false=false∧false=false∧false=false∧false=false∧false=false∧True)∧True))
 have e :(i:Int).toNat=i:=by simp
 rw [e]
 generalize hw:wtab.getD i (dflt (Ty.nm Nm.dismissal_way))=w
 refine ⟨fun h1=>?_,fun h1=>?_⟩
 ·have h1:i<wtab.length:=by simpa using h1
  have h3:wtab[i]?=some w:=by rw [←hw];exact Kd _ h1
  refine ⟨⟨by omega,by omega⟩,fun h2=>?_,fun h2=>?_⟩
  ·have h4:ofW h=w:=by
    unfold ofW
    rw [De (fun w=>w.how==h) wtab i w h3 h2 hi.2];rfl
   have h5 :(wtab.any fun w=>w.1==h)=true:=List.any_eq_true.2 ⟨w,List.mem_of_getElem? h3,h2⟩
   rw [h4]
   exact ⟨h5,⟨trivial,trivial⟩,⟨rfl,rfl,rfl,rfl,rfl,rfl,rfl,trivial⟩,trivial⟩
  ·rw [RN] at h1
   refine ⟨⟨by omega,fun y hy=>?_⟩,by omega,⟨rfl,trivial,trivial,rfl,?_,trivial⟩,rfl,⟨rfl,rfl,rfl,rfl,rfl,rfl,rfl,trivial⟩,trivial⟩
   ·rw [List.take_add_one,h3] at hy
    rcases List.mem_append.1 hy with hy|hy
    ·exact hi.2 y hy
    ·simp at hy;subst hy;exact h2
   ·rw [wrap64 (by omega) (by omega)];omega
 ·have h1:wtab.length≤i:=by simpa using h1
  refine ⟨?_,⟨trivial,trivial⟩,⟨rfl,rfl,rfl,rfl,rfl,rfl,rfl,trivial⟩,trivial⟩
  rw [List.any_eq_false]
  intro x hx
  have:=hi.2 x (by rw [List.take_of_length_le h1];exact hx)
  simpa using this
theorem Kr (h:Int):LoopsOK Tryz.prog Tryz.f104.ntmps [aq Tryz.f104 0] (Λ57 h):=
 .cons (L:=qA ⟨[],[],16⟩ (J57 h 0) (T57 h)) (by kernel_rfl) (Kp (C8 (.cons OD .nil) _) mixed (J57 h) (fun _=>rfl) (Ds h) (fun i=>11 - i) (fun _ _=>none) (fun _ _ _ _ _ h=>by cases h) (T57 h) [] [] 0 ⟨Nat.zero_le _,by simp⟩ L57 (O7 h)) .nil
theorem QR (h:Int) :(evFn (Bw [k61] Tryz.f104) (Λ57 h) Tryz.f104 (eo AD (h,()))).sat fun v' rows=>leV v' (yg (h,())).v∧rows =(yg (h,())).rows:=by
 refine cast (by kernel_rfl) (?_ :((c8 fun x=>none)∧(h=h∧True∧True∧(↑wtab.length:Int) =(↑wtab.length:Int)∧(0:Int) =(↑(0:Nat):Int)∧True)∧RowD.mk (Ty.nm Nm.dismissal_way) wtab=RowD.mk (Ty.nm Nm.dismissal_way) wtab∧((0:Int) =(0:Int)∧ByteArray.empty=ByteArray.empty∧false=false∧false=false∧false=false∧false=false∧false=false∧True)∧True)∧((wtab.any fun w=>w.1==h)=true→((ofW h).1 =(ofW h).1∧(ofW h).2 =(ofW h).2∧(ofW h).3 =(ofW h).3∧(ofW h).4 =(ofW h).4∧(ofW h).5 =(ofW h).5∧(ofW h).6 =(ofW h).6∧(ofW h).7 =(ofW h).7∧True)∧([]:List RowD)=[])∧((wtab.any fun w=>w.1==h)=false→((0:Int) =(ofW h).1∧ByteArray.empty =(ofW h).2∧false =(ofW h).3∧false =(ofW h).4∧false =(ofW h).5∧false =(ofW h).6∧false =(ofW h).7∧True)∧([]:List RowD)=[]))
 refine ⟨⟨rfl,⟨rfl,trivial,trivial,rfl,rfl,trivial⟩,rfl,⟨rfl,rfl,rfl,rfl,rfl,rfl,rfl,trivial⟩,trivial⟩,fun _=>⟨⟨rfl,rfl,rfl,rfl,rfl,rfl,rfl,trivial⟩,rfl⟩,fun h1=>?_⟩
 have h2:ofW h=dismissal_way.zero:=by
  unfold ofW
  rw [List.find?_eq_none.2]
  ·rfl
  ·intro x hx hp
   have:=(List.any_eq_false.1 h1) x hx
   exact this hp
 rw [h2]
 exact ⟨⟨rfl,rfl,rfl,rfl,rfl,rfl,rfl,trivial⟩,rfl⟩
theorem RG:CtrOK Tryz.prog KK 104 (aO KK AD yg):=by
 refine qE (C:=Bw [k61] Tryz.f104) (C8 (.cons OD .nil) _) mixed (fn:=Tryz.f104) Tryz.func104 (by kernel_rfl) (by kernel_rfl) (by kernel_rfl) (Λ:=fun x=>Λ57 x.1) ?_ ?_ ?_
 ·rintro ⟨h,⟨⟩⟩ _ _
  exact LoopsOK.at (by kernel_rfl) (Kr h)
 ·rintro ⟨h,⟨⟩⟩
  exact of_decide_eq_true (by kernel_rfl)
 ·rintro ⟨h,⟨⟩⟩ _ _
  exact QR h
theorem QP (h:Int) :(evFn (Bw [k57] Tryz.f44) (fun _=>none) Tryz.f44 (eo AD (h,()))).sat fun v' rows=>leV v' (yf (h,())).v∧rows =(yf (h,())).rows:=by
 refine cast (by kernel_rfl) (?_ :(ofW h).2 =(ofW h).2∧([]:List RowD)=[])
 exact ⟨rfl,rfl⟩
theorem QC:CtrOK Tryz.prog KK 44 (aO KK AD yf):=by
 refine qE (C:=Bw [k57] Tryz.f44) (C8 (.cons RG .nil) _) mixed (fn:=Tryz.f44) Tryz.func44 (by kernel_rfl) (by kernel_rfl) (by kernel_rfl) (Λ:=fun _ _=>none) ?_ ?_ ?_
 ·exact fun _ _ _ _ _ _ _ _ h=>by cases h
 ·rintro ⟨h,⟨⟩⟩
  exact of_decide_eq_true (by kernel_rfl)
 ·rintro ⟨h,⟨⟩⟩ _ _
  exact QP h
end Go.Proofs.YtffdpnmioidloaaGreatDoor
namespace Go.Proofs.YtffdpnmioidloaaGreatDoor
open Go Go.Mir Go.RowKit
attribute [local irreducible] Go.Mir.DT.sat Go.Mir.evPat Go.Mir.RT.sat Go.Mir.evFn
def gQ (s:ByteArray) (w:dismissal_way):Bool:=w.name.toList==s.toList
def dW (s:ByteArray):Int:=((wtab.find? (gQ s)).getD dismissal_way.zero).how
def cj (s:ByteArray):Int:=bif wtab.any (gQ s) then 0 else 4
def ntabV:List ByteArray:=wtab.map dismissal_way.name
abbrev qPn:Pat:=eQ [.str]
abbrev K2:Pat:=eQ [U8,I]
def sPn:Den (tyP qPn)→List Prop×Den (tyP K2):=fun x=>([],(dW x.1,cj x.1,()))
abbrev qPw:Pat:=⟨[(0,.h .str),(6,.c (.osl 0 1)),(7,.h I),(8,.h I)],[(0,.row 1 (.nm .dismissal_way))],2⟩
abbrev xPw:List (Lf×Pat):= [(.ret,⟨[(2,.h U8),(3,.h I)],[],0⟩),(.ext 0,⟨[],[],0⟩)]
abbrev TPw:Type:=ByteArray×Int×Int×List dismissal_way×Unit
abbrev OPw:Type:=Sum (Int×Int×Unit) Unit
def J8:Option dismissal_way→OPw
 | some w=> .inl (w.how,0,())
 | none=> .inr ()
def jK:TPw→OPw
 |(s,_,i,l,_)=>J8 ((l.drop i.toNat).find? (gQ s))
def vd:TPw→Prop
 |(_,n,i,l,_)=>(n =(l.length:Int)∧l.length≤1000)∧0≤i∧i≤n
def H3:TPw→Nat
 |(_,n,i,_)=>(n - i).toNat
abbrev q0V:Pat:=eQ []
abbrev K1:Pat:=⟨[(0,.c (.osl 0 1))],[(0,.row 1 .str)],2⟩
def sNt:Den (tyP q0V)→List Prop×Den (tyP K1):=fun _=>([],(ntabV,()))
abbrev qHw:Pat:=eQ [U8]
abbrev KY:Pat:=eQ [.str]
def b7 (h:Int):ByteArray:=(ofW h).name
def CH:Den (tyP qHw)→List Prop×Den (tyP KY):=fun x=>([],(b7 x.1,()))
theorem Q9 {n:Int} (h:wfD (.int .u8) n):0≤n∧n≤255:=by
 obtain ⟨S,w,cs,h⟩:=h
 cases h with|int h=>exact ⟨by have:=h.1;simpa [IntKind.min,IntKind.max,IntKind.signed,IntKind.bits] using this,by have:=h.2;simpa [IntKind.min,IntKind.max,IntKind.signed,IntKind.bits] using this⟩
noncomputable def lpPw:Lp:=(⟨0,aC [] Tryz.f111,(fun _=>none),(aq Tryz.f111 0),qPw,xPw⟩:Lp)
theorem Ps (s:ByteArray) (n:Int) (i:Int) (l:List dismissal_way) (hi:vd (s,n,i,l,())) :(Go.Mir.stepG lpPw jK (fun y:Den (tyP lpPw.q)=>vd y∧H3 y<H3 (s,n,i,l,())) (s,n,i,l,())∧Go.Mir.stepE lpPw jK (s,n,i,l,())=jK (s,n,i,l,())):=by
 refine cast (by kernel_rfl) (?_:let r1:Bool:=(l.getD i.toNat (dflt (Ty.nm Nm.dismissal_way))).2.toList==s.toList;((decide (i<n)=true→((0:Int)≤i∧i <(↑l.length:Int))∧(r1=true→True)∧(r1=false→vd (s,n,IntKind.i64.wrap (i +(1:Int)),l,())∧H3 (s,n,IntKind.i64.wrap (i +(1:Int)),l,())<H3 (s,n,i,l,())))∧(decide (i<n)=false→True))∧(bif decide (i<n) then bif r1 then Sum.inl ((l.getD i.toNat (dflt (Ty.nm Nm.dismissal_way))).1,(0:Int),()) else jK (s,n,IntKind.i64.wrap (i +(1:Int)),l,()) else Sum.inr ())=jK (s,n,i,l,()))
 intro r1
 clear_value (hr1:r1=_)
 obtain ⟨⟨h1,h1b⟩,h2,h3⟩:=hi
 have h1:n =(l.length:Int):=h1
 have h1b:l.length≤1000:=h1b
 have h2:0≤i:=h2
 have h3:i≤n:=h3
 by_cases h:i<n
 ·have e1:IntKind.i64.wrap (i+1)=i+1:=wrap64 (by omega) (by omega)
  have hd:l.drop i.toNat=l.getD i.toNat (dflt (Ty.nm Nm.dismissal_way))::l.drop (i+1).toNat:=aL h2 (by omega) _
  have er:r1=gQ s (l.getD i.toNat (dflt (Ty.nm Nm.dismissal_way))):=hr1
  have key:jK (s,n,i,l,())=bif r1 then .inl ((l.getD i.toNat (dflt (Ty.nm Nm.dismissal_way))).how,0,()) else jK (s,n,i+1,l,()):=by
   show J8 ((l.drop i.toNat).find? (gQ s))=_
   rw [hd,List.find?_cons,←er]
   cases r1 <;> rfl
  rw [decide_eq_true h,e1,key]
  refine ⟨⟨fun _=>⟨⟨h2,by omega⟩,fun _=>trivial,fun _=>⟨⟨⟨h1,h1b⟩,?_,?_⟩,?_⟩⟩,fun z=>Bool.noConfusion z⟩,rfl⟩
  ·show 0≤i+1;omega
  ·show i+1≤n;omega
  ·show (n - (i+1)).toNat <(n - i).toNat;omega
 ·rw [decide_eq_false h]
  refine ⟨⟨fun z=>Bool.noConfusion z,fun _=>trivial⟩,?_⟩
  show _=J8 ((l.drop i.toNat).find? (gQ s))
  rw [aF (l:=l) (by omega)]
  rfl
noncomputable def ML:LoopSum:=ai lpPw jK vd
noncomputable def Md:Nat:=rid (aq Tryz.f111 0)
theorem Og:LoopOKp Tryz.prog 0 Tryz.f111.ntmps (aq Tryz.f111 0) (ai lpPw jK vd):=
 az lpPw (ao (CtrsOK.nil) _) mixed (fun b hb S hS=>by cases hS) jK vd H3 (fun |⟨s,n,i,l,⟨⟩⟩,hi=>Ps s n i l hi)
theorem QO (s:ByteArray) :(evPat (aC [k61] Tryz.f111) (find [(Md,ML)]) Tryz.f111 qPn K2 (s,())).sat fun z_=>z_ =(sPn (s,())).2:=by
 refine cast (by kernel_rfl) (?_:let r1:Bool:=isL (jK (s,(↑wtab.length:Int),(0:Int),wtab,()));((c8 fun x=>none)∧((↑wtab.length:Int) =(↑wtab.length:Int)∧wtab.length≤(1000:Nat))∧(0:Int)≤(0:Int)∧(0:Int)≤(↑wtab.length:Int))∧(r1=true→jc (dflt (U8.prod (I.prod Ty.unit))) (jK (s,(↑wtab.length:Int),(0:Int),wtab,())) =(dW s,cj s,()))∧(r1=false→((0:Int),(4:Int),()) =(dW s,cj s,())))
 intro r1
 clear_value (hr1:r1=_)
 have e0:jK (s,(wtab.length:Int),0,wtab,())=J8 (wtab.find? (gQ s)):=rfl
 rw [e0] at hr1 ⊢
 refine ⟨⟨rfl,⟨rfl,by decide⟩,Int.le_refl _,by decide⟩,fun h=>?_,fun h=>?_⟩
 ·cases hf:wtab.find? (gQ s) with
  | none=>rw [hr1,hf] at h;exact Bool.noConfusion h
  | some w=>
   have ha:wtab.any (gQ s)=true:=List.any_eq_true.2 ⟨w,List.mem_of_find?_eq_some hf,List.find?_some hf⟩
   unfold dW cj
   rw [hf,ha]
   rfl
 ·cases hf:wtab.find? (gQ s) with
  | some w=>rw [hr1,hf] at h;exact Bool.noConfusion h
  | none=>
   have ha:wtab.any (gQ s)=false:=by
    rw [List.any_eq_false]
    exact List.find?_eq_none.1 hf
   unfold dW cj
   rw [hf,ha]
   rfl
def k23:FuncId×Ctr:=(111,ah KE qPn K2 sPn)
theorem RE:CtrOK Tryz.prog KE 111 (ah KE qPn K2 sPn):=by
 refine ba (C:=aC [k61] Tryz.f111) (ao (.consU OD rfl .nil) _) mixed (fn:=Tryz.f111) Tryz.func111 (by kernel_rfl) (by kernel_rfl) (by kernel_rfl) (by kernel_rfl) (by kernel_rfl) (by kernel_rfl) (Λ:=fun x=>find [(Md,ML)]) ?_ ?_
 ·rintro ⟨s,⟨⟩⟩ hw hn
  exact LoopsOKp.at (by kernel_rfl) (.cons (by kernel_rfl) (Og) .nil)
 ·rintro ⟨s,⟨⟩⟩ hw hn
  exact QO s
theorem QT :(evPat (aC [] Tryz.f106) (fun _=>none) Tryz.f106 q0V K1 ()).sat fun z_=>z_ =(sNt ()).2:=by
 refine cast (by kernel_rfl) (?_ :([ByteArray.mk #[78,79,84,79,85,84],ByteArray.mk #[66,79,87,76,69,68],ByteArray.mk #[67,65,85,71,72,84],ByteArray.mk #[76,66,87],ByteArray.mk #[83,84,85,77,80,69,68],ByteArray.mk #[72,73,84,87,73,67,75,69,84],ByteArray.mk #[82,85,78,79,85,84],ByteArray.mk #[72,73,84,84,87,73,67,69],ByteArray.mk #[79,66,83,84,82,85,67,84,73,78,71],ByteArray.mk #[84,73,77,69,68,79,85,84],ByteArray.mk #[82,69,84,73,82,69,68]],()) =(ntabV,()))
 rfl
def k64:FuncId×Ctr:=(106,ah KE q0V K1 sNt)
theorem RH:CtrOK Tryz.prog KE 106 (ah KE q0V K1 sNt):=by
 refine ba (C:=aC [] Tryz.f106) (ao (CtrsOK.nil) _) mixed (fn:=Tryz.f106) Tryz.func106 (by kernel_rfl) (by kernel_rfl) (by kernel_rfl) (by kernel_rfl) (by kernel_rfl) (by kernel_rfl) (Λ:=fun _ _=>none) ?_ ?_
 ·exact fun _ _ _ _ _ _ _ _ h=>by cases h
 ·rintro ⟨⟩ hw hn
  exact QT
theorem QQ (h:Int) (h0:0≤h) :(evPat (aC [k64] Tryz.f48) (fun _=>none) Tryz.f48 qHw KY (h,())).sat fun z_=>z_ =(CH (h,())).2:=by
 refine cast (by kernel_rfl) (?_:let r1:Bool:=decide (h >(10:Int));(r1=true→(ByteArray.mk #[],()) =(b7 h,()))∧(r1=false→((0:Int)≤h∧h <(↑ntabV.length:Int))∧(ntabV.getD h.toNat (dflt Ty.str),()) =(b7 h,())))
 intro r1
 clear_value (hr1:r1=_)
 refine ⟨fun h1=>?_,fun h1=>?_⟩
 ·have h1:h>10:=of_decide_eq_true (hr1▸h1)
  have:wtab.find? (fun w=>w.how==h)=none:=by
   rw [List.find?_eq_none]
   intro x hx
   simp only [wtab,List.mem_cons,List.not_mem_nil,or_false] at hx
   rcases hx with rfl|rfl|rfl|rfl|rfl|rfl|rfl|rfl|rfl|rfl|rfl <;> simp <;> omega
  unfold b7 ofW
  rw [this]
  rfl
 ·have h1 :¬ h>10:=of_decide_eq_false (hr1▸h1)
  have hl:ntabV.length=11:=rfl
  refine ⟨⟨h0,by omega⟩,?_⟩
  have:h=0∨h=1∨h=2∨h=3∨h=4∨h=5∨h=6∨h=7∨h=8∨h=9∨h=10:=by omega
  rcases this with rfl|rfl|rfl|rfl|rfl|rfl|rfl|rfl|rfl|rfl|rfl <;> rfl
def k26:FuncId×Ctr:=(48,ah KE qHw KY CH)
theorem OC:CtrOK Tryz.prog KE 48 (ah KE qHw KY CH):=by
 refine ba (C:=aC [k64] Tryz.f48) (ao (.consU RH rfl .nil) _) mixed (fn:=Tryz.f48) Tryz.func48 (by kernel_rfl) (by kernel_rfl) (by kernel_rfl) (by kernel_rfl) (by kernel_rfl) (by kernel_rfl) (Λ:=fun _ _=>none) ?_ ?_
 ·exact fun _ _ _ _ _ _ _ _ h=>by cases h
 ·rintro ⟨h,⟨⟩⟩ hw hn
  exact QQ h (Q9 (jm hw)).1
end Go.Proofs.YtffdpnmioidloaaGreatDoor
namespace Go.Proofs.YtffdpnmioidloaaGreatDoor
open Go Go.Mir
theorem uJ :∀ (w:List UInt8) (ws:List (List UInt8)),(∀ x∈w::ws,(32:UInt8)∉x)→dq 32 (Lib.join (w::ws) [32])=w::ws
 | w,[],h=>by
  rw [Lib.join_one]
  exact Da _ _ (h w List.mem_cons_self)
 | w,v::ws,h=>by
  have ih:=uJ v ws fun x hx=>h x (List.mem_cons_of_mem _ hx)
  have e:Lib.join (w::v::ws) [32]=w++32::Lib.join (v::ws) [32]:=by
   rw [Lib.join_cons,Lib.join_cons]
   simp [Lib.joinTail]
  rw [e,oM _ _ _ (h w List.mem_cons_self),ih]
theorem Kj {c:UInt8} (hc:c≠32) :∀ (ws:List (List UInt8)),(∀ x∈ws,c∉x)→c∉Lib.join ws [32]
 | [],_=>by simp [Lib.join_nil]
 | w::ws,h=>by
  rw [Lib.join_cons]
  intro hm
  rcases List.mem_append.1 hm with hm|hm
  ·exact h w List.mem_cons_self hm
  ·unfold Lib.joinTail at hm
   obtain ⟨l,hl,hm⟩:=List.mem_flatten.1 hm
   obtain ⟨x,hx,rfl⟩:=List.mem_map.1 hl
   rcases List.mem_append.1 hm with hm|hm
   ·exact hc (List.mem_singleton.1 hm)
   ·exact h x (List.mem_cons_of_mem _ hx) hm
theorem nZ {c:UInt8} :∀ (a b:List UInt8),c∉a→Lib.indexByte (a++c::b) c=a.length
 | [],b,_=>by simp [Lib.indexByte]
 | x::a,b,h=>by
  have ih:=nZ a b fun hm=>h (List.mem_cons_of_mem _ hm)
  have hx :(x==c)=false:=by
   apply beq_eq_false_iff_ne.2
   rintro rfl
   exact h List.mem_cons_self
  show (if (x==c)=true then (0:Int) else if (Lib.indexByte (a++c::b) c == -1)=true then -1 else Lib.indexByte (a++c::b) c+1)=_
  rw [ih,hx]
  have :((a.length:Int) == -1)=false:=by
   apply beq_eq_false_iff_ne.2;omega
  rw [this]
  simp
theorem HA {a b:List UInt8} (h :(10:UInt8)∉a):eD (a++10::b)=a.length+1:=by
 unfold eD
 rw [nZ a b h,if_pos (by omega)]
 omega
theorem zP :∀ (ls:List (List UInt8)) (k:Nat),(∀ x∈ls,(10:UInt8)∉x)→((ls.map (·++[10])).flatten).length<k→gO k (ls.map (·++[10])).flatten=ls.map (·++[10])
 | [],0,_,h=>absurd h (Nat.not_lt_zero _)
 | [],k+1,_,_=>rfl
 | l::ls,0,_,h=>absurd h (Nat.not_lt_zero _)
 | l::ls,k+1,h,hk=>by
  have e :((l::ls).map (·++[10])).flatten=l++10 ::(ls.map (·++[10])).flatten:=by simp
  rw [e] at hk ⊢
  have hl :(10:UInt8)∉l:=h l List.mem_cons_self
  have e1 :(l++10 ::(ls.map (·++[10])).flatten).isEmpty=false:=by simp
  have e2 :(l++10 ::(ls.map (·++[10])).flatten).take (l.length+1)=l++[10]:=by
   rw [show l++10 ::(ls.map (·++[10])).flatten =(l++[10]) ++(ls.map (·++[10])).flatten by simp]
   rw [List.take_left' (by simp)]
  have e3 :(l++10 ::(ls.map (·++[10])).flatten).drop (l.length+1) =(ls.map (·++[10])).flatten:=by
   rw [show l++10 ::(ls.map (·++[10])).flatten =(l++[10]) ++(ls.map (·++[10])).flatten by simp]
   rw [List.drop_left' (by simp)]
  unfold gO
  rw [e1,HA hl,e2,e3]
  rw [zP ls k (fun x hx=>h x (List.mem_cons_of_mem _ hx)) (by rw [List.length_append,List.length_cons] at hk;omega)]
  rfl
theorem uI :∀ (ls:List (List UInt8)),(∀ x∈ls,(10:UInt8)∉x)→dq 10 (ls.map (·++[10])).flatten=ls++[[]]
 | [],_=>rfl
 | l::ls,h=>by
  have e :((l::ls).map (·++[10])).flatten=l++10 ::(ls.map (·++[10])).flatten:=by simp
  rw [e,oM _ _ _ (h l List.mem_cons_self),uI ls fun x hx=>h x (List.mem_cons_of_mem _ hx)]
  rfl
theorem Lm (l:List UInt8):Lib.trimSuffix (l++[10]) [10]=l:=by
 unfold Lib.trimSuffix Lib.hasSuffix
 have:List.isSuffixOf [10] (l++[10])=true:=List.isSuffixOf_iff_suffix.2 (List.suffix_append _ _)
 rw [if_pos this]
 simp
def bookV:ByteArray:=⟨#[66,79,79,75]⟩
def boxV:ByteArray:=⟨#[66,79,88]⟩
def stripV:ByteArray:=⟨#[83,84,82,73,80]⟩
def bj (x:Mir.Box):List ByteArray:=bA boxV [x.Over,x.Bowler] x.Symbols
def aG (x:Mir.Strip):List ByteArray:=bA stripV [x.Player] (b7 x.How::aP x.Bowler::x.Symbols)
def bm (b:Mir.Book):List ByteArray:=bA bookV (b.Side::bR b) []
def dM (b:Mir.Book):List (List ByteArray):=bm b ::(b.Boxes.map bj++b.Strips.map aG)
def lnB (ws:List ByteArray):ByteArray:=iG ws spV++nlV
def fi (b:Mir.Book):ByteArray:=b.Strips.foldl (fun o x=>o++lnB (aG x)) (b.Boxes.foldl (fun o x=>o++lnB (bj x)) (lnB (bm b)))
def Bl (b:Mir.Book):List Int:=bR b ++(b.Side ::(b.Boxes.flatMap (fun x=> [x.Over,x.Bowler])++b.Strips.flatMap (fun x=> [x.Player,x.Bowler])))
def CP (b:Mir.Book):List ByteArray:=b.Boxes.flatMap (·.Symbols)++b.Strips.flatMap (·.Symbols)
def bf (x:Mir.Strip):Bool:=!((b7 x.How).toList ==(⟨#[]⟩:ByteArray).toList)
def bT (b:Mir.Book):Int:=if (Bl b).all okI then (if b.Strips.all bf then (if (CP b).all ay then 0 else 4) else 3) else 2
def bs (b:Mir.Book):ByteArray×Int:=if bT b=0 then (fi b,0) else (⟨#[]⟩,bT b)
theorem ma {α:Type} (f:α→ByteArray) :∀ (l:List α) (o:ByteArray),(l.foldl (fun o x=>o++f x) o).data.toList=o.data.toList ++(l.map fun x=>(f x).data.toList).flatten
 | [],o=>by simp
 | x::l,o=>by
  rw [List.foldl_cons,ma f l,ByteArray.data_append,Array.toList_append]
  simp
theorem BU (ws:List ByteArray) :(iG ws spV).data.toList=Lib.join (ws.map (·.data.toList)) [32]:=rfl
theorem zS (ws:List ByteArray) :(lnB ws).data.toList=Lib.join (ws.map (·.data.toList)) [32]++[10]:=by
 unfold lnB
 rw [ByteArray.data_append,Array.toList_append,BU]
 rfl
def jnL (ws:List ByteArray):List UInt8:=Lib.join (ws.map (·.data.toList)) [32]
theorem nI (b:Mir.Book) :(fi b).data.toList =(((dM b).map jnL).map (·++[10])).flatten:=by
 unfold fi dM
 rw [ma,ma,zS]
 simp only [zS,List.map_cons,List.map_append,List.map_map,List.flatten_cons,List.flatten_append,List.append_assoc]
 rfl
def pq (s:ByteArray):Prop:=(32:UInt8)∉s.data.toList∧(10:UInt8)∉s.data.toList
theorem Iq {b:UInt8} (h:okC b=true):b≠32∧b≠10:=by
 constructor <;>(rintro rfl;exact absurd h (by decide))
theorem AB {s:ByteArray} (h:ay s=true):pq s:=by
 unfold ay at h
 rw [Bool.and_eq_true,List.all_eq_true] at h
 exact ⟨fun hm=>(Iq (h.1 _ hm)).1 rfl,fun hm=>(Iq (h.1 _ hm)).2 rfl⟩
theorem GK {n:Int} (h0:0≤n):pq (aP n):=by
 have h2:=(oA _ n.toNat (Nat.lt_succ_self _)).2.1
 rw [List.all_eq_true] at h2
 constructor
 ·exact QA h0
 ·intro hm
  rw [lX h0] at hm
  exact absurd (h2 _ hm) (by decide)
theorem zU (h:Int):ofW h∈dismissal_way.zero::wtab:=by
 unfold ofW
 cases hf:wtab.find? (fun w=>w.how==h) with
 | none=>exact List.mem_cons_self
 | some w=>exact List.mem_cons_of_mem _ (List.mem_of_find?_eq_some hf)
theorem Kx (h:Int):pq (b7 h):=by
 have key :∀ w∈dismissal_way.zero::wtab,(32:UInt8)∉w.name.data.toList∧(10:UInt8)∉w.name.data.toList:=by decide +kernel
 exact key _ (zU h)
theorem mj (h:Int) :(b7 h).size≤20:=by
 have key :∀ w∈dismissal_way.zero::wtab,w.name.size≤20:=by decide +kernel
 exact key _ (zU h)
theorem po {n:Int} (h:okI n=true):0≤n∧n≤1000000:=by
 unfold okI at h
 simp only [Bool.not_eq_true',Bool.or_eq_false_iff,decide_eq_false_iff_not] at h
 omega
structure Wr (b:Mir.Book):Prop where
 hd :∀ n∈b.Side::bR b,0≤n∧n≤1000000
 bx :∀ x∈b.Boxes,(0≤x.Over∧x.Over≤1000000)∧(0≤x.Bowler∧x.Bowler≤1000000)∧∀ s∈x.Symbols,ay s=true
 st :∀ x∈b.Strips,(0≤x.Player∧x.Player≤1000000)∧(0≤x.Bowler∧x.Bowler≤1000000)∧bf x=true∧∀ s∈x.Symbols,ay s=true
theorem yx {b:Mir.Book} (h:bT b=0):Wr b:=by
 unfold bT at h
 split at h
 case isFalse=>exact absurd h (by decide)
 rename_i h1
 split at h
 case isFalse=>exact absurd h (by decide)
 rename_i h2
 split at h
 case isFalse=>exact absurd h (by decide)
 rename_i h3
 rw [List.all_eq_true] at h1 h2 h3
 have h1 :∀ n∈Bl b,0≤n∧n≤1000000:=fun n hn=>po (h1 n hn)
 unfold Bl at h1
 unfold CP at h3
 refine ⟨fun n hn=>h1 n ?_,fun x hx=>⟨h1 _ ?_,h1 _ ?_,fun s hs=>h3 s ?_⟩,fun x hx=>⟨h1 _ ?_,h1 _ ?_,h2 x hx,fun s hs=>h3 s ?_⟩⟩
 ·rcases List.mem_cons.1 hn with rfl|hn
  ·exact List.mem_append_right _ List.mem_cons_self
  ·exact List.mem_append_left _ hn
 ·exact List.mem_append_right _ (List.mem_cons_of_mem _ (List.mem_append_left _ (List.mem_flatMap.2 ⟨x,hx,by simp⟩)))
 ·exact List.mem_append_right _ (List.mem_cons_of_mem _ (List.mem_append_left _ (List.mem_flatMap.2 ⟨x,hx,by simp⟩)))
 ·exact List.mem_append_left _ (List.mem_flatMap.2 ⟨x,hx,hs⟩)
 ·exact List.mem_append_right _ (List.mem_cons_of_mem _ (List.mem_append_right _ (List.mem_flatMap.2 ⟨x,hx,by simp⟩)))
 ·exact List.mem_append_right _ (List.mem_cons_of_mem _ (List.mem_append_right _ (List.mem_flatMap.2 ⟨x,hx,by simp⟩)))
 ·exact List.mem_append_right _ (List.mem_flatMap.2 ⟨x,hx,hs⟩)
theorem tw {w:ByteArray} {l:List Int} {r:List ByteArray} (hw:pq w) (hl :∀ n∈l,0≤n∧n≤1000000) (hr :∀ s∈r,pq s) :∀ s∈bA w l r,pq s:=by
 intro s hs
 unfold bA at hs
 rcases List.mem_append.1 hs with hs|hs
 ·rcases List.mem_cons.1 hs with rfl|hs
  ·exact hw
  ·obtain ⟨n,hn,rfl⟩:=List.mem_map.1 hs
   exact GK (hl n hn).1
 ·exact hr s hs
theorem book_wd:pq bookV∧pq boxV∧pq stripV:=by unfold pq;decide
theorem zQ {b:Mir.Book} (h:Wr b) :∀ ws∈dM b,ws≠ []∧∀ s∈ws,pq s:=by
 intro ws hws
 unfold dM at hws
 rcases List.mem_cons.1 hws with rfl|hws
 ·exact ⟨by unfold bm bA;simp,tw book_wd.1 h.hd (by simp)⟩
 rcases List.mem_append.1 hws with hws|hws
 ·obtain ⟨x,hx,rfl⟩:=List.mem_map.1 hws
  obtain ⟨h1,h2,h3⟩:=h.bx x hx
  refine ⟨by unfold bj bA;simp,tw book_wd.2.1 (fun n hn=>?_) fun s hs=>AB (h3 s hs)⟩
  rcases List.mem_cons.1 hn with rfl|hn
  ·exact h1
  ·rcases List.mem_cons.1 hn with rfl|hn
   ·exact h2
   ·cases hn
 ·obtain ⟨x,hx,rfl⟩:=List.mem_map.1 hws
  obtain ⟨h1,h2,h3,h4⟩:=h.st x hx
  refine ⟨by unfold aG bA;simp,tw book_wd.2.2 (fun n hn=>?_) fun s hs=>?_⟩
  ·rcases List.mem_cons.1 hn with rfl|hn
   ·exact h1
   ·cases hn
  ·rcases List.mem_cons.1 hs with rfl|hs
   ·exact Kx _
   rcases List.mem_cons.1 hs with rfl|hs
   ·exact GK h2.1
   ·exact AB (h4 s hs)
theorem LO {ws:List ByteArray} (h :∀ s∈ws,pq s) :(10:UInt8)∉jnL ws:=Kj (by decide) _ fun x hx=>by
 obtain ⟨s,hs,rfl⟩:=List.mem_map.1 hx
 exact (h s hs).2
theorem GH {ws:List ByteArray} (hne:ws≠ []) (h :∀ s∈ws,pq s) :(dq 32 (jnL ws)).map toB=ws:=by
 cases ws with
 | nil=>exact absurd rfl hne
 | cons w ws=>
  unfold jnL
  rw [List.map_cons,uJ _ _ fun x hx=>?_]
  ·rw [List.map_cons,List.map_map,A6]
   congr 1
   have :(toB ∘ fun x:ByteArray=>x.data.toList)=id:=by funext x;exact A6 x
   rw [this,List.map_id]
  ·rw [←List.map_cons (f:=fun x:ByteArray=>x.data.toList)] at hx
   obtain ⟨s,hs,rfl⟩:=List.mem_map.1 hx
   exact (h s hs).1
theorem B3 {b:Mir.Book} (h:Wr b) :(bg (fi b)).map (fun x=>dp (jT x nlV) 32)=dM b:=by
 have hw:=zQ h
 have h1 :∀ x∈(dM b).map jnL,(10:UInt8)∉x:=fun x hx=>by
  obtain ⟨ws,hws,rfl⟩:=List.mem_map.1 hx
  exact LO (hw ws hws).2
 have h2 :((((dM b).map jnL).map (·++[10])).flatten).length <(fi b).size+1:=by
  rw [←nI,Array.length_toList]
  exact Nat.lt_succ_self _
 unfold bg
 rw [nI,zP _ _ h1 h2,List.map_map,List.map_map,List.map_map]
 have :∀ ws∈dM b,((((fun x=>dp (jT x nlV) 32) ∘ toB) ∘ (fun x=>x++[10])) ∘ jnL) ws=id ws:=fun ws hws=>by
  show dp (jT (toB (jnL ws++[10])) nlV) 32=ws
  have e:jT (toB (jnL ws++[10])) nlV=toB (jnL ws):=by
   unfold jT
   show toB (Lib.trimSuffix (jnL ws++[10]) [10])=_
   rw [Lm]
  rw [e]
  exact GH (hw ws hws).1 (hw ws hws).2
 rw [List.map_congr_left this,List.map_id]
theorem GI {b:Mir.Book} (h:Wr b) :(dp (fi b) 10).dropLast.map (fun x=>dp x 32)=dM b:=by
 have hw:=zQ h
 have h1 :∀ x∈(dM b).map jnL,(10:UInt8)∉x:=fun x hx=>by
  obtain ⟨ws,hws,rfl⟩:=List.mem_map.1 hx
  exact LO (hw ws hws).2
 have e0:dp (fi b) 10 =((dM b).map jnL++[[]]).map toB:=by
  unfold dp
  rw [nI,uI _ h1]
 rw [e0,List.map_append,List.map_cons,List.map_nil,List.dropLast_concat,List.map_map,List.map_map]
 have :∀ ws∈dM b,(((fun x=>dp x 32) ∘ toB) ∘ jnL) ws=id ws:=fun ws hws=>GH (hw ws hws).1 (hw ws hws).2
 rw [List.map_congr_left this,List.map_id]
def b8:List ByteArray→Option (List Int)
 | []=>some []
 | w::r=>if (Ad w).2 != 0 then none else (b8 r).map ((Ad w).1::·)
theorem n4 :∀ l:List Int,(∀ n∈l,0≤n∧n≤1000000)→b8 (l.map aP)=some l
 | [],_=>rfl
 | n::l,h=>by
  obtain ⟨h0,h1⟩:=h n List.mem_cons_self
  rw [List.map_cons]
  unfold b8
  rw [KA h0 h1,n4 l fun x hx=>h x (List.mem_cons_of_mem _ hx)]
  rfl
def LM (b:Mir.Book) (n:List Int):Mir.Book:=⟨n.getD 0 0,b.Boxes,b.Strips,⟨n.getD 3 0,n.getD 4 0,n.getD 5 0,n.getD 6 0,n.getD 7 0⟩,n.getD 1 0,n.getD 2 0⟩
def P1 (b:Mir.Book) (n:List Int) (l:List ByteArray):Mir.Book:=⟨b.Side,b.Boxes++[⟨n.getD 0 0,n.getD 1 0,l⟩],b.Strips,b.Extras,b.Total,b.Wickets⟩
def Jn (b:Mir.Book) (n:List Int) (h:Int) (l:List ByteArray):Mir.Book:=⟨b.Side,b.Boxes,b.Strips++[⟨n.getD 0 0,l,h,n.getD 1 0⟩],b.Extras,b.Total,b.Wickets⟩
theorem F7 :(boxV.toList==bookV.toList)=false∧(stripV.toList==bookV.toList)=false∧(stripV.toList==boxV.toList)=false∧(bookV.toList==bookV.toList)=true∧(boxV.toList==boxV.toList)=true∧(stripV.toList==stripV.toList)=true:=by decide +kernel
def ij (b:Mir.Book) (l:List ByteArray):Option Mir.Book:=if l.length<8 then none else (b8 (l.take 8)).map (LM b)
def ig (b:Mir.Book) (l:List ByteArray):Option Mir.Book:=if l.length<2 then none else (b8 (l.take 2)).map fun n=>P1 b n (l.drop 2)
def il (b:Mir.Book) (l:List ByteArray):Option Mir.Book:=if l.length<3 then none else (b8 [l.getD 0 ⟨#[]⟩,l.getD 2 ⟨#[]⟩]).bind fun n=>if cj (l.getD 1 ⟨#[]⟩) != 0 then none else some (Jn b n (dW (l.getD 1 ⟨#[]⟩)) (l.drop 3))
def cE (b:Mir.Book):List ByteArray→Option Mir.Book
 | []=>none
 | w::l=>if w.toList==bookV.toList then ij b l else if w.toList==boxV.toList then ig b l else if w.toList==stripV.toList then il b l else none
def jk (i:Int) (b:Mir.Book):List ByteArray→Option Mir.Book
 | []=>none
 | w::l=>if i==0&&w.toList==bookV.toList&&l.length==8 then ij b l else if decide (i>0)&&w.toList==boxV.toList&&decide (l.length≥2) then ig b l
  else if decide (i>0)&&w.toList==stripV.toList&&decide (l.length≥3) then il b l else none
def eu:List (List ByteArray)→Mir.Book→Option Mir.Book
 | [],b=>some b
 | l::r,b=>(cE b l).bind (eu r)
def nk:List (List ByteArray)→Int→Mir.Book→Option Mir.Book
 | [],_,b=>some b
 | l::r,i,b=>(jk i b l).bind (nk r (i+1))
def GR (s:ByteArray):Option Mir.Book→Mir.Book×Int
 | none=>(Mir.Book.zero,4)
 | some b=>if (bs b).2 != 0 ||(bs b).1.toList != s.toList then (Mir.Book.zero,4) else (b,0)
def gb (s:ByteArray):Mir.Book×Int:=GR s (eu ((bg s).map fun x=>dp (jT x nlV) 32) Mir.Book.zero)
def D2 (s:ByteArray):Mir.Book×Int:=GR s (nk ((dp s 10).dropLast.map fun x=>dp x 32) 0 Mir.Book.zero)
theorem Fk {h:Int} (hk :(!((b7 h).toList ==(⟨#[]⟩:ByteArray).toList))=true):cj (b7 h)=0∧dW (b7 h)=h:=by
 unfold b7 ofW at hk ⊢
 cases hf:wtab.find? (fun w=>w.how==h) with
 | none=>rw [hf] at hk;exact absurd hk (by decide +kernel)
 | some w=>
  have e:w.how=h:=by simpa using List.find?_some hf
  have hm:=List.mem_of_find?_eq_some hf
  have key :∀ w∈wtab,cj w.name=0∧dW w.name=w.how:=by decide +kernel
  obtain ⟨k1,k2⟩:=key w hm
  exact ⟨k1,k2.trans e⟩
theorem wo {b0 b:Mir.Book} (h:Wr b) (l:List ByteArray) (hl:l =(b.Side::bR b).map aP):ij b0 l=some ⟨b.Side,b0.Boxes,b0.Strips,b.Extras,b.Total,b.Wickets⟩:=by
 subst hl
 unfold ij
 rw [if_neg (by simp [bR]),List.take_of_length_le (by simp [bR]),n4 _ h.hd]
 rfl
theorem A3 {b0:Mir.Book} {x:Mir.Box} (h1:0≤x.Over∧x.Over≤1000000) (h2:0≤x.Bowler∧x.Bowler≤1000000):ig b0 (aP x.Over::aP x.Bowler::x.Symbols)=some ⟨b0.Side,b0.Boxes++[x],b0.Strips,b0.Extras,b0.Total,b0.Wickets⟩:=by
 unfold ig
 rw [if_neg (by simp)]
 have e :(aP x.Over::aP x.Bowler::x.Symbols).take 2=[x.Over,x.Bowler].map aP:=rfl
 rw [e,n4 _ (by simp;exact ⟨h1,h2⟩)]
 rfl
theorem tc {b0:Mir.Book} {x:Mir.Strip} (h1:0≤x.Player∧x.Player≤1000000) (h2:0≤x.Bowler∧x.Bowler≤1000000) (hk:bf x=true):il b0 (aP x.Player::b7 x.How::aP x.Bowler::x.Symbols)=some ⟨b0.Side,b0.Boxes,b0.Strips++[x],b0.Extras,b0.Total,b0.Wickets⟩:=by
 obtain ⟨k1,k2⟩:=Fk hk
 unfold il
 rw [if_neg (by simp)]
 show (b8 ([x.Player,x.Bowler].map aP)).bind (fun n=>if cj (b7 x.How) != 0 then none else some (Jn b0 n (dW (b7 x.How)) x.Symbols))=_
 rw [n4 _ (by simp;exact ⟨h1,h2⟩),k1,k2]
 rfl
theorem PL (l1:List Mir.Box) (l2:List Mir.Strip) :∀ (b0:Mir.Book),(∀ x∈l1,(0≤x.Over∧x.Over≤1000000)∧(0≤x.Bowler∧x.Bowler≤1000000))→(∀ x∈l2,(0≤x.Player∧x.Player≤1000000)∧(0≤x.Bowler∧x.Bowler≤1000000)∧bf x=true)→
  eu (l1.map bj++l2.map aG) b0=some ⟨b0.Side,b0.Boxes++l1,b0.Strips++l2,b0.Extras,b0.Total,b0.Wickets⟩:=by
 induction l1 with
 | nil=>
  induction l2 with
  | nil=>intro b0 _ _;simp [eu]
  | cons x l2 ih=>
   intro b0 h1 h2
   obtain ⟨k1,k2,k3⟩:=h2 x List.mem_cons_self
   show (cE b0 (stripV::aP x.Player::b7 x.How::aP x.Bowler::x.Symbols)).bind (eu (([]:List Mir.Box).map bj++l2.map aG))=_
   have e:cE b0 (stripV::aP x.Player::b7 x.How::aP x.Bowler::x.Symbols)=il b0 (aP x.Player::b7 x.How::aP x.Bowler::x.Symbols):=by
    obtain ⟨_,a1,a2,_,_,a3⟩:=F7
    simp only [cE]
    rw [a1,a2,a3]
    rfl
   rw [e,tc k1 k2 k3,Option.bind_some,ih _ h1 fun y hy=>h2 y (List.mem_cons_of_mem _ hy)]
   simp
 | cons x l1 ih=>
  intro b0 h1 h2
  obtain ⟨k1,k2⟩:=h1 x List.mem_cons_self
  show (cE b0 (boxV::aP x.Over::aP x.Bowler::x.Symbols)).bind (eu (l1.map bj++l2.map aG))=_
  have e:cE b0 (boxV::aP x.Over::aP x.Bowler::x.Symbols)=ig b0 (aP x.Over::aP x.Bowler::x.Symbols):=by
   obtain ⟨a1,_,_,_,a2,_⟩:=F7
   simp only [cE]
   rw [a1,a2]
   rfl
  rw [e,A3 k1 k2,Option.bind_some,ih _ (fun y hy=>h1 y (List.mem_cons_of_mem _ hy)) h2]
  simp
theorem Lg (l1:List Mir.Box) (l2:List Mir.Strip) :∀ (b0:Mir.Book) (i:Int),0<i→(∀ x∈l1,(0≤x.Over∧x.Over≤1000000)∧(0≤x.Bowler∧x.Bowler≤1000000))→(∀ x∈l2,(0≤x.Player∧x.Player≤1000000)∧(0≤x.Bowler∧x.Bowler≤1000000)∧bf x=true)→
  nk (l1.map bj++l2.map aG) i b0=some ⟨b0.Side,b0.Boxes++l1,b0.Strips++l2,b0.Extras,b0.Total,b0.Wickets⟩:=by
 have i0 :∀ {i:Int},0<i→(i==0)=false∧decide (i>0)=true:=fun h=>⟨by simp;omega,decide_eq_true h⟩
 induction l1 with
 | nil=>
  induction l2 with
  | nil=>intro b0 i _ _ _;simp [nk]
  | cons x l2 ih=>
   intro b0 i hi h1 h2
   obtain ⟨k1,k2,k3⟩:=h2 x List.mem_cons_self
   show (jk i b0 (stripV::aP x.Player::b7 x.How::aP x.Bowler::x.Symbols)).bind (nk (([]:List Mir.Box).map bj++l2.map aG) (i+1))=_
   have e:jk i b0 (stripV::aP x.Player::b7 x.How::aP x.Bowler::x.Symbols)=il b0 (aP x.Player::b7 x.How::aP x.Bowler::x.Symbols):=by
    simp only [jk]
    rw [(i0 hi).1,(i0 hi).2]
    obtain ⟨_,_,a1,_,_,a2⟩:=F7
    rw [a1,a2]
    have a3:decide ((aP x.Player::b7 x.How::aP x.Bowler::x.Symbols).length≥3)=true:=decide_eq_true (by simp)
    rw [a3]
    rfl
   rw [e,tc k1 k2 k3,Option.bind_some,ih _ _ (by omega) h1 fun y hy=>h2 y (List.mem_cons_of_mem _ hy)]
   simp
 | cons x l1 ih=>
  intro b0 i hi h1 h2
  obtain ⟨k1,k2⟩:=h1 x List.mem_cons_self
  show (jk i b0 (boxV::aP x.Over::aP x.Bowler::x.Symbols)).bind (nk (l1.map bj++l2.map aG) (i+1))=_
  have e:jk i b0 (boxV::aP x.Over::aP x.Bowler::x.Symbols)=ig b0 (aP x.Over::aP x.Bowler::x.Symbols):=by
   simp only [jk]
   rw [(i0 hi).1,(i0 hi).2]
   obtain ⟨_,_,_,_,a2,_⟩:=F7
   rw [a2]
   have a3:decide ((aP x.Over::aP x.Bowler::x.Symbols).length≥2)=true:=decide_eq_true (by simp)
   rw [a3]
   rfl
  rw [e,A3 k1 k2,Option.bind_some,ih _ _ (by omega) (fun y hy=>h1 y (List.mem_cons_of_mem _ hy)) h2]
  simp
theorem NG {b:Mir.Book} (h:Wr b):eu (dM b) Mir.Book.zero=some b:=by
 unfold dM
 show (cE Mir.Book.zero (bm b)).bind _=_
 have e:cE Mir.Book.zero (bm b)=ij Mir.Book.zero ((b.Side::bR b).map aP):=by
  obtain ⟨_,_,_,a2,_⟩:=F7
  unfold bm bA
  rw [List.append_nil]
  simp only [cE]
  rw [a2]
  rfl
 rw [e,wo h _ rfl,Option.bind_some,PL _ _ _ (fun x hx=>⟨(h.bx x hx).1,(h.bx x hx).2.1⟩) fun x hx=>⟨(h.st x hx).1,(h.st x hx).2.1,(h.st x hx).2.2.1⟩]
 show some (Mir.Book.mk b.Side ([]++b.Boxes) ([]++b.Strips) b.Extras b.Total b.Wickets)=_
 rfl
theorem J9 {b:Mir.Book} (h:Wr b):nk (dM b) 0 Mir.Book.zero=some b:=by
 unfold dM
 show (jk 0 Mir.Book.zero (bm b)).bind _=_
 have e:jk 0 Mir.Book.zero (bm b)=ij Mir.Book.zero ((b.Side::bR b).map aP):=by
  obtain ⟨_,_,_,a2,_⟩:=F7
  unfold bm bA
  rw [List.append_nil]
  simp only [jk]
  rw [a2]
  rfl
 rw [e,wo h _ rfl,Option.bind_some,Lg _ _ _ _ (by decide) (fun x hx=>⟨(h.bx x hx).1,(h.bx x hx).2.1⟩) fun x hx=>⟨(h.st x hx).1,(h.st x hx).2.1,(h.st x hx).2.2.1⟩]
 show some (Mir.Book.mk b.Side ([]++b.Boxes) ([]++b.Strips) b.Extras b.Total b.Wickets)=_
 rfl
theorem bytes_ne {a b:ByteArray} :(a.toList != b.toList)=false↔a=b:=by
 rw [ByteArray.toList_eq,ByteArray.toList_eq]
 constructor
 ·intro h
  have h:a.data.toList=b.data.toList:=by simpa using h
  exact wK h
 ·rintro rfl;simp
theorem Db {b:Mir.Book} (h:bT b=0):GR (fi b) (some b) =(b,0):=by
 have e:bs b =(fi b,0):=by unfold bs;rw [if_pos h]
 have e2 :((fi b).toList !=(fi b).toList)=false:=bytes_ne.2 rfl
 show (if ((bs b).2 != 0 ||(bs b).1.toList !=(fi b).toList)=true then (Mir.Book.zero,(4:Int)) else (b,0))=_
 rw [e]
 simp only [e2]
 rfl
theorem Ch {b:Mir.Book} (h:bT b=0):gb (fi b) =(b,0)∧D2 (fi b) =(b,0):=by
 have hw:=yx h
 constructor
 ·unfold gb
  rw [B3 hw,NG hw,Db h]
 ·unfold D2
  rw [GI hw,J9 hw,Db h]
end Go.Proofs.YtffdpnmioidloaaGreatDoor
namespace Go.Proofs.YtffdpnmioidloaaGreatDoor
open Go Go.Mir Go.RowKit
attribute [local irreducible] Go.Mir.DT.sat Go.Mir.evPat Go.Mir.RT.sat Go.Mir.evFn
def aU (l:List ByteArray):Nat:=(l.map fun s=>s.size+1).sum
def MW (l:List Mir.Box):Prop:=∀ x∈l,aU x.Symbols≤20100
def MX (l:List Mir.Strip):Prop:=∀ x∈l,aU x.Symbols≤20100
def tz (b:Mir.Book):Prop:=(b.Boxes.length≤20000∧b.Strips.length≤20000)∧MW b.Boxes∧MX b.Strips
abbrev Bxs:Ty:= .slice (.nm .Box)
abbrev Sts:Ty:= .slice (.nm .Strip)
abbrev Qn:List (Nat×PB):= [(0,.dat (.nm .Book)),(1,.row 2 I),(3,.row 4 .str)]
abbrev qWa:Pat:=⟨[(1,.c (.ptr 0 0)),(3,.c (.osl 1 2)),(4,.c (.osl 3 4)),(5,.h .bool),(19,.h Bxs),(20,.h I),(21,.h I)],Qn,5⟩
abbrev xWa:List (Lf×Pat):= [(.ext 0,⟨[(1,.c (.ptr 0 0)),(3,.c (.osl 1 2)),(4,.c (.osl 3 4)),(5,.h .bool)],Qn,5⟩)]
abbrev TWa:Type:=Bool×List Mir.Box×Int×Int×Mir.Book×List Int×List ByteArray×Unit
def Ae (l:List Mir.Box):List Int:=l.flatMap fun x=> [x.Over,x.Bowler]
def yp (l:List Mir.Box):List ByteArray:=l.flatMap (·.Symbols)
def Il (l:List Mir.Strip):List Int:=l.flatMap fun x=> [x.Player,x.Bowler]
def A2 (l:List Mir.Strip):List ByteArray:=l.flatMap (·.Symbols)
def mR:TWa→Bool×Mir.Book×List Int×List ByteArray×Unit
 |(k,l,_,i,b,a,s,_)=>(k,b,a++Ae (l.drop i.toNat),s++yp (l.drop i.toNat),())
def NB (l:List Mir.Box):Prop:=l.length≤20000∧∀ x∈l,aU x.Symbols≤20100
def NC (l:List Mir.Strip):Prop:=l.length≤20000∧∀ x∈l,aU x.Symbols≤20100
def vi:TWa→Prop
 |(_,l,n,i,_,a,s,_)=>(n =(l.length:Int)∧NB l)∧(0≤i∧i≤n)∧(a.length:Int)≤2*i+100∧(s.length:Int)≤20100*i
def H8:TWa→Nat
 |(_,_,n,i,_)=>(n - i).toNat
abbrev Qo:List (Nat×PB):= [(0,.row 1 I),(2,.row 3 .str)]
abbrev qWb:Pat:=⟨[(3,.c (.osl 0 1)),(4,.c (.osl 2 3)),(5,.h .bool),(38,.h Sts),(39,.h I),(40,.h I)],Qo,4⟩
abbrev xWb:List (Lf×Pat):= [(.ext 2,⟨[(3,.c (.osl 0 1)),(4,.c (.osl 2 3)),(5,.h .bool)],Qo,4⟩)]
abbrev TWb:Type:=Bool×List Mir.Strip×Int×Int×List Int×List ByteArray×Unit
def ou:TWb→Bool×List Int×List ByteArray×Unit
 |(k,l,_,i,a,s,_)=>(k&&(l.drop i.toNat).all bf,a++Il (l.drop i.toNat),s++A2 (l.drop i.toNat),())
def vj:TWb→Prop
 |(_,l,n,i,a,s,_)=>(n =(l.length:Int)∧NC l)∧(0≤i∧i≤n)∧(a.length:Int)≤2*i+40100∧(s.length:Int)≤20100*i+402000000
def H9:TWb→Nat
 |(_,_,n,i,_)=>(n - i).toNat
abbrev qWc:Pat:=⟨[(69,.c (.osl 0 1)),(70,.h I),(71,.h I)],[(0,.row 1 .str)],2⟩
abbrev xWc:List (Lf×Pat):= [(.ret,⟨[(2,.h I)],[],0⟩),(.ext 5,⟨[],[],0⟩)]
abbrev TWc:Type:=Int×Int×List ByteArray×Unit
def jM:TWc→Sum (Int×Unit) Unit
 |(_,i,l,_)=>if (l.drop i.toNat).all ay then .inr () else .inl (4,())
def vk:TWc→Prop
 |(n,i,l,_)=>(n =(l.length:Int)∧l.length≤1000000000∧∀ s∈l,s.size≤20100)∧0≤i∧i≤n
def Ia:TWc→Nat
 |(n,i,_)=>(n - i).toNat
abbrev KX:Pat:=eQ [I]
def Jg:Den (tyP qBk)→List Prop×Den (tyP KX):=fun x=>([tz x.1],(bT x.1,()))
theorem cN (l:List ByteArray):l.length≤aU l:=by
 induction l with
 | nil=>exact Nat.zero_le _
 | cons x l ih=>unfold aU at *;simp only [List.length_cons,List.map_cons,List.sum_cons];omega
theorem ox {l:List ByteArray} {s:ByteArray} (h:s∈l):s.size+1≤aU l:=by
 induction l with
 | nil=>cases h
 | cons x l ih=>
  have e:aU (x::l) =(x.size+1)+aU l:=by unfold aU;simp
  rcases List.mem_cons.1 h with rfl|h
  ·omega
  ·have:=ih h;omega
noncomputable def lpWa:Lp:=(⟨0,aC [] Tryz.f41,(fun _=>none),(aq Tryz.f41 0),qWa,xWa⟩:Lp)
theorem Pz (k:Bool) (l:List Mir.Box) (n:Int) (i:Int) (b:Mir.Book) (a:List Int) (s:List ByteArray) (hi:vi (k,l,n,i,b,a,s,())) :(Go.Mir.stepG lpWa mR (fun y:Den (tyP lpWa.q)=>vi y∧H8 y<H8 (k,l,n,i,b,a,s,())) (k,l,n,i,b,a,s,())∧Go.Mir.stepE lpWa mR (k,l,n,i,b,a,s,())=mR (k,l,n,i,b,a,s,())):=by
 refine cast (by kernel_rfl) (?_:let r1:List Int:= [(l.getD i.toNat (dflt (Ty.nm Nm.Box))).1,(l.getD i.toNat (dflt (Ty.nm Nm.Box))).2];((decide (i<n)=true→((0:Int)≤i∧i <(↑l.length:Int))∧(a.length+r1.length) *(8:Nat)≤(70368744177664:Nat)∧(s.length +(l.getD i.toNat (dflt (Ty.nm Nm.Box))).3.length) *(16:Nat)≤(70368744177664:Nat)∧vi (k,l,n,IntKind.i64.wrap (i +(1:Int)),b,a++r1,s ++(l.getD i.toNat (dflt (Ty.nm Nm.Box))).3,())∧H8 (k,l,n,IntKind.i64.wrap (i +(1:Int)),b,a++r1,s ++(l.getD i.toNat (dflt (Ty.nm Nm.Box))).3,())<H8 (k,l,n,i,b,a,s,()))∧(decide (i<n)=false→True))∧(bif decide (i<n) then mR (k,l,n,IntKind.i64.wrap (i +(1:Int)),b,a++r1,s ++(l.getD i.toNat (dflt (Ty.nm Nm.Box))).3,()) else (k,b,a,s,()))=mR (k,l,n,i,b,a,s,()))
 intro r1
 clear_value (hr1:r1=_)
 obtain ⟨⟨h1,h1b⟩,⟨h2,h3⟩,h4,h5⟩:=hi
 have h1:n =(l.length:Int):=h1
 have h1b:NB l:=h1b
 have h2:0≤i:=h2
 have h3:i≤n:=h3
 have h4 :(a.length:Int)≤2*i+100:=h4
 have h5 :(s.length:Int)≤20100*i:=h5
 have hf:=h1b.1
 by_cases h:i<n
 ·have e1:IntKind.i64.wrap (i+1)=i+1:=wrap64 (by omega) (by omega)
  have hd:l.drop i.toNat=l.getD i.toNat (dflt (Ty.nm Nm.Box))::l.drop (i+1).toNat:=aL h2 (by omega) _
  have hm:l.getD i.toNat (dflt (Ty.nm Nm.Box))∈l:=List.mem_of_mem_drop (i:=i.toNat) (by rw [hd];exact List.mem_cons_self)
  have hz:=h1b.2 _ hm
  generalize l.getD i.toNat (dflt (Ty.nm Nm.Box))=x at *
  have hl:=cN x.Symbols
  have hr:r1.length=2:=by rw [hr1];rfl
  have key:mR (k,l,n,i,b,a,s,())=mR (k,l,n,i+1,b,a++r1,s++x.Symbols,()):=by
   show (k,b,a++Ae (l.drop i.toNat),s++yp (l.drop i.toNat),()) =(k,b,(a++r1)++Ae (l.drop (i+1).toNat),(s++x.Symbols)++yp (l.drop (i+1).toNat),())
   rw [hd,hr1,List.append_assoc,List.append_assoc]
   rfl
  rw [decide_eq_true h,e1,key]
  refine ⟨⟨fun _=>⟨⟨h2,by omega⟩,by omega,?_,⟨⟨h1,h1b⟩,⟨?_,?_⟩,?_,?_⟩,?_⟩,fun z=>Bool.noConfusion z⟩,rfl⟩
  ·show (s.length+x.Symbols.length)*16≤70368744177664;omega
  ·show 0≤i+1;omega
  ·show i+1≤n;omega
  ·show ((a++r1).length:Int)≤2 *(i+1)+100
   rw [List.length_append];omega
  ·show ((s++x.Symbols).length:Int)≤20100 *(i+1)
   rw [List.length_append];omega
  ·show (n - (i+1)).toNat <(n - i).toNat;omega
 ·rw [decide_eq_false h]
  refine ⟨⟨fun z=>Bool.noConfusion z,fun _=>trivial⟩,?_⟩
  show _ =(k,b,a++Ae (l.drop i.toNat),s++yp (l.drop i.toNat),())
  rw [aF (l:=l) (by omega)]
  show _ =(k,b,a++[],s++[],())
  rw [List.append_nil,List.append_nil]
  rfl
noncomputable def MR:LoopSum:=ai lpWa mR vi
noncomputable def Mj:Nat:=rid (aq Tryz.f41 0)
theorem Om:LoopOKp Tryz.prog 0 Tryz.f41.ntmps (aq Tryz.f41 0) (ai lpWa mR vi):=
 az lpWa (ao (CtrsOK.nil) _) mixed (fun b hb S hS=>by cases hS) mR vi H8 (fun |⟨k,l,n,i,b,a,s,⟨⟩⟩,hi=>Pz k l n i b a s hi)
noncomputable def lpWb:Lp:=(⟨0,aC [k25] Tryz.f41,(fun _=>none),(aq Tryz.f41 1),qWb,xWb⟩:Lp)
theorem PA (k:Bool) (l:List Mir.Strip) (n:Int) (i:Int) (a:List Int) (s:List ByteArray) (hi:vj (k,l,n,i,a,s,())) :(Go.Mir.stepG lpWb ou (fun y:Den (tyP lpWb.q)=>vj y∧H9 y<H9 (k,l,n,i,a,s,())) (k,l,n,i,a,s,())∧Go.Mir.stepE lpWb ou (k,l,n,i,a,s,())=ou (k,l,n,i,a,s,())):=by
 refine cast (by kernel_rfl) (?_:let r1:List ByteArray:=s ++(l.getD i.toNat (dflt (Ty.nm Nm.Strip))).2;let r2:List Int:= [(l.getD i.toNat (dflt (Ty.nm Nm.Strip))).1,(l.getD i.toNat (dflt (Ty.nm Nm.Strip))).4];let r3:List Int:=a++r2;let r4:Bool×List Int×List ByteArray×Unit:=ou (bif k then !(ofW (l.getD i.toNat (dflt (Ty.nm Nm.Strip))).3).2.toList ==(ByteArray.mk #[]).toList else false,l,n,IntKind.i64.wrap (i +(1:Int)),bif k then r3 else r3,bif k then r1 else r1,());((decide (i<n)=true→(((0:Int)≤i∧i <(↑l.length:Int))∧(a.length+r2.length) *(8:Nat)≤(70368744177664:Nat)∧(s.length +(l.getD i.toNat (dflt (Ty.nm Nm.Strip))).2.length) *(16:Nat)≤(70368744177664:Nat)∧(k=true→True)∧(k=false→True))∧(true=true→vj (bif k then !(ofW (l.getD i.toNat (dflt (Ty.nm Nm.Strip))).3).2.toList ==(ByteArray.mk #[]).toList else false,l,n,IntKind.i64.wrap (i +(1:Int)),bif k then r3 else r3,bif k then r1 else r1,())∧H9 (bif k then !(ofW (l.getD i.toNat (dflt (Ty.nm Nm.Strip))).3).2.toList ==(ByteArray.mk #[]).toList else false,l,n,IntKind.i64.wrap (i +(1:Int)),bif k then r3 else r3,bif k then r1 else r1,())<H9 (k,l,n,i,a,s,())))∧(decide (i<n)=false→True))∧(bif decide (i<n) then bif true&&true then r4 else bif true then r4 else bif k then dflt (Ty.bool.prod (I.slice.prod (Ty.str.slice.prod Ty.unit))) else dflt (Ty.bool.prod (I.slice.prod (Ty.str.slice.prod Ty.unit))) else (k,a,s,()))=ou (k,l,n,i,a,s,()))
 intro r1 r2 r3 r4
 clear_value (hr1:r1=_) (hr2:r2=_) (hr3:r3=_) (hr4:r4=_)
 obtain ⟨⟨h1,h1b⟩,⟨h2,h3⟩,h4,h5⟩:=hi
 have h1:n =(l.length:Int):=h1
 have h1b:NC l:=h1b
 have h2:0≤i:=h2
 have h3:i≤n:=h3
 have h4 :(a.length:Int)≤2*i+40100:=h4
 have h5 :(s.length:Int)≤20100*i+402000000:=h5
 have hf:=h1b.1
 simp only [Bool.cond_self] at *
 by_cases h:i<n
 ·have e1:IntKind.i64.wrap (i+1)=i+1:=wrap64 (by omega) (by omega)
  have hd:l.drop i.toNat=l.getD i.toNat (dflt (Ty.nm Nm.Strip))::l.drop (i+1).toNat:=aL h2 (by omega) _
  have hm:l.getD i.toNat (dflt (Ty.nm Nm.Strip))∈l:=List.mem_of_mem_drop (i:=i.toNat) (by rw [hd];exact List.mem_cons_self)
  have hz:=h1b.2 _ hm
  rw [e1] at hr4
  generalize l.getD i.toNat (dflt (Ty.nm Nm.Strip))=x at *
  have hl:=cN x.Symbols
  have hr:r2.length=2:=by rw [hr2];rfl
  have hkn :(!(ofW x.How).name.toList ==(ByteArray.mk #[]).toList)=bf x:=rfl
  have key:ou (k,l,n,i,a,s,())=r4:=by
   rw [hr4,hr3,hr1]
   show (k&&(l.drop i.toNat).all bf,a++Il (l.drop i.toNat),s++A2 (l.drop i.toNat),()) =((bif k then bf x else false)&&(l.drop (i+1).toNat).all bf,(a++r2)++Il (l.drop (i+1).toNat),(s++x.Symbols)++A2 (l.drop (i+1).toNat),())
   rw [hd,hr2,List.append_assoc,List.append_assoc,List.all_cons]
   have :(k&&(bf x&&(l.drop (i+1).toNat).all bf)) =((bif k then bf x else false)&&(l.drop (i+1).toNat).all bf):=by cases k <;> rfl
   rw [this]
   rfl
  rw [decide_eq_true h,e1,key]
  refine ⟨⟨fun _=>⟨⟨⟨h2,by omega⟩,by omega,?_,fun _=>trivial,fun _=>trivial⟩,fun _=>⟨⟨⟨h1,h1b⟩,⟨?_,?_⟩,?_,?_⟩,?_⟩⟩,fun z=>Bool.noConfusion z⟩,rfl⟩
  ·show (s.length+x.Symbols.length)*16≤70368744177664;omega
  ·show 0≤i+1;omega
  ·show i+1≤n;omega
  ·show (r3.length:Int)≤2 *(i+1)+40100
   rw [hr3,List.length_append];omega
  ·show (r1.length:Int)≤20100 *(i+1)+402000000
   rw [hr1]
   show ((s++x.Symbols).length:Int)≤_
   rw [List.length_append];omega
  ·show (n - (i+1)).toNat <(n - i).toNat;omega
 ·rw [decide_eq_false h]
  refine ⟨⟨fun z=>Bool.noConfusion z,fun _=>trivial⟩,?_⟩
  show _ =(k&&(l.drop i.toNat).all bf,a++Il (l.drop i.toNat),s++A2 (l.drop i.toNat),())
  rw [aF (l:=l) (by omega)]
  show _ =(k&&true,a++[],s++[],())
  rw [List.append_nil,List.append_nil]
  cases k <;> rfl
noncomputable def MS:LoopSum:=ai lpWb ou vj
noncomputable def Mk:Nat:=rid (aq Tryz.f41 1)
theorem On:LoopOKp Tryz.prog 0 Tryz.f41.ntmps (aq Tryz.f41 1) (ai lpWb ou vj):=
 az lpWb (ao (.consU QC rfl .nil) _) mixed (fun b hb S hS=>by cases hS) ou vj H9 (fun |⟨k,l,n,i,a,s,⟨⟩⟩,hi=>PA k l n i a s hi)
noncomputable def lpWc:Lp:=(⟨0,aC [Hs] Tryz.f41,(fun _=>none),(aq Tryz.f41 2),qWc,xWc⟩:Lp)
theorem PD (n:Int) (i:Int) (l:List ByteArray) (hi:vk (n,i,l,())) :(Go.Mir.stepG lpWc jM (fun y:Den (tyP lpWc.q)=>vk y∧Ia y<Ia (n,i,l,())) (n,i,l,())∧Go.Mir.stepE lpWc jM (n,i,l,())=jM (n,i,l,())):=by
 refine cast (by kernel_rfl) (?_ :((decide (i<n)=true→((0:Int)≤i∧i <(↑l.length:Int))∧ByteArray.size (l.getD i.toNat (dflt Ty.str))≤(1000000:Nat)∧((!ay (l.getD i.toNat (dflt Ty.str)))=true→True)∧((!ay (l.getD i.toNat (dflt Ty.str)))=false→vk (n,IntKind.i64.wrap (i +(1:Int)),l,())∧Ia (n,IntKind.i64.wrap (i +(1:Int)),l,())<Ia (n,i,l,())))∧(decide (i<n)=false→True))∧(bif decide (i<n) then bif !ay (l.getD i.toNat (dflt Ty.str)) then Sum.inl ((4:Int),()) else jM (n,IntKind.i64.wrap (i +(1:Int)),l,()) else Sum.inr ())=jM (n,i,l,()))
 obtain ⟨⟨h1,h1b,h1c⟩,h2,h3⟩:=hi
 have h1:n =(l.length:Int):=h1
 have h1b:l.length≤1000000000:=h1b
 have h1c :∀ s∈l,s.size≤20100:=h1c
 have h2:0≤i:=h2
 have h3:i≤n:=h3
 by_cases h:i<n
 ·have e1:IntKind.i64.wrap (i+1)=i+1:=wrap64 (by omega) (by omega)
  have hd:l.drop i.toNat=l.getD i.toNat (dflt Ty.str)::l.drop (i+1).toNat:=aL h2 (by omega) _
  have hm:l.getD i.toNat (dflt Ty.str)∈l:=List.mem_of_mem_drop (i:=i.toNat) (by rw [hd];exact List.mem_cons_self)
  have hz:=h1c _ hm
  have key:jM (n,i,l,())=bif !ay (l.getD i.toNat (dflt Ty.str)) then .inl (4,()) else jM (n,i+1,l,()):=by
   show (if (l.drop i.toNat).all ay then _ else _)=_
   rw [hd,List.all_cons]
   cases ay (l.getD i.toNat (dflt Ty.str)) <;> rfl
  rw [decide_eq_true h,e1,key]
  refine ⟨⟨fun _=>⟨⟨h2,by omega⟩,?_,fun _=>trivial,fun _=>⟨⟨⟨h1,h1b,h1c⟩,?_,?_⟩,?_⟩⟩,fun z=>Bool.noConfusion z⟩,rfl⟩
  ·exact Nat.le_trans hz (by decide)
  ·show 0≤i+1;omega
  ·show i+1≤n;omega
  ·show (n - (i+1)).toNat <(n - i).toNat;omega
 ·rw [decide_eq_false h]
  refine ⟨⟨fun z=>Bool.noConfusion z,fun _=>trivial⟩,?_⟩
  show _ =(if (l.drop i.toNat).all ay then _ else _)
  rw [aF (l:=l) (by omega)]
  rfl
noncomputable def MT:LoopSum:=ai lpWc jM vk
noncomputable def Ml:Nat:=rid (aq Tryz.f41 2)
theorem Oo:LoopOKp Tryz.prog 0 Tryz.f41.ntmps (aq Tryz.f41 2) (ai lpWc jM vk):=
 az lpWc (ao (.consU Fw rfl .nil) _) mixed (fun b hb S hS=>by cases hS) jM vk Ia (fun |⟨n,i,l,⟨⟩⟩,hi=>PD n i l hi)
theorem ue (b:Mir.Book) (hb:tz b) :(evPat (aC [ko,rQ] Tryz.f41) (find [(Mj,MR),(Mk,MS),(Ml,MT)]) Tryz.f41 qBk KX (b,())).sat fun z_=>z_ =(Jg (b,())).2:=by
 refine cast (by kernel_rfl) (?_:let r1:Bool:=!(true&&(List.drop (Int.toNat (0:Int)) b.3).all bf);let r2:Int:=(2:Int) *(0:Int);let r3:Int:=(20100:Int) *(0:Int);let r4:List ByteArray:= []++yp (List.drop (Int.toNat (0:Int)) b.2);let r5:List Int:=bR b++[b.1];let r6:List ByteArray:=r4++A2 (List.drop (Int.toNat (0:Int)) b.3);let r7:Int:=(↑r6.length:Int);let r8:List Int:=r5++Ae (List.drop (Int.toNat (0:Int)) b.2);let r9:Bool:=(r8++Il (List.drop (Int.toNat (0:Int)) b.3)).any gq;let r10:Bool:=isL (jM (r7,(0:Int),r6,()));((bR b).length+[b.1].length) *(8:Nat)≤(70368744177664:Nat)∧((c8 fun x=>none)∧((↑b.2.length:Int) =(↑b.2.length:Int)∧NB b.2)∧((0:Int)≤(0:Int)∧(0:Int)≤(↑b.2.length:Int))∧(↑r5.length:Int)≤r2 +(100:Int)∧(↑(0:Nat):Int)≤r3)∧((c8 fun x=>none)∧((↑b.3.length:Int) =(↑b.3.length:Int)∧NC b.3)∧((0:Int)≤(0:Int)∧(0:Int)≤(↑b.3.length:Int))∧(↑r8.length:Int)≤r2 +(40100:Int)∧(↑r4.length:Int)≤r3 +(402000000:Int))∧(r9=true→((2:Int),()) =(bT b,()))∧(r9=false→(r1=true→((3:Int),()) =(bT b,()))∧(r1=false→((c8 fun x=>none)∧(r7 =(↑r6.length:Int)∧r6.length≤(1000000000:Nat)∧∀ (s:ByteArray),s∈r6→s.size≤(20100:Nat))∧(0:Int)≤(0:Int)∧(0:Int)≤r7)∧(r10=true→jc (dflt (I.prod Ty.unit)) (jM (r7,(0:Int),r6,())) =(bT b,()))∧(r10=false→((0:Int),()) =(bT b,())))))
 intro r1 r2 r3 r4 r5 r6 r7 r8 r9 r10
 clear_value (hr1:r1=_) (hr2:r2=_) (hr3:r3=_) (hr4:r4=_) (hr5:r5=_) (hr6:r6=_) (hr7:r7=_) (hr8:r8=_) (hr9:r9=_) (hr10:r10=_)
 obtain ⟨⟨b1,b2⟩,b3,b4⟩:=hb
 have e0:List.drop (Int.toNat 0) b.Boxes=b.Boxes:=rfl
 have e0':List.drop (Int.toNat 0) b.Strips=b.Strips:=rfl
 have d1:r1=!b.Strips.all bf:=by rw [hr1];rfl
 have d4:r4=yp b.Boxes:=by rw [hr4];rfl
 have d5:r5=bR b++[b.Side]:=hr5
 have d6:r6=CP b:=by rw [hr6,d4];rfl
 have d9:r9=!(Bl b).all okI:=by
  rw [hr9,KL,hr8,d5]
  congr 2
 have l5:r5.length=8:=by rw [d5];rfl
 have lx :(Ae b.Boxes).length≤40000:=by
  have :∀ l:List Mir.Box,(Ae l).length=2*l.length:=by
   intro l
   induction l with
   | nil=>rfl
   | cons x l ih=>unfold Ae at *;rw [List.flatMap_cons,List.length_append,ih,List.length_cons];simp;omega
  rw [this];omega
 have ls :∀ (l:List Mir.Box),(∀ x∈l,aU x.Symbols≤20100)→(yp l).length≤20100*l.length:=by
  intro l
  induction l with
  | nil=>intro _;exact Nat.zero_le _
  | cons x l ih=>
   intro hl
   have h1:=hl x List.mem_cons_self
   have h2:=cN x.Symbols
   have h3:=ih fun y hy=>hl y (List.mem_cons_of_mem _ hy)
   unfold yp at *
   rw [List.flatMap_cons,List.length_append,List.length_cons]
   omega
 have ly :∀ (l:List Mir.Strip),(∀ x∈l,aU x.Symbols≤20100)→(A2 l).length≤20100*l.length:=by
  intro l
  induction l with
  | nil=>intro _;exact Nat.zero_le _
  | cons x l ih=>
   intro hl
   have h1:=hl x List.mem_cons_self
   have h2:=cN x.Symbols
   have h3:=ih fun y hy=>hl y (List.mem_cons_of_mem _ hy)
   unfold A2 at *
   rw [List.flatMap_cons,List.length_append,List.length_cons]
   omega
 have l4:=ls b.Boxes b3
 have l6':=ly b.Strips b4
 have l6:r6.length≤1000000000:=by
  rw [d6]
  unfold CP
  rw [List.length_append]
  have e1 :(b.Boxes.flatMap (·.Symbols)).length =(yp b.Boxes).length:=rfl
  have e2 :(b.Strips.flatMap (·.Symbols)).length =(A2 b.Strips).length:=rfl
  omega
 have m6 :∀ s∈r6,s.size≤20100:=fun s hs=>by
  rw [d6] at hs
  unfold CP at hs
  rcases List.mem_append.1 hs with hs|hs
  ·obtain ⟨x,hx,hs⟩:=List.mem_flatMap.1 hs
   have:=ox hs
   have:=b3 x hx
   omega
  ·obtain ⟨x,hx,hs⟩:=List.mem_flatMap.1 hs
   have:=ox hs
   have:=b4 x hx
   omega
 have key:jM (r7,0,r6,())=if r6.all ay then .inr () else .inl (4,()):=rfl
 have hW:bT b=if r9=false then (if r1=false then (if r6.all ay then 0 else 4) else 3) else 2:=by
  unfold bT
  rw [d9,d1,d6]
  cases (Bl b).all okI <;> cases b.Strips.all bf <;> rfl
 rw [key] at hr10 ⊢
 rw [hW]
 have hsum :(bR b).length=7:=rfl
 refine ⟨by rw [hsum,List.length_singleton];decide,⟨rfl,⟨rfl,b1,b3⟩,⟨Int.le_refl _,by omega⟩,by omega,by omega⟩,⟨rfl,⟨rfl,b2,b4⟩,⟨Int.le_refl _,by omega⟩,?_,?_⟩,fun h9=>?_,fun h9=>⟨fun h1=>?_,fun h1=>⟨⟨rfl,⟨hr7,l6,m6⟩,Int.le_refl _,by omega⟩,fun h10=>?_,fun h10=>?_⟩⟩⟩
 ·rw [hr8,List.length_append,e0];omega
 ·rw [d4];omega
 ·rw [h9];rfl
 ·rw [h9,h1];rfl
 ·cases ha:r6.all ay with
  | true=>rw [hr10,ha] at h10;exact Bool.noConfusion h10
  | false=>rw [h9,h1];rfl
 ·cases ha:r6.all ay with
  | true=>rw [h9,h1];rfl
  | false=>rw [hr10,ha] at h10;exact Bool.noConfusion h10
def pW:FuncId×Ctr:=(41,ah KE qBk KX Jg)
theorem xQ:CtrOK Tryz.prog KE 41 (ah KE qBk KX Jg):=by
 refine ba (C:=aC [ko,rQ] Tryz.f41) (ao (.consU p7 rfl (.consU Al rfl .nil)) _) mixed (fn:=Tryz.f41) Tryz.func41 (by kernel_rfl) (by kernel_rfl) (by kernel_rfl) (by kernel_rfl) (by kernel_rfl) (by kernel_rfl) (Λ:=fun x=>find [(Mj,MR),(Mk,MS),(Ml,MT)]) ?_ ?_
 ·rintro ⟨b,⟨⟩⟩ hw hn
  exact LoopsOKp.at (by kernel_rfl) (.cons (by kernel_rfl) (Om) (.cons (by kernel_rfl) (On) (.cons (by kernel_rfl) (Oo) .nil)))
 ·rintro ⟨b,⟨⟩⟩ hw hn
  exact ue b (hn _ List.mem_cons_self)
end Go.Proofs.YtffdpnmioidloaaGreatDoor
namespace Go.Proofs.YtffdpnmioidloaaGreatDoor
open Go Go.Mir Go.RowKit
attribute [local irreducible] Go.Mir.DT.sat Go.Mir.evPat Go.Mir.RT.sat Go.Mir.evFn
abbrev Cn:Pat:=eQ [.str,I]
def wa:Den (tyP qBk)→List Prop×Den (tyP Cn):=fun x=>([tz x.1],((bs x.1).1,(bs x.1).2,()))
def n7 (ws:List ByteArray):Prop:=(iG ws spV).size≤20300∧ws.length≤20300
abbrev tT:List (Nat×PB):= [(0,.dat (.nm .Book))]
abbrev qT0:Pat:=⟨[(1,.c (.ptr 0 0)),(5,.h .str),(23,.h Bxs),(24,.h I),(25,.h I)],tT,1⟩
abbrev xT0:List (Lf×Pat):= [(.ext 0,⟨[(1,.c (.ptr 0 0)),(5,.h .str)],tT,1⟩)]
abbrev TT0:Type:=ByteArray×List Mir.Box×Int×Int×Mir.Book×Unit
def jq (l:List Mir.Box) (o:ByteArray):ByteArray:=l.foldl (fun o x=>o++lnB (bj x)) o
def qh (l:List Mir.Strip) (o:ByteArray):ByteArray:=l.foldl (fun o x=>o++lnB (aG x)) o
def mQ:TT0→ByteArray×Mir.Book×Unit
 |(o,l,_,i,b,_)=>(jq (l.drop i.toNat) o,b,())
def DI (l:List Mir.Box):Prop:=l.length≤20000∧∀ x∈l,n7 (bj x)
def DJ (l:List Mir.Strip):Prop:=l.length≤20000∧∀ x∈l,n7 (aG x)
def vg:TT0→Prop
 |(o,l,n,i,_,_)=>(n =(l.length:Int)∧DI l)∧(0≤i∧i≤n)∧(o.size:Int)≤20301 *(i+1)
def H6:TT0→Nat
 |(_,_,n,i,_)=>(n - i).toNat
abbrev qT1:Pat:=⟨[(5,.h .str),(41,.h Sts),(42,.h I),(43,.h I)],[],0⟩
abbrev xT1:List (Lf×Pat):= [(.ext 2,⟨[(5,.h .str)],[],0⟩)]
abbrev TT1:Type:=ByteArray×List Mir.Strip×Int×Int×Unit
def lS:TT1→ByteArray×Unit
 |(o,l,_,i,_)=>(qh (l.drop i.toNat) o,())
def vh:TT1→Prop
 |(o,l,n,i,_)=>(n =(l.length:Int)∧DJ l)∧(0≤i∧i≤n)∧(o.size:Int)≤20301 *(i+20001)
def H7:TT1→Nat
 |(_,_,n,i,_)=>(n - i).toNat
theorem wm :∀ l:List (List UInt8),(Lib.joinTail [32] l).length =(l.map fun s=>s.length+1).sum
 | []=>rfl
 | w::l=>by
  have ih:=wm l
  unfold Lib.joinTail at *
  simp only [List.map_cons,List.flatten_cons,List.length_append,List.length_cons,List.length_nil,List.sum_cons] at *
  omega
theorem BV (l:List (List UInt8)) :(Lib.join l [32]).length≤(l.map fun s=>s.length+1).sum:=by
 cases l with
 | nil=>rw [Lib.join_nil];exact Nat.zero_le _
 | cons w l=>
  have h:=wm l
  rw [Lib.join_cons]
  simp only [List.length_append,List.map_cons,List.sum_cons]
  omega
theorem fv (l:List ByteArray) :(iG l spV).size≤aU l:=by
 have h:=BV (l.map fun s=>s.data.toList)
 have e :(iG l spV).size =(Lib.join (l.map fun s=>s.data.toList) [32]).length:=rfl
 have e2 :((l.map fun s=>s.data.toList).map fun s=>s.length+1).sum=aU l:=by
  unfold aU
  rw [List.map_map]
  congr 1
 omega
theorem Ji (a b:List ByteArray):aU (a++b)=aU a+aU b:=by unfold aU;rw [List.map_append,List.sum_append]
theorem bK (a:ByteArray) (b:List ByteArray):aU (a::b)=a.size+1+aU b:=by unfold aU;rw [List.map_cons,List.sum_cons]
theorem Fg {b:Mir.Book} (h:Wr b):n7 (bm b):=by
 have e:aU (bm b)≤20300:=by
  unfold bm bA bR
  have z:=fun n hn=>bl (h.hd n hn).1 (h.hd n hn).2
  unfold bR at z
  simp only [List.map_cons,List.map_nil,List.append_nil,bK]
  have h0:aU []=0:=rfl
  have hb:bookV.size=4:=rfl
  have z1:=z b.Side (by simp)
  have z2:=z b.Total (by simp)
  have z3:=z b.Wickets (by simp)
  have z4:=z b.Extras.Wides (by simp)
  have z5:=z b.Extras.NoBalls (by simp)
  have z6:=z b.Extras.Byes (by simp)
  have z7:=z b.Extras.LegByes (by simp)
  have z8:=z b.Extras.Penalties (by simp)
  omega
 have:=fv (bm b)
 have:=cN (bm b)
 exact ⟨by omega,by omega⟩
theorem Gr {b:Mir.Book} (h:Wr b) {x:Mir.Box} (hx:x∈b.Boxes) (hz:aU x.Symbols≤20100):n7 (bj x):=by
 obtain ⟨h1,h2,_⟩:=h.bx x hx
 have e:aU (bj x)≤20300:=by
  unfold bj bA
  have z1:=bl h1.1 h1.2
  have z2:=bl h2.1 h2.2
  simp only [List.map_cons,List.map_nil,List.cons_append,List.nil_append,bK]
  have hb:boxV.size=3:=rfl
  omega
 have:=fv (bj x)
 have:=cN (bj x)
 exact ⟨by omega,by omega⟩
theorem CO {b:Mir.Book} (h:Wr b) {x:Mir.Strip} (hx:x∈b.Strips) (hz:aU x.Symbols≤20100):n7 (aG x):=by
 obtain ⟨h1,h2,_⟩:=h.st x hx
 have e:aU (aG x)≤20300:=by
  unfold aG bA
  have z1:=bl h1.1 h1.2
  have z2:=bl h2.1 h2.2
  have z3:=mj x.How
  simp only [List.map_cons,List.map_nil,List.cons_append,List.nil_append,bK]
  have hb:stripV.size=5:=rfl
  omega
 have:=fv (aG x)
 have:=cN (aG x)
 exact ⟨by omega,by omega⟩
theorem jz {ws:List ByteArray} (h:n7 ws) :(lnB ws).size≤20301:=by
 unfold lnB
 rw [ByteArray.size_append]
 have:nlV.size=1:=rfl
 have:=h.1
 omega
noncomputable def lpT0:Lp:=(⟨0,aC [qy] Tryz.f13,(fun _=>none),(aq Tryz.f13 0),qT0,xT0⟩:Lp)
theorem Pw (o:ByteArray) (l:List Mir.Box) (n:Int) (i:Int) (b:Mir.Book) (hi:vg (o,l,n,i,b,())) :(Go.Mir.stepG lpT0 mQ (fun y:Den (tyP lpT0.q)=>vg y∧H6 y<H6 (o,l,n,i,b,())) (o,l,n,i,b,())∧Go.Mir.stepE lpT0 mQ (o,l,n,i,b,())=mQ (o,l,n,i,b,())):=by
 refine cast (by kernel_rfl) (?_:let r1:ByteArray:=ByteArray.mk #[66,79,88];let r2:List Int:= [(l.getD i.toNat (dflt (Ty.nm Nm.Box))).1,(l.getD i.toNat (dflt (Ty.nm Nm.Box))).2];let r3:ByteArray:=zO r1 r2 (l.getD i.toNat (dflt (Ty.nm Nm.Box))).3;((decide (i<n)=true→((0:Int)≤i∧i <(↑l.length:Int))∧so r1 r2 (l.getD i.toNat (dflt (Ty.nm Nm.Box))).3∧o.size+r3.size≤aw∧vg (o++r3,l,n,IntKind.i64.wrap (i +(1:Int)),b,())∧H6 (o++r3,l,n,IntKind.i64.wrap (i +(1:Int)),b,())<H6 (o,l,n,i,b,()))∧(decide (i<n)=false→True))∧(bif decide (i<n) then mQ (o++r3,l,n,IntKind.i64.wrap (i +(1:Int)),b,()) else (o,b,()))=mQ (o,l,n,i,b,()))
 intro r1 r2 r3
 clear_value (hr1:r1=_) (hr2:r2=_) (hr3:r3=_)
 obtain ⟨⟨h1,h1b⟩,⟨h2,h3⟩,h4⟩:=hi
 have h1:n =(l.length:Int):=h1
 have h1b:DI l:=h1b
 have h2:0≤i:=h2
 have h3:i≤n:=h3
 have h4 :(o.size:Int)≤20301 *(i+1):=h4
 have hf:=h1b.1
 have hL :(900000000:Nat)≤aw:=by decide
 by_cases h:i<n
 ·have e1:IntKind.i64.wrap (i+1)=i+1:=wrap64 (by omega) (by omega)
  have hd:l.drop i.toNat=l.getD i.toNat (dflt (Ty.nm Nm.Box))::l.drop (i+1).toNat:=aL h2 (by omega) _
  have hm:l.getD i.toNat (dflt (Ty.nm Nm.Box))∈l:=List.mem_of_mem_drop (i:=i.toNat) (by rw [hd];exact List.mem_cons_self)
  have hz:=h1b.2 _ hm
  generalize l.getD i.toNat (dflt (Ty.nm Nm.Box))=x at *
  have e3:r3=lnB (bj x):=by rw [hr3,hr2,hr1];rfl
  have hs:=jz hz
  have hn:so r1 r2 x.Symbols:=by
   have hw:bA r1 r2 x.Symbols=bj x:=by rw [hr2,hr1];rfl
   have hl :(bj x).length=x.Symbols.length+3:=by unfold bj bA;simp
   refine ⟨?_,?_,?_⟩
   ·rw [hw];exact Nat.le_trans hz.1 (by decide)
   ·rw [hr2];show 2≤1000000;omega
   ·have:=hz.2;omega
  have key:mQ (o,l,n,i,b,())=mQ (o++r3,l,n,i+1,b,()):=by
   show (jq (l.drop i.toNat) o,b,()) =(jq (l.drop (i+1).toNat) (o++r3),b,())
   rw [hd,e3]
   rfl
  rw [←e3] at hs
  rw [decide_eq_true h,e1,key]
  refine ⟨⟨fun _=>⟨⟨h2,by omega⟩,hn,by omega,⟨⟨h1,h1b⟩,⟨?_,?_⟩,?_⟩,?_⟩,fun z=>Bool.noConfusion z⟩,rfl⟩
  ·show 0≤i+1;omega
  ·show i+1≤n;omega
  ·show ((o++r3).size:Int)≤20301 *(i+1+1)
   rw [ByteArray.size_append];omega
  ·show (n - (i+1)).toNat <(n - i).toNat;omega
 ·rw [decide_eq_false h]
  refine ⟨⟨fun z=>Bool.noConfusion z,fun _=>trivial⟩,?_⟩
  show _ =(jq (l.drop i.toNat) o,b,())
  rw [aF (l:=l) (by omega)]
  rfl
noncomputable def MO:LoopSum:=ai lpT0 mQ vg
noncomputable def Mg:Nat:=rid (aq Tryz.f13 0)
theorem Oj:LoopOKp Tryz.prog 0 Tryz.f13.ntmps (aq Tryz.f13 0) (ai lpT0 mQ vg):=
 az lpT0 (ao (.consU sw rfl .nil) _) mixed (fun b hb S hS=>by cases hS) mQ vg H6 (fun |⟨o,l,n,i,b,⟨⟩⟩,hi=>Pw o l n i b hi)
noncomputable def lpT1:Lp:=(⟨0,aC [qy,k25,mg] Tryz.f13,(fun _=>none),(aq Tryz.f13 1),qT1,xT1⟩:Lp)
theorem Px (o:ByteArray) (l:List Mir.Strip) (n:Int) (i:Int) (hi:vh (o,l,n,i,())) :(Go.Mir.stepG lpT1 lS (fun y:Den (tyP lpT1.q)=>vh y∧H7 y<H7 (o,l,n,i,())) (o,l,n,i,())∧Go.Mir.stepE lpT1 lS (o,l,n,i,())=lS (o,l,n,i,())):=by
 refine cast (by kernel_rfl) (?_:let r1:List Int:= [(l.getD i.toNat (dflt (Ty.nm Nm.Strip))).1];let r2:List ByteArray:= [(ofW (l.getD i.toNat (dflt (Ty.nm Nm.Strip))).3).2,aP (l.getD i.toNat (dflt (Ty.nm Nm.Strip))).4];let r3:ByteArray:=ByteArray.mk #[83,84,82,73,80];let r4:List ByteArray:=r2 ++(l.getD i.toNat (dflt (Ty.nm Nm.Strip))).2;let r5:ByteArray:=zO r3 r1 r4;((decide (i<n)=true→((0:Int)≤i∧i <(↑l.length:Int))∧(r2.length +(l.getD i.toNat (dflt (Ty.nm Nm.Strip))).2.length) *(16:Nat)≤(70368744177664:Nat)∧so r3 r1 r4∧o.size+r5.size≤aw∧vh (o++r5,l,n,IntKind.i64.wrap (i +(1:Int)),())∧H7 (o++r5,l,n,IntKind.i64.wrap (i +(1:Int)),())<H7 (o,l,n,i,()))∧(decide (i<n)=false→True))∧(bif decide (i<n) then lS (o++r5,l,n,IntKind.i64.wrap (i +(1:Int)),()) else (o,()))=lS (o,l,n,i,()))
 intro r1 r2 r3 r4 r5
 clear_value (hr1:r1=_) (hr2:r2=_) (hr3:r3=_) (hr4:r4=_) (hr5:r5=_)
 obtain ⟨⟨h1,h1b⟩,⟨h2,h3⟩,h4⟩:=hi
 have h1:n =(l.length:Int):=h1
 have h1b:DJ l:=h1b
 have h2:0≤i:=h2
 have h3:i≤n:=h3
 have h4 :(o.size:Int)≤20301 *(i+20001):=h4
 have hf:=h1b.1
 have hL :(900000000:Nat)≤aw:=by decide
 by_cases h:i<n
 ·have e1:IntKind.i64.wrap (i+1)=i+1:=wrap64 (by omega) (by omega)
  have hd:l.drop i.toNat=l.getD i.toNat (dflt (Ty.nm Nm.Strip))::l.drop (i+1).toNat:=aL h2 (by omega) _
  have hm:l.getD i.toNat (dflt (Ty.nm Nm.Strip))∈l:=List.mem_of_mem_drop (i:=i.toNat) (by rw [hd];exact List.mem_cons_self)
  have hz:=h1b.2 _ hm
  generalize l.getD i.toNat (dflt (Ty.nm Nm.Strip))=x at *
  have hw:bA r3 r1 r4=aG x:=by rw [hr4,hr3,hr2,hr1];rfl
  have e5:r5=lnB (aG x):=by rw [hr5,←hw];rfl
  have hs:=jz hz
  have hl :(aG x).length=x.Symbols.length+4:=by unfold aG bA;simp
  have h42:r4.length=x.Symbols.length+2:=by rw [hr4,hr2,List.length_append];show 2+x.Symbols.length=_;omega
  have hr:r2.length=2:=by rw [hr2];rfl
  have hz2:=hz.2
  have hn:so r3 r1 r4:=by
   refine ⟨?_,?_,?_⟩
   ·rw [hw];exact Nat.le_trans hz.1 (by decide)
   ·rw [hr1];show 1≤1000000;omega
   ·omega
  have key:lS (o,l,n,i,())=lS (o++r5,l,n,i+1,()):=by
   show (qh (l.drop i.toNat) o,()) =(qh (l.drop (i+1).toNat) (o++r5),())
   rw [hd,e5]
   rfl
  rw [←e5] at hs
  rw [decide_eq_true h,e1,key]
  refine ⟨⟨fun _=>⟨⟨h2,by omega⟩,?_,hn,by omega,⟨⟨h1,h1b⟩,⟨?_,?_⟩,?_⟩,?_⟩,fun z=>Bool.noConfusion z⟩,rfl⟩
  ·show (r2.length+x.Symbols.length)*16≤70368744177664;omega
  ·show 0≤i+1;omega
  ·show i+1≤n;omega
  ·show ((o++r5).size:Int)≤20301 *(i+1+20001)
   rw [ByteArray.size_append];omega
  ·show (n - (i+1)).toNat <(n - i).toNat;omega
 ·rw [decide_eq_false h]
  refine ⟨⟨fun z=>Bool.noConfusion z,fun _=>trivial⟩,?_⟩
  show _ =(qh (l.drop i.toNat) o,())
  rw [aF (l:=l) (by omega)]
  rfl
noncomputable def MP:LoopSum:=ai lpT1 lS vh
noncomputable def Mh:Nat:=rid (aq Tryz.f13 1)
theorem Ok:LoopOKp Tryz.prog 0 Tryz.f13.ntmps (aq Tryz.f13 1) (ai lpT1 lS vh):=
 az lpT1 (ao (.consU sw rfl (.consU QC rfl (.consU nD rfl .nil))) _) mixed (fun b hb S hS=>by cases hS) lS vh H7 (fun |⟨o,l,n,i,⟨⟩⟩,hi=>Px o l n i hi)
theorem oD :∀ (l:List Mir.Box) (o:ByteArray),(∀ x∈l,n7 (bj x))→(jq l o).size≤o.size+20301*l.length
 | [],o,_=>by show o.size≤_;omega
 | x::l,o,h=>by
  have h1:=jz (h x List.mem_cons_self)
  have ih:=oD l (o++lnB (bj x)) fun y hy=>h y (List.mem_cons_of_mem _ hy)
  show (jq l (o++lnB (bj x))).size≤_
  rw [ByteArray.size_append] at ih
  rw [List.length_cons]
  omega
theorem th (b:Mir.Book):fi b=qh b.Strips (jq b.Boxes (lnB (bm b))):=rfl
theorem qJ {b:Mir.Book} (h:bT b=0):bs b =(fi b,0):=by unfold bs;rw [if_pos h]
theorem qI {b:Mir.Book} (h:bT b≠0):bs b =(⟨#[]⟩,bT b):=by unfold bs;rw [if_neg h]
theorem FP (b:Mir.Book) (hb:tz b) :(evPat (aC [pW,ko,qy] Tryz.f13) (find [(Mg,MO),(Mh,MP)]) Tryz.f13 qBk Cn (b,())).sat fun z_=>z_ =(wa (b,())).2:=by
 refine cast (by kernel_rfl) (?_:let r1:ByteArray:=ByteArray.mk #[66,79,79,75];let r2:List Int:= [b.1]++bR b;let r3:ByteArray:=zO r1 r2 [];let r4:ByteArray:=jq (List.drop (Int.toNat (0:Int)) b.2) r3;tz b∧((bT b !=(0:Int))=true→(ByteArray.mk #[],bT b,()) =((bs b).1,(bs b).2,()))∧((bT b !=(0:Int))=false→([b.1].length +(bR b).length) *(8:Nat)≤(70368744177664:Nat)∧so r1 r2 []∧((c8 fun x=>none)∧((↑b.2.length:Int) =(↑b.2.length:Int)∧DI b.2)∧((0:Int)≤(0:Int)∧(0:Int)≤(↑b.2.length:Int))∧(↑r3.size:Int)≤(20301:Int) *((0:Int) +(1:Int)))∧((c8 fun x=>none)∧((↑b.3.length:Int) =(↑b.3.length:Int)∧DJ b.3)∧((0:Int)≤(0:Int)∧(0:Int)≤(↑b.3.length:Int))∧(↑r4.size:Int)≤(20301:Int) *((0:Int) +(20001:Int)))∧(qh (List.drop (Int.toNat (0:Int)) b.3) r4,(0:Int),()) =((bs b).1,(bs b).2,())))
 intro r1 r2 r3 r4
 clear_value (hr1:r1=_) (hr2:r2=_) (hr3:r3=_) (hr4:r4=_)
 have hb':=hb
 obtain ⟨⟨b1,b2⟩,b3,b4⟩:=hb'
 have e0:List.drop (Int.toNat 0) b.Boxes=b.Boxes:=rfl
 have e0':List.drop (Int.toNat 0) b.Strips=b.Strips:=rfl
 have hsum :(bR b).length=7:=rfl
 have e3:r3=lnB (bm b):=by rw [hr3,hr2,hr1];rfl
 rw [e0'] at *
 refine ⟨hb,fun h=>?_,fun h=>?_⟩
 ·have h:bT b≠0:=by simpa using h
  rw [qI h]
 ·have h:bT b=0:=by simpa using h
  have hw:=yx h
  have lx:DI b.Boxes:=⟨b1,fun x hx=>Gr hw hx (b3 x hx)⟩
  have ly:DJ b.Strips:=⟨b2,fun x hx=>CO hw hx (b4 x hx)⟩
  have hh:=Fg hw
  have hs:=jz hh
  have e4:r4=jq b.Boxes (lnB (bm b)):=by rw [hr4,e3];rfl
  have h4:=oD b.Boxes (lnB (bm b)) lx.2
  rw [←e4] at h4
  rw [←e3] at hs h4
  have hw1:bA r1 r2 []=bm b:=by rw [hr2,hr1];rfl
  refine ⟨by rw [hsum,List.length_singleton];decide,⟨?_,?_,?_⟩,⟨rfl,⟨rfl,lx⟩,⟨Int.le_refl _,by omega⟩,by omega⟩,⟨rfl,⟨rfl,ly⟩,⟨Int.le_refl _,by omega⟩,by omega⟩,?_⟩
  ·rw [hw1];exact Nat.le_trans hh.1 (by decide)
  ·rw [hr2];show 8≤1000000;omega
  ·show 0≤1000000;omega
  ·rw [qJ h,th,e4]
def xD:FuncId×Ctr:=(13,ah KE qBk Cn wa)
theorem Am:CtrOK Tryz.prog KE 13 (ah KE qBk Cn wa):=by
 refine ba (C:=aC [pW,ko,qy] Tryz.f13) (ao (.consU xQ rfl (.consU p7 rfl (.consU sw rfl .nil))) _) mixed (fn:=Tryz.f13) Tryz.func13 (by kernel_rfl) (by kernel_rfl) (by kernel_rfl) (by kernel_rfl) (by kernel_rfl) (by kernel_rfl) (Λ:=fun x=>find [(Mg,MO),(Mh,MP)]) ?_ ?_
 ·rintro ⟨b,⟨⟩⟩ hw hn
  exact LoopsOKp.at (by kernel_rfl) (.cons (by kernel_rfl) (Oj) (.cons (by kernel_rfl) (Ok) .nil))
 ·rintro ⟨b,⟨⟩⟩ hw hn
  exact FP b (hn _ List.mem_cons_self)
end Go.Proofs.YtffdpnmioidloaaGreatDoor
namespace Go.Proofs.YtffdpnmioidloaaGreatDoor
open Go Go.Mir Go.RowKit
attribute [local irreducible] Go.Mir.DT.sat Go.Mir.evPat Go.Mir.RT.sat Go.Mir.evFn
def okB (x:Mir.Box):Bool:= [x.Over,x.Bowler].all okI
def okT (x:Mir.Strip):Bool:= [x.Player,x.Bowler].all okI
def eN (l:List ByteArray) (o:ByteArray):ByteArray:=l.foldl (fun o x=>o ++(spV++x)) o
abbrev mX:Type:=ByteArray×Int×Unit
abbrev xRt:Lf×Pat:=(.ret,⟨[(2,.h .str),(3,.h I)],[],0⟩)
abbrev pBk:Pat:=⟨[(1,.c (.ptr 0 0))],tT,1⟩
abbrev qH0:Pat:=⟨[(1,.c (.ptr 0 0)),(28,.h Bxs),(29,.h I),(30,.h I)],tT,1⟩
abbrev xH0:List (Lf×Pat):= [(.ext 0,pBk),xRt]
abbrev TH0:Type:=List Mir.Box×Int×Int×Mir.Book×Unit
def iI:TH0→Sum (Mir.Book×Unit) mX
 |(l,_,i,b,_)=>if (l.drop i.toNat).all okB then .inl (b,()) else .inr (⟨#[]⟩,2,())
def uX:TH0→Prop
 |(l,n,i,_)=>(n =(l.length:Int)∧l.length≤20000)∧0≤i∧i≤n
def HQ:TH0→Nat
 |(_,n,i,_)=>(n - i).toNat
abbrev qH1:Pat:=⟨[(1,.c (.ptr 0 0)),(43,.h Sts),(44,.h I),(45,.h I)],tT,1⟩
abbrev xH1:List (Lf×Pat):= [(.ext 2,pBk),xRt]
abbrev TH1:Type:=List Mir.Strip×Int×Int×Mir.Book×Unit
def iJ:TH1→Sum (Mir.Book×Unit) mX
 |(l,_,i,b,_)=>if (l.drop i.toNat).all okT then .inl (b,()) else .inr (⟨#[]⟩,2,())
def kU:TH1→Prop
 |(l,n,i,_)=>(n =(l.length:Int)∧l.length≤20000)∧0≤i∧i≤n
def tZ:TH1→Nat
 |(_,n,i,_)=>(n - i).toNat
abbrev qH2:Pat:=⟨[(1,.c (.ptr 0 0)),(58,.h Sts),(59,.h I),(60,.h I)],tT,1⟩
abbrev xH2:List (Lf×Pat):= [(.ext 4,pBk),xRt]
def iK:TH1→Sum (Mir.Book×Unit) mX
 |(l,_,i,b,_)=>if (l.drop i.toNat).all bf then .inl (b,()) else .inr (⟨#[]⟩,3,())
abbrev qI3:Pat:=⟨[(1,.c (.ptr 0 0)),(10,.h .str),(79,.h Bxs),(80,.h I),(81,.h I),(95,.h (.slice .str)),(96,.h I),(97,.h I)],tT,1⟩
abbrev xI3:List (Lf×Pat):= [(.ext 8,⟨[(1,.c (.ptr 0 0)),(10,.h .str),(79,.h Bxs),(80,.h I),(81,.h I)],tT,1⟩),xRt]
abbrev TI3:Type:=ByteArray×List Mir.Box×Int×Int×List ByteArray×Int×Int×Mir.Book×Unit
def iP:TI3→Sum (ByteArray×List Mir.Box×Int×Int×Mir.Book×Unit) mX
 |(o,l,n,i,s,_,j,b,_)=>if (s.drop j.toNat).all ay then .inl (eN (s.drop j.toNat) o,l,n,i,b,()) else .inr (⟨#[]⟩,4,())
def Qs (o:ByteArray) (s:List ByteArray) (n j:Int):Prop:=(n =(s.length:Int)∧aU s≤20100)∧(0≤j∧j≤n)∧o.size+aU (s.drop j.toNat)≤900000000
def u3:TI3→Prop
 |(o,_,_,_,s,n,j,_)=>Qs o s n j
def HT:TI3→Nat
 |(_,_,_,_,_,n,j,_)=>(n - j).toNat
abbrev qI4:Pat:=⟨[(10,.h .str),(113,.h Sts),(114,.h I),(115,.h I),(137,.h (.slice .str)),(138,.h I),(139,.h I)],[],0⟩
abbrev xI4:List (Lf×Pat):= [(.ext 12,⟨[(10,.h .str),(113,.h Sts),(114,.h I),(115,.h I)],[],0⟩),xRt]
abbrev TI4:Type:=ByteArray×List Mir.Strip×Int×Int×List ByteArray×Int×Int×Unit
def iQ:TI4→Sum (ByteArray×List Mir.Strip×Int×Int×Unit) mX
 |(o,l,n,i,s,_,j,_)=>if (s.drop j.toNat).all ay then .inl (eN (s.drop j.toNat) o,l,n,i,()) else .inr (⟨#[]⟩,4,())
def u4:TI4→Prop
 |(o,_,_,_,s,n,j,_)=>Qs o s n j
def HU:TI4→Nat
 |(_,_,_,_,_,n,j,_)=>(n - j).toNat
def Dk (l:List Mir.Box):Prop:=l.length≤20000∧∀ x∈l,okB x=true∧aU x.Symbols≤20100
def Dm (l:List Mir.Strip):Prop:=l.length≤20000∧∀ x∈l,okT x=true∧aU x.Symbols≤20100
abbrev qH3:Pat:=⟨[(1,.c (.ptr 0 0)),(10,.h .str),(79,.h Bxs),(80,.h I),(81,.h I)],tT,1⟩
abbrev xH3:List (Lf×Pat):= [(.ext 6,⟨[(1,.c (.ptr 0 0)),(10,.h .str)],tT,1⟩),xRt]
abbrev TH3:Type:=ByteArray×List Mir.Box×Int×Int×Mir.Book×Unit
def fx (x:Mir.Box):Bool:=x.Symbols.all ay
def fy (x:Mir.Strip):Bool:=x.Symbols.all ay
def iL:TH3→Sum (ByteArray×Mir.Book×Unit) mX
 |(o,l,_,i,b,_)=>if (l.drop i.toNat).all fx then .inl (jq (l.drop i.toNat) o,b,()) else .inr (⟨#[]⟩,4,())
def uY:TH3→Prop
 |(o,l,n,i,_,_)=>(n =(l.length:Int)∧Dk l)∧(0≤i∧i≤n)∧(o.size:Int)≤20301 *(i+1)
def HR:TH3→Nat
 |(_,_,n,i,_)=>(n - i).toNat
abbrev qH4:Pat:=⟨[(10,.h .str),(113,.h Sts),(114,.h I),(115,.h I)],[],0⟩
abbrev xH4:List (Lf×Pat):= [(.ext 10,⟨[(10,.h .str)],[],0⟩),xRt]
abbrev TH4:Type:=ByteArray×List Mir.Strip×Int×Int×Unit
def iM:TH4→Sum (ByteArray×Unit) mX
 |(o,l,_,i,_)=>if (l.drop i.toNat).all fy then .inl (qh (l.drop i.toNat) o,()) else .inr (⟨#[]⟩,4,())
def uZ:TH4→Prop
 |(o,l,n,i,_)=>(n =(l.length:Int)∧Dm l)∧(0≤i∧i≤n)∧(o.size:Int)≤20301 *(i+20001)
def HS:TH4→Nat
 |(_,_,n,i,_)=>(n - i).toNat
theorem gF (a:ByteArray) :∀ (l:List ByteArray) (b:ByteArray),eN l (a++b)=a++eN l b
 | [],b=>rfl
 | x::l,b=>by
  show eN l ((a++b) ++(spV++x))=a++eN l (b ++(spV++x))
  rw [ByteArray.append_assoc,gF a l]
theorem yC (k l:List ByteArray) (o:ByteArray):eN (k++l) o=eN l (eN k o):=List.foldl_append ..
theorem uk :∀ (l:List ByteArray) (o:ByteArray),(eN l o).size=o.size+aU l
 | [],o=>rfl
 | x::l,o=>by
  have h:=uk l (o ++(spV++x))
  show (eN l (o ++(spV++x))).size=_
  have hs:spV.size=1:=rfl
  rw [h,ByteArray.size_append,ByteArray.size_append,bK]
  omega
theorem jB (l:List Int) (s:ByteArray):dy l s=eN (l.map aP) s:=by
 unfold dy eN
 rw [List.foldl_map]
theorem EC {a b:ByteArray} (h:a.data.toList=b.data.toList):a=b:=by
 cases a;cases b
 congr 1
 exact Array.toList_inj.1 h
theorem pa (w:ByteArray) (l:List ByteArray):iG (w::l) spV=eN l w:=by
 apply EC
 unfold eN
 rw [ma]
 show Lib.join ((w::l).map fun s=>s.data.toList) [32]=_
 rw [List.map_cons,Lib.join_cons]
 congr 1
 unfold Lib.joinTail
 rw [List.map_map]
 congr 1
theorem qC (a:ByteArray):a ++(⟨#[]⟩:ByteArray)=a:=ByteArray.append_empty
theorem JO (o:ByteArray) (x:Mir.Box):eN x.Symbols (o ++(boxV++dy [x.Over,x.Bowler] ⟨#[]⟩))++nlV=o++lnB (bj x):=by
 rw [jB,←gF,qC,gF,←yC,ByteArray.append_assoc,←pa]
 rfl
theorem FY (o:ByteArray) (x:Mir.Strip):eN x.Symbols (o ++((((stripV++dy [x.Player] ⟨#[]⟩)++spV)++b7 x.How)++dy [x.Bowler] ⟨#[]⟩))++nlV=o++lnB (aG x):=by
 have e :(((stripV++dy [x.Player] ⟨#[]⟩)++spV)++b7 x.How)++dy [x.Bowler] ⟨#[]⟩=eN [aP x.Player,b7 x.How,aP x.Bowler] stripV:=by
  rw [jB,jB,←gF,←gF,qC,qC,ByteArray.append_assoc (c:=b7 x.How)]
  rfl
 rw [e,gF,←yC,ByteArray.append_assoc,←pa]
 rfl
theorem Hc (b:Mir.Book) :(bookV++dy (b.Side::bR b) ⟨#[]⟩)++nlV=lnB (bm b):=by
 rw [jB,←gF,qC,←pa]
 unfold bm bA lnB
 rw [List.append_nil]
theorem Ip {x:Mir.Box} (h:okB x=true) :(0≤x.Over∧x.Over≤1000000)∧0≤x.Bowler∧x.Bowler≤1000000:=by
 unfold okB at h
 rw [List.all_cons,List.all_cons,Bool.and_eq_true,Bool.and_eq_true] at h
 exact ⟨po h.1,po h.2.1⟩
theorem It {x:Mir.Strip} (h:okT x=true) :(0≤x.Player∧x.Player≤1000000)∧0≤x.Bowler∧x.Bowler≤1000000:=by
 unfold okT at h
 rw [List.all_cons,List.all_cons,Bool.and_eq_true,Bool.and_eq_true] at h
 exact ⟨po h.1,po h.2.1⟩
theorem Ai {x:Mir.Box} (h:okB x=true) (hz:aU x.Symbols≤20100):n7 (bj x):=by
 obtain ⟨h1,h2⟩:=Ip h
 have e:aU (bj x)≤20300:=by
  unfold bj bA
  have z1:=bl h1.1 h1.2
  have z2:=bl h2.1 h2.2
  simp only [List.map_cons,List.map_nil,List.cons_append,List.nil_append,bK]
  have hb:boxV.size=3:=rfl
  omega
 have:=fv (bj x)
 have:=cN (bj x)
 exact ⟨by omega,by omega⟩
theorem Iu {x:Mir.Strip} (h:okT x=true) (hz:aU x.Symbols≤20100):n7 (aG x):=by
 obtain ⟨h1,h2⟩:=It h
 have e:aU (aG x)≤20300:=by
  unfold aG bA
  have z1:=bl h1.1 h1.2
  have z2:=bl h2.1 h2.2
  have z3:=mj x.How
  simp only [List.map_cons,List.map_nil,List.cons_append,List.nil_append,bK]
  have hb:stripV.size=5:=rfl
  omega
 have:=fv (aG x)
 have:=cN (aG x)
 exact ⟨by omega,by omega⟩
theorem mm {l:List Int} (h :∀ n∈l,0≤n∧n≤1000000) :(dy l ⟨#[]⟩).size≤22*l.length:=by
 rw [jB,uk]
 have h0 :(⟨#[]⟩:ByteArray).size=0:=rfl
 rw [h0]
 have:aU (l.map aP)≤22*l.length:=by
  induction l with
  | nil=>exact Nat.zero_le _
  | cons n l ih=>
   have h1:=bl (h n List.mem_cons_self).1 (h n List.mem_cons_self).2
   have h2:=ih fun m hm=>h m (List.mem_cons_of_mem _ hm)
   rw [List.map_cons,bK,List.length_cons]
   omega
 omega
theorem Im {a b:Int} (h1:0≤a∧a≤1000000) (h2:0≤b∧b≤1000000) :∀ n∈ [a,b],0≤n∧n≤1000000:=fun n hn=>by
 rcases List.mem_cons.1 hn with rfl|hn
 ·exact h1
 ·rcases List.mem_cons.1 hn with rfl|hn
  ·exact h2
  ·cases hn
theorem Ag {a:Int} (h1:0≤a∧a≤1000000) :∀ n∈ [a],0≤n∧n≤1000000:=fun n hn=>by
 rcases List.mem_cons.1 hn with rfl|hn
 ·exact h1
 ·cases hn
noncomputable def lpH0:Lp:=(⟨0,aC [kp] Tryz.f14,(fun _=>none),(aq Tryz.f14 0),qH0,xH0⟩:Lp)
theorem Pe (l:List Mir.Box) (n:Int) (i:Int) (b:Mir.Book) (hi:uX (l,n,i,b,())) :(Go.Mir.stepG lpH0 iI (fun y:Den (tyP lpH0.q)=>uX y∧HQ y<HQ (l,n,i,b,())) (l,n,i,b,())∧Go.Mir.stepE lpH0 iI (l,n,i,b,())=iI (l,n,i,b,())):=by
 refine cast (by kernel_rfl) (?_:let r1:List Int:= [(l.getD i.toNat (dflt (Ty.nm Nm.Box))).1,(l.getD i.toNat (dflt (Ty.nm Nm.Box))).2];let r2:Bool:=!r1.all okI;((decide (i<n)=true→((0:Int)≤i∧i <(↑l.length:Int))∧r1.length≤(1000000:Nat)∧(r2=true→True)∧(r2=false→uX (l,n,IntKind.i64.wrap (i +(1:Int)),b,())∧HQ (l,n,IntKind.i64.wrap (i +(1:Int)),b,())<HQ (l,n,i,b,())))∧(decide (i<n)=false→True))∧(bif decide (i<n) then bif r2 then Sum.inr (ByteArray.mk #[],(2:Int),()) else iI (l,n,IntKind.i64.wrap (i +(1:Int)),b,()) else Sum.inl (b,()))=iI (l,n,i,b,()))
 intro r1 r2
 clear_value (hr1:r1=_) (hr2:r2=_)
 obtain ⟨⟨h1,h1b⟩,h2,h3⟩:=hi
 have h1:n =(l.length:Int):=h1
 have h1b:l.length≤20000:=h1b
 have h2:0≤i:=h2
 have h3:i≤n:=h3
 by_cases h:i<n
 ·have e1:IntKind.i64.wrap (i+1)=i+1:=wrap64 (by omega) (by omega)
  have hd:l.drop i.toNat=l.getD i.toNat (dflt (Ty.nm Nm.Box))::l.drop (i+1).toNat:=aL h2 (by omega) _
  generalize l.getD i.toNat (dflt (Ty.nm Nm.Box))=x at *
  have er:r2=!okB x:=by rw [hr2,hr1];rfl
  have key:iI (l,n,i,b,())=bif r2 then .inr (⟨#[]⟩,2,()) else iI (l,n,i+1,b,()):=by
   show (if (l.drop i.toNat).all okB then _ else _)=_
   rw [hd,List.all_cons,er]
   cases okB x <;> rfl
  rw [decide_eq_true h,e1,key]
  refine ⟨⟨fun _=>⟨⟨h2,by omega⟩,by rw [hr1];show 2≤1000000;omega,fun _=>trivial,fun _=>⟨⟨⟨h1,h1b⟩,?_,?_⟩,?_⟩⟩,fun z=>Bool.noConfusion z⟩,rfl⟩
  ·show 0≤i+1;omega
  ·show i+1≤n;omega
  ·show (n - (i+1)).toNat <(n - i).toNat;omega
 ·rw [decide_eq_false h]
  refine ⟨⟨fun z=>Bool.noConfusion z,fun _=>trivial⟩,?_⟩
  show _ =(if (l.drop i.toNat).all okB then _ else _)
  rw [aF (l:=l) (by omega)]
  rfl
noncomputable def MA:LoopSum:=ai lpH0 iI uX
noncomputable def L2:Nat:=rid (aq Tryz.f14 0)
theorem N0:LoopOKp Tryz.prog 0 Tryz.f14.ntmps (aq Tryz.f14 0) (ai lpH0 iI uX):=
 az lpH0 (ao (.consU lL rfl .nil) _) mixed (fun b hb S hS=>by cases hS) iI uX HQ (fun |⟨l,n,i,b,⟨⟩⟩,hi=>Pe l n i b hi)
noncomputable def lpH1:Lp:=(⟨0,aC [kp] Tryz.f14,(fun _=>none),(aq Tryz.f14 1),qH1,xH1⟩:Lp)
theorem Pg (l:List Mir.Strip) (n:Int) (i:Int) (b:Mir.Book) (hi:kU (l,n,i,b,())) :(Go.Mir.stepG lpH1 iJ (fun y:Den (tyP lpH1.q)=>kU y∧tZ y<tZ (l,n,i,b,())) (l,n,i,b,())∧Go.Mir.stepE lpH1 iJ (l,n,i,b,())=iJ (l,n,i,b,())):=by
 refine cast (by kernel_rfl) (?_:let r1:List Int:= [(l.getD i.toNat (dflt (Ty.nm Nm.Strip))).1,(l.getD i.toNat (dflt (Ty.nm Nm.Strip))).4];let r2:Bool:=!r1.all okI;((decide (i<n)=true→((0:Int)≤i∧i <(↑l.length:Int))∧r1.length≤(1000000:Nat)∧(r2=true→True)∧(r2=false→kU (l,n,IntKind.i64.wrap (i +(1:Int)),b,())∧tZ (l,n,IntKind.i64.wrap (i +(1:Int)),b,())<tZ (l,n,i,b,())))∧(decide (i<n)=false→True))∧(bif decide (i<n) then bif r2 then Sum.inr (ByteArray.mk #[],(2:Int),()) else iJ (l,n,IntKind.i64.wrap (i +(1:Int)),b,()) else Sum.inl (b,()))=iJ (l,n,i,b,()))
 intro r1 r2
 clear_value (hr1:r1=_) (hr2:r2=_)
 obtain ⟨⟨h1,h1b⟩,h2,h3⟩:=hi
 have h1:n =(l.length:Int):=h1
 have h1b:l.length≤20000:=h1b
 have h2:0≤i:=h2
 have h3:i≤n:=h3
 by_cases h:i<n
 ·have e1:IntKind.i64.wrap (i+1)=i+1:=wrap64 (by omega) (by omega)
  have hd:l.drop i.toNat=l.getD i.toNat (dflt (Ty.nm Nm.Strip))::l.drop (i+1).toNat:=aL h2 (by omega) _
  generalize l.getD i.toNat (dflt (Ty.nm Nm.Strip))=x at *
  have er:r2=!okT x:=by rw [hr2,hr1];rfl
  have key:iJ (l,n,i,b,())=bif r2 then .inr (⟨#[]⟩,2,()) else iJ (l,n,i+1,b,()):=by
   show (if (l.drop i.toNat).all okT then _ else _)=_
   rw [hd,List.all_cons,er]
   cases okT x <;> rfl
  rw [decide_eq_true h,e1,key]
  refine ⟨⟨fun _=>⟨⟨h2,by omega⟩,by rw [hr1];show 2≤1000000;omega,fun _=>trivial,fun _=>⟨⟨⟨h1,h1b⟩,?_,?_⟩,?_⟩⟩,fun z=>Bool.noConfusion z⟩,rfl⟩
  ·show 0≤i+1;omega
  ·show i+1≤n;omega
  ·show (n - (i+1)).toNat <(n - i).toNat;omega
 ·rw [decide_eq_false h]
  refine ⟨⟨fun z=>Bool.noConfusion z,fun _=>trivial⟩,?_⟩
  show _ =(if (l.drop i.toNat).all okT then _ else _)
  rw [aF (l:=l) (by omega)]
  rfl
noncomputable def MB:LoopSum:=ai lpH1 iJ kU
noncomputable def L3:Nat:=rid (aq Tryz.f14 1)
theorem N1:LoopOKp Tryz.prog 0 Tryz.f14.ntmps (aq Tryz.f14 1) (ai lpH1 iJ kU):=
 az lpH1 (ao (.consU lL rfl .nil) _) mixed (fun b hb S hS=>by cases hS) iJ kU tZ (fun |⟨l,n,i,b,⟨⟩⟩,hi=>Pg l n i b hi)
noncomputable def lpH2:Lp:=(⟨0,aC [k26] Tryz.f14,(fun _=>none),(aq Tryz.f14 2),qH2,xH2⟩:Lp)
theorem Ph (l:List Mir.Strip) (n:Int) (i:Int) (b:Mir.Book) (hi:kU (l,n,i,b,())) :(Go.Mir.stepG lpH2 iK (fun y:Den (tyP lpH2.q)=>kU y∧tZ y<tZ (l,n,i,b,())) (l,n,i,b,())∧Go.Mir.stepE lpH2 iK (l,n,i,b,())=iK (l,n,i,b,())):=by
 refine cast (by kernel_rfl) (?_:let r1:Bool:=(b7 (l.getD i.toNat (dflt (Ty.nm Nm.Strip))).3).toList ==(ByteArray.mk #[]).toList;((decide (i<n)=true→((0:Int)≤i∧i <(↑l.length:Int))∧(r1=true→True)∧(r1=false→kU (l,n,IntKind.i64.wrap (i +(1:Int)),b,())∧tZ (l,n,IntKind.i64.wrap (i +(1:Int)),b,())<tZ (l,n,i,b,())))∧(decide (i<n)=false→True))∧(bif decide (i<n) then bif r1 then Sum.inr (ByteArray.mk #[],(3:Int),()) else iK (l,n,IntKind.i64.wrap (i +(1:Int)),b,()) else Sum.inl (b,()))=iK (l,n,i,b,()))
 intro r1
 clear_value (hr1:r1=_)
 obtain ⟨⟨h1,h1b⟩,h2,h3⟩:=hi
 have h1:n =(l.length:Int):=h1
 have h1b:l.length≤20000:=h1b
 have h2:0≤i:=h2
 have h3:i≤n:=h3
 by_cases h:i<n
 ·have e1:IntKind.i64.wrap (i+1)=i+1:=wrap64 (by omega) (by omega)
  have hd:l.drop i.toNat=l.getD i.toNat (dflt (Ty.nm Nm.Strip))::l.drop (i+1).toNat:=aL h2 (by omega) _
  generalize l.getD i.toNat (dflt (Ty.nm Nm.Strip))=x at *
  have er:r1=!bf x:=by rw [hr1];unfold bf;rw [Bool.not_not]
  have key:iK (l,n,i,b,())=bif r1 then .inr (⟨#[]⟩,3,()) else iK (l,n,i+1,b,()):=by
   show (if (l.drop i.toNat).all bf then _ else _)=_
   rw [hd,List.all_cons,er]
   cases bf x <;> rfl
  rw [decide_eq_true h,e1,key]
  refine ⟨⟨fun _=>⟨⟨h2,by omega⟩,fun _=>trivial,fun _=>⟨⟨⟨h1,h1b⟩,?_,?_⟩,?_⟩⟩,fun z=>Bool.noConfusion z⟩,rfl⟩
  ·show 0≤i+1;omega
  ·show i+1≤n;omega
  ·show (n - (i+1)).toNat <(n - i).toNat;omega
 ·rw [decide_eq_false h]
  refine ⟨⟨fun z=>Bool.noConfusion z,fun _=>trivial⟩,?_⟩
  show _ =(if (l.drop i.toNat).all bf then _ else _)
  rw [aF (l:=l) (by omega)]
  rfl
noncomputable def MC:LoopSum:=ai lpH2 iK kU
noncomputable def L4:Nat:=rid (aq Tryz.f14 2)
theorem N2:LoopOKp Tryz.prog 0 Tryz.f14.ntmps (aq Tryz.f14 2) (ai lpH2 iK kU):=
 az lpH2 (ao (.consU OC rfl .nil) _) mixed (fun b hb S hS=>by cases hS) iK kU tZ (fun |⟨l,n,i,b,⟨⟩⟩,hi=>Ph l n i b hi)
noncomputable def lpI3:Lp:=(⟨0,aC [eC] Tryz.f14,(fun _=>none),(ph Tryz.f14 3 0),qI3,xI3⟩:Lp)
theorem Pk (o:ByteArray) (l:List Mir.Box) (n:Int) (i:Int) (s:List ByteArray) (m:Int) (j:Int) (b:Mir.Book) (hi:u3 (o,l,n,i,s,m,j,b,())) :(Go.Mir.stepG lpI3 iP (fun y:Den (tyP lpI3.q)=>u3 y∧HT y<HT (o,l,n,i,s,m,j,b,())) (o,l,n,i,s,m,j,b,())∧Go.Mir.stepE lpI3 iP (o,l,n,i,s,m,j,b,())=iP (o,l,n,i,s,m,j,b,())):=by
 refine cast (by kernel_rfl) (?_:let r1:ByteArray:=ByteArray.mk #[32]++s.getD j.toNat (dflt Ty.str);((decide (j<m)=true→((0:Int)≤j∧j <(↑s.length:Int))∧ByteArray.size (s.getD j.toNat (dflt Ty.str))≤(1000000:Nat)∧((!ay (s.getD j.toNat (dflt Ty.str)))=true→True)∧((!ay (s.getD j.toNat (dflt Ty.str)))=false→(ByteArray.mk #[32]).size+ByteArray.size (s.getD j.toNat (dflt Ty.str))≤aw∧o.size+r1.size≤aw∧u3 (o++r1,l,n,i,s,m,IntKind.i64.wrap (j +(1:Int)),b,())∧HT (o++r1,l,n,i,s,m,IntKind.i64.wrap (j +(1:Int)),b,())<HT (o,l,n,i,s,m,j,b,())))∧(decide (j<m)=false→True))∧(bif decide (j<m) then bif !ay (s.getD j.toNat (dflt Ty.str)) then Sum.inr (ByteArray.mk #[],(4:Int),()) else iP (o++r1,l,n,i,s,m,IntKind.i64.wrap (j +(1:Int)),b,()) else Sum.inl (o,l,n,i,b,()))=iP (o,l,n,i,s,m,j,b,()))
 intro r1
 clear_value (hr1:r1=_)
 obtain ⟨⟨h1,h1b⟩,⟨h2,h3⟩,h4⟩:=hi
 have h1:m =(s.length:Int):=h1
 have h1b:aU s≤20100:=h1b
 have h2:0≤j:=h2
 have h3:j≤m:=h3
 have h4:o.size+aU (s.drop j.toNat)≤900000000:=h4
 have hL :(1000000000:Nat)≤aw:=by decide
 have hlen:=cN s
 by_cases h:j<m
 ·have e1:IntKind.i64.wrap (j+1)=j+1:=wrap64 (by omega) (by omega)
  have hd:s.drop j.toNat=s.getD j.toNat (dflt Ty.str)::s.drop (j+1).toNat:=aL h2 (by omega) _
  have hm:s.getD j.toNat (dflt Ty.str)∈s:=List.mem_of_mem_drop (i:=j.toNat) (by rw [hd];exact List.mem_cons_self)
  generalize s.getD j.toNat (dflt Ty.str)=x at *
  have hz:x.size+1≤aU s:=ox hm
  have hc:=bK x (s.drop (j+1).toNat)
  rw [←hd] at hc
  have hsp :(ByteArray.mk #[(32:UInt8)]).size=1:=rfl
  have hr:r1.size=1+x.size:=by rw [hr1];exact ByteArray.size_append
  have key:iP (o,l,n,i,s,m,j,b,())=bif !ay x then .inr (⟨#[]⟩,4,()) else iP (o++r1,l,n,i,s,m,j+1,b,()):=by
   show (if (s.drop j.toNat).all ay then (Sum.inl (eN (s.drop j.toNat) o,l,n,i,b,()):Sum _ mX) else _)=_
   rw [hd,List.all_cons,hr1]
   cases ay x <;> rfl
  rw [decide_eq_true h,e1,key]
  refine ⟨⟨fun _=>⟨⟨h2,by omega⟩,Nat.le_trans (Nat.le_of_succ_le hz) (Nat.le_trans h1b (by decide)),fun _=>trivial,fun _=>⟨?_,by omega,⟨⟨h1,h1b⟩,⟨?_,?_⟩,?_⟩,?_⟩⟩,fun z=>Bool.noConfusion z⟩,rfl⟩
  ·rw [hsp];show 1+x.size≤aw;omega
  ·show 0≤j+1;omega
  ·show j+1≤m;omega
  ·show (o++r1).size+aU (s.drop (j+1).toNat)≤900000000
   rw [ByteArray.size_append];omega
  ·show (m - (j+1)).toNat <(m - j).toNat;omega
 ·rw [decide_eq_false h]
  refine ⟨⟨fun z=>Bool.noConfusion z,fun _=>trivial⟩,?_⟩
  show _ =(if (s.drop j.toNat).all ay then (Sum.inl (eN (s.drop j.toNat) o,l,n,i,b,()):Sum _ mX) else _)
  rw [aF (l:=s) (by omega)]
  rfl
noncomputable def Q0:LoopSum:=ai lpI3 iP u3
noncomputable def QM:Nat:=rid (ph Tryz.f14 3 0)
theorem N5:LoopOKp Tryz.prog 0 Tryz.f14.ntmps (ph Tryz.f14 3 0) (ai lpI3 iP u3):=
 az lpI3 (ao (.consU fe rfl .nil) _) mixed (fun b hb S hS=>by cases hS) iP u3 HT (fun |⟨o,l,n,i,s,m,j,b,⟨⟩⟩,hi=>Pk o l n i s m j b hi)
noncomputable def lpI4:Lp:=(⟨0,aC [eC] Tryz.f14,(fun _=>none),(ph Tryz.f14 4 0),qI4,xI4⟩:Lp)
theorem Pl (o:ByteArray) (l:List Mir.Strip) (n:Int) (i:Int) (s:List ByteArray) (m:Int) (j:Int) (hi:u4 (o,l,n,i,s,m,j,())) :(Go.Mir.stepG lpI4 iQ (fun y:Den (tyP lpI4.q)=>u4 y∧HU y<HU (o,l,n,i,s,m,j,())) (o,l,n,i,s,m,j,())∧Go.Mir.stepE lpI4 iQ (o,l,n,i,s,m,j,())=iQ (o,l,n,i,s,m,j,())):=by
 refine cast (by kernel_rfl) (?_:let r1:ByteArray:=ByteArray.mk #[32]++s.getD j.toNat (dflt Ty.str);((decide (j<m)=true→((0:Int)≤j∧j <(↑s.length:Int))∧ByteArray.size (s.getD j.toNat (dflt Ty.str))≤(1000000:Nat)∧((!ay (s.getD j.toNat (dflt Ty.str)))=true→True)∧((!ay (s.getD j.toNat (dflt Ty.str)))=false→(ByteArray.mk #[32]).size+ByteArray.size (s.getD j.toNat (dflt Ty.str))≤aw∧o.size+r1.size≤aw∧u4 (o++r1,l,n,i,s,m,IntKind.i64.wrap (j +(1:Int)),())∧HU (o++r1,l,n,i,s,m,IntKind.i64.wrap (j +(1:Int)),())<HU (o,l,n,i,s,m,j,())))∧(decide (j<m)=false→True))∧(bif decide (j<m) then bif !ay (s.getD j.toNat (dflt Ty.str)) then Sum.inr (ByteArray.mk #[],(4:Int),()) else iQ (o++r1,l,n,i,s,m,IntKind.i64.wrap (j +(1:Int)),()) else Sum.inl (o,l,n,i,()))=iQ (o,l,n,i,s,m,j,()))
 intro r1
 clear_value (hr1:r1=_)
 obtain ⟨⟨h1,h1b⟩,⟨h2,h3⟩,h4⟩:=hi
 have h1:m =(s.length:Int):=h1
 have h1b:aU s≤20100:=h1b
 have h2:0≤j:=h2
 have h3:j≤m:=h3
 have h4:o.size+aU (s.drop j.toNat)≤900000000:=h4
 have hL :(1000000000:Nat)≤aw:=by decide
 have hlen:=cN s
 by_cases h:j<m
 ·have e1:IntKind.i64.wrap (j+1)=j+1:=wrap64 (by omega) (by omega)
  have hd:s.drop j.toNat=s.getD j.toNat (dflt Ty.str)::s.drop (j+1).toNat:=aL h2 (by omega) _
  have hm:s.getD j.toNat (dflt Ty.str)∈s:=List.mem_of_mem_drop (i:=j.toNat) (by rw [hd];exact List.mem_cons_self)
  generalize s.getD j.toNat (dflt Ty.str)=x at *
  have hz:x.size+1≤aU s:=ox hm
  have hc:=bK x (s.drop (j+1).toNat)
  rw [←hd] at hc
  have hsp :(ByteArray.mk #[(32:UInt8)]).size=1:=rfl
  have hr:r1.size=1+x.size:=by rw [hr1];exact ByteArray.size_append
  have key:iQ (o,l,n,i,s,m,j,())=bif !ay x then .inr (⟨#[]⟩,4,()) else iQ (o++r1,l,n,i,s,m,j+1,()):=by
   show (if (s.drop j.toNat).all ay then (Sum.inl (eN (s.drop j.toNat) o,l,n,i,()):Sum _ mX) else _)=_
   rw [hd,List.all_cons,hr1]
   cases ay x <;> rfl
  rw [decide_eq_true h,e1,key]
  refine ⟨⟨fun _=>⟨⟨h2,by omega⟩,Nat.le_trans (Nat.le_of_succ_le hz) (Nat.le_trans h1b (by decide)),fun _=>trivial,fun _=>⟨?_,by omega,⟨⟨h1,h1b⟩,⟨?_,?_⟩,?_⟩,?_⟩⟩,fun z=>Bool.noConfusion z⟩,rfl⟩
  ·rw [hsp];show 1+x.size≤aw;omega
  ·show 0≤j+1;omega
  ·show j+1≤m;omega
  ·show (o++r1).size+aU (s.drop (j+1).toNat)≤900000000
   rw [ByteArray.size_append];omega
  ·show (m - (j+1)).toNat <(m - j).toNat;omega
 ·rw [decide_eq_false h]
  refine ⟨⟨fun z=>Bool.noConfusion z,fun _=>trivial⟩,?_⟩
  show _ =(if (s.drop j.toNat).all ay then (Sum.inl (eN (s.drop j.toNat) o,l,n,i,()):Sum _ mX) else _)
  rw [aF (l:=s) (by omega)]
  rfl
noncomputable def Q1:LoopSum:=ai lpI4 iQ u4
noncomputable def QN:Nat:=rid (ph Tryz.f14 4 0)
theorem N6:LoopOKp Tryz.prog 0 Tryz.f14.ntmps (ph Tryz.f14 4 0) (ai lpI4 iQ u4):=
 az lpI4 (ao (.consU fe rfl .nil) _) mixed (fun b hb S hS=>by cases hS) iQ u4 HU (fun |⟨o,l,n,i,s,m,j,⟨⟩⟩,hi=>Pl o l n i s m j hi)
noncomputable def lpH3:Lp:=(⟨0,aC [iH,eC] Tryz.f14,(find [(QM,Q0)]),(aq Tryz.f14 3),qH3,xH3⟩:Lp)
theorem Pi (o:ByteArray) (l:List Mir.Box) (n:Int) (i:Int) (b:Mir.Book) (hi:uY (o,l,n,i,b,())) :(Go.Mir.stepG lpH3 iL (fun y:Den (tyP lpH3.q)=>uY y∧HR y<HR (o,l,n,i,b,())) (o,l,n,i,b,())∧Go.Mir.stepE lpH3 iL (o,l,n,i,b,())=iL (o,l,n,i,b,())):=by
 refine cast (by kernel_rfl) (?_:let r1:Int:=(↑(l.getD i.toNat (dflt (Ty.nm Nm.Box))).3.length:Int);let r2:ByteArray:=ByteArray.mk #[66,79,88];let r3:List Int:= [(l.getD i.toNat (dflt (Ty.nm Nm.Box))).1,(l.getD i.toNat (dflt (Ty.nm Nm.Box))).2];let r4:ByteArray:=dy r3 (ByteArray.mk #[]);let r5:ByteArray:=r2++r4;let r6:ByteArray:=o++r5;let r7:Bool:=isL (iP (r6,l,n,i,(l.getD i.toNat (dflt (Ty.nm Nm.Box))).3,r1,(0:Int),b,()));let r8:ByteArray×List Mir.Box×Int×Int×Mir.Book×PUnit:=jc (dflt (Ty.str.prod (Bxs.prod (I.prod (I.prod ((Ty.nm Nm.Book).prod Ty.unit)))))) (iP (r6,l,n,i,(l.getD i.toNat (dflt (Ty.nm Nm.Box))).3,r1,(0:Int),b,()));((decide (i<n)=true→((0:Int)≤i∧i <(↑l.length:Int))∧qQ r3∧r2.size+r4.size≤aw∧o.size+r5.size≤aw∧((c8 fun x=>none)∧(r1 =(↑(l.getD i.toNat (dflt (Ty.nm Nm.Box))).3.length:Int)∧aU (l.getD i.toNat (dflt (Ty.nm Nm.Box))).3≤(20100:Nat))∧((0:Int)≤(0:Int)∧(0:Int)≤r1)∧r6.size+aU (List.drop (Int.toNat (0:Int)) (l.getD i.toNat (dflt (Ty.nm Nm.Box))).3)≤(900000000:Nat))∧(r7=true→r8.1.size +(ByteArray.mk #[10]).size≤aw∧uY (r8.1++ByteArray.mk #[10],r8.2.1,r8.2.2.1,IntKind.i64.wrap (r8.2.2.2.1 +(1:Int)),r8.2.2.2.2)∧HR (r8.1++ByteArray.mk #[10],r8.2.1,r8.2.2.1,IntKind.i64.wrap (r8.2.2.2.1 +(1:Int)),r8.2.2.2.2)<HR (o,l,n,i,b,()))∧(r7=false→True))∧(decide (i<n)=false→True))∧(bif decide (i<n) then bif r7 then iL (r8.1++ByteArray.mk #[10],r8.2.1,r8.2.2.1,IntKind.i64.wrap (r8.2.2.2.1 +(1:Int)),r8.2.2.2.2) else Sum.inr (iz (dflt (Ty.str.prod (I.prod Ty.unit))) (iP (r6,l,n,i,(l.getD i.toNat (dflt (Ty.nm Nm.Box))).3,r1,(0:Int),b,()))) else Sum.inl (o,b,()))=iL (o,l,n,i,b,()))
 intro r1 r2 r3 r4 r5 r6 r7 r8
 clear_value (hr1:r1=_) (hr2:r2=_) (hr3:r3=_) (hr4:r4=_) (hr5:r5=_) (hr6:r6=_) (hr7:r7=_) (hr8:r8=_)
 obtain ⟨⟨h1,h1b⟩,⟨h2,h3⟩,h4⟩:=hi
 have h1:n =(l.length:Int):=h1
 have h1b:Dk l:=h1b
 have h2:0≤i:=h2
 have h3:i≤n:=h3
 have h4 :(o.size:Int)≤20301 *(i+1):=h4
 have hf:=h1b.1
 have hL :(1000000000:Nat)≤aw:=by decide
 by_cases h:i<n
 ·have e1:IntKind.i64.wrap (i+1)=i+1:=wrap64 (by omega) (by omega)
  have hd:l.drop i.toNat=l.getD i.toNat (dflt (Ty.nm Nm.Box))::l.drop (i+1).toNat:=aL h2 (by omega) _
  have hm:l.getD i.toNat (dflt (Ty.nm Nm.Box))∈l:=List.mem_of_mem_drop (i:=i.toNat) (by rw [hd];exact List.mem_cons_self)
  generalize l.getD i.toNat (dflt (Ty.nm Nm.Box))=x at *
  obtain ⟨ho,hz⟩:=h1b.2 _ hm
  obtain ⟨n1,n2⟩:=Ip ho
  have hn2:=Im n1 n2
  have hs:=jz (Ai ho hz)
  have z4:r4.size≤44:=by rw [hr4,hr3];exact mm hn2
  have z2:r2.size=3:=by rw [hr2];rfl
  have z5:r5.size=r2.size+r4.size:=by rw [hr5];exact ByteArray.size_append
  have z6:r6.size=o.size+r5.size:=by rw [hr6];exact ByteArray.size_append
  have z10 :(ByteArray.mk #[(10:UInt8)]).size=1:=rfl
  have e6:r6=o ++(boxV++dy [x.Over,x.Bowler] ⟨#[]⟩):=by rw [hr6,hr5,hr4,hr3,hr2];rfl
  have er:iP (r6,l,n,i,x.Symbols,r1,0,b,())=if x.Symbols.all ay then .inl (eN x.Symbols r6,l,n,i,b,()) else .inr (⟨#[]⟩,4,()):=rfl
  have key:iL (o,l,n,i,b,())=if x.Symbols.all ay then iL (o++lnB (bj x),l,n,i+1,b,()) else .inr (⟨#[]⟩,4,()):=by
   show (if (l.drop i.toNat).all fx then (Sum.inl (jq (l.drop i.toNat) o,b,()):Sum _ mX) else _)=_
   rw [hd,List.all_cons]
   have:fx x=x.Symbols.all ay:=rfl
   rw [this]
   cases x.Symbols.all ay <;> rfl
  have hb:qQ r3:=by rw [hr3];exact ⟨by show 2≤1000;omega,hn2⟩
  have hE :(c8 fun _=>none)∧(r1 =(x.Symbols.length:Int)∧aU x.Symbols≤20100)∧((0:Int)≤0∧0≤r1)∧r6.size+aU (x.Symbols.drop (Int.toNat 0))≤900000000:=by
   have:x.Symbols.drop (Int.toNat 0)=x.Symbols:=rfl
   rw [this]
   exact ⟨rfl,⟨hr1,hz⟩,⟨Int.le_refl _,by omega⟩,by omega⟩
  rw [decide_eq_true h,key]
  rw [er] at hr7 hr8 ⊢
  cases hp:x.Symbols.all ay with
  | true=>
   rw [hp] at hr7 hr8
   have e7:r7=true:=hr7
   have e8:r8 =(eN x.Symbols r6,l,n,i,b,()):=hr8
   have e9:r8.1 ++(ByteArray.mk #[10])=o++lnB (bj x):=by rw [e8,e6];exact JO o x
   have z9:r8.1.size+1=o.size +(lnB (bj x)).size:=by
    have:=congrArg ByteArray.size e9
    rw [ByteArray.size_append,ByteArray.size_append,z10] at this
    exact this
   have p1:r8.2.1=l:=by rw [e8]
   have p2:r8.2.2.1=n:=by rw [e8]
   have p3:r8.2.2.2.1=i:=by rw [e8]
   have p4:r8.2.2.2.2 =(b,()):=by rw [e8]
   rw [e9,p1,p2,p3,p4,e1,e7,z10]
   refine ⟨⟨fun _=>⟨⟨h2,by omega⟩,hb,by omega,by omega,hE,fun _=>⟨by omega,⟨⟨h1,h1b⟩,⟨?_,?_⟩,?_⟩,?_⟩,fun z=>Bool.noConfusion z⟩,fun z=>Bool.noConfusion z⟩,rfl⟩
   ·show 0≤i+1;omega
   ·show i+1≤n;omega
   ·show ((o++lnB (bj x)).size:Int)≤20301 *(i+1+1)
    rw [ByteArray.size_append];omega
   ·show (n - (i+1)).toNat <(n - i).toNat;omega
  | false=>
   rw [hp] at hr7 hr8
   have e7:r7=false:=hr7
   rw [e7]
   exact ⟨⟨fun _=>⟨⟨h2,by omega⟩,hb,by omega,by omega,hE,fun z=>Bool.noConfusion z,fun _=>trivial⟩,fun z=>Bool.noConfusion z⟩,rfl⟩
 ·rw [decide_eq_false h]
  refine ⟨⟨fun z=>Bool.noConfusion z,fun _=>trivial⟩,?_⟩
  show _ =(if (l.drop i.toNat).all fx then (Sum.inl (jq (l.drop i.toNat) o,b,()):Sum _ mX) else _)
  rw [aF (l:=l) (by omega)]
  rfl
noncomputable def MD:LoopSum:=ai lpH3 iL uY
noncomputable def L5:Nat:=rid (aq Tryz.f14 3)
theorem N3:LoopOKp Tryz.prog 0 Tryz.f14.ntmps (aq Tryz.f14 3) (ai lpH3 iL uY):=
 az lpH3 (ao (.consU kB rfl (.consU fe rfl .nil)) _) mixed (LoopsOKp.cons (by kernel_rfl) N5 .nil) iL uY HR (fun |⟨o,l,n,i,b,⟨⟩⟩,hi=>Pi o l n i b hi)
noncomputable def lpH4:Lp:=(⟨0,aC [iH,eC,k26] Tryz.f14,(find [(QN,Q1)]),(aq Tryz.f14 4),qH4,xH4⟩:Lp)
theorem Pj (o:ByteArray) (l:List Mir.Strip) (n:Int) (i:Int) (hi:uZ (o,l,n,i,())) :(Go.Mir.stepG lpH4 iM (fun y:Den (tyP lpH4.q)=>uZ y∧HS y<HS (o,l,n,i,())) (o,l,n,i,())∧Go.Mir.stepE lpH4 iM (o,l,n,i,())=iM (o,l,n,i,())):=by
 refine cast (by kernel_rfl) (?_:let r1:Int:=(↑(l.getD i.toNat (dflt (Ty.nm Nm.Strip))).2.length:Int);let r2:List Int:= [(l.getD i.toNat (dflt (Ty.nm Nm.Strip))).1];let r3:List Int:= [(l.getD i.toNat (dflt (Ty.nm Nm.Strip))).4];let r4:ByteArray:=dy r2 (ByteArray.mk #[]);let r5:ByteArray:=dy r3 (ByteArray.mk #[]);let r6:ByteArray:=ByteArray.mk #[83,84,82,73,80];let r7:ByteArray:=r6++r4;let r8:ByteArray:=r7++ByteArray.mk #[32];let r9:ByteArray:=r8++b7 (l.getD i.toNat (dflt (Ty.nm Nm.Strip))).3;let r10:ByteArray:=r9++r5;let r11:ByteArray:=o++r10;let r12:Bool:=isL (iQ (r11,l,n,i,(l.getD i.toNat (dflt (Ty.nm Nm.Strip))).2,r1,(0:Int),()));let r13:ByteArray×List Mir.Strip×Int×Int×PUnit:=jc (dflt (Ty.str.prod (Sts.prod (I.prod (I.prod Ty.unit))))) (iQ (r11,l,n,i,(l.getD i.toNat (dflt (Ty.nm Nm.Strip))).2,r1,(0:Int),()));((decide (i<n)=true→((0:Int)≤i∧i <(↑l.length:Int))∧qQ r2∧r6.size+r4.size≤aw∧r7.size +(ByteArray.mk #[32]).size≤aw∧r8.size +(b7 (l.getD i.toNat (dflt (Ty.nm Nm.Strip))).3).size≤aw∧qQ r3∧r9.size+r5.size≤aw∧o.size+r10.size≤aw∧((c8 fun x=>none)∧(r1 =(↑(l.getD i.toNat (dflt (Ty.nm Nm.Strip))).2.length:Int)∧aU (l.getD i.toNat (dflt (Ty.nm Nm.Strip))).2≤(20100:Nat))∧((0:Int)≤(0:Int)∧(0:Int)≤r1)∧r11.size+aU (List.drop (Int.toNat (0:Int)) (l.getD i.toNat (dflt (Ty.nm Nm.Strip))).2)≤(900000000:Nat))∧(r12=true→r13.1.size +(ByteArray.mk #[10]).size≤aw∧uZ (r13.1++ByteArray.mk #[10],r13.2.1,r13.2.2.1,IntKind.i64.wrap (r13.2.2.2.1 +(1:Int)),())∧HS (r13.1++ByteArray.mk #[10],r13.2.1,r13.2.2.1,IntKind.i64.wrap (r13.2.2.2.1 +(1:Int)),())<HS (o,l,n,i,()))∧(r12=false→True))∧(decide (i<n)=false→True))∧(bif decide (i<n) then bif r12 then iM (r13.1++ByteArray.mk #[10],r13.2.1,r13.2.2.1,IntKind.i64.wrap (r13.2.2.2.1 +(1:Int)),()) else Sum.inr (iz (dflt (Ty.str.prod (I.prod Ty.unit))) (iQ (r11,l,n,i,(l.getD i.toNat (dflt (Ty.nm Nm.Strip))).2,r1,(0:Int),()))) else Sum.inl (o,()))=iM (o,l,n,i,()))
 intro r1 r2 r3 r4 r5 r6 r7 r8 r9 r10 r11 r12 r13
 clear_value (hr1:r1=_) (hr2:r2=_) (hr3:r3=_) (hr4:r4=_) (hr5:r5=_) (hr6:r6=_) (hr7:r7=_) (hr8:r8=_) (hr9:r9=_) (hr10:r10=_) (hr11:r11=_) (hr12:r12=_) (hr13:r13=_)
 obtain ⟨⟨h1,h1b⟩,⟨h2,h3⟩,h4⟩:=hi
 have h1:n =(l.length:Int):=h1
 have h1b:Dm l:=h1b
 have h2:0≤i:=h2
 have h3:i≤n:=h3
 have h4 :(o.size:Int)≤20301 *(i+20001):=h4
 have hf:=h1b.1
 have hL :(1000000000:Nat)≤aw:=by decide
 by_cases h:i<n
 ·have e1:IntKind.i64.wrap (i+1)=i+1:=wrap64 (by omega) (by omega)
  have hd:l.drop i.toNat=l.getD i.toNat (dflt (Ty.nm Nm.Strip))::l.drop (i+1).toNat:=aL h2 (by omega) _
  have hm:l.getD i.toNat (dflt (Ty.nm Nm.Strip))∈l:=List.mem_of_mem_drop (i:=i.toNat) (by rw [hd];exact List.mem_cons_self)
  generalize l.getD i.toNat (dflt (Ty.nm Nm.Strip))=x at *
  obtain ⟨ho,hz⟩:=h1b.2 _ hm
  obtain ⟨n1,n2⟩:=It ho
  have hn1:=Ag n1
  have hn2:=Ag n2
  have hs:=jz (Iu ho hz)
  have z4:r4.size≤22:=by rw [hr4,hr2];exact mm hn1
  have z5:r5.size≤22:=by rw [hr5,hr3];exact mm hn2
  have z6:r6.size=5:=by rw [hr6];rfl
  have z7:r7.size=r6.size+r4.size:=by rw [hr7];exact ByteArray.size_append
  have zs :(ByteArray.mk #[(32:UInt8)]).size=1:=rfl
  have z8:r8.size=r7.size+1:=by rw [hr8];exact ByteArray.size_append
  have zn:=mj x.How
  have z9:r9.size=r8.size +(b7 x.How).size:=by rw [hr9];exact ByteArray.size_append
  have z0:r10.size=r9.size+r5.size:=by rw [hr10];exact ByteArray.size_append
  have z1:r11.size=o.size+r10.size:=by rw [hr11];exact ByteArray.size_append
  have z10 :(ByteArray.mk #[(10:UInt8)]).size=1:=rfl
  have e6:r11=o ++((((stripV++dy [x.Player] ⟨#[]⟩)++spV)++b7 x.How)++dy [x.Bowler] ⟨#[]⟩):=by rw [hr11,hr10,hr9,hr8,hr7,hr6,hr5,hr4,hr3,hr2];rfl
  have er:iQ (r11,l,n,i,x.Symbols,r1,0,())=if x.Symbols.all ay then .inl (eN x.Symbols r11,l,n,i,()) else .inr (⟨#[]⟩,4,()):=rfl
  have key:iM (o,l,n,i,())=if x.Symbols.all ay then iM (o++lnB (aG x),l,n,i+1,()) else .inr (⟨#[]⟩,4,()):=by
   show (if (l.drop i.toNat).all fy then (Sum.inl (qh (l.drop i.toNat) o,()):Sum _ mX) else _)=_
   rw [hd,List.all_cons]
   have:fy x=x.Symbols.all ay:=rfl
   rw [this]
   cases x.Symbols.all ay <;> rfl
  have hb:qQ r2:=by rw [hr2];exact ⟨by show 1≤1000;omega,hn1⟩
  have hb':qQ r3:=by rw [hr3];exact ⟨by show 1≤1000;omega,hn2⟩
  have hE :(c8 fun _=>none)∧(r1 =(x.Symbols.length:Int)∧aU x.Symbols≤20100)∧((0:Int)≤0∧0≤r1)∧r11.size+aU (x.Symbols.drop (Int.toNat 0))≤900000000:=by
   have:x.Symbols.drop (Int.toNat 0)=x.Symbols:=rfl
   rw [this]
   exact ⟨rfl,⟨hr1,hz⟩,⟨Int.le_refl _,by omega⟩,by omega⟩
  rw [decide_eq_true h,key]
  rw [er] at hr12 hr13 ⊢
  cases hp:x.Symbols.all ay with
  | true=>
   rw [hp] at hr12 hr13
   have e7:r12=true:=hr12
   have e8:r13 =(eN x.Symbols r11,l,n,i,()):=hr13
   have e9:r13.1 ++(ByteArray.mk #[10])=o++lnB (aG x):=by rw [e8,e6];exact FY o x
   have z13:r13.1.size+1=o.size +(lnB (aG x)).size:=by
    have:=congrArg ByteArray.size e9
    rw [ByteArray.size_append,ByteArray.size_append,z10] at this
    exact this
   have p1:r13.2.1=l:=by rw [e8]
   have p2:r13.2.2.1=n:=by rw [e8]
   have p3:r13.2.2.2.1=i:=by rw [e8]
   rw [e9,p1,p2,p3,e1,e7,z10]
   refine ⟨⟨fun _=>⟨⟨h2,by omega⟩,hb,by omega,by omega,by omega,hb',by omega,by omega,hE,fun _=>⟨by omega,⟨⟨h1,h1b⟩,⟨?_,?_⟩,?_⟩,?_⟩,fun z=>Bool.noConfusion z⟩,fun z=>Bool.noConfusion z⟩,rfl⟩
   ·show 0≤i+1;omega
   ·show i+1≤n;omega
   ·show ((o++lnB (aG x)).size:Int)≤20301 *(i+1+20001)
    rw [ByteArray.size_append];omega
   ·show (n - (i+1)).toNat <(n - i).toNat;omega
  | false=>
   rw [hp] at hr12 hr13
   have e7:r12=false:=hr12
   rw [e7]
   exact ⟨⟨fun _=>⟨⟨h2,by omega⟩,hb,by omega,by omega,by omega,hb',by omega,by omega,hE,fun z=>Bool.noConfusion z,fun _=>trivial⟩,fun z=>Bool.noConfusion z⟩,rfl⟩
 ·rw [decide_eq_false h]
  refine ⟨⟨fun z=>Bool.noConfusion z,fun _=>trivial⟩,?_⟩
  show _ =(if (l.drop i.toNat).all fy then (Sum.inl (qh (l.drop i.toNat) o,()):Sum _ mX) else _)
  rw [aF (l:=l) (by omega)]
  rfl
noncomputable def ME:LoopSum:=ai lpH4 iM uZ
noncomputable def L6:Nat:=rid (aq Tryz.f14 4)
theorem N4:LoopOKp Tryz.prog 0 Tryz.f14.ntmps (aq Tryz.f14 4) (ai lpH4 iM uZ):=
 az lpH4 (ao (.consU kB rfl (.consU fe rfl (.consU OC rfl .nil))) _) mixed (LoopsOKp.cons (by kernel_rfl) N6 .nil) iM uZ HS (fun |⟨o,l,n,i,⟨⟩⟩,hi=>Pj o l n i hi)
theorem kY {α β:Type} (f:α→List β) (g:β→Bool) :∀ l:List α,(l.flatMap f).all g=l.all fun x=>(f x).all g
 | []=>rfl
 | x::l=>by rw [List.flatMap_cons,List.all_append,List.all_cons,kY f g l]
theorem Le (b:Mir.Book) :(CP b).all ay =(b.Boxes.all fx&&b.Strips.all fy):=by
 unfold CP
 rw [List.all_append,kY,kY]
 rfl
theorem Lq (b:Mir.Book) :(Bl b).all okI =((bR b++[b.Side]).all okI&&(b.Boxes.all okB&&b.Strips.all okT)):=by
 unfold Bl
 rw [List.all_append,List.all_cons,List.all_append,kY,kY,List.all_append,List.all_cons,List.all_nil,Bool.and_true,Bool.and_assoc]
 rfl
theorem Lu (b:Mir.Book):bT b=if (bR b++[b.Side]).all okI&&(b.Boxes.all okB&&b.Strips.all okT) then (if b.Strips.all bf then (if b.Boxes.all fx&&b.Strips.all fy then 0 else 4) else 3) else 2:=by
 unfold bT
 rw [Lq,Le]
theorem jR {b:Mir.Book} {n:Int} (h:bT b=n) (hn:n≠0) :(⟨#[]⟩,n,()) =((bs b).1,(bs b).2,()):=by rw [qI (h▸hn),h]
theorem CE (b:Mir.Book) (hb:tz b) :(evPat (aC [kp,zB,iH,eC,k26] Tryz.f14) (find [(L2,MA),(L3,MB),(L4,MC),(L5,MD),(L6,ME)]) Tryz.f14 qBk Cn (b,())).sat fun z_=>z_ =(wa (b,())).2:=by
 refine cast (by kernel_rfl) (?_:let r1:ByteArray:=ByteArray.mk #[66,79,79,75];let r2:List Int:=bR b++[b.1];let r3:Bool:=!r2.all okI;let r4:Bool:=isL (iI (b.2,(↑b.2.length:Int),(0:Int),b,()));let r5:Mir.Book×PUnit:=jc (dflt ((Ty.nm Nm.Book).prod Ty.unit)) (iI (b.2,(↑b.2.length:Int),(0:Int),b,()));let r6:Int:=(↑r5.1.3.length:Int);let r7:Bool:=isL (iJ (r5.1.3,r6,(0:Int),r5));let r8:Mir.Book×PUnit:=jc (dflt ((Ty.nm Nm.Book).prod Ty.unit)) (iJ (r5.1.3,r6,(0:Int),r5));let r9:Int:=(↑r8.1.3.length:Int);let r10:Bool:=isL (iK (r8.1.3,r9,(0:Int),r8));let r11:Mir.Book×PUnit:=jc (dflt ((Ty.nm Nm.Book).prod Ty.unit)) (iK (r8.1.3,r9,(0:Int),r8));let r12:List Int:=bR r11.1;let r13:Int:=(↑r11.1.2.length:Int);let r14:List Int:= [r11.1.1];let r15:List Int:=r14++r12;let r16:ByteArray:=dy r15 (ByteArray.mk #[]);let r17:ByteArray:=r1++r16;let r18:ByteArray:=r17++ByteArray.mk #[10];let r19:Bool:=isL (iL (r18,r11.1.2,r13,(0:Int),r11));let r20:ByteArray×Mir.Book×PUnit:=jc (dflt (Ty.str.prod ((Ty.nm Nm.Book).prod Ty.unit))) (iL (r18,r11.1.2,r13,(0:Int),r11));let r21:Int:=(↑r20.2.1.3.length:Int);let r22:Bool:=isL (iM (r20.1,r20.2.1.3,r21,(0:Int),()));((bR b).length+[b.1].length) *(8:Nat)≤(70368744177664:Nat)∧r2.length≤(1000000:Nat)∧(r3=true→(ByteArray.mk #[],(2:Int),()) =((bs b).1,(bs b).2,()))∧(r3=false→((c8 fun x=>none)∧((↑b.2.length:Int) =(↑b.2.length:Int)∧b.2.length≤(20000:Nat))∧(0:Int)≤(0:Int)∧(0:Int)≤(↑b.2.length:Int))∧(r4=true→((c8 fun x=>none)∧(r6 =(↑r5.1.3.length:Int)∧r5.1.3.length≤(20000:Nat))∧(0:Int)≤(0:Int)∧(0:Int)≤r6)∧(r7=true→((c8 fun x=>none)∧(r9 =(↑r8.1.3.length:Int)∧r8.1.3.length≤(20000:Nat))∧(0:Int)≤(0:Int)∧(0:Int)≤r9)∧(r10=true→(r14.length+r12.length) *(8:Nat)≤(70368744177664:Nat)∧qQ r15∧r1.size+r16.size≤aw∧r17.size +(ByteArray.mk #[10]).size≤aw∧((c8 fun x=>none)∧(r13 =(↑r11.1.2.length:Int)∧Dk r11.1.2)∧((0:Int)≤(0:Int)∧(0:Int)≤r13)∧(↑r18.size:Int)≤(20301:Int) *((0:Int) +(1:Int)))∧(r19=true→((c8 fun x=>none)∧(r21 =(↑r20.2.1.3.length:Int)∧Dm r20.2.1.3)∧((0:Int)≤(0:Int)∧(0:Int)≤r21)∧(↑r20.1.size:Int)≤(20301:Int) *((0:Int) +(20001:Int)))∧(r22=true→((jc (dflt (Ty.str.prod Ty.unit)) (iM (r20.1,r20.2.1.3,r21,(0:Int),()))).1,(0:Int),()) =((bs b).1,(bs b).2,()))∧(r22=false→iz (dflt (Ty.str.prod (I.prod Ty.unit))) (iM (r20.1,r20.2.1.3,r21,(0:Int),())) =((bs b).1,(bs b).2,())))∧(r19=false→iz (dflt (Ty.str.prod (I.prod Ty.unit))) (iL (r18,r11.1.2,r13,(0:Int),r11)) =((bs b).1,(bs b).2,())))∧(r10=false→iz (dflt (Ty.str.prod (I.prod Ty.unit))) (iK (r8.1.3,r9,(0:Int),r8)) =((bs b).1,(bs b).2,())))∧(r7=false→iz (dflt (Ty.str.prod (I.prod Ty.unit))) (iJ (r5.1.3,r6,(0:Int),r5)) =((bs b).1,(bs b).2,())))∧(r4=false→iz (dflt (Ty.str.prod (I.prod Ty.unit))) (iI (b.2,(↑b.2.length:Int),(0:Int),b,())) =((bs b).1,(bs b).2,()))))
 intro r1 r2 r3 r4 r5 r6 r7 r8 r9 r10 r11 r12 r13 r14 r15 r16 r17 r18 r19 r20 r21 r22
 clear_value (hr1:r1=_) (hr2:r2=_) (hr3:r3=_) (hr4:r4=_) (hr5:r5=_) (hr6:r6=_) (hr7:r7=_) (hr8:r8=_) (hr9:r9=_) (hr10:r10=_) (hr11:r11=_) (hr12:r12=_) (hr13:r13=_) (hr14:r14=_) (hr15:r15=_) (hr16:r16=_) (hr17:r17=_) (hr18:r18=_) (hr19:r19=_) (hr20:r20=_) (hr21:r21=_) (hr22:r22=_)
 have hb':=hb
 obtain ⟨⟨b1,b2⟩,b3,b4⟩:=hb'
 have hL :(1000000000:Nat)≤aw:=by decide
 have hW:=Lu b
 have hsum :(bR b).length=7:=rfl
 have er0:iI (b.Boxes,(b.Boxes.length:Int),0,b,())=if b.Boxes.all okB then .inl (b,()) else .inr (⟨#[]⟩,2,()):=rfl
 rw [er0] at hr4 hr5 ⊢
 refine ⟨by rw [hsum,List.length_singleton];decide,by rw [hr2];show 8≤1000000;omega,fun q3=>?_,fun q3=>⟨⟨rfl,⟨rfl,b1⟩,Int.le_refl _,by omega⟩,fun q4=>?_,fun q4=>?_⟩⟩
 ·have hA :(bR b++[b.Side]).all okI=false:=by rw [←hr2];rw [hr3] at q3;simpa using q3
  rw [hA] at hW
  exact jR hW (by decide)
 ·have hA :(bR b++[b.Side]).all okI=true:=by rw [←hr2];rw [hr3] at q3;simpa using q3
  have hB:b.Boxes.all okB=true:=by
   cases hB:b.Boxes.all okB with
   | true=>rfl
   | false=>rw [hr4,hB] at q4;exact Bool.noConfusion q4
  have e5:r5 =(b,()):=by rw [hr5,hB];rfl
  subst e5
  have er1:iJ (b.Strips,r6,0,b,())=if b.Strips.all okT then .inl (b,()) else .inr (⟨#[]⟩,2,()):=rfl
  rw [er1] at hr7 hr8 ⊢
  refine ⟨⟨rfl,⟨hr6,b2⟩,Int.le_refl _,by omega⟩,fun q7=>?_,fun q7=>?_⟩
  ·have hC:b.Strips.all okT=true:=by
    cases hC:b.Strips.all okT with
    | true=>rfl
    | false=>rw [hr7,hC] at q7;exact Bool.noConfusion q7
   have e8:r8 =(b,()):=by rw [hr8,hC];rfl
   subst e8
   rw [hA,hB,hC] at hW
   have hW:bT b=if b.Strips.all bf then (if b.Boxes.all fx&&b.Strips.all fy then 0 else 4) else 3:=hW
   have er2:iK (b.Strips,r9,0,b,())=if b.Strips.all bf then .inl (b,()) else .inr (⟨#[]⟩,3,()):=rfl
   rw [er2] at hr10 hr11 ⊢
   refine ⟨⟨rfl,⟨hr9,b2⟩,Int.le_refl _,by omega⟩,fun q10=>?_,fun q10=>?_⟩
   ·have hD:b.Strips.all bf=true:=by
     cases hD:b.Strips.all bf with
     | true=>rfl
     | false=>rw [hr10,hD] at q10;exact Bool.noConfusion q10
    have e11:r11 =(b,()):=by rw [hr11,hD];rfl
    subst e11
    rw [hD] at hW
    have hW:bT b=if b.Boxes.all fx&&b.Strips.all fy then 0 else 4:=hW
    have gX:Dk b.Boxes:=⟨b1,fun x hx=>⟨List.all_eq_true.1 hB x hx,b3 x hx⟩⟩
    have gY:Dm b.Strips:=⟨b2,fun x hx=>⟨List.all_eq_true.1 hC x hx,b4 x hx⟩⟩
    have e15:r15=b.Side::bR b:=by rw [hr15,hr14,hr12];rfl
    have hin :∀ n∈r15,0≤n∧n≤1000000:=fun n hn=>by
     rw [e15] at hn
     refine po (List.all_eq_true.1 hA n ?_)
     rcases List.mem_cons.1 hn with rfl|hn
     ·exact List.mem_append_right _ List.mem_cons_self
     ·exact List.mem_append_left _ hn
    have l15:r15.length=8:=by rw [e15];rfl
    have z16:r16.size≤22*r15.length:=by rw [hr16];exact mm hin
    have z1:r1.size=4:=by rw [hr1];rfl
    have z17:r17.size=r1.size+r16.size:=by rw [hr17];exact ByteArray.size_append
    have z10 :(ByteArray.mk #[(10:UInt8)]).size=1:=rfl
    have e18:r18=lnB (bm b):=by rw [hr18,hr17,hr16,e15,hr1];exact Hc b
    have z18:r18.size=r17.size+1:=by rw [hr18];exact ByteArray.size_append
    have l12:r12.length=7:=by rw [hr12];rfl
    have l14:r14.length=1:=by rw [hr14];rfl
    have er3:iL (r18,b.Boxes,r13,0,b,())=if b.Boxes.all fx then .inl (jq b.Boxes r18,b,()) else .inr (⟨#[]⟩,4,()):=rfl
    rw [er3] at hr19 hr20 ⊢
    refine ⟨by rw [l12,l14];decide,⟨by omega,hin⟩,by omega,by rw [z10];omega,⟨rfl,⟨hr13,gX⟩,⟨Int.le_refl _,by omega⟩,by omega⟩,fun q19=>?_,fun q19=>?_⟩
    ·have hE:b.Boxes.all fx=true:=by
      cases hE:b.Boxes.all fx with
      | true=>rfl
      | false=>rw [hr19,hE] at q19;exact Bool.noConfusion q19
     have e20:r20 =(jq b.Boxes r18,b,()):=by rw [hr20,hE];rfl
     subst e20
     rw [hE,Bool.true_and] at hW
     have zX:=oD b.Boxes r18 fun x hx=>Ai (gX.2 x hx).1 (gX.2 x hx).2
     have zX :((jq b.Boxes r18,b,()).1:ByteArray).size≤r18.size+20301*b.Boxes.length:=zX
     have er4:iM (jq b.Boxes r18,b.Strips,r21,0,())=if b.Strips.all fy then .inl (qh b.Strips (jq b.Boxes r18),()) else .inr (⟨#[]⟩,4,()):=rfl
     rw [er4] at hr22 ⊢
     refine ⟨⟨rfl,⟨hr21,gY⟩,⟨Int.le_refl _,by omega⟩,by omega⟩,fun q22=>?_,fun q22=>?_⟩
     ·have hF:b.Strips.all fy=true:=by
       cases hF:b.Strips.all fy with
       | true=>rfl
       | false=>rw [hr22,hF] at q22;exact Bool.noConfusion q22
      rw [hF] at hW ⊢
      have hW:bT b=0:=hW
      rw [qJ hW,th,←e18]
      rfl
     ·have hF:b.Strips.all fy=false:=by
       cases hF:b.Strips.all fy with
       | false=>rfl
       | true=>rw [hr22,hF] at q22;exact Bool.noConfusion q22
      rw [hF] at hW ⊢
      exact jR hW (by decide)
    ·have hE:b.Boxes.all fx=false:=by
      cases hE:b.Boxes.all fx with
      | false=>rfl
      | true=>rw [hr19,hE] at q19;exact Bool.noConfusion q19
     rw [hE] at hW ⊢
     exact jR hW (by decide)
   ·have hD:b.Strips.all bf=false:=by
     cases hD:b.Strips.all bf with
     | false=>rfl
     | true=>rw [hr10,hD] at q10;exact Bool.noConfusion q10
    rw [hD] at hW ⊢
    exact jR hW (by decide)
  ·have hC:b.Strips.all okT=false:=by
    cases hC:b.Strips.all okT with
    | false=>rfl
    | true=>rw [hr7,hC] at q7;exact Bool.noConfusion q7
   rw [hC] at hW ⊢
   rw [Bool.and_false,Bool.and_false] at hW
   exact jR hW (by decide)
 ·have hB:b.Boxes.all okB=false:=by
   cases hB:b.Boxes.all okB with
   | false=>rfl
   | true=>rw [hr4,hB] at q4;exact Bool.noConfusion q4
  rw [hB] at hW ⊢
  rw [Bool.false_and,Bool.and_false] at hW
  exact jR hW (by decide)
def zA:FuncId×Ctr:=(14,ah KE qBk Cn wa)
theorem Fy:CtrOK Tryz.prog KE 14 (ah KE qBk Cn wa):=by
 refine ba (C:=aC [kp,zB,iH,eC,k26] Tryz.f14) (ao (.consU lL rfl (.consU Fz rfl (.consU kB rfl (.consU fe rfl (.consU OC rfl .nil))))) _) mixed (fn:=Tryz.f14) Tryz.func14 (by kernel_rfl) (by kernel_rfl) (by kernel_rfl) (by kernel_rfl) (by kernel_rfl) (by kernel_rfl) (Λ:=fun x=>find [(L2,MA),(L3,MB),(L4,MC),(L5,MD),(L6,ME)]) ?_ ?_
 ·rintro ⟨b,⟨⟩⟩ hw hn
  exact LoopsOKp.at (by kernel_rfl) (.cons (by kernel_rfl) (N0) (.cons (by kernel_rfl) (N1) (.cons (by kernel_rfl) (N2) (.cons (by kernel_rfl) (N3) (.cons (by kernel_rfl) (N4) .nil)))))
 ·rintro ⟨b,⟨⟩⟩ hw hn
  exact CE b (hn _ List.mem_cons_self)
end Go.Proofs.YtffdpnmioidloaaGreatDoor
namespace Go.Proofs.YtffdpnmioidloaaGreatDoor
open Go Go.Mir Go.RowKit
attribute [local irreducible] Go.Mir.DT.sat Go.Mir.evPat Go.Mir.RT.sat Go.Mir.evFn
abbrev KU:Ty:= .prod (.slice .str) .unit
def yi:Den KU→PRes:=fun x=>⟨[x.1.length≤1000000],.osl 0 0,[⟨.str,x.1⟩]⟩
def vp:FuncId×Ctr:=(110,aO KE KU yi)
abbrev qIs:Pat:=eQ [.slice .str,I]
abbrev D4:Pat:=⟨[(0,.c (.osl 0 1)),(1,.h .bool)],[(0,.row 1 I)],2⟩
def dI (l:List ByteArray) (n:Int):Option (List Int):=if (l.length:Int)<n then none else b8 (l.take n.toNat)
def okO (x:Option (List Int)):Bool×List Int×Unit:=match x with
 | some v=>(true,v,())
 | none=>(false,[],())
def zY (n:Int):Prop:=0≤n∧n≤8
def Ja:Den (tyP qIs)→List Prop×Den (tyP D4)
 |(l,n,_)=>([l.length≤1000000,zY n],okO (dI l n))
abbrev qNi:Pat:=⟨[(0,.h (.slice .str)),(6,.c (.osl 0 1)),(17,.h I),(18,.h I)],[(0,.row 1 I)],2⟩
abbrev xNi:List (Lf×Pat):= [(.ext 0,⟨[(6,.c (.osl 0 1))],[(0,.row 1 I)],2⟩),(.ret,⟨[(4,.c .nilsl),(5,.h .bool)],[],0⟩)]
abbrev TNi:Type:=List ByteArray×Int×Int×List Int×Unit
def iR:TNi→Sum (List Int×Unit) (Bool×Unit)
 |(l,n,i,o,_)=>match b8 ((l.take n.toNat).drop i.toNat) with
  | some v=> .inl (o.take i.toNat++v,())
  | none=> .inr (false,())
def u7:TNi→Prop
 |(l,n,i,o,_)=>(n =(o.length:Int)∧n≤(l.length:Int)∧n≤8)∧0≤i∧i≤n
def HW:TNi→Nat
 |(_,n,i,_)=>(n - i).toNat
abbrev hpB:List (Nat×PB):= [(0,.cells [.h I,.c (.osl 1 2),.c (.osl 3 4),.h I,.h I,.h I,.h I,.h I,.h I,.h I]),(1,.row 2 (.nm .Box)),(3,.row 4 (.nm .Strip))]
abbrev qTk:Pat:=⟨[(0,.c (.ptr 0 0)),(1,.h (.slice .str))],hpB,5⟩
abbrev Rt:List (Nat×PB):= [(0,.cells [.h I,.c (.osl 1 5),.c (.osl 3 6),.h I,.h I,.h I,.h I,.h I,.h I,.h I]),(1,.row 5 (.nm .Box)),(3,.row 6 (.nm .Strip))]
abbrev FF:Pat:=⟨[(0,.h .bool)],Rt,7⟩
def LA (k:Bool) (b:Mir.Book):Den (tyP FF):=(k,b.Side,b.Extras.Wides,b.Extras.NoBalls,b.Extras.Byes,b.Extras.LegByes,b.Extras.Penalties,b.Total,b.Wickets,b.Boxes,b.Strips,())
def mkB (s x1 x2 x3 x4 x5 t w:Int) (a:List Mir.Box) (c:List Mir.Strip):Mir.Book:=⟨s,a,c,⟨x1,x2,x3,x4,x5⟩,t,w⟩
def ID (b:Mir.Book):Option Mir.Book→Den (tyP FF)
 | some c=>LA true c
 | none=>LA false b
def Ie (l:List ByteArray) (a:List Mir.Box) (b:List Mir.Strip):Prop:=(0<l.length∧l.length≤1000000)∧a.length≤1000000∧b.length≤1000000
def sTk:Den (tyP qTk)→List Prop×Den (tyP FF)
 |(l,s,x1,x2,x3,x4,x5,t,w,a,c,_)=>([Ie l a c],ID (mkB s x1 x2 x3 x4 x5 t w a c) (cE (mkB s x1 x2 x3 x4 x5 t w a c) l))
theorem AL (x:List ByteArray) (hs:x.length≤1000000) :(evFn (aC [] Tryz.f110) (fun _=>none) Tryz.f110 (eo KU (x,()))).sat fun v' rows=>leV v' (yi (x,())).v∧rows =(yi (x,())).rows:=by
 refine cast (by kernel_rfl) (?_ :(x.isEmpty=true→(nat_lit 0=nat_lit 0∧nat_lit 0=nat_lit 0)∧ [RowD.mk Ty.str []]=[RowD.mk Ty.str x])∧((0:Nat)+x.length) *(16:Nat)≤(70368744177664:Nat)∧(nat_lit 0=nat_lit 0∧nat_lit 0=nat_lit 0)∧ [RowD.mk Ty.str ([]++x)]=[RowD.mk Ty.str x])
 refine ⟨fun h=>⟨⟨rfl,rfl⟩,?_⟩,?_,⟨rfl,rfl⟩,rfl⟩
 ·have:x=[]:=List.isEmpty_iff.1 h
  subst this;rfl
 ·omega
theorem B7:CtrOK Tryz.prog KE 110 (aO KE KU yi):=by
 refine qE (C:=aC [] Tryz.f110) (ao (CtrsOK.nil) _) mixed (fn:=Tryz.f110) Tryz.func110 (by kernel_rfl) (by kernel_rfl) (by kernel_rfl) (Λ:=fun _ _=>none) ?_ ?_ ?_
 ·exact fun _ _ _ _ _ _ _ _ h=>by cases h
 ·rintro ⟨x,⟨⟩⟩
  exact of_decide_eq_true (by kernel_rfl)
 ·rintro ⟨x,⟨⟩⟩ hw hn
  exact AL x (hn _ (List.mem_singleton.2 rfl))
theorem Fe {α:Type} (l:List α) (d:α) {n i:Nat} (h:i<n) :(l.take n).getD i d=l.getD i d:=by
 rw [List.getD_eq_getElem?_getD,List.getD_eq_getElem?_getD,List.getElem?_take_of_lt h]
theorem take_set :∀ (o:List Int) (k:Nat) (x:Int),k<o.length→(o.set k x).take (k+1)=o.take k++[x]
 | [],_,_,h=>absurd h (Nat.not_lt_zero _)
 | a::o,0,x,_=>rfl
 | a::o,k+1,x,h=>by
  show a ::(o.set k x).take (k+1)=a ::(o.take k++[x])
  rw [take_set o k x (Nat.lt_of_succ_lt_succ h)]
theorem rM :∀ {l:List ByteArray} {v:List Int},b8 l=some v→v.length=l.length
 | [],v,h=>by cases h;rfl
 | w::r,v,h=>by
  unfold b8 at h
  split at h
  ·cases h
  ·cases hr:b8 r with
   | none=>rw [hr] at h;cases h
   | some u=>
    rw [hr] at h
    cases h
    rw [List.length_cons,List.length_cons,rM hr]
theorem uR {l:List ByteArray} {n:Int} {v:List Int} (h0:0≤n) (h:dI l n=some v) :(v.length:Int)=n:=by
 unfold dI at h
 split at h
 ·cases h
 ·have:=rM h
  rw [List.length_take] at this
  omega
theorem Dp (b:Mir.Book) (m:List ByteArray):ij b m =(dI m 8).map (LM b):=by
 unfold ij dI
 by_cases h:m.length<8
 ·rw [if_pos h,if_pos (by omega)];rfl
 ·rw [if_neg h,if_neg (by omega)];rfl
theorem C4 (b:Mir.Book) (m:List ByteArray):ig b m =(dI m 2).map fun n=>P1 b n (m.drop 2):=by
 unfold ig dI
 by_cases h:m.length<2
 ·rw [if_pos h,if_pos (by omega)];rfl
 ·rw [if_neg h,if_neg (by omega)];rfl
noncomputable def lpNi:Lp:=(⟨0,aC [rT] Tryz.f109,(fun _=>none),(aq Tryz.f109 0),qNi,xNi⟩:Lp)
theorem Po (l:List ByteArray) (n:Int) (i:Int) (o:List Int) (hi:u7 (l,n,i,o,())) :(Go.Mir.stepG lpNi iR (fun y:Den (tyP lpNi.q)=>u7 y∧HW y<HW (l,n,i,o,())) (l,n,i,o,())∧Go.Mir.stepE lpNi iR (l,n,i,o,())=iR (l,n,i,o,())):=by
 refine cast (by kernel_rfl) (?_:let r1:Int×Int:=jA (l.getD i.toNat (dflt Ty.str)) (0:Int) (1000000:Int);let r2:Bool:=r1.2 !=(0:Int);((decide (i<n)=true→((0:Int)≤i∧i <(↑l.length:Int))∧(r2=true→True)∧(r2=false→((0:Int)≤i∧i <(↑o.length:Int))∧u7 (l,n,IntKind.i64.wrap (i +(1:Int)),o.set i.toNat r1.1,())∧HW (l,n,IntKind.i64.wrap (i +(1:Int)),o.set i.toNat r1.1,())<HW (l,n,i,o,())))∧(decide (i<n)=false→True))∧(bif decide (i<n) then bif r2 then Sum.inr (false,()) else iR (l,n,IntKind.i64.wrap (i +(1:Int)),o.set i.toNat r1.1,()) else Sum.inl (o,()))=iR (l,n,i,o,()))
 intro r1 r2
 clear_value (hr1:r1=_) (hr2:r2=_)
 obtain ⟨⟨h1,h1b,h1c⟩,h2,h3⟩:=hi
 have h1:n =(o.length:Int):=h1
 have h1b:n≤(l.length:Int):=h1b
 have h1c:n≤8:=h1c
 have h2:0≤i:=h2
 have h3:i≤n:=h3
 by_cases h:i<n
 ·have e1:IntKind.i64.wrap (i+1)=i+1:=wrap64 (by omega) (by omega)
  have hl :(l.take n.toNat).length=n.toNat:=by rw [List.length_take];omega
  have hd :(l.take n.toNat).drop i.toNat =(l.take n.toNat).getD i.toNat (dflt Ty.str) ::(l.take n.toNat).drop (i+1).toNat:=aL h2 (by omega) _
  have hw :(l.take n.toNat).getD i.toNat (dflt Ty.str)=l.getD i.toNat (dflt Ty.str):=Fe _ _ (by omega)
  rw [hw] at hd
  generalize l.getD i.toNat (dflt Ty.str)=w at *
  have er:r1=Ad w:=hr1
  have ei :(i+1).toNat=i.toNat+1:=by omega
  have key:iR (l,n,i,o,())=bif r2 then .inr (false,()) else iR (l,n,i+1,o.set i.toNat r1.1,()):=by
   show (match b8 ((l.take n.toNat).drop i.toNat) with|some v=>(Sum.inl (o.take i.toNat++v,()):Sum (List Int×Unit) (Bool×Unit))|none=> .inr (false,()))=bif r2 then .inr (false,()) else (match b8 ((l.take n.toNat).drop (i+1).toNat) with|some v=>(Sum.inl ((o.set i.toNat r1.1).take (i+1).toNat++v,()):Sum (List Int×Unit) (Bool×Unit))|none=> .inr (false,()))
   rw [hd]
   generalize (l.take n.toNat).drop (i+1).toNat=R
   have e:b8 (w::R)=if r2 then none else (b8 R).map (r1.1::·):=by rw [hr2,er];rfl
   rw [e,ei,take_set _ _ _ (by omega)]
   cases r2 with
   | true=>rfl
   | false=>
    cases b8 R with
    | none=>rfl
    | some v=>
     show Sum.inl (o.take i.toNat++r1.1::v,())=Sum.inl ((o.take i.toNat++[r1.1])++v,())
     rw [List.append_assoc]
     rfl
  rw [decide_eq_true h,e1,key]
  refine ⟨⟨fun _=>⟨⟨h2,by omega⟩,fun _=>trivial,fun _=>⟨⟨h2,by omega⟩,⟨⟨?_,h1b,h1c⟩,?_,?_⟩,?_⟩⟩,fun z=>Bool.noConfusion z⟩,rfl⟩
  ·show n =((o.set i.toNat r1.1).length:Int)
   rw [List.length_set];exact h1
  ·show 0≤i+1;omega
  ·show i+1≤n;omega
  ·show (n - (i+1)).toNat <(n - i).toNat;omega
 ·rw [decide_eq_false h]
  refine ⟨⟨fun z=>Bool.noConfusion z,fun _=>trivial⟩,?_⟩
  show _ =(match b8 ((l.take n.toNat).drop i.toNat) with|some v=>(Sum.inl (o.take i.toNat++v,()):Sum (List Int×Unit) (Bool×Unit))|none=> .inr (false,()))
  rw [List.drop_eq_nil_of_le (by rw [List.length_take];omega),List.take_of_length_le (by omega)]
  show Sum.inl (o,())=Sum.inl (o++[],())
  rw [List.append_nil]
noncomputable def MH:LoopSum:=ai lpNi iR u7
noncomputable def L9:Nat:=rid (aq Tryz.f109 0)
theorem Oa:LoopOKp Tryz.prog 0 Tryz.f109.ntmps (aq Tryz.f109 0) (ai lpNi iR u7):=
 az lpNi (ao (.consU vM rfl .nil) _) mixed (fun b hb S hS=>by cases hS) iR u7 HW (fun |⟨l,n,i,o,⟨⟩⟩,hi=>Po l n i o hi)
theorem FJ (l:List ByteArray) (n:Int) (hl:l.length≤1000000) (h8:zY n) :(evPat (aC [rT] Tryz.f109) (find [(L9,MH)]) Tryz.f109 qIs D4 (l,n,())).sat fun z_=>z_ =(Ja (l,n,())).2:=by
 refine cast (by kernel_rfl) (?_:let r1:Int:=(↑(List.replicate n.toNat (0:Int)).length:Int);let r2:Bool:=decide ((↑l.length:Int)<n);let r3:Bool:=isL (iR (l,r1,(0:Int),List.replicate n.toNat (0:Int),()));(r2=true→(false,[],())=okO (dI l n))∧(r2=false→((0:Int)≤n∧n=n∧n≤(17179869184:Int))∧((c8 fun x=>none)∧(r1 =(↑(List.replicate n.toNat (0:Int)).length:Int)∧r1≤(↑l.length:Int)∧r1≤(8:Int))∧(0:Int)≤(0:Int)∧(0:Int)≤r1)∧(r3=true→(true,jc (dflt (I.slice.prod Ty.unit)) (iR (l,r1,(0:Int),List.replicate n.toNat (0:Int),())))=okO (dI l n))∧(r3=false→((iz (dflt (Ty.bool.prod Ty.unit)) (iR (l,r1,(0:Int),List.replicate n.toNat (0:Int),()))).1,[],())=okO (dI l n))))
 intro r1 r2 r3
 clear_value (hr1:r1=_) (hr2:r2=_) (hr3:r3=_)
 obtain ⟨n0,n8⟩:=h8
 have e1:r1=n:=by rw [hr1,List.length_replicate];omega
 have ln :(List.replicate n.toNat (0:Int)).length=n.toNat:=List.length_replicate
 rw [e1] at hr3 ⊢
 refine ⟨fun h=>?_,fun h=>?_⟩
 ·have h :(l.length:Int)<n:=by rw [hr2] at h;exact of_decide_eq_true h
  unfold dI
  rw [if_pos h]
  rfl
 ·have h :¬(l.length:Int)<n:=by rw [hr2] at h;exact of_decide_eq_false h
  have hO:dI l n=b8 (l.take n.toNat):=by unfold dI;rw [if_neg h]
  have er:iR (l,n,0,List.replicate n.toNat 0,())=match b8 (l.take n.toNat) with|some v=>(Sum.inl (v,()):Sum (List Int×Unit) (Bool×Unit))|none=> .inr (false,()):=by
   show (match b8 ((l.take n.toNat).drop 0) with|some v=>(Sum.inl ((List.replicate n.toNat (0:Int)).take 0++v,()):Sum (List Int×Unit) (Bool×Unit))|none=> .inr (false,()))=_
   rw [List.drop_zero]
   cases b8 (l.take n.toNat) <;> rfl
  rw [er] at hr3 ⊢
  rw [hO]
  refine ⟨⟨n0,rfl,by omega⟩,⟨rfl,⟨by omega,by omega,n8⟩,Int.le_refl _,n0⟩,fun h3=>?_,fun h3=>?_⟩
  ·cases hf:b8 (l.take n.toNat) with
   | some v=>rfl
   | none=>rw [hr3,hf] at h3;exact Bool.noConfusion h3
  ·cases hf:b8 (l.take n.toNat) with
   | none=>rfl
   | some v=>rw [hr3,hf] at h3;exact Bool.noConfusion h3
def Dy:FuncId×Ctr:=(109,ah KE qIs D4 Ja)
theorem Iy:CtrOK Tryz.prog KE 109 (ah KE qIs D4 Ja):=by
 refine ba (C:=aC [rT] Tryz.f109) (ao (.consU vM rfl .nil) _) mixed (fn:=Tryz.f109) Tryz.func109 (by kernel_rfl) (by kernel_rfl) (by kernel_rfl) (by kernel_rfl) (by kernel_rfl) (by kernel_rfl) (Λ:=fun x=>find [(L9,MH)]) ?_ ?_
 ·rintro ⟨l,n,⟨⟩⟩ hw hn
  exact LoopsOKp.at (by kernel_rfl) (.cons (by kernel_rfl) (Oa) .nil)
 ·rintro ⟨l,n,⟨⟩⟩ hw hn
  exact FJ l n (hn _ List.mem_cons_self) (hn _ (List.mem_cons_of_mem _ List.mem_cons_self))
theorem FO (l:List ByteArray) (s:Int) (x1:Int) (x2:Int) (x3:Int) (x4:Int) (x5:Int) (t:Int) (w:Int) (a:List Mir.Box) (c:List Mir.Strip) (hl:Ie l a c) :(evPat (aC [Dy,vp,k23] Tryz.f52) (fun _=>none) Tryz.f52 qTk FF (l,s,x1,x2,x3,x4,x5,t,w,a,c,())).sat fun z_=>z_ =(sTk (l,s,x1,x2,x3,x4,x5,t,w,a,c,())).2:=by
 refine cast (by kernel_rfl) (?_:let r1:List ByteArray:=List.drop (Int.toNat (1:Int)) (List.take (↑l.length:Int).toNat l);let r2:List ByteArray:=List.drop (Int.toNat (3:Int)) (List.take (↑l.length:Int).toNat l);let r3:List ByteArray:=List.drop (Int.toNat (4:Int)) (List.take (↑l.length:Int).toNat l);let r4:Bool×Int×Int×Int×Int×Int×Int×Int×Int×List Mir.Box×List Mir.Strip×PUnit:=ID (mkB s x1 x2 x3 x4 x5 t w a c) (cE (mkB s x1 x2 x3 x4 x5 t w a c) l);let r5:Bool×List Int×Unit:=okO (dI r1 (8:Int));let r6:Bool×List Int×Unit:=okO (dI r1 (2:Int));let r7:Bool:=decide ((↑l.length:Int) <(4:Int));let r8:Bool:=!r5.1;let r9:Bool:=!r6.1;let r10:List ByteArray:= [l.getD (Int.toNat (1:Int)) (dflt Ty.str),l.getD (Int.toNat (3:Int)) (dflt Ty.str)];let r11:Int:=(↑r5.2.1.length:Int);let r12:Int:=(↑r6.2.1.length:Int);let r13:Bool×List Int×Unit:=okO (dI r10 (2:Int));let r14:Bool:=ByteArray.toList (l.getD (Int.toNat (0:Int)) (dflt Ty.str)) ==(ByteArray.mk #[66,79,88]).toList;let r15:Int:=(↑r13.2.1.length:Int);let r16:Bool:=ByteArray.toList (l.getD (Int.toNat (0:Int)) (dflt Ty.str)) ==(ByteArray.mk #[66,79,79,75]).toList;let r17:Bool:=ByteArray.toList (l.getD (Int.toNat (0:Int)) (dflt Ty.str)) ==(ByteArray.mk #[83,84,82,73,80]).toList;let r18:Bool:=bif !r13.1 then true else cj (l.getD (Int.toNat (2:Int)) (dflt Ty.str)) !=(0:Int);let r19:List Mir.Box:= [Mir.Box.mk (r6.2.1.getD (Int.toNat (0:Int)) (dflt (Ty.int IntKind.i64))) (r6.2.1.getD (Int.toNat (1:Int)) (dflt (Ty.int IntKind.i64))) r2];let r20:List Mir.Strip:= [Mir.Strip.mk (r13.2.1.getD (Int.toNat (0:Int)) (dflt (Ty.int IntKind.i64))) r3 (dW (l.getD (Int.toNat (2:Int)) (dflt Ty.str))) (r13.2.1.getD (Int.toNat (1:Int)) (dflt (Ty.int IntKind.i64)))];((0:Int)≤(0:Int)∧(0:Int) <(↑l.length:Int))∧(r16=true→((0:Int)≤(1:Int)∧(1:Int)≤(↑l.length:Int)∧(↑l.length:Int)≤(↑l.length:Int))∧r1.length≤(1000000:Nat)∧zY (8:Int)∧(r8=true→(false,s,x1,x2,x3,x4,x5,t,w,a,c,())=r4)∧(r8=false→((0:Int)≤(0:Int)∧(0:Int)<r11)∧((0:Int)≤(1:Int)∧(1:Int)<r11)∧((0:Int)≤(2:Int)∧(2:Int)<r11)∧((0:Int)≤(3:Int)∧(3:Int)<r11)∧((0:Int)≤(4:Int)∧(4:Int)<r11)∧((0:Int)≤(5:Int)∧(5:Int)<r11)∧((0:Int)≤(6:Int)∧(6:Int)<r11)∧((0:Int)≤(7:Int)∧(7:Int)<r11)∧(true,r5.2.1.getD (Int.toNat (0:Int)) (dflt (Ty.int IntKind.i64)),r5.2.1.getD (Int.toNat (3:Int)) (dflt (Ty.int IntKind.i64)),r5.2.1.getD (Int.toNat (4:Int)) (dflt (Ty.int IntKind.i64)),r5.2.1.getD (Int.toNat (5:Int)) (dflt (Ty.int IntKind.i64)),r5.2.1.getD (Int.toNat (6:Int)) (dflt (Ty.int IntKind.i64)),r5.2.1.getD (Int.toNat (7:Int)) (dflt (Ty.int IntKind.i64)),r5.2.1.getD (Int.toNat (1:Int)) (dflt (Ty.int IntKind.i64)),r5.2.1.getD (Int.toNat (2:Int)) (dflt (Ty.int IntKind.i64)),a,c,())=r4))∧(r16=false→(r14=true→((0:Int)≤(1:Int)∧(1:Int)≤(↑l.length:Int)∧(↑l.length:Int)≤(↑l.length:Int))∧r1.length≤(1000000:Nat)∧zY (2:Int)∧(r9=true→(false,s,x1,x2,x3,x4,x5,t,w,a,c,())=r4)∧(r9=false→((0:Int)≤(0:Int)∧(0:Int)<r12)∧((0:Int)≤(1:Int)∧(1:Int)<r12)∧((0:Int)≤(3:Int)∧(3:Int)≤(↑l.length:Int)∧(↑l.length:Int)≤(↑l.length:Int))∧r2.length≤(1000000:Nat)∧(a.length+r19.length) *(40:Nat)≤(70368744177664:Nat)∧(true,s,x1,x2,x3,x4,x5,t,w,a++r19,c,())=r4))∧(r14=false→(r17=true→(r7=true→(false,s,x1,x2,x3,x4,x5,t,w,a,c,())=r4)∧(r7=false→((0:Int)≤(1:Int)∧(1:Int) <(↑l.length:Int))∧((0:Int)≤(3:Int)∧(3:Int) <(↑l.length:Int))∧r10.length≤(1000000:Nat)∧zY (2:Int)∧((0:Int)≤(2:Int)∧(2:Int) <(↑l.length:Int))∧(r18=true→(false,s,x1,x2,x3,x4,x5,t,w,a,c,())=r4)∧(r18=false→((0:Int)≤(0:Int)∧(0:Int)<r15)∧((0:Int)≤(1:Int)∧(1:Int)<r15)∧((0:Int)≤(4:Int)∧(4:Int)≤(↑l.length:Int)∧(↑l.length:Int)≤(↑l.length:Int))∧r3.length≤(1000000:Nat)∧(c.length+r20.length) *(48:Nat)≤(70368744177664:Nat)∧(true,s,x1,x2,x3,x4,x5,t,w,a,c++r20,())=r4)))∧(r17=false→(false,s,x1,x2,x3,x4,x5,t,w,a,c,())=r4))))
 intro r1 r2 r3 r4 r5 r6 r7 r8 r9 r10 r11 r12 r13 r14 r15 r16 r17 r18 r19 r20
 clear_value (hr1:r1=_) (hr2:r2=_) (hr3:r3=_) (hr4:r4=_) (hr5:r5=_) (hr6:r6=_) (hr7:r7=_) (hr8:r8=_) (hr9:r9=_) (hr10:r10=_) (hr11:r11=_) (hr12:r12=_) (hr13:r13=_) (hr14:r14=_) (hr15:r15=_) (hr16:r16=_) (hr17:r17=_) (hr18:r18=_) (hr19:r19=_) (hr20:r20=_)
 obtain ⟨⟨hl0,hl1⟩,ha,hc⟩:=hl
 cases l with
 | nil=>exact absurd hl0 (Nat.lt_irrefl 0)
 | cons z m=>
 have hlm :(z::m).length=m.length+1:=rfl
 have et:List.take ((z::m).length:Int).toNat (z::m)=z::m:=by rw [Int.toNat_natCast,List.take_length]
 rw [et] at hr1 hr2 hr3
 have e1:r1=m:=hr1
 have e2:r2=m.drop 2:=hr2
 have e3:r3=m.drop 3:=hr3
 have l2:r2.length≤m.length:=by rw [e2,List.length_drop];omega
 have l3:r3.length≤m.length:=by rw [e3,List.length_drop];omega
 have eF:cE (mkB s x1 x2 x3 x4 x5 t w a c) (z::m)=if r16=true then ij (mkB s x1 x2 x3 x4 x5 t w a c) m else if r14=true then ig (mkB s x1 x2 x3 x4 x5 t w a c) m else if r17=true then il (mkB s x1 x2 x3 x4 x5 t w a c) m else none:=by rw [hr16,hr14,hr17];rfl
 rw [eF] at hr4
 clear eF hr14 hr16 hr17 hr1 hr2 hr3 et
 rw [e1] at hr5 hr6
 refine ⟨⟨Int.le_refl _,by omega⟩,fun h16=>⟨⟨by decide,by omega,Int.le_refl _⟩,by rw [e1];omega,⟨by decide,by decide⟩,fun h8=>?_,fun h8=>?_⟩,fun h16=>⟨fun h14=>⟨⟨by decide,by omega,Int.le_refl _⟩,by rw [e1];omega,⟨by decide,by decide⟩,fun h9=>?_,fun h9=>?_⟩,fun h14=>⟨fun h17=>⟨fun h7=>?_,fun h7=>?_⟩,fun h17=>?_⟩⟩⟩
 ·rw [if_pos h16,Dp] at hr4
  cases hI:dI m 8 with
  | some v=>rw [hr8,hr5,hI] at h8;exact Bool.noConfusion h8
  | none=>rw [hr4,hI];rfl
 ·rw [if_pos h16,Dp] at hr4
  cases hI:dI m 8 with
  | none=>rw [hr8,hr5,hI] at h8;exact Bool.noConfusion h8
  | some v=>
   have hv:=uR (by decide) hI
   rw [hI] at hr4 hr5
   have e5:r5 =(true,v,()):=hr5
   rw [hr11,e5]
   have hv :(((true,v,()):Bool×List Int×Unit).2.1.length:Int)=8:=hv
   rw [hv]
   refine ⟨by decide,by decide,by decide,by decide,by decide,by decide,by decide,by decide,?_⟩
   rw [hr4]
   rfl
 ·rw [if_neg (by rw [h16];decide),if_pos h14,C4] at hr4
  cases hI:dI m 2 with
  | some v=>rw [hr9,hr6,hI] at h9;exact Bool.noConfusion h9
  | none=>rw [hr4,hI];rfl
 ·rw [if_neg (by rw [h16];decide),if_pos h14,C4] at hr4
  cases hI:dI m 2 with
  | none=>rw [hr9,hr6,hI] at h9;exact Bool.noConfusion h9
  | some v=>
   have hv:=uR (by decide) hI
   have h2m:2≤m.length:=by
    unfold dI at hI
    split at hI
    ·cases hI
    ·omega
   rw [hI] at hr4 hr6
   have e6:r6 =(true,v,()):=hr6
   have hv :(r6.2.1.length:Int)=2:=by rw [e6];exact hv
   have h19:r19.length=1:=by rw [hr19];rfl
   rw [hr12,hv]
   refine ⟨by decide,by decide,⟨by decide,by omega,Int.le_refl _⟩,by omega,by omega,?_⟩
   rw [hr4,hr19,e6,e2]
   rfl
 ·rw [if_neg (by rw [h16];decide),if_neg (by rw [h14];decide),if_pos h17] at hr4
  have h7 :((z::m).length:Int)<4:=by rw [hr7] at h7;exact of_decide_eq_true h7
  unfold il at hr4
  rw [if_pos (by omega)] at hr4
  rw [hr4]
  rfl
 ·rw [if_neg (by rw [h16];decide),if_neg (by rw [h14];decide),if_pos h17] at hr4
  have h7 :¬((z::m).length:Int)<4:=by rw [hr7] at h7;exact of_decide_eq_false h7
  unfold il at hr4
  rw [if_neg (by omega)] at hr4
  have e10:r10=[m.getD 0 ⟨#[]⟩,m.getD 2 ⟨#[]⟩]:=hr10
  have e10l:r10.length=2:=by rw [e10];rfl
  rw [←e10] at hr4
  have hI2:dI r10 2=b8 r10:=by rw [e10];rfl
  rw [hI2] at hr13
  have e18:r18 =(!r13.1||cj (m.getD 1 ⟨#[]⟩) != 0):=by rw [hr18];cases r13.1 <;> rfl
  refine ⟨⟨by decide,by omega⟩,⟨by decide,by omega⟩,by omega,⟨by decide,by decide⟩,⟨by decide,by omega⟩,fun h18=>?_,fun h18=>?_⟩
  ·cases hI:b8 r10 with
   | none=>rw [hI] at hr4;rw [hr4];rfl
   | some v=>
    rw [hI] at hr4 hr13
    have e13:r13.1=true:=by rw [hr13];rfl
    rw [e18,e13] at h18
    have h18 :(cj (m.getD 1 ⟨#[]⟩) != 0)=true:=h18
    rw [Option.bind_some,if_pos h18] at hr4
    rw [hr4];rfl
  ·cases hI:b8 r10 with
   | none=>
    rw [hI] at hr13
    have e13:r13.1=false:=by rw [hr13];rfl
    rw [e18,e13] at h18
    exact Bool.noConfusion h18
   | some v=>
    have hv:=rM hI
    rw [hI] at hr4 hr13
    have e13:r13 =(true,v,()):=hr13
    have e13':r13.1=true:=by rw [e13]
    rw [e18,e13'] at h18
    have h18 :¬(cj (m.getD 1 ⟨#[]⟩) != 0)=true:=by
     have h18 :(cj (m.getD 1 ⟨#[]⟩) != 0)=false:=h18
     rw [h18];decide
    rw [Option.bind_some,if_neg h18] at hr4
    have hv2 :(r13.2.1.length:Int)=2:=by rw [e13];show (v.length:Int)=2;omega
    have h20:r20.length=1:=by rw [hr20];rfl
    rw [hr15,hv2]
    refine ⟨by decide,by decide,⟨by decide,by omega,Int.le_refl _⟩,by omega,by omega,?_⟩
    rw [hr4,hr20,e13,e3]
    rfl
 ·rw [if_neg (by rw [h16];decide),if_neg (by rw [h14];decide),if_neg (by rw [h17];decide)] at hr4
  rw [hr4]
  rfl
def DA:FuncId×Ctr:=(52,ah KE qTk FF sTk)
theorem IA:CtrOK Tryz.prog KE 52 (ah KE qTk FF sTk):=by
 refine ba (C:=aC [Dy,vp,k23] Tryz.f52) (ao (.consU Iy rfl (.consU B7 rfl (.consU RE rfl .nil))) _) mixed (fn:=Tryz.f52) Tryz.func52 (by kernel_rfl) (by kernel_rfl) (by kernel_rfl) (by kernel_rfl) (by kernel_rfl) (by kernel_rfl) (Λ:=fun _ _=>none) ?_ ?_
 ·exact fun _ _ _ _ _ _ _ _ h=>by cases h
 ·rintro ⟨l,s,x1,x2,x3,x4,x5,t,w,a,c,⟨⟩⟩ hw hn
  exact FO l s x1 x2 x3 x4 x5 t w a c (hn _ List.mem_cons_self)
end Go.Proofs.YtffdpnmioidloaaGreatDoor
namespace Go.Proofs.YtffdpnmioidloaaGreatDoor
open Go Go.Mir Go.RowKit
attribute [local irreducible] Go.Mir.DT.sat Go.Mir.evPat Go.Mir.RT.sat Go.Mir.evFn Go.Mir.Rg.stepS
abbrev qBr:Pat:=⟨[(0,.h .str),(2,.c (.ptr 0 0)),(3,.c (.ptr 1 0)),(4,.c (.ptr 2 0))],[(0,.cells [.c .any,.c .any,.c .any,.c .any,.c .any,.c .any,.c .any,.c .any,.c .any,.c .any]),(1,.cells [.c .any]),(2,.cells [.h I,.c (.osl 3 4),.c (.osl 5 6),.h I,.h I,.h I,.h I,.h I,.h I,.h I]),(3,.row 4 (.nm .Box)),(5,.row 6 (.nm .Strip))],7⟩
abbrev qBx:Pat:=⟨[(2,.c (.ptr 0 0)),(3,.c (.ptr 1 0))],[(0,.dat (.nm .Book)),(1,.cells [.h I])],2⟩
noncomputable def rgB:Rg:=⟨0,Tryz.f15.ntmps,qBr,qBx,5,10,OW Tryz.f15 0,20000⟩
abbrev TBr:Type:=ByteArray×Int×Int×Int×Int×Int×Int×Int×Int×List Mir.Box×List Mir.Strip×Unit
abbrev TBx:Type:=Mir.Book×Int×Unit
def stB (s:ByteArray) (b:Mir.Book):TBr:=(s,b.Side,b.Extras.Wides,b.Extras.NoBalls,b.Extras.Byes,b.Extras.LegByes,b.Extras.Penalties,b.Total,b.Wickets,b.Boxes,b.Strips,())
def bkB:TBr→Mir.Book
 |(_,s,x1,x2,x3,x4,x5,t,w,a,c,_)=>mkB s x1 x2 x3 x4 x5 t w a c
def BL (n:Nat) (b:Mir.Book):Prop:=(b.Boxes.length≤n∧b.Strips.length≤n)∧(∀ x∈b.Boxes,aU x.Symbols≤20100)∧∀ x∈b.Strips,aU x.Symbols≤20100
def zr (n:Nat) (y:TBr):Prop:=BL n (bkB y)
def Ce (s:ByteArray):Option Mir.Book→Sum TBx TBr
 | some b=> .inr (stB s b)
 | none=> .inl (Mir.Book.zero,(4:Int),())
def gj (x:ByteArray):List ByteArray:=dp (jT x nlV) 32
def uc (x:ByteArray) (y:TBr):Sum TBx TBr:=Ce y.1 (cE (bkB y) (gj x))
theorem yQ (c:UInt8) :∀ l:List UInt8,((dq c l).map fun s=>s.length+1).sum=l.length+1
 | []=>rfl
 | b::l=>by
  have ih:=yQ c l
  unfold dq
  split
  ·simp only [List.map_cons,List.sum_cons,List.length_nil,List.length_cons]
   omega
  ·cases h:dq c l with
   | nil=>exact absurd h (C9 c l)
   | cons x r=>
    rw [h] at ih
    simp only [List.map_cons,List.sum_cons,List.length_cons] at *
    omega
theorem AY (s:ByteArray) (c:UInt8):aU (dp s c)=s.size+1:=by
 have h:=yQ c s.data.toList
 unfold aU dp
 rw [List.map_map]
 have e :((fun s:ByteArray=>s.size+1) ∘ toB)=fun s=>s.length+1:=by funext l;show (toB l).size+1=_;rw [tp]
 rw [e,h,Array.length_toList]
 rfl
theorem we (l:List ByteArray) :∀ k,aU (l.drop k)≤aU l:=by
 intro k
 have h:=Ji (l.take k) (l.drop k)
 rw [List.take_append_drop] at h
 omega
theorem za {n:Nat} {b c:Mir.Book} {l:List ByteArray} (h:BL n b) (hl:aU l≤20100) (ht:cE b l=some c):BL (n+1) c:=by
 obtain ⟨⟨h1,h2⟩,h3,h4⟩:=h
 cases l with
 | nil=>cases ht
 | cons z m=>
  have hz:=bK z m
  have ht :(if z.toList==bookV.toList then ij b m else if z.toList==boxV.toList then ig b m else if z.toList==stripV.toList then il b m else none)=some c:=ht
  split at ht
  ·unfold ij at ht
   split at ht
   ·cases ht
   ·cases hI:b8 (m.take 8) with
    | none=>rw [hI] at ht;cases ht
    | some v=>rw [hI] at ht;cases ht;exact ⟨⟨Nat.le_succ_of_le h1,Nat.le_succ_of_le h2⟩,h3,h4⟩
  split at ht
  ·unfold ig at ht
   split at ht
   ·cases ht
   ·cases hI:b8 (m.take 2) with
    | none=>rw [hI] at ht;cases ht
    | some v=>
     rw [hI] at ht;cases ht
     refine ⟨⟨?_,Nat.le_succ_of_le h2⟩,fun x hx=>?_,h4⟩
     ·show (b.Boxes++[_]).length≤n+1
      rw [List.length_append];exact Nat.succ_le_succ h1
     ·rcases List.mem_append.1 hx with hx|hx
      ·exact h3 x hx
      ·rcases List.mem_singleton.1 hx with rfl
       have:=we m 2
       show aU (m.drop 2)≤20100
       omega
  split at ht
  ·unfold il at ht
   split at ht
   ·cases ht
   ·cases hI:b8 [m.getD 0 ⟨#[]⟩,m.getD 2 ⟨#[]⟩] with
    | none=>rw [hI] at ht;cases ht
    | some v=>
     rw [hI,Option.bind_some] at ht
     split at ht
     ·cases ht
     ·cases ht
      refine ⟨⟨Nat.le_succ_of_le h1,?_⟩,h3,fun x hx=>?_⟩
      ·show (b.Strips++[_]).length≤n+1
       rw [List.length_append];exact Nat.succ_le_succ h2
      ·rcases List.mem_append.1 hx with hx|hx
       ·exact h4 x hx
       ·rcases List.mem_singleton.1 hx with rfl
        have:=we m 3
        show aU (m.drop 3)≤20100
        omega
  ·cases ht
theorem QU (x s:ByteArray) (a0 a1 a2 a3 a4 a5 a6 a7:Int) (bx:List Mir.Box) (sx:List Mir.Strip) (n:Nat) (hx:x.size≤20000) (hn:n<20000) (hr:zr n (s,a0,a1,a2,a3,a4,a5,a6,a7,bx,sx,())):rgB.stepS (aC [pV,Hq,DA] Tryz.f15) (fun _=>none) (zr (n+1)) x (s,a0,a1,a2,a3,a4,a5,a6,a7,bx,sx,()) (uc x (s,a0,a1,a2,a3,a4,a5,a6,a7,bx,sx,())):=by
 refine cast (by kernel_rfl) (?_:let r1:ByteArray:=jT x (ByteArray.mk #[10]);let r2:List ByteArray:=Qa (r1,ByteArray.mk #[32],());let r3:Bool×Int×Int×Int×Int×Int×Int×Int×Int×List Mir.Box×List Mir.Strip×PUnit:=ID (mkB a0 a1 a2 a3 a4 a5 a6 a7 bx sx) (cE (mkB a0 a1 a2 a3 a4 a5 a6 a7 bx sx) r2);let r4:Bool:=!r3.1;x.size.le (1000000:Nat)∧(r1.size≤(1000000:Nat)∧nat_lit 1=nat_lit 1)∧(((0:Nat)<r2.length∧r2.length≤(1000000:Nat))∧bx.length≤(1000000:Nat)∧sx.length≤(1000000:Nat))∧(r4=true→uc x (s,a0,a1,a2,a3,a4,a5,a6,a7,bx,sx,())=Sum.inl (Mir.Book.mk (0:Int) [] [] (Mir.Extras.mk (0:Int) (0:Int) (0:Int) (0:Int) (0:Int)) (0:Int) (0:Int),(4:Int),()))∧(r4=false→uc x (s,a0,a1,a2,a3,a4,a5,a6,a7,bx,sx,())=Sum.inr (s,r3.2)∧zr (n +(1:Nat)) (s,r3.2)))
 intro r1 r2 r3 r4
 clear_value (hr1:r1=_) (hr2:r2=_) (hr3:r3=_) (hr4:r4=_)
 have e1:r1=jT x nlV:=hr1
 have e2:r2=gj x:=by rw [hr2,e1];rfl
 have hz1:r1.size≤x.size:=by rw [e1];exact nJ _ _
 have hw:aU r2≤20001:=by
  rw [e2]
  unfold gj
  rw [AY,←e1]
  omega
 have hl:=cN r2
 have hp:0<r2.length:=by rw [e2];exact GG _ _
 have hr':BL n (mkB a0 a1 a2 a3 a4 a5 a6 a7 bx sx):=hr
 obtain ⟨⟨f1,f2⟩,f3,f4⟩:=hr'
 have f1:bx.length≤n:=f1
 have f2:sx.length≤n:=f2
 have eR:uc x (s,a0,a1,a2,a3,a4,a5,a6,a7,bx,sx,())=Ce s (cE (mkB a0 a1 a2 a3 a4 a5 a6 a7 bx sx) r2):=by rw [e2];rfl
 rw [eR]
 refine ⟨Nat.le_trans hx (by decide),⟨by omega,rfl⟩,⟨⟨hp,by omega⟩,by omega,by omega⟩,fun h4=>?_,fun h4=>?_⟩
 ·cases hT:cE (mkB a0 a1 a2 a3 a4 a5 a6 a7 bx sx) r2 with
  | none=>rfl
  | some c=>rw [hr4,hr3,hT] at h4;exact Bool.noConfusion h4
 ·cases hT:cE (mkB a0 a1 a2 a3 a4 a5 a6 a7 bx sx) r2 with
  | none=>rw [hr4,hr3,hT] at h4;exact Bool.noConfusion h4
  | some c=>
   have hf:=za hr (by omega) hT
   rw [hT] at hr3
   rw [hr3]
   exact ⟨rfl,hf⟩
end Go.Proofs.YtffdpnmioidloaaGreatDoor
namespace Go.Proofs.YtffdpnmioidloaaGreatDoor
open Go Go.Mir Go.RowKit
attribute [local irreducible] Go.Mir.DT.sat Go.Mir.evPat Go.Mir.RT.sat Go.Mir.evFn Go.Mir.Rg.stepS
def hdC:Code→Code
 | .seq a _=>a
 | c=>c
def tlC:Code→Code
 | .seq _ b=>b
 | c=>c
noncomputable abbrev bdP:Code:=iW Tryz.f15
noncomputable abbrev R0P:Code:=hdC bdP
noncomputable abbrev R1P:Code:=hdC (tlC bdP)
noncomputable abbrev R2P:Code:=hdC (hdC (tlC (tlC bdP)))
noncomputable abbrev RGP:Code:=tlC (hdC (tlC (tlC bdP)))
def QF:Code→Option Oper
 | .block _ (.rangeFunc _ _ (.region _ ops _) _)=>ops[0]?
 | _=>none
def RL (c:Code):TypeId:=match QF c with|some o=>o.type|none=>0
def QI (c:Code):String:=match QF c with|some o=>o.pos|none=>""
def Bi (s:ByteArray) (y:TBr):Sum TBx TBr:=nH uc (bg s) y
noncomputable def cfP:Cfg:=aC [NS,xD] Tryz.f15
noncomputable def trB:St→Tr:=AX (aW cfP (fun _=>none) R0P) (AX (aW cfP (fun _=>none) R1P) (AX (aW cfP (fun _=>none) R2P) (rgT rgB 107 (.tmp 9) Bi zr (aW cfP (fun _=>none) (Gh Tryz.f15)))))
abbrev K3:Pat:=eQ [.nm .Book,I]
def CI:Den (tyP qPn)→List Prop×Den (tyP K3):=fun x=>([x.1.size≤20000],((gb x.1).1,(gb x.1).2,()))
theorem rY :∀ (k:Nat) (l:List UInt8),(gO k l).length≤l.length∧∀ x∈gO k l,x.length≤l.length
 | 0,l=>⟨Nat.zero_le _,fun x hx=>by cases hx⟩
 | k+1,l=>by
  unfold gO
  split
  ·exact ⟨Nat.zero_le _,fun x hx=>by cases hx⟩
  ·rename_i hne
   have hne:l≠ []:=fun e=>hne (by rw [e];rfl)
   have h1:=pf hne
   have h2:=List.length_pos_iff.2 hne
   obtain ⟨h3,h4⟩:=rY k (l.drop (eD l))
   rw [List.length_drop] at h3 h4
   refine ⟨by rw [List.length_cons];omega,fun x hx=>?_⟩
   rcases List.mem_cons.1 hx with rfl|hx
   ·rw [List.length_take];omega
   ·have:=h4 x hx;omega
theorem rX (s:ByteArray) :(bg s).length≤s.size∧∀ x∈bg s,x.size≤s.size:=by
 obtain ⟨h1,h2⟩:=rY (s.size+1) s.data.toList
 rw [Array.length_toList] at h1 h2
 refine ⟨by unfold bg;rw [List.length_map];exact h1,fun x hx=>?_⟩
 unfold bg at hx
 obtain ⟨y,hy,rfl⟩:=List.mem_map.1 hx
 rw [tp]
 exact h2 y hy
theorem AP (s:ByteArray) :∀ (L:List ByteArray) (b:Mir.Book),nH uc L (stB s b)=Ce s (eu (L.map gj) b)
 | [],b=>rfl
 | x::L,b=>by
  cases hT:cE b (gj x) with
  | none=>
   have e:uc x (stB s b) = .inl (Mir.Book.zero,(4:Int),()):=by show Ce s (cE b (gj x))=_;rw [hT];rfl
   have e2:eu ((x::L).map gj) b=none:=by show (cE b (gj x)).bind (eu (L.map gj))=none;rw [hT];rfl
   rw [e2]
   unfold nH
   rw [List.foldl_cons]
   simp only [e]
   exact pC L
  | some c=>
   have e:uc x (stB s b) = .inr (stB s c):=by show Ce s (cE b (gj x))=_;rw [hT];rfl
   have e2:eu ((x::L).map gj) b=eu (L.map gj) c:=by show (cE b (gj x)).bind (eu (L.map gj))=_;rw [hT];rfl
   have ih:=AP s L c
   rw [e2,←ih]
   unfold nH
   rw [List.foldl_cons]
   simp only [e]
theorem M6 (s:ByteArray) (b:Mir.Book):Bi s (stB s b)=Ce s (eu ((bg s).map gj) b):=AP s _ b
theorem zi :∀ (L:List ByteArray) (n:Nat) (b c:Mir.Book),(∀ x∈L,x.size≤20000)→BL n b→eu (L.map gj) b=some c→BL (n+L.length) c
 | [],n,b,c,_,hb,h=>by cases h;exact hb
 | x::L,n,b,c,hL,hb,h=>by
  have h :(cE b (gj x)).bind (eu (L.map gj))=some c:=h
  cases hT:cE b (gj x) with
  | none=>rw [hT] at h;cases h
  | some d=>
   rw [hT] at h
   have hx:=hL x List.mem_cons_self
   have hw:aU (gj x)≤20100:=by
    have:=nJ x nlV
    unfold gj
    rw [AY]
    omega
   have:=zi L (n+1) d c (fun y hy=>hL y (List.mem_cons_of_mem _ hy)) (za hb hw hT) h
   rw [List.length_cons]
   have e:n +(L.length+1)=n+1+L.length:=by omega
   rw [e]
   exact this
theorem GF:CfgOK Tryz.prog cfP:=ao (.consU KF rfl (.consU Am rfl .nil)) _
theorem Nb:bdP = .seq R0P (.seq R1P (.seq (.seq R2P (.block 0 (.rangeFunc (.tmp 9) #[rgB.sp] (.region 3 #[⟨some rgB.sl,.assign (.tmp rgB.sp),RL RGP,QI RGP,#[],none⟩] false) rgB.body))) (Gh Tryz.f15))):=by kernel_rfl
theorem Pv (n:Nat) (x:ByteArray) (y:TBr) (hi:zr n y) (hx:x.size≤rgB.nb) (hn:n<rgB.nb) :∃ (C:Cfg) (Λ:Nat→Option LoopSum),CfgOK Tryz.prog C∧C.N=rgB.N∧(∀ b∈aD Λ rgB.body,∃ S,Λ (rid b)=some S∧qm Tryz.prog rgB.q.nx C.N b S)∧rgB.stepS C Λ (zr (n+1)) x y (uc x y):=by
 obtain ⟨s,a0,a1,a2,a3,a4,a5,a6,a7,bx,sx,⟨⟩⟩:=y
 exact ⟨aC [pV,Hq,DA] Tryz.f15,fun _=>none,ao (.consU xP rfl (.consU KH rfl (.consU IA rfl .nil))) _,rfl,Ii (by kernel_rfl),QU x s a0 a1 a2 a3 a4 a5 a6 a7 bx sx n hx hn hi⟩
theorem PM:TrM Tryz.prog Tryz.f15.ntmps 0 bdP trB:=by
 rw [Nb]
 exact Eo (yr GF mixed (fun b hb S hS=>by cases hS)) (Eo (yr GF mixed (fun b hb S hS=>by cases hS)) (Jz (yr GF mixed (fun b hb S hS=>by cases hS))
  (K8 rgB mixed (LB:=bg) (fun args w=>by kernel_rfl) (fun bx s0 h=>Fl bx s0 (Nat.le_trans h (by decide))) (by kernel_rfl) (by kernel_rfl) (res:=uc) (all:=Bi) (inv:=zr) (fun s=>(rX s).1) (fun _ _=>rfl) Pv (yr GF mixed (fun b hb S hS=>by cases hS)))))
theorem QV (s:ByteArray) (hs:s.size≤20000) :(pF cfP.tb Tryz.f15.results.toList 0 K3 (put qPn (s,())) (trB (put qPn (s,())))).sat fun z_=>z_ =(CI (s,())).2:=by
 refine cast (by kernel_rfl) (?_:let r1:Bool:=isL (Bi s (s,(0:Int),(0:Int),(0:Int),(0:Int),(0:Int),(0:Int),(0:Int),(0:Int),[],[],()));let r2:ByteArray×Int×Int×Int×Int×Int×Int×Int×Int×List Mir.Box×List Mir.Strip×PUnit:=iz (dflt (Ty.str.prod (I.prod (I.prod (I.prod (I.prod (I.prod (I.prod (I.prod (I.prod ((Ty.nm Nm.Box).slice.prod ((Ty.nm Nm.Strip).slice.prod Ty.unit)))))))))))) (Bi s (s,(0:Int),(0:Int),(0:Int),(0:Int),(0:Int),(0:Int),(0:Int),(0:Int),[],[],()));let r3:Mir.Book:=Mir.Book.mk r2.2.1 r2.2.2.2.2.2.2.2.2.2.1 r2.2.2.2.2.2.2.2.2.2.2.1 (Mir.Extras.mk r2.2.2.1 r2.2.2.2.1 r2.2.2.2.2.1 r2.2.2.2.2.2.1 r2.2.2.2.2.2.2.1) r2.2.2.2.2.2.2.2.1 r2.2.2.2.2.2.2.2.2.1;let r4:ByteArray×Int:=bs r3;let r5:Bool:=bif r4.2 !=(0:Int) then true else !r4.1.toList==r2.1.toList;((c8 fun x=>none)∧s.size≤(20000:Nat)∧zr (0:Nat) (s,(0:Int),(0:Int),(0:Int),(0:Int),(0:Int),(0:Int),(0:Int),(0:Int),[],[],()))∧(r1=true→jc (dflt ((Ty.nm Nm.Book).prod (I.prod Ty.unit))) (Bi s (s,(0:Int),(0:Int),(0:Int),(0:Int),(0:Int),(0:Int),(0:Int),(0:Int),[],[],())) =((gb s).1,(gb s).2,()))∧(r1=false→((r2.2.2.2.2.2.2.2.2.2.1.length≤(20000:Nat)∧r2.2.2.2.2.2.2.2.2.2.2.1.length≤(20000:Nat))∧MW r2.2.2.2.2.2.2.2.2.2.1∧MX r2.2.2.2.2.2.2.2.2.2.2.1)∧(r5=true→(Mir.Book.mk (0:Int) [] [] (Mir.Extras.mk (0:Int) (0:Int) (0:Int) (0:Int) (0:Int)) (0:Int) (0:Int),(4:Int),()) =((gb s).1,(gb s).2,()))∧(r5=false→(r3,(0:Int),()) =((gb s).1,(gb s).2,()))))
 intro r1 r2 r3 r4 r5
 clear_value (hr1:r1=_) (hr2:r2=_) (hr3:r3=_) (hr4:r4=_) (hr5:r5=_)
 have eA:Bi s (s,0,0,0,0,0,0,0,0,[],[],())=Ce s (eu ((bg s).map gj) Mir.Book.zero):=M6 s Mir.Book.zero
 have eP:gb s=GR s (eu ((bg s).map gj) Mir.Book.zero):=rfl
 have f0:BL 0 Mir.Book.zero:=⟨⟨Nat.le_refl _,Nat.le_refl _⟩,(fun x hx=>by cases hx),fun x hx=>by cases hx⟩
 obtain ⟨l1,l2⟩:=rX s
 rw [eA] at hr1 hr2 ⊢
 rw [eP]
 refine ⟨⟨rfl,hs,f0⟩,fun h1=>?_,fun h1=>?_⟩
 ·cases hF:eu ((bg s).map gj) Mir.Book.zero with
  | none=>rfl
  | some b=>rw [hr1,hF] at h1;exact Bool.noConfusion h1
 ·cases hF:eu ((bg s).map gj) Mir.Book.zero with
  | none=>rw [hr1,hF] at h1;exact Bool.noConfusion h1
  | some b=>
   have hf:=zi _ 0 _ _ (fun x hx=>Nat.le_trans (l2 x hx) hs) f0 hF
   obtain ⟨⟨g1,g2⟩,g3,g4⟩:=hf
   have e2:r2=stB s b:=by rw [hr2,hF];rfl
   have e3:r3=b:=by rw [hr3,e2];rfl
   have e5:r5 =((bs b).2 != 0 ||(bs b).1.toList != s.toList):=by
    rw [hr5,hr4,e3,e2]
    cases (bs b).2 != 0 <;> rfl
   have eO:GR s (some b)=if r5=true then (Mir.Book.zero,4) else (b,0):=by rw [e5];rfl
   rw [eO,e2,e3]
   refine ⟨⟨⟨?_,?_⟩,g3,g4⟩,fun h5=>?_,fun h5=>?_⟩
   ·show b.Boxes.length≤20000;omega
   ·show b.Strips.length≤20000;omega
   ·rw [if_pos h5];rfl
   ·rw [if_neg (by rw [h5];decide)]
def zx:FuncId×Ctr:=(15,ah KE qPn K3 CI)
theorem Fv:CtrOK Tryz.prog KE 15 (ah KE qPn K3 CI):=by
 refine Ax (C:=cfP) GF (fn:=Tryz.f15) Tryz.func15 (by kernel_rfl) (by kernel_rfl) (by kernel_rfl) (by kernel_rfl) (by kernel_rfl) (by kernel_rfl) ?_
 rintro ⟨s,⟨⟩⟩ hw hn c hc
 have eb:Tryz.f15.body=some bdP:=by kernel_rfl
 have ec:c=bdP:=Option.some.inj (hc.symm.trans eb)
 rw [ec]
 exact ⟨trB (put qPn (s,())),PM _,QV s (hn _ List.mem_cons_self)⟩
end Go.Proofs.YtffdpnmioidloaaGreatDoor
