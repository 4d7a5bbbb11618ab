/- Texts of the mirror and contracts, put together. -/
import Derived.Test.YtffdpnmioidloaaGreatDoorPK5
import Derived.Test.YtffdpnmioidloaaGreatDoorPK2
import Derived.LoopN
namespace Go.Proofs.YtffdpnmioidloaaGreatDoor
open Go Go.Mir Go.RowKit
attribute [local irreducible] Go.Mir.DT.sat Go.Mir.evPat Go.Mir.RT.sat Go.Mir.evFn
def eqL {α:Type} (f:α→α→Bool):List α→List α→Bool
 | [],[]=>true
 | x::a,y::b=>f x y&&eqL f a b
 | _,_=>false
def sS (x y:ByteArray):Bool:=x.toList==y.toList
def bh (x y:Mir.Box):Bool:=x.Over==y.Over&&x.Bowler==y.Bowler&&eqL sS x.Symbols y.Symbols
def aE (x y:Mir.Strip):Bool:=x.Player==y.Player&&x.How==y.How&&x.Bowler==y.Bowler&&eqL sS x.Symbols y.Symbols
def y8 (x y:Mir.Extras):Bool:=x.Wides==y.Wides&&x.NoBalls==y.NoBalls&&x.Byes==y.Byes&&x.LegByes==y.LegByes&&x.Penalties==y.Penalties
def mT (a b:Mir.Book):Bool:=a.Side==b.Side&&y8 a.Extras b.Extras&&a.Total==b.Total&&a.Wickets==b.Wickets&&eqL bh a.Boxes b.Boxes&&eqL aE a.Strips b.Strips
abbrev qS2:Pat:=eQ [.slice .str,.slice .str]
def FS:Den (tyP qS2)→List Prop×Den (tyP bq):=fun x=>([],(eqL sS x.1 x.2.1,()))
abbrev qE0:Pat:=⟨[(0,.h (.slice .str)),(1,.h (.slice .str)),(12,.h I),(13,.h I)],[],0⟩
abbrev xE0:List (Lf×Pat):= [(.ext 0,⟨[],[],0⟩),(.ret,⟨[(4,.h .bool)],[],0⟩)]
abbrev TE0:Type:=List ByteArray×List ByteArray×Int×Int×Unit
def eqO (k:Bool):Sum Unit (Bool×Unit):=if k then .inl () else .inr (false,())
def cC:TE0→Sum Unit (Bool×Unit)
 |(a,b,_,i,_)=>eqO (eqL sS (a.drop i.toNat) (b.drop i.toNat))
def kT:TE0→Prop
 |(a,b,n,i,_)=>(n =(a.length:Int)∧a.length=b.length∧a.length≤aw)∧0≤i∧i≤n
def tY:TE0→Nat
 |(_,_,n,i,_)=>(n - i).toNat
abbrev qB2:Pat:=eQ [.nm .Box,.nm .Box]
def CG:Den (tyP qB2)→List Prop×Den (tyP bq):=fun x=>([],(bh x.1 x.2.1,()))
abbrev qT2:Pat:=eQ [.nm .Strip,.nm .Strip]
def sO:Den (tyP qT2)→List Prop×Den (tyP bq):=fun x=>([],(aE x.1 x.2.1,()))
abbrev qFb (f:Nat):Pat:=⟨[(0,.h Bxs),(1,.h Bxs),(2,.c (.fn f []))],[],0⟩
def O1 (f:Nat):Den (tyP (qFb f))→List Prop×Den (tyP bq):=fun x=>([],(eqL bh x.1 x.2.1,()))
abbrev qE1 (f:Nat):Pat:=⟨[(1,.h Bxs),(2,.c (.fn f [])),(15,.h Bxs),(16,.h I),(17,.h I)],[],0⟩
abbrev xE1:List (Lf×Pat):= [(.ext 0,⟨[],[],0⟩),(.ret,⟨[(6,.h .bool)],[],0⟩)]
abbrev TE1:Type:=List Mir.Box×List Mir.Box×Int×Int×Unit
def jH:TE1→Sum Unit (Bool×Unit)
 |(b,a,_,i,_)=>eqO (eqL bh (a.drop i.toNat) (b.drop i.toNat))
def uT:TE1→Prop
 |(b,a,n,i,_)=>(n =(a.length:Int)∧a.length=b.length∧a.length≤aw)∧0≤i∧i≤n
def HL:TE1→Nat
 |(_,_,n,i,_)=>(n - i).toNat
abbrev qFs (f:Nat):Pat:=⟨[(0,.h Sts),(1,.h Sts),(2,.c (.fn f []))],[],0⟩
def I9 (f:Nat):Den (tyP (qFs f))→List Prop×Den (tyP bq):=fun x=>([],(eqL aE x.1 x.2.1,()))
abbrev qE2 (f:Nat):Pat:=⟨[(1,.h Sts),(2,.c (.fn f [])),(15,.h Sts),(16,.h I),(17,.h I)],[],0⟩
abbrev TE2:Type:=List Mir.Strip×List Mir.Strip×Int×Int×Unit
def jI:TE2→Sum Unit (Bool×Unit)
 |(b,a,_,i,_)=>eqO (eqL aE (a.drop i.toNat) (b.drop i.toNat))
def uU:TE2→Prop
 |(b,a,n,i,_)=>(n =(a.length:Int)∧a.length=b.length∧a.length≤aw)∧0≤i∧i≤n
def HM:TE2→Nat
 |(_,_,n,i,_)=>(n - i).toNat
abbrev qBb:Pat:=eQ [.nm .Book,.nm .Book]
def v7:Den (tyP qBb)→List Prop×Den (tyP bq):=fun x=>([],(mT x.1 x.2.1,()))
abbrev Qk:List (Nat×PB):= [(0,.dat (.nm .Book)),(1,.dat (.nm .Book))]
abbrev qR0:Pat:=⟨[(2,.c (.ptr 0 0)),(3,.c (.ptr 1 0)),(56,.h Bxs),(57,.h I),(58,.h I)],Qk,2⟩
abbrev xR0:List (Lf×Pat):= [(.ext 0,⟨[(2,.c (.ptr 0 0)),(3,.c (.ptr 1 0))],Qk,2⟩),(.ret,⟨[(4,.h .bool)],[],0⟩)]
abbrev TR0:Type:=List Mir.Box×Int×Int×Mir.Book×Mir.Book×Unit
def iT:TR0→Sum (Mir.Book×Mir.Book×Unit) (Bool×Unit)
 |(l,_,i,a,b,_)=>if eqL bh (l.drop i.toNat) (b.Boxes.drop i.toNat) then .inl (a,b,()) else .inr (false,())
def ve:TR0→Prop
 |(l,n,i,_,b,_)=>(n =(l.length:Int)∧l.length=b.Boxes.length∧l.length≤aw)∧0≤i∧i≤n
def H4:TR0→Nat
 |(_,n,i,_)=>(n - i).toNat
abbrev qR1:Pat:=⟨[(3,.c (.ptr 0 0)),(90,.h Sts),(91,.h I),(92,.h I)],[(0,.dat (.nm .Book))],1⟩
abbrev xR1:List (Lf×Pat):= [(.ext 2,⟨[],[],0⟩),(.ret,⟨[(4,.h .bool)],[],0⟩)]
abbrev TR1:Type:=List Mir.Strip×Int×Int×Mir.Book×Unit
def jL:TR1→Sum Unit (Bool×Unit)
 |(l,_,i,b,_)=>eqO (eqL aE (l.drop i.toNat) (b.Strips.drop i.toNat))
def vf:TR1→Prop
 |(l,n,i,b,_)=>(n =(l.length:Int)∧l.length=b.Strips.length∧l.length≤aw)∧0≤i∧i≤n
def H5:TR1→Nat
 |(_,n,i,_)=>(n - i).toNat
theorem JG {n:Nm} {x:n.T} (h:wfD (.nm n) x):wfD n.flds (n.to x):=by
 obtain ⟨S,w,cs,h⟩:=h
 cases h with
 | nm h=>exact ⟨_,_,_,h⟩
theorem ka {α:Type} (f:α→α→Bool) :∀ a b:List α,a.length≠b.length→eqL f a b=false
 | [],[],h=>absurd rfl h
 | [],_::_,_=>rfl
 | _::_,[],_=>rfl
 | x::a,y::b,h=>by
  show (f x y&&eqL f a b)=false
  rw [ka f a b (fun e=>h (by rw [List.length_cons,List.length_cons,e])),Bool.and_false]
theorem lj {α:Type} {f:α→α→Bool} (h :∀ x,f x x=true) :∀ a:List α,eqL f a a=true
 | []=>rfl
 | x::a=>by show (f x x&&eqL f a a)=true;rw [h x,lj h a];rfl
theorem D9 (x:ByteArray):sS x x=true:=by unfold sS;simp
theorem Bp (x:Mir.Box):bh x x=true:=by unfold bh;rw [lj D9];simp
theorem yn (x:Mir.Strip):aE x x=true:=by unfold aE;rw [lj D9];simp
theorem FU (b:Mir.Book):mT b b=true:=by unfold mT y8;rw [lj Bp,lj yn];simp
theorem FT (k e1 e2 e3 e4 e5 t w x y:Bool) :(bif k then bif e1&&(e2&&(e3&&(e4&&(e5&&true)))) then bif t then bif w then bif x then y else false else false else false else false else false) =(k&&(e1&&e2&&e3&&e4&&e5)&&t&&w&&x&&y):=by
 cases k <;> cases t <;> cases w <;> cases x <;> simp [Bool.and_assoc]
theorem Gp (k w x:Bool) :(bif !k then true else bif !w then true else !x)=!(k&&w&&x):=by cases k <;> cases w <;> cases x <;> rfl
theorem CN (k w v x:Bool) :(bif !k then true else bif !w then true else bif !v then true else !x)=!(k&&w&&v&&x):=by cases k <;> cases w <;> cases v <;> cases x <;> rfl
theorem IX (k e1 e2 e3 e4 e5 t w x y:Bool) :(bif !k then true else bif !(e1&&(e2&&(e3&&(e4&&(e5&&true))))) then true else bif !t then true else bif !w then true else bif !x then true else !y)=!(((((k&&(e1&&e2&&e3&&e4&&e5))&&t)&&w)&&x)&&y):=by
 cases k <;> cases t <;> cases w <;> cases x <;> cases y <;> simp [Bool.and_assoc]
noncomputable def lpE0:Lp:=(⟨0,aC [] Tryz.f56,(fun _=>none),(aq Tryz.f56 0),qE0,xE0⟩:Lp)
theorem O9 (a:List ByteArray) (b:List ByteArray) (n:Int) (i:Int) (hi:kT (a,b,n,i,())) :(Go.Mir.stepG lpE0 cC (fun y:Den (tyP lpE0.q)=>kT y∧tY y<tY (a,b,n,i,())) (a,b,n,i,())∧Go.Mir.stepE lpE0 cC (a,b,n,i,())=cC (a,b,n,i,())):=by
 refine cast (by kernel_rfl) (?_:let r1:Bool:=!ByteArray.toList (a.getD i.toNat (dflt Ty.str))==ByteArray.toList (b.getD i.toNat (dflt Ty.str));((decide (i<n)=true→((0:Int)≤i∧i <(↑a.length:Int))∧((0:Int)≤i∧i <(↑b.length:Int))∧(r1=true→True)∧(r1=false→kT (a,b,n,IntKind.i64.wrap (i +(1:Int)),())∧tY (a,b,n,IntKind.i64.wrap (i +(1:Int)),())<tY (a,b,n,i,())))∧(decide (i<n)=false→True))∧(bif decide (i<n) then bif r1 then Sum.inr (false,()) else cC (a,b,n,IntKind.i64.wrap (i +(1:Int)),()) else Sum.inl ())=cC (a,b,n,i,()))
 intro r1
 clear_value (hr1:r1=_)
 obtain ⟨⟨h1,h1b,h1c⟩,h2,h3⟩:=hi
 have h1:n =(a.length:Int):=h1
 have h1b:a.length=b.length:=h1b
 have h1c:a.length≤140737488355328:=h1c
 have h2:0≤i:=h2
 have h3:i≤n:=h3
 by_cases h:i<n
 ·have e1:IntKind.i64.wrap (i+1)=i+1:=wrap64 (by omega) (by omega)
  have da:a.drop i.toNat=a.getD i.toNat (dflt (Ty.str))::a.drop (i+1).toNat:=aL h2 (by omega) _
  have db:b.drop i.toNat=b.getD i.toNat (dflt (Ty.str))::b.drop (i+1).toNat:=aL h2 (by omega) _
  generalize a.getD i.toNat (dflt (Ty.str))=x at *
  generalize b.getD i.toNat (dflt (Ty.str))=z at *
  have er:r1=!sS x z:=hr1
  have key:cC (a,b,n,i,())=bif r1 then .inr (false,()) else cC (a,b,n,i+1,()):=by
   show eqO (eqL sS (a.drop i.toNat) (b.drop i.toNat))=bif r1 then .inr (false,()) else eqO (eqL sS (a.drop (i+1).toNat) (b.drop (i+1).toNat))
   rw [da,db,er]
   have:eqL sS (x::a.drop (i+1).toNat) (z::b.drop (i+1).toNat) =(sS x z&&eqL sS (a.drop (i+1).toNat) (b.drop (i+1).toNat)):=rfl
   rw [this]
   cases sS x z <;> rfl
  rw [decide_eq_true h,e1,key]
  refine ⟨⟨fun _=>⟨⟨h2,by omega⟩,⟨h2,by omega⟩,fun _=>trivial,fun _=>⟨⟨⟨h1,h1b,h1c⟩,?_,?_⟩,?_⟩⟩,fun z=>Bool.noConfusion z⟩,rfl⟩
  ·show 0≤i+1;omega
  ·show i+1≤n;omega
  ·show (n - (i+1)).toNat <(n - i).toNat;omega
 ·rw [decide_eq_false h]
  refine ⟨⟨fun z=>Bool.noConfusion z,fun _=>trivial⟩,?_⟩
  show _=eqO (eqL sS (a.drop i.toNat) (b.drop i.toNat))
  rw [aF (l:=a) (by omega),aF (l:=b) (by omega)]
  rfl
noncomputable def Mv:LoopSum:=ai lpE0 cC kT
noncomputable def LX:Nat:=rid (aq Tryz.f56 0)
theorem NV:LoopOKp Tryz.prog 0 Tryz.f56.ntmps (aq Tryz.f56 0) (ai lpE0 cC kT):=
 az lpE0 (ao (CtrsOK.nil) _) mixed (fun b hb S hS=>by cases hS) cC kT tY (fun |⟨a,b,n,i,⟨⟩⟩,hi=>O9 a b n i hi)
theorem I4 (a:List ByteArray) (b:List ByteArray) (hx:a.length≤aw) :(evPat (aC [] Tryz.f56) (find [(LX,Mv)]) Tryz.f56 qS2 bq (a,b,())).sat fun z_=>z_ =(FS (a,b,())).2:=by
 refine cast (by kernel_rfl) (?_:let r1:Bool:=(↑a.length:Int) !=(↑b.length:Int);let r2:Bool:=isL (cC (a,b,(↑a.length:Int),(0:Int),()));(r1=true→(false,()) =(eqL sS a b,()))∧(r1=false→((c8 fun x=>none)∧((↑a.length:Int) =(↑a.length:Int)∧a.length=b.length∧a.length≤aw)∧(0:Int)≤(0:Int)∧(0:Int)≤(↑a.length:Int))∧(r2=true→(true,()) =(eqL sS a b,()))∧(r2=false→iz (dflt (Ty.bool.prod Ty.unit)) (cC (a,b,(↑a.length:Int),(0:Int),())) =(eqL sS a b,()))))
 intro r1 r2
 clear_value (hr1:r1=_) (hr2:r2=_)
 have er:cC (a,b,(a.length:Int),0,())=eqO (eqL sS a b):=rfl
 rw [er] at hr2 ⊢
 refine ⟨fun h1=>?_,fun h1=>⟨⟨rfl,⟨rfl,?_,hx⟩,Int.le_refl _,by omega⟩,fun h2=>?_,fun h2=>?_⟩⟩
 ·have:a.length≠b.length:=fun e=>by rw [hr1,e] at h1;simp at h1
  rw [ka sS a b this]
 ·have :((a.length:Int) != b.length)=false:=by rw [←hr1];exact h1
  have :(a.length:Int)=b.length:=by simpa using this
  omega
 ·cases he:eqL sS a b with
  | true=>rfl
  | false=>rw [hr2,he] at h2;exact Bool.noConfusion h2
 ·cases he:eqL sS a b with
  | false=>rfl
  | true=>rw [hr2,he] at h2;exact Bool.noConfusion h2
def xB:FuncId×Ctr:=(56,ah KE qS2 bq FS)
theorem DS:CtrOK Tryz.prog KE 56 (ah KE qS2 bq FS):=by
 refine ba (C:=aC [] Tryz.f56) (ao (CtrsOK.nil) _) mixed (fn:=Tryz.f56) Tryz.func56 (by kernel_rfl) (by kernel_rfl) (by kernel_rfl) (by kernel_rfl) (by kernel_rfl) (by kernel_rfl) (Λ:=fun x=>find [(LX,Mv)]) ?_ ?_
 ·rintro ⟨a,b,⟨⟩⟩ hw hn
  exact LoopsOKp.at (by kernel_rfl) (.cons (by kernel_rfl) (NV) .nil)
 ·rintro ⟨a,b,⟨⟩⟩ hw hn
  exact I4 a b (iw (jm hw))
noncomputable def lpW0:Lp:=(⟨0,aC [] Tryz.f60,(fun _=>none),(aq Tryz.f60 0),qE0,xE0⟩:Lp)
theorem Py (a:List ByteArray) (b:List ByteArray) (n:Int) (i:Int) (hi:kT (a,b,n,i,())) :(Go.Mir.stepG lpW0 cC (fun y:Den (tyP lpW0.q)=>kT y∧tY y<tY (a,b,n,i,())) (a,b,n,i,())∧Go.Mir.stepE lpW0 cC (a,b,n,i,())=cC (a,b,n,i,())):=by
 refine cast (by kernel_rfl) (?_:let r1:Bool:=!ByteArray.toList (a.getD i.toNat (dflt Ty.str))==ByteArray.toList (b.getD i.toNat (dflt Ty.str));((decide (i<n)=true→((0:Int)≤i∧i <(↑a.length:Int))∧((0:Int)≤i∧i <(↑b.length:Int))∧(r1=true→True)∧(r1=false→kT (a,b,n,IntKind.i64.wrap (i +(1:Int)),())∧tY (a,b,n,IntKind.i64.wrap (i +(1:Int)),())<tY (a,b,n,i,())))∧(decide (i<n)=false→True))∧(bif decide (i<n) then bif r1 then Sum.inr (false,()) else cC (a,b,n,IntKind.i64.wrap (i +(1:Int)),()) else Sum.inl ())=cC (a,b,n,i,()))
 intro r1
 clear_value (hr1:r1=_)
 obtain ⟨⟨h1,h1b,h1c⟩,h2,h3⟩:=hi
 have h1:n =(a.length:Int):=h1
 have h1b:a.length=b.length:=h1b
 have h1c:a.length≤140737488355328:=h1c
 have h2:0≤i:=h2
 have h3:i≤n:=h3
 by_cases h:i<n
 ·have e1:IntKind.i64.wrap (i+1)=i+1:=wrap64 (by omega) (by omega)
  have da:a.drop i.toNat=a.getD i.toNat (dflt (Ty.str))::a.drop (i+1).toNat:=aL h2 (by omega) _
  have db:b.drop i.toNat=b.getD i.toNat (dflt (Ty.str))::b.drop (i+1).toNat:=aL h2 (by omega) _
  generalize a.getD i.toNat (dflt (Ty.str))=x at *
  generalize b.getD i.toNat (dflt (Ty.str))=z at *
  have er:r1=!sS x z:=hr1
  have key:cC (a,b,n,i,())=bif r1 then .inr (false,()) else cC (a,b,n,i+1,()):=by
   show eqO (eqL sS (a.drop i.toNat) (b.drop i.toNat))=bif r1 then .inr (false,()) else eqO (eqL sS (a.drop (i+1).toNat) (b.drop (i+1).toNat))
   rw [da,db,er]
   have:eqL sS (x::a.drop (i+1).toNat) (z::b.drop (i+1).toNat) =(sS x z&&eqL sS (a.drop (i+1).toNat) (b.drop (i+1).toNat)):=rfl
   rw [this]
   cases sS x z <;> rfl
  rw [decide_eq_true h,e1,key]
  refine ⟨⟨fun _=>⟨⟨h2,by omega⟩,⟨h2,by omega⟩,fun _=>trivial,fun _=>⟨⟨⟨h1,h1b,h1c⟩,?_,?_⟩,?_⟩⟩,fun z=>Bool.noConfusion z⟩,rfl⟩
  ·show 0≤i+1;omega
  ·show i+1≤n;omega
  ·show (n - (i+1)).toNat <(n - i).toNat;omega
 ·rw [decide_eq_false h]
  refine ⟨⟨fun z=>Bool.noConfusion z,fun _=>trivial⟩,?_⟩
  show _=eqO (eqL sS (a.drop i.toNat) (b.drop i.toNat))
  rw [aF (l:=a) (by omega),aF (l:=b) (by omega)]
  rfl
noncomputable def MQ:LoopSum:=ai lpW0 cC kT
noncomputable def Mi:Nat:=rid (aq Tryz.f60 0)
theorem Ol:LoopOKp Tryz.prog 0 Tryz.f60.ntmps (aq Tryz.f60 0) (ai lpW0 cC kT):=
 az lpW0 (ao (CtrsOK.nil) _) mixed (fun b hb S hS=>by cases hS) cC kT tY (fun |⟨a,b,n,i,⟨⟩⟩,hi=>Py a b n i hi)
theorem AQ (a:List ByteArray) (b:List ByteArray) (hx:a.length≤aw) :(evPat (aC [] Tryz.f60) (find [(Mi,MQ)]) Tryz.f60 qS2 bq (a,b,())).sat fun z_=>z_ =(FS (a,b,())).2:=by
 refine cast (by kernel_rfl) (?_:let r1:Bool:=(↑a.length:Int) !=(↑b.length:Int);let r2:Bool:=isL (cC (a,b,(↑a.length:Int),(0:Int),()));(r1=true→(false,()) =(eqL sS a b,()))∧(r1=false→((c8 fun x=>none)∧((↑a.length:Int) =(↑a.length:Int)∧a.length=b.length∧a.length≤aw)∧(0:Int)≤(0:Int)∧(0:Int)≤(↑a.length:Int))∧(r2=true→(true,()) =(eqL sS a b,()))∧(r2=false→iz (dflt (Ty.bool.prod Ty.unit)) (cC (a,b,(↑a.length:Int),(0:Int),())) =(eqL sS a b,()))))
 intro r1 r2
 clear_value (hr1:r1=_) (hr2:r2=_)
 have er:cC (a,b,(a.length:Int),0,())=eqO (eqL sS a b):=rfl
 rw [er] at hr2 ⊢
 refine ⟨fun h1=>?_,fun h1=>⟨⟨rfl,⟨rfl,?_,hx⟩,Int.le_refl _,by omega⟩,fun h2=>?_,fun h2=>?_⟩⟩
 ·have:a.length≠b.length:=fun e=>by rw [hr1,e] at h1;simp at h1
  rw [ka sS a b this]
 ·have :((a.length:Int) != b.length)=false:=by rw [←hr1];exact h1
  have :(a.length:Int)=b.length:=by simpa using this
  omega
 ·cases he:eqL sS a b with
  | true=>rfl
  | false=>rw [hr2,he] at h2;exact Bool.noConfusion h2
 ·cases he:eqL sS a b with
  | false=>rfl
  | true=>rw [hr2,he] at h2;exact Bool.noConfusion h2
def mf:FuncId×Ctr:=(60,ah KE qS2 bq FS)
theorem nC:CtrOK Tryz.prog KE 60 (ah KE qS2 bq FS):=by
 refine ba (C:=aC [] Tryz.f60) (ao (CtrsOK.nil) _) mixed (fn:=Tryz.f60) Tryz.func60 (by kernel_rfl) (by kernel_rfl) (by kernel_rfl) (by kernel_rfl) (by kernel_rfl) (by kernel_rfl) (Λ:=fun x=>find [(Mi,MQ)]) ?_ ?_
 ·rintro ⟨a,b,⟨⟩⟩ hw hn
  exact LoopsOKp.at (by kernel_rfl) (.cons (by kernel_rfl) (Ol) .nil)
 ·rintro ⟨a,b,⟨⟩⟩ hw hn
  exact AQ a b (iw (jm hw))
theorem CB (a:Mir.Box) (b:Mir.Box) :(evPat (aC [xB] Tryz.f55) (fun _=>none) Tryz.f55 qB2 bq (a,b,())).sat fun z_=>z_ =(CG (a,b,())).2:=by
 refine cast (by kernel_rfl) (?_ :(bif a.1==b.1 then bif a.2==b.2 then eqL sS a.3 b.3 else false else false,()) =(bh a b,()))
 show _ =(a.Over==b.Over&&a.Bowler==b.Bowler&&eqL sS a.Symbols b.Symbols,())
 cases a.Over==b.Over <;> cases a.Bowler==b.Bowler <;> rfl
def rR:FuncId×Ctr:=(55,ah KE qB2 bq CG)
theorem vK:CtrOK Tryz.prog KE 55 (ah KE qB2 bq CG):=by
 refine ba (C:=aC [xB] Tryz.f55) (ao (.consU DS rfl .nil) _) mixed (fn:=Tryz.f55) Tryz.func55 (by kernel_rfl) (by kernel_rfl) (by kernel_rfl) (by kernel_rfl) (by kernel_rfl) (by kernel_rfl) (Λ:=fun _ _=>none) ?_ ?_
 ·exact fun _ _ _ _ _ _ _ _ h=>by cases h
 ·rintro ⟨a,b,⟨⟩⟩ hw hn
  exact CB a b
theorem CC (a:Mir.Strip) (b:Mir.Strip) :(evPat (aC [xB] Tryz.f57) (fun _=>none) Tryz.f57 qT2 bq (a,b,())).sat fun z_=>z_ =(sO (a,b,())).2:=by
 refine cast (by kernel_rfl) (?_ :(bif a.1==b.1 then bif a.3==b.3 then bif a.4==b.4 then eqL sS a.2 b.2 else false else false else false,()) =(aE a b,()))
 show _ =(a.Player==b.Player&&a.How==b.How&&a.Bowler==b.Bowler&&eqL sS a.Symbols b.Symbols,())
 cases a.Player==b.Player <;> cases a.How==b.How <;> cases a.Bowler==b.Bowler <;> rfl
def rS:FuncId×Ctr:=(57,ah KE qT2 bq sO)
theorem vL:CtrOK Tryz.prog KE 57 (ah KE qT2 bq sO):=by
 refine ba (C:=aC [xB] Tryz.f57) (ao (.consU DS rfl .nil) _) mixed (fn:=Tryz.f57) Tryz.func57 (by kernel_rfl) (by kernel_rfl) (by kernel_rfl) (by kernel_rfl) (by kernel_rfl) (by kernel_rfl) (Λ:=fun _ _=>none) ?_ ?_
 ·exact fun _ _ _ _ _ _ _ _ h=>by cases h
 ·rintro ⟨a,b,⟨⟩⟩ hw hn
  exact CC a b
noncomputable def lpE1:Lp:=(⟨0,aC [rR] Tryz.f58,(fun _=>none),(aq Tryz.f58 0),(qE1 55),xE1⟩:Lp)
theorem Pa (b:List Mir.Box) (a:List Mir.Box) (n:Int) (i:Int) (hi:uT (b,a,n,i,())) :(Go.Mir.stepG lpE1 jH (fun y:Den (tyP lpE1.q)=>uT y∧HL y<HL (b,a,n,i,())) (b,a,n,i,())∧Go.Mir.stepE lpE1 jH (b,a,n,i,())=jH (b,a,n,i,())):=by
 refine cast (by kernel_rfl) (?_:let r1:Bool:=!bh (a.getD i.toNat (dflt (Ty.nm Nm.Box))) (b.getD i.toNat (dflt (Ty.nm Nm.Box)));((decide (i<n)=true→((0:Int)≤i∧i <(↑a.length:Int))∧((0:Int)≤i∧i <(↑b.length:Int))∧(r1=true→True)∧(r1=false→uT (b,a,n,IntKind.i64.wrap (i +(1:Int)),())∧HL (b,a,n,IntKind.i64.wrap (i +(1:Int)),())<HL (b,a,n,i,())))∧(decide (i<n)=false→True))∧(bif decide (i<n) then bif r1 then Sum.inr (false,()) else jH (b,a,n,IntKind.i64.wrap (i +(1:Int)),()) else Sum.inl ())=jH (b,a,n,i,()))
 intro r1
 clear_value (hr1:r1=_)
 obtain ⟨⟨h1,h1b,h1c⟩,h2,h3⟩:=hi
 have h1:n =(a.length:Int):=h1
 have h1b:a.length=b.length:=h1b
 have h1c:a.length≤140737488355328:=h1c
 have h2:0≤i:=h2
 have h3:i≤n:=h3
 by_cases h:i<n
 ·have e1:IntKind.i64.wrap (i+1)=i+1:=wrap64 (by omega) (by omega)
  have da:a.drop i.toNat=a.getD i.toNat (dflt (Ty.nm Nm.Box))::a.drop (i+1).toNat:=aL h2 (by omega) _
  have db:b.drop i.toNat=b.getD i.toNat (dflt (Ty.nm Nm.Box))::b.drop (i+1).toNat:=aL h2 (by omega) _
  generalize a.getD i.toNat (dflt (Ty.nm Nm.Box))=x at *
  generalize b.getD i.toNat (dflt (Ty.nm Nm.Box))=z at *
  have er:r1=!bh x z:=hr1
  have key:jH (b,a,n,i,())=bif r1 then .inr (false,()) else jH (b,a,n,i+1,()):=by
   show eqO (eqL bh (a.drop i.toNat) (b.drop i.toNat))=bif r1 then .inr (false,()) else eqO (eqL bh (a.drop (i+1).toNat) (b.drop (i+1).toNat))
   rw [da,db,er]
   have:eqL bh (x::a.drop (i+1).toNat) (z::b.drop (i+1).toNat) =(bh x z&&eqL bh (a.drop (i+1).toNat) (b.drop (i+1).toNat)):=rfl
   rw [this]
   cases bh x z <;> rfl
  rw [decide_eq_true h,e1,key]
  refine ⟨⟨fun _=>⟨⟨h2,by omega⟩,⟨h2,by omega⟩,fun _=>trivial,fun _=>⟨⟨⟨h1,h1b,h1c⟩,?_,?_⟩,?_⟩⟩,fun z=>Bool.noConfusion z⟩,rfl⟩
  ·show 0≤i+1;omega
  ·show i+1≤n;omega
  ·show (n - (i+1)).toNat <(n - i).toNat;omega
 ·rw [decide_eq_false h]
  refine ⟨⟨fun z=>Bool.noConfusion z,fun _=>trivial⟩,?_⟩
  show _=eqO (eqL bh (a.drop i.toNat) (b.drop i.toNat))
  rw [aF (l:=a) (by omega),aF (l:=b) (by omega)]
  rfl
noncomputable def Mw:LoopSum:=ai lpE1 jH uT
noncomputable def LY:Nat:=rid (aq Tryz.f58 0)
theorem NW:LoopOKp Tryz.prog 0 Tryz.f58.ntmps (aq Tryz.f58 0) (ai lpE1 jH uT):=
 az lpE1 (ao (.consU vK rfl .nil) _) mixed (fun b hb S hS=>by cases hS) jH uT HL (fun |⟨b,a,n,i,⟨⟩⟩,hi=>Pa b a n i hi)
theorem FI (a:List Mir.Box) (b:List Mir.Box) (hx:a.length≤aw) :(evPat (aC [rR] Tryz.f58) (find [(LY,Mw)]) Tryz.f58 (qFb 55) bq (a,b,())).sat fun z_=>z_ =((O1 55) (a,b,())).2:=by
 refine cast (by kernel_rfl) (?_:let r1:Bool:=(↑a.length:Int) !=(↑b.length:Int);let r2:Bool:=isL (jH (b,a,(↑a.length:Int),(0:Int),()));(r1=true→(false,()) =(eqL bh a b,()))∧(r1=false→((c8 fun x=>none)∧((↑a.length:Int) =(↑a.length:Int)∧a.length=b.length∧a.length≤aw)∧(0:Int)≤(0:Int)∧(0:Int)≤(↑a.length:Int))∧(r2=true→(true,()) =(eqL bh a b,()))∧(r2=false→iz (dflt (Ty.bool.prod Ty.unit)) (jH (b,a,(↑a.length:Int),(0:Int),())) =(eqL bh a b,()))))
 intro r1 r2
 clear_value (hr1:r1=_) (hr2:r2=_)
 have er:jH (b,a,(a.length:Int),0,())=eqO (eqL bh a b):=rfl
 rw [er] at hr2 ⊢
 refine ⟨fun h1=>?_,fun h1=>⟨⟨rfl,⟨rfl,?_,hx⟩,Int.le_refl _,by omega⟩,fun h2=>?_,fun h2=>?_⟩⟩
 ·have:a.length≠b.length:=fun e=>by rw [hr1,e] at h1;simp at h1
  rw [ka bh a b this]
 ·have :((a.length:Int) != b.length)=false:=by rw [←hr1];exact h1
  have :(a.length:Int)=b.length:=by simpa using this
  omega
 ·cases he:eqL bh a b with
  | true=>rfl
  | false=>rw [hr2,he] at h2;exact Bool.noConfusion h2
 ·cases he:eqL bh a b with
  | false=>rfl
  | true=>rw [hr2,he] at h2;exact Bool.noConfusion h2
def Dx:FuncId×Ctr:=(58,ah KE (qFb 55) bq (O1 55))
theorem Ir:CtrOK Tryz.prog KE 58 (ah KE (qFb 55) bq (O1 55)):=by
 refine ba (C:=aC [rR] Tryz.f58) (ao (.consU vK rfl .nil) _) mixed (fn:=Tryz.f58) Tryz.func58 (by kernel_rfl) (by kernel_rfl) (by kernel_rfl) (by kernel_rfl) (by kernel_rfl) (by kernel_rfl) (Λ:=fun x=>find [(LY,Mw)]) ?_ ?_
 ·rintro ⟨a,b,⟨⟩⟩ hw hn
  exact LoopsOKp.at (by kernel_rfl) (.cons (by kernel_rfl) (NW) .nil)
 ·rintro ⟨a,b,⟨⟩⟩ hw hn
  exact FI a b (iw (jm hw))
noncomputable def lpE2:Lp:=(⟨0,aC [rS] Tryz.f59,(fun _=>none),(aq Tryz.f59 0),(qE2 57),xE1⟩:Lp)
theorem Pb (b:List Mir.Strip) (a:List Mir.Strip) (n:Int) (i:Int) (hi:uU (b,a,n,i,())) :(Go.Mir.stepG lpE2 jI (fun y:Den (tyP lpE2.q)=>uU y∧HM y<HM (b,a,n,i,())) (b,a,n,i,())∧Go.Mir.stepE lpE2 jI (b,a,n,i,())=jI (b,a,n,i,())):=by
 refine cast (by kernel_rfl) (?_:let r1:Bool:=!aE (a.getD i.toNat (dflt (Ty.nm Nm.Strip))) (b.getD i.toNat (dflt (Ty.nm Nm.Strip)));((decide (i<n)=true→((0:Int)≤i∧i <(↑a.length:Int))∧((0:Int)≤i∧i <(↑b.length:Int))∧(r1=true→True)∧(r1=false→uU (b,a,n,IntKind.i64.wrap (i +(1:Int)),())∧HM (b,a,n,IntKind.i64.wrap (i +(1:Int)),())<HM (b,a,n,i,())))∧(decide (i<n)=false→True))∧(bif decide (i<n) then bif r1 then Sum.inr (false,()) else jI (b,a,n,IntKind.i64.wrap (i +(1:Int)),()) else Sum.inl ())=jI (b,a,n,i,()))
 intro r1
 clear_value (hr1:r1=_)
 obtain ⟨⟨h1,h1b,h1c⟩,h2,h3⟩:=hi
 have h1:n =(a.length:Int):=h1
 have h1b:a.length=b.length:=h1b
 have h1c:a.length≤140737488355328:=h1c
 have h2:0≤i:=h2
 have h3:i≤n:=h3
 by_cases h:i<n
 ·have e1:IntKind.i64.wrap (i+1)=i+1:=wrap64 (by omega) (by omega)
  have da:a.drop i.toNat=a.getD i.toNat (dflt (Ty.nm Nm.Strip))::a.drop (i+1).toNat:=aL h2 (by omega) _
  have db:b.drop i.toNat=b.getD i.toNat (dflt (Ty.nm Nm.Strip))::b.drop (i+1).toNat:=aL h2 (by omega) _
  generalize a.getD i.toNat (dflt (Ty.nm Nm.Strip))=x at *
  generalize b.getD i.toNat (dflt (Ty.nm Nm.Strip))=z at *
  have er:r1=!aE x z:=hr1
  have key:jI (b,a,n,i,())=bif r1 then .inr (false,()) else jI (b,a,n,i+1,()):=by
   show eqO (eqL aE (a.drop i.toNat) (b.drop i.toNat))=bif r1 then .inr (false,()) else eqO (eqL aE (a.drop (i+1).toNat) (b.drop (i+1).toNat))
   rw [da,db,er]
   have:eqL aE (x::a.drop (i+1).toNat) (z::b.drop (i+1).toNat) =(aE x z&&eqL aE (a.drop (i+1).toNat) (b.drop (i+1).toNat)):=rfl
   rw [this]
   cases aE x z <;> rfl
  rw [decide_eq_true h,e1,key]
  refine ⟨⟨fun _=>⟨⟨h2,by omega⟩,⟨h2,by omega⟩,fun _=>trivial,fun _=>⟨⟨⟨h1,h1b,h1c⟩,?_,?_⟩,?_⟩⟩,fun z=>Bool.noConfusion z⟩,rfl⟩
  ·show 0≤i+1;omega
  ·show i+1≤n;omega
  ·show (n - (i+1)).toNat <(n - i).toNat;omega
 ·rw [decide_eq_false h]
  refine ⟨⟨fun z=>Bool.noConfusion z,fun _=>trivial⟩,?_⟩
  show _=eqO (eqL aE (a.drop i.toNat) (b.drop i.toNat))
  rw [aF (l:=a) (by omega),aF (l:=b) (by omega)]
  rfl
noncomputable def Mx:LoopSum:=ai lpE2 jI uU
noncomputable def LZ:Nat:=rid (aq Tryz.f59 0)
theorem NX:LoopOKp Tryz.prog 0 Tryz.f59.ntmps (aq Tryz.f59 0) (ai lpE2 jI uU):=
 az lpE2 (ao (.consU vL rfl .nil) _) mixed (fun b hb S hS=>by cases hS) jI uU HM (fun |⟨b,a,n,i,⟨⟩⟩,hi=>Pb b a n i hi)
theorem AM (a:List Mir.Strip) (b:List Mir.Strip) (hx:a.length≤aw) :(evPat (aC [rS] Tryz.f59) (find [(LZ,Mx)]) Tryz.f59 (qFs 57) bq (a,b,())).sat fun z_=>z_ =((I9 57) (a,b,())).2:=by
 refine cast (by kernel_rfl) (?_:let r1:Bool:=(↑a.length:Int) !=(↑b.length:Int);let r2:Bool:=isL (jI (b,a,(↑a.length:Int),(0:Int),()));(r1=true→(false,()) =(eqL aE a b,()))∧(r1=false→((c8 fun x=>none)∧((↑a.length:Int) =(↑a.length:Int)∧a.length=b.length∧a.length≤aw)∧(0:Int)≤(0:Int)∧(0:Int)≤(↑a.length:Int))∧(r2=true→(true,()) =(eqL aE a b,()))∧(r2=false→iz (dflt (Ty.bool.prod Ty.unit)) (jI (b,a,(↑a.length:Int),(0:Int),())) =(eqL aE a b,()))))
 intro r1 r2
 clear_value (hr1:r1=_) (hr2:r2=_)
 have er:jI (b,a,(a.length:Int),0,())=eqO (eqL aE a b):=rfl
 rw [er] at hr2 ⊢
 refine ⟨fun h1=>?_,fun h1=>⟨⟨rfl,⟨rfl,?_,hx⟩,Int.le_refl _,by omega⟩,fun h2=>?_,fun h2=>?_⟩⟩
 ·have:a.length≠b.length:=fun e=>by rw [hr1,e] at h1;simp at h1
  rw [ka aE a b this]
 ·have :((a.length:Int) != b.length)=false:=by rw [←hr1];exact h1
  have :(a.length:Int)=b.length:=by simpa using this
  omega
 ·cases he:eqL aE a b with
  | true=>rfl
  | false=>rw [hr2,he] at h2;exact Bool.noConfusion h2
 ·cases he:eqL aE a b with
  | false=>rfl
  | true=>rw [hr2,he] at h2;exact Bool.noConfusion h2
def vq:FuncId×Ctr:=(59,ah KE (qFs 57) bq (I9 57))
theorem B8:CtrOK Tryz.prog KE 59 (ah KE (qFs 57) bq (I9 57)):=by
 refine ba (C:=aC [rS] Tryz.f59) (ao (.consU vL rfl .nil) _) mixed (fn:=Tryz.f59) Tryz.func59 (by kernel_rfl) (by kernel_rfl) (by kernel_rfl) (by kernel_rfl) (by kernel_rfl) (by kernel_rfl) (Λ:=fun x=>find [(LZ,Mx)]) ?_ ?_
 ·rintro ⟨a,b,⟨⟩⟩ hw hn
  exact LoopsOKp.at (by kernel_rfl) (.cons (by kernel_rfl) (NX) .nil)
 ·rintro ⟨a,b,⟨⟩⟩ hw hn
  exact AM a b (iw (jm hw))
theorem FN (a:Mir.Book) (b:Mir.Book) :(evPat (aC [Dx,vq] Tryz.f16) (fun _=>none) Tryz.f16 qBb bq (a,b,())).sat fun z_=>z_ =(v7 (a,b,())).2:=by
 refine cast (by kernel_rfl) (?_ :(bif a.1==b.1 then bif a.4.1==b.4.1&&(a.4.2==b.4.2&&(a.4.3==b.4.3&&(a.4.4==b.4.4&&(a.4.5==b.4.5&&true)))) then bif a.5==b.5 then bif a.6==b.6 then bif eqL bh a.2 b.2 then eqL aE a.3 b.3 else false else false else false else false else false,()) =(mT a b,()))
 show _ =(a.Side==b.Side&&(a.Extras.Wides==b.Extras.Wides&&a.Extras.NoBalls==b.Extras.NoBalls&&a.Extras.Byes==b.Extras.Byes&&a.Extras.LegByes==b.Extras.LegByes&&a.Extras.Penalties==b.Extras.Penalties)&&a.Total==b.Total&&a.Wickets==b.Wickets&&eqL bh a.Boxes b.Boxes&&eqL aE a.Strips b.Strips,())
 rw [←FT]
def Dz:FuncId×Ctr:=(16,ah KE qBb bq v7)
theorem Iz:CtrOK Tryz.prog KE 16 (ah KE qBb bq v7):=by
 refine ba (C:=aC [Dx,vq] Tryz.f16) (ao (.consU Ir rfl (.consU B8 rfl .nil)) _) mixed (fn:=Tryz.f16) Tryz.func16 (by kernel_rfl) (by kernel_rfl) (by kernel_rfl) (by kernel_rfl) (by kernel_rfl) (by kernel_rfl) (Λ:=fun _ _=>none) ?_ ?_
 ·exact fun _ _ _ _ _ _ _ _ h=>by cases h
 ·rintro ⟨a,b,⟨⟩⟩ hw hn
  exact FN a b
noncomputable def lpR0:Lp:=(⟨0,aC [mf] Tryz.f17,(fun _=>none),(aq Tryz.f17 0),qR0,xR0⟩:Lp)
theorem Pt (l:List Mir.Box) (n:Int) (i:Int) (a:Mir.Book) (b:Mir.Book) (hi:ve (l,n,i,a,b,())) :(Go.Mir.stepG lpR0 iT (fun y:Den (tyP lpR0.q)=>ve y∧H4 y<H4 (l,n,i,a,b,())) (l,n,i,a,b,())∧Go.Mir.stepE lpR0 iT (l,n,i,a,b,())=iT (l,n,i,a,b,())):=by
 refine cast (by kernel_rfl) (?_:let r1:Bool:=bif (l.getD i.toNat (dflt (Ty.nm Nm.Box))).1 !=(b.2.getD i.toNat (dflt (Ty.nm Nm.Box))).1 then true else bif (l.getD i.toNat (dflt (Ty.nm Nm.Box))).2 !=(b.2.getD i.toNat (dflt (Ty.nm Nm.Box))).2 then true else !eqL sS (l.getD i.toNat (dflt (Ty.nm Nm.Box))).3 (b.2.getD i.toNat (dflt (Ty.nm Nm.Box))).3;((decide (i<n)=true→((0:Int)≤i∧i <(↑l.length:Int))∧((0:Int)≤i∧i <(↑b.2.length:Int))∧(r1=true→True)∧(r1=false→ve (l,n,IntKind.i64.wrap (i +(1:Int)),a,b,())∧H4 (l,n,IntKind.i64.wrap (i +(1:Int)),a,b,())<H4 (l,n,i,a,b,())))∧(decide (i<n)=false→True))∧(bif decide (i<n) then bif r1 then Sum.inr (false,()) else iT (l,n,IntKind.i64.wrap (i +(1:Int)),a,b,()) else Sum.inl (a,b,()))=iT (l,n,i,a,b,()))
 intro r1
 clear_value (hr1:r1=_)
 obtain ⟨⟨h1,h1b,h1c⟩,h2,h3⟩:=hi
 have h1:n =(l.length:Int):=h1
 have h1b:l.length=b.Boxes.length:=h1b
 have h1c:l.length≤140737488355328:=h1c
 have h2:0≤i:=h2
 have h3:i≤n:=h3
 by_cases h:i<n
 ·have e1:IntKind.i64.wrap (i+1)=i+1:=wrap64 (by omega) (by omega)
  have da:l.drop i.toNat=l.getD i.toNat (dflt (Ty.nm Nm.Box))::l.drop (i+1).toNat:=aL h2 (by omega) _
  have db:b.Boxes.drop i.toNat=b.Boxes.getD i.toNat (dflt (Ty.nm Nm.Box))::b.Boxes.drop (i+1).toNat:=aL h2 (by omega) _
  generalize l.getD i.toNat (dflt (Ty.nm Nm.Box))=x at *
  generalize b.Boxes.getD i.toNat (dflt (Ty.nm Nm.Box))=z at *
  have er:r1=!bh x z:=hr1.trans (Gp _ _ _)
  have key:iT (l,n,i,a,b,())=bif r1 then .inr (false,()) else iT (l,n,i+1,a,b,()):=by
   show (if eqL bh (l.drop i.toNat) (b.Boxes.drop i.toNat) then (Sum.inl (a,b,()):Sum (Mir.Book×Mir.Book×Unit) (Bool×Unit)) else .inr (false,()))=bif r1 then .inr (false,()) else (if eqL bh (l.drop (i+1).toNat) (b.Boxes.drop (i+1).toNat) then (Sum.inl (a,b,()):Sum (Mir.Book×Mir.Book×Unit) (Bool×Unit)) else .inr (false,()))
   rw [da,db,er]
   have:eqL bh (x::l.drop (i+1).toNat) (z::b.Boxes.drop (i+1).toNat) =(bh x z&&eqL bh (l.drop (i+1).toNat) (b.Boxes.drop (i+1).toNat)):=rfl
   rw [this]
   cases bh x z <;> rfl
  rw [decide_eq_true h,e1,key]
  refine ⟨⟨fun _=>⟨⟨h2,by omega⟩,⟨h2,by omega⟩,fun _=>trivial,fun _=>⟨⟨⟨h1,h1b,h1c⟩,?_,?_⟩,?_⟩⟩,fun z=>Bool.noConfusion z⟩,rfl⟩
  ·show 0≤i+1;omega
  ·show i+1≤n;omega
  ·show (n - (i+1)).toNat <(n - i).toNat;omega
 ·rw [decide_eq_false h]
  refine ⟨⟨fun z=>Bool.noConfusion z,fun _=>trivial⟩,?_⟩
  show _ =(if eqL bh (l.drop i.toNat) (b.Boxes.drop i.toNat) then (Sum.inl (a,b,()):Sum (Mir.Book×Mir.Book×Unit) (Bool×Unit)) else .inr (false,()))
  rw [aF (l:=l) (by omega),aF (l:=b.Boxes) (by omega)]
  rfl
noncomputable def MM:LoopSum:=ai lpR0 iT ve
noncomputable def Me:Nat:=rid (aq Tryz.f17 0)
theorem Oh:LoopOKp Tryz.prog 0 Tryz.f17.ntmps (aq Tryz.f17 0) (ai lpR0 iT ve):=
 az lpR0 (ao (.consU nC rfl .nil) _) mixed (fun b hb S hS=>by cases hS) iT ve H4 (fun |⟨l,n,i,a,b,⟨⟩⟩,hi=>Pt l n i a b hi)
noncomputable def lpR1:Lp:=(⟨0,aC [mf] Tryz.f17,(fun _=>none),(aq Tryz.f17 1),qR1,xR1⟩:Lp)
theorem Pu (l:List Mir.Strip) (n:Int) (i:Int) (b:Mir.Book) (hi:vf (l,n,i,b,())) :(Go.Mir.stepG lpR1 jL (fun y:Den (tyP lpR1.q)=>vf y∧H5 y<H5 (l,n,i,b,())) (l,n,i,b,())∧Go.Mir.stepE lpR1 jL (l,n,i,b,())=jL (l,n,i,b,())):=by
 refine cast (by kernel_rfl) (?_:let r1:Bool:=bif (l.getD i.toNat (dflt (Ty.nm Nm.Strip))).1 !=(b.3.getD i.toNat (dflt (Ty.nm Nm.Strip))).1 then true else bif (l.getD i.toNat (dflt (Ty.nm Nm.Strip))).3 !=(b.3.getD i.toNat (dflt (Ty.nm Nm.Strip))).3 then true else bif (l.getD i.toNat (dflt (Ty.nm Nm.Strip))).4 !=(b.3.getD i.toNat (dflt (Ty.nm Nm.Strip))).4 then true else !eqL sS (l.getD i.toNat (dflt (Ty.nm Nm.Strip))).2 (b.3.getD i.toNat (dflt (Ty.nm Nm.Strip))).2;((decide (i<n)=true→((0:Int)≤i∧i <(↑l.length:Int))∧((0:Int)≤i∧i <(↑b.3.length:Int))∧(r1=true→True)∧(r1=false→vf (l,n,IntKind.i64.wrap (i +(1:Int)),b,())∧H5 (l,n,IntKind.i64.wrap (i +(1:Int)),b,())<H5 (l,n,i,b,())))∧(decide (i<n)=false→True))∧(bif decide (i<n) then bif r1 then Sum.inr (false,()) else jL (l,n,IntKind.i64.wrap (i +(1:Int)),b,()) else Sum.inl ())=jL (l,n,i,b,()))
 intro r1
 clear_value (hr1:r1=_)
 obtain ⟨⟨h1,h1b,h1c⟩,h2,h3⟩:=hi
 have h1:n =(l.length:Int):=h1
 have h1b:l.length=b.Strips.length:=h1b
 have h1c:l.length≤140737488355328:=h1c
 have h2:0≤i:=h2
 have h3:i≤n:=h3
 by_cases h:i<n
 ·have e1:IntKind.i64.wrap (i+1)=i+1:=wrap64 (by omega) (by omega)
  have da:l.drop i.toNat=l.getD i.toNat (dflt (Ty.nm Nm.Strip))::l.drop (i+1).toNat:=aL h2 (by omega) _
  have db:b.Strips.drop i.toNat=b.Strips.getD i.toNat (dflt (Ty.nm Nm.Strip))::b.Strips.drop (i+1).toNat:=aL h2 (by omega) _
  generalize l.getD i.toNat (dflt (Ty.nm Nm.Strip))=x at *
  generalize b.Strips.getD i.toNat (dflt (Ty.nm Nm.Strip))=z at *
  have er:r1=!aE x z:=hr1.trans (CN _ _ _ _)
  have key:jL (l,n,i,b,())=bif r1 then .inr (false,()) else jL (l,n,i+1,b,()):=by
   show eqO (eqL aE (l.drop i.toNat) (b.Strips.drop i.toNat))=bif r1 then .inr (false,()) else eqO (eqL aE (l.drop (i+1).toNat) (b.Strips.drop (i+1).toNat))
   rw [da,db,er]
   have:eqL aE (x::l.drop (i+1).toNat) (z::b.Strips.drop (i+1).toNat) =(aE x z&&eqL aE (l.drop (i+1).toNat) (b.Strips.drop (i+1).toNat)):=rfl
   rw [this]
   cases aE x z <;> rfl
  rw [decide_eq_true h,e1,key]
  refine ⟨⟨fun _=>⟨⟨h2,by omega⟩,⟨h2,by omega⟩,fun _=>trivial,fun _=>⟨⟨⟨h1,h1b,h1c⟩,?_,?_⟩,?_⟩⟩,fun z=>Bool.noConfusion z⟩,rfl⟩
  ·show 0≤i+1;omega
  ·show i+1≤n;omega
  ·show (n - (i+1)).toNat <(n - i).toNat;omega
 ·rw [decide_eq_false h]
  refine ⟨⟨fun z=>Bool.noConfusion z,fun _=>trivial⟩,?_⟩
  show _=eqO (eqL aE (l.drop i.toNat) (b.Strips.drop i.toNat))
  rw [aF (l:=l) (by omega),aF (l:=b.Strips) (by omega)]
  rfl
noncomputable def MN:LoopSum:=ai lpR1 jL vf
noncomputable def Mf:Nat:=rid (aq Tryz.f17 1)
theorem Oi:LoopOKp Tryz.prog 0 Tryz.f17.ntmps (aq Tryz.f17 1) (ai lpR1 jL vf):=
 az lpR1 (ao (.consU nC rfl .nil) _) mixed (fun b hb S hS=>by cases hS) jL vf H5 (fun |⟨l,n,i,b,⟨⟩⟩,hi=>Pu l n i b hi)
theorem CD (a:Mir.Book) (b:Mir.Book) (ha:a.Boxes.length≤aw∧a.Strips.length≤aw) :(evPat (aC [mf] Tryz.f17) (find [(Me,MM),(Mf,MN)]) Tryz.f17 qBb bq (a,b,())).sat fun z_=>z_ =(v7 (a,b,())).2:=by
 refine cast (by kernel_rfl) (?_:let r1:Bool:=bif a.1 != b.1 then true else bif !(a.4.1==b.4.1&&(a.4.2==b.4.2&&(a.4.3==b.4.3&&(a.4.4==b.4.4&&(a.4.5==b.4.5&&true))))) then true else bif a.5 != b.5 then true else bif a.6 != b.6 then true else bif (↑a.2.length:Int) !=(↑b.2.length:Int) then true else (↑a.3.length:Int) !=(↑b.3.length:Int);let r2:Bool:=isL (iT (a.2,(↑a.2.length:Int),(0:Int),a,b,()));let r3:Mir.Book×Mir.Book×PUnit:=jc (dflt ((Ty.nm Nm.Book).prod ((Ty.nm Nm.Book).prod Ty.unit))) (iT (a.2,(↑a.2.length:Int),(0:Int),a,b,()));let r4:Int:=(↑r3.1.3.length:Int);let r5:Bool:=isL (jL (r3.1.3,r4,(0:Int),r3.2));(r1=true→(false,()) =(mT a b,()))∧(r1=false→((c8 fun x=>none)∧((↑a.2.length:Int) =(↑a.2.length:Int)∧a.2.length=b.2.length∧a.2.length≤aw)∧(0:Int)≤(0:Int)∧(0:Int)≤(↑a.2.length:Int))∧(r2=true→((c8 fun x=>none)∧(r4 =(↑r3.1.3.length:Int)∧r3.1.3.length=r3.2.1.3.length∧r3.1.3.length≤aw)∧(0:Int)≤(0:Int)∧(0:Int)≤r4)∧(r5=true→(true,()) =(mT a b,()))∧(r5=false→iz (dflt (Ty.bool.prod Ty.unit)) (jL (r3.1.3,r4,(0:Int),r3.2)) =(mT a b,())))∧(r2=false→iz (dflt (Ty.bool.prod Ty.unit)) (iT (a.2,(↑a.2.length:Int),(0:Int),a,b,())) =(mT a b,()))))
 intro r1 r2 r3 r4 r5
 clear_value (hr1:r1=_) (hr2:r2=_) (hr3:r3=_) (hr4:r4=_) (hr5:r5=_)
 obtain ⟨ha1,ha2⟩:=ha
 have er1:r1=!(((((a.Side==b.Side&&y8 a.Extras b.Extras)&&a.Total==b.Total)&&a.Wickets==b.Wickets)&&((a.Boxes.length:Int) ==(b.Boxes.length:Int)))&&((a.Strips.length:Int) ==(b.Strips.length:Int))):=hr1.trans (IX _ _ _ _ _ _ _ _ _ _)
 have eS:mT a b =((((a.Side==b.Side&&y8 a.Extras b.Extras)&&a.Total==b.Total)&&a.Wickets==b.Wickets)&&eqL bh a.Boxes b.Boxes&&eqL aE a.Strips b.Strips):=rfl
 generalize (((a.Side==b.Side&&y8 a.Extras b.Extras)&&a.Total==b.Total)&&a.Wickets==b.Wickets)=H at er1 eS
 clear hr1
 have er0:iT (a.Boxes,(a.Boxes.length:Int),0,a,b,())=if eqL bh a.Boxes b.Boxes then .inl (a,b,()) else .inr (false,()):=rfl
 rw [er0] at hr2 hr3 ⊢
 rw [eS]
 have hl :∀ {x y:Nat},((x:Int) ==(y:Int))=true→x=y:=fun h=>by
  have:=eq_of_beq h
  omega
 have hl' :∀ {x y:Nat},((x:Int) ==(y:Int))=false→x≠y:=fun h e=>by
  subst e
  rw [beq_self_eq_true] at h
  exact Bool.noConfusion h
 refine ⟨fun h1=>?_,fun h1=>?_⟩
 ·have hb :(H&&((a.Boxes.length:Int) ==(b.Boxes.length:Int))&&((a.Strips.length:Int) ==(b.Strips.length:Int)))=false:=by rw [er1,Bool.not_eq_true'] at h1;exact h1
  cases hH:H with
  | false=>rfl
  | true=>
   rw [hH,Bool.true_and] at hb
   rw [Bool.true_and]
   cases hB :(a.Boxes.length:Int) ==(b.Boxes.length:Int) with
   | false=>rw [ka _ _ _ (hl' hB),Bool.false_and]
   | true=>
    rw [hB,Bool.true_and] at hb
    rw [ka aE _ _ (hl' hb),Bool.and_false]
 ·have hb :(H&&((a.Boxes.length:Int) ==(b.Boxes.length:Int))&&((a.Strips.length:Int) ==(b.Strips.length:Int)))=true:=by rw [er1,Bool.not_eq_false'] at h1;exact h1
  rw [Bool.and_eq_true,Bool.and_eq_true] at hb
  obtain ⟨⟨hH,hB⟩,hT⟩:=hb
  rw [hH,Bool.true_and]
  refine ⟨⟨rfl,⟨rfl,hl hB,ha1⟩,Int.le_refl _,by omega⟩,fun h2=>?_,fun h2=>?_⟩
  ·have hE:eqL bh a.Boxes b.Boxes=true:=by
    cases hE:eqL bh a.Boxes b.Boxes with
    | true=>rfl
    | false=>rw [hr2,hE] at h2;exact Bool.noConfusion h2
   have e3:r3 =(a,b,()):=by rw [hr3,hE];rfl
   subst e3
   have er5:jL (a.Strips,r4,0,b,())=eqO (eqL aE a.Strips b.Strips):=rfl
   rw [er5] at hr5 ⊢
   rw [hE,Bool.true_and]
   refine ⟨⟨rfl,⟨hr4,hl hT,ha2⟩,Int.le_refl _,by omega⟩,fun h5=>?_,fun h5=>?_⟩
   ·cases hS:eqL aE a.Strips b.Strips with
    | true=>rfl
    | false=>rw [hr5,hS] at h5;exact Bool.noConfusion h5
   ·cases hS:eqL aE a.Strips b.Strips with
    | false=>rfl
    | true=>rw [hr5,hS] at h5;exact Bool.noConfusion h5
  ·have hE:eqL bh a.Boxes b.Boxes=false:=by
    cases hE:eqL bh a.Boxes b.Boxes with
    | false=>rfl
    | true=>rw [hr2,hE] at h2;exact Bool.noConfusion h2
   rw [hE]
   rfl
def zz:FuncId×Ctr:=(17,ah KE qBb bq v7)
theorem Fx:CtrOK Tryz.prog KE 17 (ah KE qBb bq v7):=by
 refine ba (C:=aC [mf] Tryz.f17) (ao (.consU nC rfl .nil) _) mixed (fn:=Tryz.f17) Tryz.func17 (by kernel_rfl) (by kernel_rfl) (by kernel_rfl) (by kernel_rfl) (by kernel_rfl) (by kernel_rfl) (Λ:=fun x=>find [(Me,MM),(Mf,MN)]) ?_ ?_
 ·rintro ⟨a,b,⟨⟩⟩ hw hn
  exact LoopsOKp.at (by kernel_rfl) (.cons (by kernel_rfl) (Oh) (.cons (by kernel_rfl) (Oi) .nil))
 ·rintro ⟨a,b,⟨⟩⟩ hw hn
  exact CD a b ⟨iw (jm (CW (JG (jm hw)))),iw (jm (CW (CW (JG (jm hw)))))⟩
end Go.Proofs.YtffdpnmioidloaaGreatDoor
namespace Go.Mir
open Go.RowKit
inductive Rn (γ:Type) where
 | ok (r:γ)
 | no (w:List Nat)
inductive Tri (α:Type) where
 | lf
 | nd (l:Tri α) (v:Option α) (r:Tri α)
def Tri.get {α:Type} (t:Tri α):Nat→Option α:=
 match t with
 | .lf=>fun _=>none
 | .nd l v r=>fun k=>Nat.casesOn (motive:=fun _=>Option α) k v fun k=>Bool.casesOn (motive:=fun _=>Option α) (Nat.beq (Nat.mod k 2) 0) (r.get (Nat.div k 2)) (l.get (Nat.div k 2))
def IntKind.eqb (a b:IntKind):Bool:=decide (a=b)
mutual
def V.eqb:V→V→Bool
 | .any,.any=>true
 | .int k n,.int k' n'=>decide (k=k')&&decide (n=n')
 | .bool a,.bool b=>decide (a=b)
 | .kb a,.kb b=>decide (a=b)
 | .str s,.str t=>decide (s.data.toList=t.data.toList)
 | .nilptr,.nilptr=>true
 | .ptr h o,.ptr h' o'=>Nat.beq h h'&&Nat.beq o o'
 | .nilsl,.nilsl=>true
 | .esl,.esl=>true
 | .gsl h v e o l,.gsl h' v' e' o' l'=>Nat.beq h h'&&Nat.beq v v'&&Nat.beq e e'&&Nat.beq o o'&&Nat.beq l l'
 | .gp h v o,.gp h' v' o'=>Nat.beq h h'&&Nat.beq v v'&&Nat.beq o o'
 | .mpv h,.mpv h'=>Nat.beq h h'
 | .nilfn,.nilfn=>true
 | .nilmap,.nilmap=>true
 | .fn f cs,.fn f' cs'=>Nat.beq f f'&&yZ cs cs'
 | .agg cs,.agg cs'=>yZ cs cs'
 | .tup cs,.tup cs'=>yZ cs cs'
 | _,_=>false
def yZ:List V→List V→Bool
 | [],[]=>true
 | x::xs,y::ys=>V.eqb x y&&yZ xs ys
 | _,_=>false
end
mutual
theorem V.eqb_eq :∀ (x y:V),V.eqb x y=true→x=y
 | .any,y,h=>by cases y <;> simp_all [V.eqb]
 | .int k n,y,h=>by cases y <;> simp_all [V.eqb]
 | .bool _,y,h=>by cases y <;> simp_all [V.eqb]
 | .kb _,y,h=>by cases y <;> simp_all [V.eqb]
 | .hint _ _,y,h=>by cases y <;> simp [V.eqb] at h
 | .str s,y,h=>by
  cases y <;> simp only [V.eqb,Bool.false_eq_true,decide_eq_true_eq] at h
  rename_i t
  have:s=t:=ByteArray.ext (Array.toList_inj.1 h)
  rw [this]
 | .nilptr,y,h=>by cases y <;> simp_all [V.eqb]
 | .ptr _ _,y,h=>by cases y <;> simp_all [V.eqb]
 | .fp _ _ _ _,y,h=>by cases y <;> simp [V.eqb] at h
 | .rp _ _ _ _,y,h=>by cases y <;> simp [V.eqb] at h
 | .nilsl,y,h=>by cases y <;> simp_all [V.eqb]
 | .esl,y,h=>by cases y <;> simp_all [V.eqb]
 | .osl _ _,y,h=>by cases y <;> simp [V.eqb] at h
 | .fsl _ _,y,h=>by cases y <;> simp [V.eqb] at h
 | .gsl _ _ _ _ _,y,h=>by cases y <;> simp_all [V.eqb]
 | .gp _ _ _,y,h=>by cases y <;> simp_all [V.eqb]
 | .mpv _,y,h=>by cases y <;> simp_all [V.eqb]
 | .av _ _,y,h=>by cases y <;> simp [V.eqb] at h
 | .nilfn,y,h=>by cases y <;> simp_all [V.eqb]
 | .nilmap,y,h=>by cases y <;> simp_all [V.eqb]
 | .fn f cs,y,h=>by
  cases y <;> simp only [V.eqb,Bool.false_eq_true,Bool.and_eq_true,Nat.beq_eq] at h
  rw [h.1,qo _ _ h.2]
 | .agg cs,y,h=>by
  cases y <;> simp only [V.eqb,Bool.false_eq_true] at h
  rw [qo _ _ h]
 | .tup cs,y,h=>by
  cases y <;> simp only [V.eqb,Bool.false_eq_true] at h
  rw [qo _ _ h]
theorem qo :∀ (xs ys:List V),yZ xs ys=true→xs=ys
 | [],[],_=>rfl
 | [],_::_,h=>by simp [yZ] at h
 | _::_,[],h=>by simp [yZ] at h
 | x::xs,y::ys,h=>by
  simp only [yZ,Bool.and_eq_true] at h
  rw [V.eqb_eq _ _ h.1,qo _ _ h.2]
end
def E7:List (V×V)→List (V×V)→Bool
 | [],[]=>true
 |(a,b)::xs,(c,d)::ys=>V.eqb a c&&V.eqb b d&&E7 xs ys
 | _,_=>false
theorem Dc :∀ (xs ys:List (V×V)),E7 xs ys=true→xs=ys
 | [],[],_=>rfl
 | [],_::_,h=>by simp [E7] at h
 | _::_,[],h=>by simp [E7] at h
 |(a,b)::xs,(c,d)::ys,h=>by
  simp only [E7,Bool.and_eq_true] at h
  rw [V.eqb_eq _ _ h.1.1,V.eqb_eq _ _ h.1.2,Dc _ _ h.2]
end Go.Mir
namespace Go.Mir
open Go.RowKit
variable {P:Program}
def Ob.chk:Ob→Bool
 | .rng n len=>decide (0≤n)&&decide (n <(len:Int))
 | .sub l h len=>decide (0≤l)&&decide (l≤h)&&decide (h≤(len:Int))
 | .mk n c=>decide (0≤n)&&decide (c=n)&&decide (n≤17179869184)
 | .mkc n c=>decide (0≤n)&&decide (n≤c)&&decide (c≤17179869184)
 | .ne0 n=>!decide (n=0)
 | .leN a b=>Nat.ble a b
 | .prop _=>false
theorem Ob.chk_holds :∀ {p:Ob},p.chk=true→p.holds
 | .rng n len,h=>by simpa [Ob.chk,Ob.holds] using h
 | .sub l h len,hh=>by simp only [Ob.chk,Bool.and_eq_true,decide_eq_true_eq] at hh;exact ⟨hh.1.1,hh.1.2,hh.2⟩
 | .mk n c,h=>by simp only [Ob.chk,Bool.and_eq_true,decide_eq_true_eq] at h;exact ⟨h.1.1,h.1.2,h.2⟩
 | .mkc n c,h=>by simp only [Ob.chk,Bool.and_eq_true,decide_eq_true_eq] at h;exact ⟨h.1.1,h.1.2,h.2⟩
 | .ne0 n,h=>by simpa [Ob.chk,Ob.holds] using h
 | .leN a b,h=>Nat.le_of_ble_eq_true h
def LR (t:Tri V) (i:Nat):V:=Option.casesOn (motive:=fun _=>V) (t.get i) .any fun v=>v
def jl:V→V
 | .bool b=> .kb b
 | v=>v
structure RS where
 tm:Tri V
 hp:Tri Blk
 nx:Nat
abbrev F9:=FuncId→List V→Tri Blk→Nat→Rn (V×Tri Blk×Nat)
def lQ (r:Res):Option (List Ob×V×List (Nat×Blk)):=match r with
 | .val ps v dh=>some (ps,v,dh)
 | _=>none
abbrev R1:=Option (List Ob×V×List (Nat×Blk))
def Ct (tb:Tbl) (H:au) (ev:Operand→V) (t:TypeId) (a x:Operand):R1:=match tb t with
 | some td=>match cL td H (ev a) (ev x) with
  | .skip ps dh=>some (ps,.tup [],dh)
  | _=>none
 | none=>none
def vW (ev:Operand→V) (x:Operand):R1:=some ([],ev x,[])
def LV (ev:Operand→V) (c a b:Operand):R1:=lQ (oW (ev c) (ev a) (ev b))
def Co (tb:Tbl) (m:Nat) (t:TypeId):R1:=match tb t with|some td=>some ([],.ptr m 0,[(m,.cells td.zero)])|none=>none
def OV (m:Nat) (ev:Operand→V) (x:Operand):R1:=match cellsOf (ev x) with|some cs=>some ([],.ptr m 0,[(m,.cells cs)])|none=>none
def Cp (tb:Tbl) (ev:Operand→V) (t:TypeId) (parts:Array (Nat×Operand)):R1:=match tb t with|some td=>lQ (l8 tb td (parts.toList.map fun p=>(p.1,ev p.2)))|none=>none
def lP (tb:Tbl) (m:Nat) (H:au) (ev:Operand→V) (t:TypeId) (n:Nat) (parts:Array (Nat×Operand)):R1:=match tb t with|some td=>lQ (cO tb td H m n (parts.toList.map fun p=>(p.1,ev p.2)))|none=>none
def IU (tb:Tbl) (H:au) (ev:Operand→V) (t:TypeId) (a:Operand):R1:=match tb t with|some td=>lQ (eU td H (ev a))|none=>none
def QJ (ev:Operand→V) (x:Operand):R1:=lQ (y7 (ev x))
def OU (tb:Tbl) (ev:Operand→V) (op:BinOp) (t:TypeId) (x y:Operand):R1:=match tb t with|some td=>lQ (fh td op (ev x) (ev y))|none=>none
def rUn (ev:Operand→V) (op:UnOp) (x:Operand):R1:=lQ (GU op (ev x))
def IQ (tb:Tbl) (m:Nat) (ev:Operand→V) (s d:TypeId) (x:Operand):R1:=match tb s,tb d with|some ts,some td=>lQ (qq tb ts td m (ev x))|_,_=>none
def bV:List V→Bool
 | []=>true
 | .ptr _ _::_=>true
 | _=>false
theorem Cj {asz caps:List V} (h:bV caps=true):oX asz caps=some (asz++caps):=by
 cases caps with
 | nil=>simp [oX]
 | cons c cs=>cases c <;> simp only [bV,Bool.false_eq_true] at h;rfl
theorem Ck {f:FuncId} {caps:List V} (h:bV caps=true):oU f [] caps = .val [] (.fn f caps) []:=by
 cases caps with
 | nil=>rfl
 | cons c cs=>cases c <;> simp only [bV,Bool.false_eq_true] at h;rfl
theorem IJ {E:Env} {f:FuncId} {caps:List V} {l:Array Value} (h:bV caps=true) (hl:ab E caps l.toList):fnV f l = .func (.func f) #[] l:=by
 obtain ⟨l⟩:=l
 cases caps with
 | nil=>cases l with
  | nil=>rfl
  | cons=>simp [ab] at hl
 | cons c cs=>
  cases c <;> simp only [bV,Bool.false_eq_true] at h
  cases l with
  | nil=>simp [ab] at hl
  | cons v vs=>
   simp only [ab,aa] at hl
   obtain ⟨⟨_,⟨a,rfl⟩,_⟩,_⟩:=hl
   rfl
def IR (ev:Operand→V) (fn:Fn) (first caps:Array Operand):R1:=match fn with
 | .func f=>lQ (oU f (first.toList.map ev) (caps.toList.map ev))
 | _=>none
def IV (tb:Tbl) (m:Nat) (H:au) (ev:Operand→V) (t:TypeId) (l c:Operand):R1:=match tb t with|some td=>lQ (gm tb td H m (ev l) (ev c))|none=>none
def Cs (tb:Tbl) (H:au) (ev:Operand→V) (t:TypeId) (x:Operand) (lo hi mx:Option Operand):R1:=match tb t with|some td=>lQ (eV tb td H (ev x) (lo.map ev) (hi.map ev) (mx.map ev))|none=>none
def Cq (tb:Tbl) (ev:Operand→V) (t:TypeId) (x:Operand) (f:Nat):R1:=match tb t with|some td=>lQ (jx tb td (ev x) f)|none=>none
def xY (tb:Tbl) (ev:Operand→V) (t:TypeId) (x:Operand) (f:Nat):R1:=match tb t with|some td=>lQ (gH tb td (ev x) f)|none=>none
def Cr (tb:Tbl) (H:au) (ev:Operand→V) (t:TypeId) (x i:Operand):R1:=match tb t with|some td=>lQ (dv tb td H (ev x) (ev i))|none=>none
def IT (tb:Tbl) (ev:Operand→V) (t:TypeId) (x i:Operand):R1:=match tb t with|some td=>lQ (lp tb td (ev x) (ev i))|none=>none
def AH (ev:Operand→V) (t:Operand) (i:Nat):R1:=lQ (l9 (ev t) i)
theorem FX {td:TD} {H:au} {a x:V} {ps:List Ob} {dh:List (Nat×Blk)} (h:cL td H a x = .skip ps dh):eY td H a x = .skip ps dh:=by
 unfold eY
 split
 ·rw [h]
 ·exact h
def re (tb:Tbl) (N m:Nat) (H:au) (ev:Operand→V) (op:Op):R1:=match op with
 | .store t a x=>Ct tb H ev t a x
 | .move x=>vW ev x
 | .assign x=>vW ev x
 | .pick c a b=>LV ev c a b
 | .alloc t=>Co tb m t
 | .box _ x=>OV m ev x
 | .build t parts=>Cp tb ev t parts
 | .buildSlice t n parts=>lP tb m H ev t n parts
 | .load t a=>IU tb H ev t a
 | .nilCheck x=>QJ ev x
 | .binOp op t x y _=>OU tb ev op t x y
 | .unOp op _ x=>rUn ev op x
 | .convert s d x=>IQ tb m ev s d x
 | .makeFunc fn first caps=>IR ev fn first caps
 | .makeSlice t l c=>IV tb m H ev t l c
 | .slice t x lo hi mx=>Cs tb H ev t x lo hi mx
 | .fieldAddr t x f=>Cq tb ev t x f
 | .field t x f=>xY tb ev t x f
 | .indexAddr t x i=>Cr tb H ev t x i
 | .index t x i=>IT tb ev t x i
 | .extract t i=>AH ev t i
 | op=>aA ⟨tb,fun _=>none,1,N⟩ m H ev op
theorem oS (tb:Tbl) (N m:Nat) (H:au) (ev:Operand→V) (op:Op) {q:List Ob×V×List (Nat×Blk)} (h:re tb N m H ev op=some q):aA ⟨tb,fun _=>none,1,N⟩ m H ev op=some q:=by
 have key :∀ {r:Res},lQ r=some q→(match r with | .val ps v dh=>some (ps,v,dh)|_=>none:R1)=some q:=fun {r} h=>by cases r <;> first|exact h|cases h
 cases op <;> simp only [re] at h <;> simp only [aA,bW,bO]
 case store t a x=>simp only [Ct] at h;cases ht:tb t <;> rw [ht] at h <;> simp only [reduceCtorEq] at h ⊢;cases hs:cL _ H (ev a) (ev x) <;> rw [hs] at h <;> simp only [reduceCtorEq] at h ⊢;rw [FX hs];exact h
 case move=>simpa [vW] using h
 case assign=>simpa [vW] using h
 case pick=>exact key h
 case alloc t=>simp only [Co] at h;cases ht:tb t <;> rw [ht] at h <;> simp only [reduceCtorEq] at h ⊢;exact h
 case box t x=>simp only [OV] at h;cases ht:cellsOf (ev x) <;> rw [ht] at h <;> simp only [reduceCtorEq] at h ⊢;exact h
 case build t parts=>simp only [Cp] at h;cases ht:tb t <;> rw [ht] at h <;> simp only [reduceCtorEq] at h ⊢;exact key h
 case buildSlice t n parts=>simp only [lP] at h;cases ht:tb t <;> rw [ht] at h <;> simp only [reduceCtorEq] at h ⊢;exact key h
 case load t a=>simp only [IU] at h;cases ht:tb t <;> rw [ht] at h <;> simp only [reduceCtorEq] at h ⊢;exact key h
 case nilCheck=>exact key h
 case binOp o t x y t2=>simp only [OU] at h;cases ht:tb t <;> rw [ht] at h <;> simp only [reduceCtorEq] at h ⊢;exact key h
 case unOp=>exact key h
 case convert s d x=>
  simp only [IQ] at h
  cases ht:tb s with
  | none=>rw [ht] at h;cases h
  | some ts=>
   rw [ht] at h
   cases ht2:tb d with
   | none=>rw [ht2] at h;cases h
   | some td=>rw [ht2] at h;exact key h
 case makeFunc fn first caps=>
  cases fn <;> simp only [IR,reduceCtorEq] at h
  exact key h
 case makeSlice t l c=>simp only [IV] at h;cases ht:tb t <;> rw [ht] at h <;> simp only [reduceCtorEq] at h ⊢;exact key h
 case slice t x lo hi mx=>simp only [Cs] at h;cases ht:tb t <;> rw [ht] at h <;> simp only [reduceCtorEq] at h ⊢;exact key h
 case fieldAddr t x f=>simp only [Cq] at h;cases ht:tb t <;> rw [ht] at h <;> simp only [reduceCtorEq] at h ⊢;exact key h
 case field t x f=>simp only [xY] at h;cases ht:tb t <;> rw [ht] at h <;> simp only [reduceCtorEq] at h ⊢;exact key h
 case indexAddr t x i=>simp only [Cr] at h;cases ht:tb t <;> rw [ht] at h <;> simp only [reduceCtorEq] at h ⊢;exact key h
 case index t x i=>simp only [IT] at h;cases ht:tb t <;> rw [ht] at h <;> simp only [reduceCtorEq] at h ⊢;exact key h
 case extract=>exact key h
 all_goals (simp only [aA,bW,bO] at h;exact h)
inductive Act1 where
 | plain (r:R1)
 | call (g:FuncId) (args:List V)
def GB (tb:Tbl) (N m:Nat) (H:au) (ev:Operand→V) (c:Call):Act1:=match c.callee with
 | .value f=>match ev f with
  | .fn g caps=>bif bV caps then .call g (c.args.toList.map ev++caps) else .plain none
  | _=> .plain none
 | _=> .plain (aA ⟨tb,fun _=>none,1,N⟩ m H ev (.call c))
def evA (tb:Tbl) (N m:Nat) (H:au) (ev:Operand→V) (op:Op):Act1:=match op with
 | .call c=>GB tb N m H ev c
 | .store t a x=> .plain (Ct tb H ev t a x)
 | .move x=> .plain (vW ev x)
 | .assign x=> .plain (vW ev x)
 | .pick c a b=> .plain (LV ev c a b)
 | .alloc t=> .plain (Co tb m t)
 | .box _ x=> .plain (OV m ev x)
 | .build t parts=> .plain (Cp tb ev t parts)
 | .buildSlice t n parts=> .plain (lP tb m H ev t n parts)
 | .load t a=> .plain (IU tb H ev t a)
 | .nilCheck x=> .plain (QJ ev x)
 | .binOp op t x y _=> .plain (OU tb ev op t x y)
 | .unOp op _ x=> .plain (rUn ev op x)
 | .convert s d x=> .plain (IQ tb m ev s d x)
 | .makeFunc fn first caps=> .plain (IR ev fn first caps)
 | .makeSlice t l c=> .plain (IV tb m H ev t l c)
 | .slice t x lo hi mx=> .plain (Cs tb H ev t x lo hi mx)
 | .fieldAddr t x f=> .plain (Cq tb ev t x f)
 | .field t x f=> .plain (xY tb ev t x f)
 | .indexAddr t x i=> .plain (Cr tb H ev t x i)
 | .index t x i=> .plain (IT tb ev t x i)
 | .extract t i=> .plain (AH ev t i)
 | op=> .plain (aA ⟨tb,fun _=>none,1,N⟩ m H ev op)
theorem E8 (tb:Tbl) (N m:Nat) (H:au) (ev:Operand→V) (op:Op) {q:List Ob×V×List (Nat×Blk)} (h:evA tb N m H ev op = .plain (some q)):aA ⟨tb,fun _=>none,1,N⟩ m H ev op=some q:=by
 cases op
 case call c=>
  simp only [evA,GB] at h
  split at h
  ·split at h
   ·rename_i caps _
    cases hb:bV caps with
    | true=>rw [hb] at h;cases h
    | false=>rw [hb] at h;cases h
   ·cases h
  ·exact Act1.plain.inj h
 all_goals (exact oS tb N m H ev _ (Act1.plain.inj h))
theorem GT (tb:Tbl) (N m:Nat) (H:au) (ev:Operand→V) (op:Op) {g:FuncId} {args:List V} (h:evA tb N m H ev op = .call g args) :∃ c f caps,op = .call c∧c.callee = .value f∧ev f = .fn g caps∧args=c.args.toList.map ev++caps∧bV caps=true:=by
 cases op
 case call c=>
  simp only [evA,GB] at h
  split at h
  ·rename_i f hf
   split at h
   ·rename_i g' caps he
    cases hb:bV caps with
    | false=>rw [hb] at h;cases h
    | true=>
     rw [hb] at h
     cases h
     exact ⟨c,f,caps,rfl,hf,he,rfl,hb⟩
   ·cases h
  ·cases h
 all_goals (cases h)
def LS (ps:List Ob):Bool:=List.casesOn (motive:=fun _=>Bool) ps true fun _ _=>ps.all Ob.chk
def GO (N:Nat) (ops:List Oper):Bool:=ops.all fun o=>dstIn N o.dst
def lS (tb:Tbl) (tm:Tri V) (hp:Tri Blk):ResultVar→Option V
 | .tmp t=>some (LR tm t)
 | .cell a t=>match tb t with
  | some td=>match kf td hp.get (LR tm a) with
   | .val _ v _=>some v
   | _=>none
  | none=>none
end Go.Mir
namespace Go.Mir
open Go.RowKit
variable {P:Program}
inductive DoesV (C:Cfg) (alt:Option (Nat×(Blk→Bool))) (all:List Oper) (tm:List (Nat×V)) (H:au) (m:Nat) (o:Oper):Rec→Prop
 | old {r:Rec}:Does C true all tm H m o r→DoesV C alt all tm H m o r
 | dir {ps:List Ob} {v v':V} {dh:List (Nat×Blk)} {R:List Nat}:dstIn C.N o.dst=true→fa all tm o=some true→aA C m H (aX (aj all o) tm) o.op=some (ps,v,dh)→
   (∀ H2:au,(∀ h∈R,H2 h=H h)→(∀ h0 okB,alt=some (h0,okB)→H2 h0=H h0∨∃ b,H2 h0=some b∧okB b=true)→aA C m H2 (aX (aj all o) tm) o.op=aA C m H (aX (aj all o) tm) o.op)→(∀ p∈ps,p.holds)→
   (v'=v∨∃ b,v = .bool b∧v' = .kb b)→DoesV C alt all tm H m o ⟨o.dst,v',dh,R,aj all o⟩
theorem DoesV.dstIn {C:Cfg} {alt:Option (Nat×(Blk→Bool))} {all:List Oper} {tm:List (Nat×V)} {H:au} {m:Nat} {o:Oper} {r:Rec} (h:DoesV C alt all tm H m o r):dstIn C.N o.dst=true∧r.dst=o.dst∧r.rs=aj all o:=by
 cases h with
 | old h=>exact h.dstIn
 | dir h _ _ _ _ _=>exact ⟨h,rfl,rfl⟩
inductive RunV (Cf:Nat→Cfg) (lo:Nat→Nat) (al:Nat→Option (Nat×(Blk→Bool))) (all:List Oper) (st:St):Nat→List Oper→Dl→List Rec→Dl→List Rec→Prop
 | nil {i:Nat} {d:Dl} {recs:List Rec}:RunV Cf lo al all st i [] d recs d recs
 | cons {i:Nat} {o:Oper} {rest:List Oper} {d:Dl} {recs:List Rec} {r:Rec} {df:Dl} {rf:List Rec}:DoesV (Cf i) (al i) all (d.tm++st.tm) (ak st.H d.hp) (lo i) o r→
   RunV Cf lo al all st (i+1) rest ⟨ca r.dst r.v++d.tm,r.dh++d.hp⟩ (recs++[r]) df rf→RunV Cf lo al all st i (o::rest) d recs df rf
theorem vZ {Cf:Nat→Cfg} {lo:Nat→Nat} {al:Nat→Option (Nat×(Blk→Bool))} {all:List Oper} {st:St} :∀ (rest:List Oper) (i:Nat) (d:Dl) (recs:List Rec) (df:Dl) (rf:List Rec),RunV Cf lo al all st i rest d recs df rf→recs.length=i→
  find (d.tm++st.tm) =(recs.map dY).foldl c7 (find st.tm)→ak st.H d.hp =(recs.map Rec.dh).foldl c7 st.H→
  (∃ more,rf=recs++more∧more.length=rest.length)∧find (df.tm++st.tm) =(rf.map dY).foldl c7 (find st.tm)∧ak st.H df.hp =(rf.map Rec.dh).foldl c7 st.H∧
  ∀ j o,rest[j]?=some o→∃ r tm H,rf[i+j]?=some r∧DoesV (Cf (i+j)) (al (i+j)) all tm H (lo (i+j)) o r∧find tm =((rf.take (i+j)).map dY).foldl c7 (find st.tm)∧H =((rf.take (i+j)).map Rec.dh).foldl c7 st.H
 | [],i,d,recs,df,rf,hr,hl,h1,h2=>by
  cases hr
  exact ⟨⟨[],by simp,rfl⟩,h1,h2,fun j o h=>by simp at h⟩
 | o::rest,i,d,recs,df,rf,hr,hl,h1,h2=>by
  cases hr with
  | @cons _ _ _ _ _ r _ _ hdo hrun=>
   obtain ⟨⟨more,e1,e2⟩,g1,g2,g3⟩:=vZ rest (i+1) _ _ _ _ hrun (by simp [hl])
    (by rw [List.append_assoc,uO,h1];simp [dY]) (by rw [bF,h2];simp [me])
   refine ⟨⟨r::more,by rw [e1];simp,by simp [e2]⟩,g1,g2,fun j o' hj=>?_⟩
   cases j with
   | zero=>
    simp only [List.getElem?_cons_zero,Option.some.injEq] at hj
    subst hj
    have et:rf.take i=recs:=by rw [e1,List.append_assoc,List.take_append_of_le_length (by omega),List.take_of_length_le (by omega)]
    refine ⟨r,_,_,?_,hdo,?_,?_⟩
    ·rw [e1,Nat.add_zero,List.append_assoc,List.getElem?_append_right (by omega)]
     simp [hl]
    ·rw [Nat.add_zero,et];exact h1
    ·rw [Nat.add_zero,et];exact h2
   | succ j=>
    obtain ⟨r',tm,H,k1,k2,k3,k4⟩:=g3 j o' (by simpa using hj)
    rw [show i+1+j=i +(j+1) by omega] at k1 k2 k3 k4
    exact ⟨r',tm,H,k1,k2,k3,k4⟩
structure InvV (Cf:Nat→Cfg) (lo:Nat→Nat) (N:Nat) (B:Base) (E0:Env) (st:St) (rf:List Rec) (L:Nat→Bool) (a:Act) (w:World):Prop where
 ex :∃ E,HRel B E∧E.w=w∧Ext E0 E∧E.H=bJ L st.H 0 (rf.map Rec.dh)∧(∀ n,E.U n→E0.U n∨∃ i,i<rf.length∧L i=true∧lo i≤n∧n<lo i +(Cf i).K)∧dt E (bJ L (find st.tm) 0 (rf.map dY)) a
 size:a.tmps.size=N
 defers:a.defers=[]
theorem AW {L L':Nat→Bool} {k:Nat} {okB:Blk→Bool} :∀ (us:List (List (Nat×Blk))) (i:Nat) (f f':Nat→Option Blk),(f k=f' k∨∃ b,f k=some b∧okB b=true)→
  (∀ j u,us[j]?=some u→find u k≠none→L (i+j)=L' (i+j)∨(L' (i+j)=false∧∀ b,find u k=some b→okB b=true))→bJ L f i us k=bJ L' f' i us k∨∃ b,bJ L f i us k=some b∧okB b=true
 | [],_,_,_,h,_=>h
 | u::us,i,f,f',h,hu=>by
  unfold bJ
  refine AW us (i+1) _ _ ?_ (fun j u' hj hf=>by
   have:=hu (j+1) u' (by simpa using hj) hf
   rwa [show i +(j+1)=i+1+j by omega] at this)
  cases hf:find u k with
  | none=>
   have e1 :(if L i=true then c7 f u else f) k=f k:=by split <;> simp [gE hf]
   have e2 :(if L' i=true then c7 f' u else f') k=f' k:=by split <;> simp [gE hf]
   rw [e1,e2]
   exact h
  | some v=>
   rcases hu 0 u (by simp) (by rw [hf];simp) with h1 |⟨h1,h2⟩
   ·simp only [Nat.add_zero] at h1
    rw [h1]
    split
    ·left;rw [fu hf,fu hf]
    ·exact h
   ·simp only [Nat.add_zero] at h1
    rw [h1]
    simp only [Bool.false_eq_true,if_false]
    split
    ·right;exact ⟨v,fu hf,h2 v hf⟩
    ·exact h
theorem Fi {Cf:Nat→Cfg} {lo:Nat→Nat} {al:Nat→Option (Nat×(Blk→Bool))} {N:Nat} (hC :∀ i,CfgOK P (Cf i)) (hN :∀ i,(Cf i).N=N) {B:Base} {E0:Env} {all:List Oper} {st:St} {rf:List Rec} (hfr0 :∀ i,i<rf.length→∀ n,lo i≤n→n<lo i +(Cf i).K→¬ E0.U n) (hlo :∀ i j,i<j→j<rf.length→lo i +(Cf i).K≤lo j) {L L':Nat→Bool} {i:Nat} {o:Oper} {r:Rec} (ho:all[i]?=some o) (hr:rf[i]?=some r) (hLi:L i=false) (hL' :∀ j,L' j=if j=i then true else L j)
  {tm:List (Nat×V)} {H:au} (hdo:DoesV (Cf i) (al i) all tm H (lo i) o r) (htm:find tm=bJ (fun j=>Nat.blt j i) (find st.tm) 0 (rf.map dY)) (hH:H=bJ (fun j=>Nat.blt j i) st.H 0 (rf.map Rec.dh))
  (hcomm :∀ j s,rf[j]?=some s→(j<i∧L j=false)∨(i<j∧L j=true)→Comm r s) (halt :∀ h0 okB,al i=some (h0,okB)→∀ j s b,rf[j]?=some s→find s.dh h0=some b→(j<i→L j=true)∧(i<j→L j=true→okB b=true)) {Q:Exit→Act→World→Prop} {a:Act} {w:World} (hI:InvV Cf lo N B E0 st rf L a w) {K:Act→World→Prop} (hK :∀ a w,InvV Cf lo N B E0 st rf L' a w→K a w) :
  wpOp P all.toArray Q i K a w:=by
 obtain ⟨⟨E,hE,rfl,hX,hEH,hU,hT⟩,hsz,hdf⟩:=hI
 obtain ⟨hd,he,hrs⟩:=hdo.dstIn
 have hiL:i<rf.length:=(List.getElem?_eq_some_iff.1 hr).1
 have hLsel :∀ {α:Type} (us:List (List (Nat×α))) (f:Nat→Option α) (k:Nat) (g:Rec→List (Nat×α)),us=rf.map g→(∀ j s,rf[j]?=some s→find (g s) k≠none→j≠i→Comm r s→False)→bJ L f 0 us k=bJ (fun j=>Nat.blt j i) f 0 us k:=by
  intro α us f k g hus hno
  refine fC us 0 f f rfl (fun j u hj hu=>?_)
  rw [Nat.zero_add]
  subst hus
  rw [List.getElem?_map] at hj
  cases hs:rf[j]? with
  | none=>rw [hs] at hj;simp at hj
  | some s=>
   rw [hs] at hj
   simp only [Option.map_some,Option.some.injEq] at hj
   subst hj
   by_cases hji:j=i
   ·subst hji
    rw [hLi]
    cases hb:Nat.blt j j with
    | false=>rfl
    | true=>rw [Nat.blt_eq] at hb;omega
   ·rcases Nat.lt_or_gt_of_ne hji with hlt|hgt
    ·have hb:Nat.blt j i=true:=by rw [Nat.blt_eq];exact hlt
     rw [hb]
     cases hLj:L j with
     | true=>rfl
     | false=>exact (hno j s hs hu hji (hcomm j s hs (.inl ⟨hlt,hLj⟩))).elim
    ·have hb:Nat.blt j i=false:=by cases hb:Nat.blt j i with|false=>rfl|true=>rw [Nat.blt_eq] at hb;omega
     rw [hb]
     cases hLj:L j with
     | false=>rfl
     | true=>exact (hno j s hs hu hji (hcomm j s hs (.inr ⟨hgt,hLj⟩))).elim
 have hslot :∀ s∈aj all o,bJ L (find st.tm) 0 (rf.map dY) s=find tm s:=fun s hs=>by
  rw [htm]
  refine hLsel _ _ s dY rfl (fun j s' hs' hne hji hc=>?_)
  exact hc.sd s (jW hne) (by rw [hrs];exact hs)
 have hlook :∀ s∈aj all o,aa E (cq tm s) (a.tmps.getD s undef):=fun s hs=>by
  unfold cq
  cases hf:find tm s with
  | none=>simp [aa]
  | some v=>exact hT s v (by rw [hslot s hs];exact hf)
 have hL0 :∀ {α:Type} (us:List (List (Nat×α))) (f:Nat→Option α) (g:Rec→List (Nat×α)),us=rf.map g→(∀ j s,i<j→rf[j]?=some s→Comm r s→∀ k,find (g r) k≠none→find (g s) k=none)→bJ L' f 0 us=c7 (bJ L f 0 us) (g r):=by
  intro α us f g hus hno
  subst hus
  refine AV (rf.map g) f i (g r) (by rw [List.getElem?_map,hr];rfl) hL' (fun j u hj hu hLj k hk=>?_)
  rw [List.getElem?_map] at hu
  cases hs:rf[j]? with
  | none=>rw [hs] at hu;simp at hu
  | some s=>
   rw [hs] at hu
   simp only [Option.map_some,Option.some.injEq] at hu
   subst hu
   exact hno j s hj hs (hcomm j s hs (.inr ⟨hj,hLj⟩)) k hk
 have none_of :∀ {α:Type} {l:List (Nat×α)} {k:Nat},(k∈l.map (·.1)→False)→find l k=none:=fun {α l k} h=>by
  cases hf:find l k with
  | none=>rfl
  | some v=>exact (h (dT (by rw [hf];simp))).elim
 have hT':bJ L' (find st.tm) 0 (rf.map dY)=c7 (bJ L (find st.tm) 0 (rf.map dY)) (dY r):=hL0 _ _ dY rfl (fun j s _ _ hc k hk=>by
  cases hf:find (dY s) k with
  | none=>rfl
  | some v=>exact (hc.d k (jW hk) (jW (by rw [hf];simp))).elim)
 have hH':bJ L' st.H 0 (rf.map Rec.dh)=c7 (bJ L st.H 0 (rf.map Rec.dh)) r.dh:=hL0 _ _ Rec.dh rfl (fun j s _ _ hc k hk=>none_of fun hm=>hc.k k (dT hk) hm)
 have after :∀ (E':Env) (v':Value),GoodK B E (lo i) (Cf i).K r.dh E'.w E'→aa E' r.v v'→InvV Cf lo N B E0 st rf L' (a.put o.dst v') E'.w:=fun E' v' G hv=>by
  refine ⟨⟨E',G.rel,rfl,hX.trans G.ext,by rw [G.h,hH',hEH,me],fun n hn=>?_,?_⟩,by rw [lO];exact hsz,by rw [gV];exact hdf⟩
  ·rcases G.u n hn with h|h
   ·rcases hU n h with h1 |⟨j,h1,h2,h3⟩
    ·exact .inl h1
    ·refine .inr ⟨j,h1,?_,h3⟩
     rw [hL']
     split
     ·rfl
     ·exact h2
   ·exact .inr ⟨i,hiL,by rw [hL',if_pos rfl],h.1,h.2⟩
  ·rw [hT']
   exact xW G.ext hT hsz (by rw [←hN i];exact hd) (v:=r.v) hv (fun s u hu=>by
    unfold c7 dY at hu
    rw [he] at hu
    cases hf:find (ca o.dst r.v) s with
    | some x=>rw [hf] at hu;exact .inl hu
    | none=>rw [hf] at hu;exact .inr ⟨rfl,hu⟩)
 unfold wpOp
 simp only [List.getElem?_toArray,ho]
 have hfresh :∀ n,lo i≤n→n<lo i +(Cf i).K→¬ E.U n:=fun n h1 h2 hu=>by
  rcases hU n hu with h3 |⟨j,h3,h4,h5,h6⟩
  ·exact hfr0 i hiL n h1 h2 h3
  ·have hji:j≠i:=fun e=>by subst e;rw [hLi] at h4;cases h4
   rcases Nat.lt_or_gt_of_ne hji with hlt|hgt
   ·have:=hlo j i hlt hiL;omega
   ·have:=hlo i j hgt h3;omega
 cases hdo with
 | @dir ps v v' dh R _ hg hev hcg hps hv=>
  rw [bZ hlook hg]
  simp only [if_true]
  left
  have hHR :∀ h∈R,E.H h=H h:=fun h hh=>by
   rw [hEH,hH]
   refine hLsel _ _ h Rec.dh rfl (fun j s hs hne hji hc=>?_)
   exact hc.sk h (dT hne) hh
  have hev2:=hcg E.H hHR (fun h0 okB hal=>by
   have hal:=halt h0 okB hal
   rw [hEH,hH]
   refine AW (rf.map Rec.dh) 0 st.H st.H (.inl rfl) (fun j u hj hu=>?_)
   rw [Nat.zero_add]
   rw [List.getElem?_map] at hj
   cases hs:rf[j]? with
   | none=>rw [hs] at hj;simp at hj
   | some s=>
    rw [hs] at hj
    simp only [Option.map_some,Option.some.injEq] at hj
    subst hj
    rcases Nat.lt_trichotomy j i with hlt|heq|hgt
    ·left
     obtain ⟨b,hb⟩ :∃ b,find s.dh h0=some b:=by
      cases hf:find s.dh h0 with
      | none=>exact absurd hf hu
      | some b=>exact ⟨b,rfl⟩
     rw [(hal j s b hs hb).1 hlt]
     exact (by rw [Nat.blt_eq];exact hlt:Nat.blt j i=true).symm
    ·left
     subst heq
     rw [hLi]
     cases hb:Nat.blt j j with
     | false=>rfl
     | true=>rw [Nat.blt_eq] at hb;omega
    ·have hbf:Nat.blt j i=false:=by cases hb:Nat.blt j i with|false=>rfl|true=>rw [Nat.blt_eq] at hb;omega
     cases hLj:L j with
     | false=>exact .inl hbf.symm
     | true=>exact .inr ⟨hbf,fun b hb=>(hal j s b hs hb).2 hgt hLj⟩)
  rw [hev] at hev2
  have hevm :∀ x,aa E (aX (aj all o) tm x) (a.eval x):=fun x=>by
   cases x with
   | tmp t=>
    simp only [aX]
    cases hm:memN (aj all o) t with
    | false=>simp [aa]
    | true=>exact hlook t (memN_iff.1 hm)
   | const v=>exact fO v
   | func f=>simp only [aX,aa,Act.eval];exact ⟨#[],rfl,by simp [ab]⟩
   | _=>simp [aX,aa]
  exact du hE (hC i).tb (hC i).K (hC i).Γ hfresh hevm hev2 hps fun v'' E' G hv'=>by
   have hw:E'.w=E'.w:=rfl
   exact hK _ _ (after E' _ G (F5 hv hv'))
 | old hdo=>
 cases hdo with
 | skip _ hg=>
  rw [bZ hlook hg]
  simp only [Bool.false_eq_true,if_false]
  exact hK _ _ (after E undef ⟨hE,Ext.refl E,rfl,rfl,fun n h=> .inl h⟩ (by simp [aa,undef,ab]))
 | @dir ps v v' dh _ _ hg hdr hev hps hv=>
  rw [bZ hlook hg]
  simp only [if_true]
  left
  have hev2:=uL (C:=Cf i) (m:=lo i) (H1:=E.H) (H2:=H) hdr fun k hk=>by
   rw [hEH,hH]
   refine hLsel _ _ k Rec.dh rfl (fun j s hs hne hji hc=>?_)
   exact hc.sk k (dT hne) hk
  rw [hev] at hev2
  have hevm :∀ x,aa E (aX (aj all o) tm x) (a.eval x):=fun x=>by
   cases x with
   | tmp t=>
    simp only [aX]
    cases hm:memN (aj all o) t with
    | false=>simp [aa]
    | true=>exact hlook t (memN_iff.1 hm)
   | const v=>exact fO v
   | func f=>simp only [aX,aa,Act.eval];exact ⟨#[],rfl,by simp [ab]⟩
   | _=>simp [aX,aa]
  exact du hE (hC i).tb (hC i).K (hC i).Γ hfresh hevm hev2 hps fun v'' E' G hv'=>hK _ _ (after E' _ G (F5 hv hv'))
 | @run ps v v' dh R _ hg hst hps hv=>
  rw [bZ hlook hg]
  simp only [if_true]
  left
  simp only [lU] at hst
  split at hst
  case h_2=>cases hst
  rename_i ps' v2 dh' hev
  cases hfr:gn H (mK H 8 (o.op.operands.toList.flatMap fun x=>(aX (aj all o) tm x).hs) []) (lo i) (Cf i).K v2 dh' with
  | false=>rw [hfr] at hst;cases hst
  | true=>
   rw [hfr] at hst
   simp only [cond_true,Option.some.injEq,Prod.mk.injEq] at hst
   obtain ⟨rfl,rfl,rfl,hR⟩:=hst
   rw [hR] at hfr hev
   have hHR :∀ h∈R,E.H h=H h:=fun h hh=>by
    rw [hEH,hH]
    refine hLsel _ _ h Rec.dh rfl (fun j s hs hne hji hc=>?_)
    exact hc.sk h (dT hne) hh
   have hrest:restr H R=restr E.H R:=by
    funext h
    unfold restr
    cases hm:memN R h with
    | false=>rfl
    | true=>simp only [cond_true];exact (hHR h (memN_iff.1 hm)).symm
   simp only [gn,Bool.and_eq_true] at hfr
   obtain ⟨⟨f1,f2⟩,f3⟩:=hfr
   have fR :∀ h∈R,∃ b,H h=some b∧mD R (lo i) (Cf i).K b.hs=true:=fun h hh=>by
    have:=List.all_eq_true.1 f1 h hh
    split at this
    ·rename_i b hb;exact ⟨b,hb,this⟩
    ·cases this
   have hfresh :∀ n,lo i≤n→n<lo i +(Cf i).K→¬ E.U n:=fun n h1 h2 hu=>by
    rcases hU n hu with h3 |⟨j,h3,h4,h5,h6⟩
    ·exact hfr0 i hiL n h1 h2 h3
    ·have hji:j≠i:=fun e=>by subst e;rw [hLi] at h4;cases h4
     rcases Nat.lt_or_gt_of_ne hji with hlt|hgt
     ·have:=hlo j i hlt hiL;omega
     ·have:=hlo i j hgt h3;omega
   have hEs:=hE.restr R
   have Xs:=Ext.restr E R
   rw [hrest] at hev
   have hevm :∀ x,aa { E with H:=Mir.restr E.H R } (aX (aj all o) tm x) (a.eval x):=fun x=>by
    cases x with
    | tmp t=>
     simp only [aX]
     cases hm:memN (aj all o) t with
     | false=>simp [aa]
     | true=>exact aK Xs _ _ (hlook t (memN_iff.1 hm))
    | const v=>exact fO v
    | func f=>simp only [aX,aa,Act.eval];exact ⟨#[],rfl,by simp [ab]⟩
    | _=>simp [aX,aa]
   exact du (E:={ E with H:=Mir.restr E.H R }) hEs (hC i).tb (hC i).K (hC i).Γ hfresh hevm hev hps fun v'' Es G hv'=>by
    obtain ⟨E',G',tr⟩:=LG hE hfresh G (fun h hh=>by obtain ⟨b,hb,_⟩:=fR h hh;exact ⟨b,by rw [hHR h hh];exact hb⟩)
     (fun h hh k hk x hx=>by
      obtain ⟨b,hb,hb2⟩:=fR h hh
      rw [hHR h hh,hb] at hk
      cases hk
      exact eB hb2 x hx)
     (fun h k hk=>by
      have hq:=ae hk
      have:=List.all_eq_true.1 f2 _ hq
      simp only [Bool.and_eq_true] at this
      exact ⟨eB this.1 h (by simp),eB this.2⟩)
    have hw:E'.w=Es.w:=G'.w
    have hv2:aa E' v2 v'':=tr _ _ (eB f3) hv'
    have:=hK _ _ (after E' _ (by rw [hw];exact G') (F5 hv hv2))
    rw [hw] at this
    exact this
def AltOK (al:Nat→Option (Nat×(Blk→Bool))) (ms:List Nat) (rf:List Rec):Prop:=∀ i h0 okB,al i=some (h0,okB)→∀ j s b,rf[j]?=some s→find s.dh h0=some b→j≠i→
 (j<i→((ms[i]?).getD 0).testBit j=true)∧(i<j→((ms[j]?).getD 0).testBit i=true∨okB b=true)
theorem AltOK.none {ms:List Nat} {rf:List Rec}:AltOK (fun _=>Option.none) ms rf:=fun i h0 okB h=>by cases h
theorem EV {Cf:Nat→Cfg} {lo:Nat→Nat} {al:Nat→Option (Nat×(Blk→Bool))} {N:Nat} (hC :∀ i,CfgOK P (Cf i)) (hN :∀ i,(Cf i).N=N) {B:Base} {E0:Env} {all:List Oper} {st:St} {df:Dl} {rf:List Rec} (hrun:RunV Cf lo al all st 0 all ⟨[],[]⟩ [] df rf) (hE:cu 0 all=true) (hck:dJ (bL all []) 0 rf=true) (hal:AltOK al (bL all []) rf) {Q:Exit→Act→World→Prop}
  (hfr0 :∀ i,i<all.length→∀ n,lo i≤n→n<lo i +(Cf i).K→¬ E0.U n) (hlo :∀ i j,i<j→j<all.length→lo i +(Cf i).K≤lo j)
  (hQ :∀ E a,HRel B E→Ext E0 E→E.H=ak st.H df.hp→(∀ n,E.U n→E0.U n∨∃ i,i<all.length∧lo i≤n∧n<lo i +(Cf i).K)→dt E (find (df.tm++st.tm)) a→a.tmps.size=N→a.defers=[]→Q .normal a E.w) :
  ∀ (fuel:Nat) (listed:Array Bool) (a:Act) (w:World),listed.size=all.length→unl all.length listed=fuel→
   (∀ j oj,all[j]?=some oj→listed.getD j false=true→∀ e∈oj.after,Region.binds .any e=true→listed.getD e.on false=true)→
   InvV Cf lo N B E0 st rf (fun i=>listed.getD i false) a w→wpAny P .any all.toArray Q fuel listed a w:=by
 obtain ⟨⟨more,e1,e2⟩,g1,g2,g3⟩:=vZ all 0 ⟨[],[]⟩ [] df rf hrun rfl rfl rfl
 have hlen:rf.length=all.length:=by rw [e1];simpa using e2
 have full :∀ (listed:Array Bool),listed.size=all.length→Region.ready .any all.toArray listed=[]→∀ i,i<all.length→listed.getD i false=true:=by
  intro listed hsz hrd i
  induction i using Nat.strongRecOn with
  | _ i ih=>
   intro hi
   cases hb:listed.getD i false with
   | true=>rfl
   | false=>
    have hun:listed.getD i true=false:=by
     have:i<listed.size:=by omega
     simp [this] at hb ⊢
     exact hb
    have hoi:all[i]?=some all[i]:=List.getElem?_eq_getElem hi
    have:i∈Region.ready .any all.toArray listed:=mem_ready.2 ⟨hun,all[i],by simp,fun e he hbd=>by
     have:=eT all 0 hE i _ hoi e he hbd
     exact ih e.on (by omega) (by omega)⟩
    rw [hrd] at this
    cases this
 have close :∀ (listed:Array Bool) (a:Act) (w:World),listed.size=all.length→(∀ i,i<all.length→listed.getD i false=true)→InvV Cf lo N B E0 st rf (fun i=>listed.getD i false) a w→Q .normal a w:=by
  intro listed a w hsz hall hI
  obtain ⟨⟨E,hE',rfl,hX,hEH,hU,hT⟩,hs,hd⟩:=hI
  have hsel :∀ {α:Type} (us:List (List (Nat×α))) (f:Nat→Option α),us.length=all.length→bJ (fun i=>listed.getD i false) f 0 us=us.foldl c7 f:=fun us f hl=>by
   have h1:=kG us f 0 us.length
   rw [List.take_of_length_le (Nat.le_refl _)] at h1
   rw [←h1]
   funext k
   refine fC us 0 f f rfl (fun j u hj _=>?_)
   have hjl:j<us.length:=(List.getElem?_eq_some_iff.1 hj).1
   rw [Nat.zero_add,hall j (by omega)]
   exact (by rw [Nat.blt_eq];omega:Nat.blt j (0+us.length)=true).symm
  refine hQ E a hE' hX ?_ (fun n hn=>?_) (fun s v hv=>?_) hs hd
  ·rw [hEH,hsel _ _ (by simp [hlen]),g2]
  ·rcases hU n hn with h |⟨i,h1,_,h3,h4⟩
   ·exact .inl h
   ·exact .inr ⟨i,by omega,h3,h4⟩
  ·refine hT s v ?_
   rw [hsel _ _ (by simp [hlen]),←g1]
   exact hv
 intro fuel
 induction fuel with
 | zero=>
  intro listed a w hsz hun _ hI
  have hall :∀ i,i<all.length→listed.getD i false=true:=fun i hi=>by
   have h0 :(List.range all.length).filter (fun i=>!listed.getD i true)=[]:=List.eq_nil_of_length_eq_zero hun
   have:=List.filter_eq_nil_iff.1 h0 i (List.mem_range.2 hi)
   have hi':i<listed.size:=by omega
   simp [hi'] at this ⊢
   exact this
  refine ⟨?_,close listed a w hsz hall hI⟩
  cases hr:Region.ready .any all.toArray listed with
  | nil=>rfl
  | cons i l=>
   have hm:i∈Region.ready .any all.toArray listed:=by rw [hr];exact List.mem_cons_self
   obtain ⟨h1,o,h2,_⟩:=mem_ready.1 hm
   have hi:i<all.length:=by
    have:=(Array.getElem?_eq_some_iff.1 h2).1
    simpa using this
   have h3:=hall i hi
   have hi':i<listed.size:=by omega
   simp [hi'] at h1 h3
   rw [h1] at h3;cases h3
 | succ fuel ih=>
  intro listed a w hsz hun hclosed hI
  refine ⟨fun hr=>close listed a w hsz (full listed hsz hr) hI,fun i hi=>?_⟩
  obtain ⟨h1,o,h2,hdir⟩:=mem_ready.1 hi
  have ho:all[i]?=some o:=by simpa using h2
  have hil:i<all.length:=(List.getElem?_eq_some_iff.1 ho).1
  have his:i<listed.size:=by omega
  have hLi:listed.getD i false=false:=by simp [his] at h1 ⊢;exact h1
  obtain ⟨r,tm,H,k1,k2,k3,k4⟩:=g3 i o ho
  simp only [Nat.zero_add] at k1 k2 k3 k4
  have hget :∀ j,(listed.setIfInBounds i true).getD j false=if j=i then true else listed.getD j false:=fun j=>by
   by_cases e:j=i
   ·subst e;simp [his]
   ·simp [e,Array.getElem?_setIfInBounds_ne (Ne.symm e),Array.getD_eq_getD_getElem?]
  have hgetT :∀ j,j≠i→(listed.setIfInBounds i true).getD j true=listed.getD j true:=fun j e=>by
   simp [Array.getElem?_setIfInBounds_ne (Ne.symm e),Array.getD_eq_getD_getElem?]
  refine Fi hC hN (E0:=E0) (by rw [hlen];exact hfr0) (by rw [hlen];exact hlo) (L:=fun i=>listed.getD i false) (L':=fun j=>(listed.setIfInBounds i true).getD j false) ho k1 hLi hget k2 ?_ ?_ (fun j s hs hor=>?_) (fun h0 okB ha j s b hs hb=>⟨fun hlt=>?_,fun hgt hLj=>?_⟩) hI (fun a w hI'=>ih _ a w (by simpa using hsz) ?_ ?_ hI')
  ·rw [k3]
   have:=kG (rf.map dY) (find st.tm) 0 i
   rw [←List.map_take,] at this
   simpa using this.symm
  ·rw [k4]
   have:=kG (rf.map Rec.dh) st.H 0 i
   rw [←List.map_take] at this
   simpa using this.symm
  ·rcases hor with ⟨hlt,hLj⟩ |⟨hgt,hLj⟩
   ·rcases fN rf 0 hck j i s r hlt hs k1 with h|h
    ·simp only [Nat.zero_add] at h
     have:=cF hE hclosed i i (Nat.le_refl _) o ho hdir j h
     rw [this] at hLj;cases hLj
    ·exact h.symm
   ·rcases fN rf 0 hck i j r s hgt k1 hs with h|h
    ·simp only [Nat.zero_add] at h
     have hjl:j<all.length:=by rw [←hlen];exact (List.getElem?_eq_some_iff.1 hs).1
     have hoj:all[j]?=some all[j]:=List.getElem?_eq_getElem hjl
     have:=cF hE hclosed j j (Nat.le_refl _) _ hoj (hclosed j _ hoj hLj) i h
     rw [this] at hLi;cases hLi
    ·exact h
  ·exact cF hE hclosed i i (Nat.le_refl _) o ho hdir j ((hal i h0 okB ha j s b hs hb (by omega)).1 hlt)
  ·rcases (hal i h0 okB ha j s b hs hb (by omega)).2 hgt with h|h
   ·have hjl:j<all.length:=by rw [←hlen];exact (List.getElem?_eq_some_iff.1 hs).1
    have hoj:all[j]?=some all[j]:=List.getElem?_eq_getElem hjl
    have:=cF hE hclosed j j (Nat.le_refl _) _ hoj (hclosed j _ hoj hLj) i h
    rw [this] at hLi;cases hLi
   ·exact h
  ·have:=nj (p:=fun j=>!listed.getD j true) (q:=fun j=>!(listed.setIfInBounds i true).getD j true) (i:=i) (by simp [h1]) (by simp [his]) (fun j e=>by simp [hgetT j e]) (List.range all.length) List.nodup_range (List.mem_range.2 hil)
   unfold unl at hun ⊢
   omega
  ·intro j oj hj hlj e he hb
   rw [hget] at hlj ⊢
   by_cases e1:e.on=i
   ·rw [if_pos e1]
   ·rw [if_neg e1]
    by_cases e2:j=i
    ·subst e2
     rw [ho] at hj;cases hj
     exact hdir e he hb
    ·rw [if_neg e2] at hlj
     exact hclosed j oj hj hlj e he hb
theorem EX {Cf:Nat→Cfg} {lo:Nat→Nat} {al:Nat→Option (Nat×(Blk→Bool))} {N:Nat} (hC :∀ i,CfgOK P (Cf i)) (hN :∀ i,(Cf i).N=N) (hP:P.follows .mixedOrders=true) {B:Base} {all:List Oper} {st:St} {df:Dl} {rf:List Rec} (hrun:RunV Cf lo al all st 0 all ⟨[],[]⟩ [] df rf) (hE:cu 0 all=true) (hck:dJ (bL all []) 0 rf=true) (hal:AltOK al (bL all []) rf) {Q:Exit→Act→World→Prop}
  {E:Env} (hE':HRel B E) (hH:E.H=st.H) {a:Act} (hT:dt E (find st.tm) a) (hsz:a.tmps.size=N) (hdf:a.defers=[])
  (hfr0 :∀ i,i<all.length→∀ n,lo i≤n→n<lo i +(Cf i).K→¬ E.U n) (hlo :∀ i j,i<j→j<all.length→lo i +(Cf i).K≤lo j)
  (hQ :∀ E' a,HRel B E'→Ext E E'→E'.H=ak st.H df.hp→(∀ n,E'.U n→E.U n∨∃ i,i<all.length∧lo i≤n∧n<lo i +(Cf i).K)→dt E' (find (df.tm++st.tm)) a→a.tmps.size=N→a.defers=[]→Q .normal a E'.w) (id:Nat) :
  (Code.region id all.toArray true).wp P Q a E.w:=by
 refine wp_region_any hP ?_
 obtain ⟨R,X⟩:=wi hE' { E.w with drawn:=E.w.drawn+1 } rfl rfl rfl rfl
 have hfalse :∀ i,(Array.replicate all.toArray.size false).getD i false=false:=fun i=>by
  rcases Nat.lt_or_ge i all.length with h|h
  ·simp [h]
  ·simp [h]
 have hno :∀ {α:Type} (us:List (List (Nat×α))) (f:Nat→Option α) (i:Nat),bJ (fun i=>(Array.replicate all.toArray.size false).getD i false) f i us=f:=by
  intro α us
  induction us with
  | nil=>intro f i;rfl
  | cons u us ih=>intro f i;unfold bJ;rw [hfalse];simp only [Bool.false_eq_true,if_false];exact ih f _
 refine EV hC hN (E0:={ E with w:={ E.w with drawn:=E.w.drawn+1 } }) hrun hE hck hal hfr0 hlo (fun E1 a1 r1 x1 h1 u1 t1 s1 d1=>hQ E1 a1 r1 (X.trans x1) h1 u1 t1 s1 d1) _ _ a _ (by simp) ?_ (fun j oj hj hl=>by rw [hfalse] at hl;cases hl) ⟨⟨_,R,rfl,Ext.refl _,?_,fun n hn=> .inl hn,fun s v hv=>?_⟩,hsz,hdf⟩
 ·unfold unl
  have :(List.range all.length).filter (fun i=>!(Array.replicate all.toArray.size false).getD i true)=List.range all.length:=List.filter_eq_self.2 fun i hi=>by
   have:=List.mem_range.1 hi
   simp [this]
  rw [this]
  simp
 ·rw [hno _ _ _];exact hH
 ·rw [hno] at hv
  exact aK X _ _ (hT s v hv)
end Go.Mir
namespace Go.Mir
open Go.RowKit
variable {P:Program}
theorem kL {E:Env} {v:V} {u:Value} (h:aa E v u):aa E (jl v) u:=by
 cases v <;> first|exact h|simpa [jl,aa] using h
theorem JX {a:Act} {w:World} {c:Call} {o:Oper} (ho:o.op = .call c) {f:Operand} (hf:c.callee = .value f) {g:FuncId} {l:Array Value} (hfe:a.eval f = .func (.func g) #[] l)
  (hfn :∃ fn,P.funcs[g]?=some fn∧fn.body.isSome=true∧(fn.name == "runtime.NumGoroutine")=false) {R:Ending→World→Prop} (hcalls:Calls P g (c.args.toList.map a.eval++l.toList).toArray w R)
  {next:Act→World→Prop} {Q:Exit→Act→World→Prop} (hn :∀ e w',R e w'→∃ v',e = .returned v'∧next (a.put o.dst v') w'):o.wp P a w next Q:=by
 obtain ⟨fn,h1,h2,h3⟩:=hfn
 have hb :¬ fn.body=none:=by cases hb:fn.body with|none=>rw [hb] at h2;cases h2|some _=>simp
 have h4 :¬ fn.name = "runtime.NumGoroutine":=by simpa using h3
 have hrun :(execOp a.eval o).run P w = .ok (.enter g (c.args.toList.map a.eval++l.toList).toArray) w:=by
  have e :(c.args.toList.map a.eval++l.toList).toArray=#[]++c.args.map a.eval++l:=by
   apply Array.ext'
   simp
  rw [e]
  simp [execOp,ho,resolve,hf,Deferred.ofValue,hfe,invoke,callFunc,h1,h4,hb]
 unfold Oper.wp
 rw [hrun]
 simp only [Oper.upon]
 refine hcalls.mono fun e w' hh=>?_
 obtain ⟨v',rfl,h⟩:=hn e w' hh
 exact h
structure RR (B:Base) (E0:Env) (n0 N:Nat) (s:RS) (E:Env) (a:Act):Prop where
 rel:HRel B E
 ext:Ext E0 E
 h:E.H=s.hp.get
 u :∀ n,E.U n→E0.U n∨(n0≤n∧n<s.nx)
 le:n0≤s.nx
 tm:dt E s.tm.get a
 size:a.tmps.size=N
 defers:a.defers=[]
structure Came (B:Base) (E:Env) (hp':au) (nx nx':Nat) (v:V) (v':Value) (w':World) (E':Env):Prop where
 rel:HRel B E'
 w:E'.w=w'
 h:E'.H=hp'
 ext:Ext E E'
 u :∀ n,E'.U n→E.U n∨(nx≤n∧n<nx')
 v:aa E' v v'
variable {tb:Tbl} {N:Nat} {call:F9} {all:List Oper} {B:Base} {E0:Env} {n0:Nat}
theorem RR.put {s:RS} {E:Env} {a:Act} (hR:RR B E0 n0 N s E a) {E':Env} {hp:Tri Blk} {nx:Nat} (hrel:HRel B E') (hext:Ext E E') (hh:E'.H=hp.get) (hu :∀ n,E'.U n→E.U n∨(s.nx≤n∧n<nx)) (hle:s.nx≤nx)
  {d:Option Nat} (hd:dstIn N d=true) {v:V} {v':Value} (hv:aa E' v v') {tm:Tri V} (htm :∀ k,tm.get k=match find (ca d (jl v)) k with|some u=>some u|none=>s.tm.get k):RR B E0 n0 N ⟨tm,hp,nx⟩ E' (a.put d v'):=by
 have hle0:=hR.le
 refine ⟨hrel,hR.ext.trans hext,hh,fun n hn=>?_,Nat.le_trans hle0 hle,xW hext hR.tm hR.size hd (kL hv) (fun k u hk=>?_),by rw [lO];exact hR.size,by rw [gV];exact hR.defers⟩
 ·show E0.U n∨(n0≤n∧n<nx)
  rcases hu n hn with h|h
  ·rcases hR.u n h with h|h
   ·exact .inl h
   ·exact .inr ⟨h.1,by omega⟩
  ·exact .inr ⟨by omega,h.2⟩
 ·rw [htm] at hk
  cases hf:find (ca d (jl v)) k with
  | some x=>rw [hf] at hk;exact .inl hk
  | none=>rw [hf] at hk;exact .inr ⟨rfl,hk⟩
end Go.Mir
namespace Go.Mir
open Go.RowKit
variable {P:Program}
theorem xi {α:Type} {l:List (Nat×α)} {k:Nat} (h:memN (l.map (·.1)) k=true):find l k≠none:=by
 induction l with
 | nil=>simp [memN] at h
 | cons q l ih=>
  obtain ⟨a,b⟩:=q
  simp only [List.map_cons,memN,Bool.or_eq_true] at h
  simp only [find]
  cases hb:Nat.beq a k with
  | true=>simp
  | false=>
   simp only [cond_false]
   refine ih ?_
   rcases h with h|h
   ·rw [hb] at h;cases h
   ·exact h
def Chain:Nat→List (Nat×Cfg)→Nat→Prop
 | n,[],e=>n=e
 | n,q::r,e=>q.1=n∧∃ n2,n+q.2.K≤n2∧Chain n2 r e
theorem Chain.le :∀ {n:Nat} {l:List (Nat×Cfg)} {e:Nat},Chain n l e→n≤e
 | n,[],e,h=>Nat.le_of_eq h
 | n,q::r,e,⟨_,n2,h1,h2⟩=>by have:=h2.le;omega
theorem Chain.at :∀ {n:Nat} {l:List (Nat×Cfg)} {e:Nat},Chain n l e→∀ (j:Nat) (q:Nat×Cfg),l[j]?=some q→n≤q.1∧q.1+q.2.K≤e
 | n,[],e,_,j,q,hq=>by simp at hq
 | n,p::r,e,⟨h0,n2,h1,h2⟩,j,q,hq=>by
  have hle:=h2.le
  cases j with
  | zero=>
   simp only [List.getElem?_cons_zero,Option.some.injEq] at hq
   subst hq
   omega
  | succ j=>
   have:=h2.at j q (by simpa using hq)
   omega
theorem Chain.lt :∀ {n:Nat} {l:List (Nat×Cfg)} {e:Nat},Chain n l e→∀ (i j:Nat) (p q:Nat×Cfg),i<j→l[i]?=some p→l[j]?=some q→p.1+p.2.K≤q.1
 | n,[],e,_,i,j,p,q,_,hp,_=>by simp at hp
 | n,x::r,e,⟨h0,n2,h1,h2⟩,i,j,p,q,hij,hp,hq=>by
  cases j with
  | zero=>omega
  | succ j=>
   cases i with
   | zero=>
    simp only [List.getElem?_cons_zero,Option.some.injEq] at hp
    subst hp
    have:=(h2.at j q (by simpa using hq)).1
    omega
   | succ i=>exact h2.lt i j p q (by omega) (by simpa using hp) (by simpa using hq)
variable {tb:Tbl} {N:Nat} {call:F9} {all:List Oper}
end Go.Mir
namespace Go.Mir
open Go.RowKit
variable {P:Program}
def Tri.toL {α:Type}:Tri α→List (Nat×α)
 | .lf=> []
 | .nd l v r=>(match v with|some x=> [(0,x)]|none=> []) ++((l.toL.map fun p=>(2*p.1+1,p.2)) ++(r.toL.map fun p=>(2*p.1+2,p.2)))
variable {tb:Tbl} {N:Nat} {call:F9} {B:Base} {E0:Env} {n0:Nat}
def RC (td:TD):TD:=⟨td.kind,td.size,td.bytes,td.zero,none⟩
def F3 (tb:Tbl):Tbl:=fun t=>match tb t with
 | some td=>some (RC td)
 | none=>none
theorem Lh {tb:Tbl} (h:aZ P tb):aZ P (F3 tb):=fun t td ht=>by
 unfold F3 at ht
 split at ht
 case h_2=>cases ht
 rename_i td0 h0
 cases ht
 have:=h _ _ h0
 exact ⟨fun hp=>this.eqk hp,this.info,this.kind,this.zagg⟩
def DM (P:Program):Bool:=P.funcs.toList.all fun fn=>!(fn.name == "runtime.NumGoroutine")
theorem zW (h:DM P=true) (f:FuncId) (fn:Func) (hf:P.funcs[f]?=some fn) :(fn.name == "runtime.NumGoroutine")=false:=by
 have:=List.all_eq_true.1 h fn (by
  obtain ⟨hl,he⟩:=Array.getElem?_eq_some_iff.1 hf
  rw [←he]
  exact Array.mem_toList_iff.2 (Array.getElem_mem hl))
 simpa using this
end Go.Mir
namespace Go.Mir
open Go.RowKit
noncomputable section
structure N8 (α:Type) where
 a:α
 b:α
 c:α
 d:α
 e:α
 f:α
 g:α
 h:α
structure Ac (σ α:Type) where
 get:σ→α
 put:α→σ→σ
def Ac.da {α:Type}:Ac (N8 α) α:=⟨N8.a,fun x n=>N8.rec (motive:=fun _=>N8 α) (fun _ b c d e f g h=>⟨x,b,c,d,e,f,g,h⟩) n⟩
def Ac.db {α:Type}:Ac (N8 α) α:=⟨N8.b,fun x n=>N8.rec (motive:=fun _=>N8 α) (fun a _ c d e f g h=>⟨a,x,c,d,e,f,g,h⟩) n⟩
def Ac.dc {α:Type}:Ac (N8 α) α:=⟨N8.c,fun x n=>N8.rec (motive:=fun _=>N8 α) (fun a b _ d e f g h=>⟨a,b,x,d,e,f,g,h⟩) n⟩
def Ac.dd {α:Type}:Ac (N8 α) α:=⟨N8.d,fun x n=>N8.rec (motive:=fun _=>N8 α) (fun a b c _ e f g h=>⟨a,b,c,x,e,f,g,h⟩) n⟩
def Ac.de {α:Type}:Ac (N8 α) α:=⟨N8.e,fun x n=>N8.rec (motive:=fun _=>N8 α) (fun a b c d _ f g h=>⟨a,b,c,d,x,f,g,h⟩) n⟩
def Ac.df {α:Type}:Ac (N8 α) α:=⟨N8.f,fun x n=>N8.rec (motive:=fun _=>N8 α) (fun a b c d e _ g h=>⟨a,b,c,d,e,x,g,h⟩) n⟩
def Ac.dg {α:Type}:Ac (N8 α) α:=⟨N8.g,fun x n=>N8.rec (motive:=fun _=>N8 α) (fun a b c d e f _ h=>⟨a,b,c,d,e,f,x,h⟩) n⟩
def Ac.dh {α:Type}:Ac (N8 α) α:=⟨N8.h,fun x n=>N8.rec (motive:=fun _=>N8 α) (fun a b c d e f g _=>⟨a,b,c,d,e,f,g,x⟩) n⟩
def d8 {α:Type} (r:Nat):Ac (N8 α) α:=Bool.rec (motive:=fun _=>Ac (N8 α) α) (Bool.rec (motive:=fun _=>Ac (N8 α) α) (Bool.rec (motive:=fun _=>Ac (N8 α) α) (Bool.rec (motive:=fun _=>Ac (N8 α) α) (Bool.rec (motive:=fun _=>Ac (N8 α) α) (Bool.rec (motive:=fun _=>Ac (N8 α) α) (Bool.rec (motive:=fun _=>Ac (N8 α) α) (Ac.dh) Ac.dg (Nat.beq r 6)) Ac.df (Nat.beq r 5)) Ac.de (Nat.beq r 4)) Ac.dd (Nat.beq r 3)) Ac.dc (Nat.beq r 2)) Ac.db (Nat.beq r 1)) Ac.da (Nat.beq r 0)
def Ac.comp3 {s0 s1 s2 s3:Type} (f1:Ac s0 s1) (f2:Ac s1 s2) (f3:Ac s2 s3):Ac s0 s3:=
 Ac.rec (motive:=fun _=>Ac s0 s3) (fun g1 p1=>Ac.rec (motive:=fun _=>Ac s0 s3) (fun g2 p2=>Ac.rec (motive:=fun _=>Ac s0 s3) (fun g3 p3=>⟨fun s=>(g3 (g2 (g1 s))),fun x s=>(p1 (p2 (p3 x (g2 (g1 s))) (g1 s)) s)⟩) f3) f2) f1
def Ac.comp4 {s0 s1 s2 s3 s4:Type} (f1:Ac s0 s1) (f2:Ac s1 s2) (f3:Ac s2 s3) (f4:Ac s3 s4):Ac s0 s4:=
 Ac.rec (motive:=fun _=>Ac s0 s4) (fun g1 p1=>Ac.rec (motive:=fun _=>Ac s0 s4) (fun g2 p2=>Ac.rec (motive:=fun _=>Ac s0 s4) (fun g3 p3=>Ac.rec (motive:=fun _=>Ac s0 s4) (fun g4 p4=>⟨fun s=>(g4 (g3 (g2 (g1 s)))),fun x s=>(p1 (p2 (p3 (p4 x (g3 (g2 (g1 s)))) (g2 (g1 s))) (g1 s)) s)⟩) f4) f3) f2) f1
def Ac.comp6 {s0 s1 s2 s3 s4 s5 s6:Type} (f1:Ac s0 s1) (f2:Ac s1 s2) (f3:Ac s2 s3) (f4:Ac s3 s4) (f5:Ac s4 s5) (f6:Ac s5 s6):Ac s0 s6:=
 Ac.rec (motive:=fun _=>Ac s0 s6) (fun g1 p1=>Ac.rec (motive:=fun _=>Ac s0 s6) (fun g2 p2=>Ac.rec (motive:=fun _=>Ac s0 s6) (fun g3 p3=>Ac.rec (motive:=fun _=>Ac s0 s6) (fun g4 p4=>Ac.rec (motive:=fun _=>Ac s0 s6) (fun g5 p5=>Ac.rec (motive:=fun _=>Ac s0 s6) (fun g6 p6=>⟨fun s=>(g6 (g5 (g4 (g3 (g2 (g1 s)))))),fun x s=>(p1 (p2 (p3 (p4 (p5 (p6 x (g5 (g4 (g3 (g2 (g1 s)))))) (g4 (g3 (g2 (g1 s))))) (g3 (g2 (g1 s)))) (g2 (g1 s))) (g1 s)) s)⟩) f6) f5) f4) f3) f2) f1
def dig (i k:Nat):Nat:=Nat.mod (Nat.div i k) 8
abbrev T3 (α:Type):=N8 (N8 (N8 α))
abbrev T4 (α:Type):=N8 (T3 α)
abbrev T6 (α:Type):=N8 (N8 (T4 α))
def cr {α:Type} (i:Nat):Ac (T3 α) α:=Ac.comp3 (d8 (dig i 64)) (d8 (dig i 8)) (d8 (dig i 1))
def tA {α:Type} (i:Nat):Ac (T4 α) α:=Ac.comp4 (d8 (dig i 512)) (d8 (dig i 64)) (d8 (dig i 8)) (d8 (dig i 1))
def wF {α:Type} (i:Nat):Ac (T6 α) α:=Ac.comp6 (d8 (dig i 32768)) (d8 (dig i 4096)) (d8 (dig i 512)) (d8 (dig i 64)) (d8 (dig i 8)) (d8 (dig i 1))
def Cw {α:Type} (x:α):N8 α:=⟨x,x,x,x,x,x,x,x⟩
def FH {α:Type} (x:α):T3 α:=Cw (Cw (Cw x))
def OY {α:Type} (x:α):T4 α:=Cw (FH x)
def K5 {α:Type} (x:α):T6 α:=Cw (Cw (OY x))
structure Ac.Law {σ α:Type} (f:Ac σ α):Prop where
 same :∀ x s,f.get (f.put x s)=x
structure Ac.Apart {σ α:Type} (f g:Ac σ α):Prop where
 l :∀ x s,g.get (f.put x s)=g.get s
theorem aR {α:Type} (r:Nat) :(d8 r:Ac (N8 α) α).Law:=by
 constructor
 intro x s
 unfold d8
 cases Nat.beq r 0
 case true=>rfl
 cases Nat.beq r 1
 case true=>rfl
 cases Nat.beq r 2
 case true=>rfl
 cases Nat.beq r 3
 case true=>rfl
 cases Nat.beq r 4
 case true=>rfl
 cases Nat.beq r 5
 case true=>rfl
 cases Nat.beq r 6
 case true=>rfl
 rfl
theorem cw {α:Type} :∀ {r s:Nat},r<8→s<8→r≠s→(d8 r:Ac (N8 α) α).Apart (d8 s):=by
 intro r s hr hs h
 constructor
 intro x n
 match r,s,hr,hs,h with
 | 0,0,_,_,h=>exact absurd rfl h
 | 0,1,_,_,h=>rfl
 | 0,2,_,_,h=>rfl
 | 0,3,_,_,h=>rfl
 | 0,4,_,_,h=>rfl
 | 0,5,_,_,h=>rfl
 | 0,6,_,_,h=>rfl
 | 0,7,_,_,h=>rfl
 | 1,0,_,_,h=>rfl
 | 1,1,_,_,h=>exact absurd rfl h
 | 1,2,_,_,h=>rfl
 | 1,3,_,_,h=>rfl
 | 1,4,_,_,h=>rfl
 | 1,5,_,_,h=>rfl
 | 1,6,_,_,h=>rfl
 | 1,7,_,_,h=>rfl
 | 2,0,_,_,h=>rfl
 | 2,1,_,_,h=>rfl
 | 2,2,_,_,h=>exact absurd rfl h
 | 2,3,_,_,h=>rfl
 | 2,4,_,_,h=>rfl
 | 2,5,_,_,h=>rfl
 | 2,6,_,_,h=>rfl
 | 2,7,_,_,h=>rfl
 | 3,0,_,_,h=>rfl
 | 3,1,_,_,h=>rfl
 | 3,2,_,_,h=>rfl
 | 3,3,_,_,h=>exact absurd rfl h
 | 3,4,_,_,h=>rfl
 | 3,5,_,_,h=>rfl
 | 3,6,_,_,h=>rfl
 | 3,7,_,_,h=>rfl
 | 4,0,_,_,h=>rfl
 | 4,1,_,_,h=>rfl
 | 4,2,_,_,h=>rfl
 | 4,3,_,_,h=>rfl
 | 4,4,_,_,h=>exact absurd rfl h
 | 4,5,_,_,h=>rfl
 | 4,6,_,_,h=>rfl
 | 4,7,_,_,h=>rfl
 | 5,0,_,_,h=>rfl
 | 5,1,_,_,h=>rfl
 | 5,2,_,_,h=>rfl
 | 5,3,_,_,h=>rfl
 | 5,4,_,_,h=>rfl
 | 5,5,_,_,h=>exact absurd rfl h
 | 5,6,_,_,h=>rfl
 | 5,7,_,_,h=>rfl
 | 6,0,_,_,h=>rfl
 | 6,1,_,_,h=>rfl
 | 6,2,_,_,h=>rfl
 | 6,3,_,_,h=>rfl
 | 6,4,_,_,h=>rfl
 | 6,5,_,_,h=>rfl
 | 6,6,_,_,h=>exact absurd rfl h
 | 6,7,_,_,h=>rfl
 | 7,0,_,_,h=>rfl
 | 7,1,_,_,h=>rfl
 | 7,2,_,_,h=>rfl
 | 7,3,_,_,h=>rfl
 | 7,4,_,_,h=>rfl
 | 7,5,_,_,h=>rfl
 | 7,6,_,_,h=>rfl
 | 7,7,_,_,h=>exact absurd rfl h
theorem EL {s0 s1 s2 s3:Type} {f1:Ac s0 s1} {f2:Ac s1 s2} {f3:Ac s2 s3} (h1:f1.Law) (h2:f2.Law) (h3:f3.Law) :(Ac.comp3 f1 f2 f3).Law:=by
 constructor
 intro x s
 show f3.get (f2.get (f1.get ((Ac.comp3 f1 f2 f3).put x s)))=x
 show f3.get (f2.get (f1.get ((f1.put (f2.put (f3.put x (f2.get (f1.get s))) (f1.get s)) s))))=x
 rw [h1.same,h2.same,h3.same]
theorem wM {s0 s1 s2 s3:Type} {f1:Ac s0 s1} {f2:Ac s1 s2} {f3:Ac s2 s3} {g1:Ac s0 s1} {g2:Ac s1 s2} {g3:Ac s2 s3} (h:f1.Apart g1) :(Ac.comp3 f1 f2 f3).Apart (Ac.comp3 g1 g2 g3):=by
 constructor
 intro x s
 show g3.get (g2.get (g1.get ((f1.put (f2.put (f3.put x (f2.get (f1.get s))) (f1.get s)) s))))=g3.get (g2.get (g1.get (s)))
 rw [h.l]
theorem wN {s0 s1 s2 s3:Type} {f1:Ac s0 s1} {f2:Ac s1 s2} {f3:Ac s2 s3} {g2:Ac s1 s2} {g3:Ac s2 s3} (h1:f1.Law) (h:f2.Apart g2) :(Ac.comp3 f1 f2 f3).Apart (Ac.comp3 f1 g2 g3):=by
 constructor
 intro x s
 show g3.get (g2.get (f1.get ((f1.put (f2.put (f3.put x (f2.get (f1.get s))) (f1.get s)) s))))=g3.get (g2.get (f1.get (s)))
 rw [h1.same,h.l]
theorem wO {s0 s1 s2 s3:Type} {f1:Ac s0 s1} {f2:Ac s1 s2} {f3:Ac s2 s3} {g3:Ac s2 s3} (h1:f1.Law) (h2:f2.Law) (h:f3.Apart g3) :(Ac.comp3 f1 f2 f3).Apart (Ac.comp3 f1 f2 g3):=by
 constructor
 intro x s
 show g3.get (f2.get (f1.get ((f1.put (f2.put (f3.put x (f2.get (f1.get s))) (f1.get s)) s))))=g3.get (f2.get (f1.get (s)))
 rw [h1.same,h2.same,h.l]
theorem EM {s0 s1 s2 s3 s4:Type} {f1:Ac s0 s1} {f2:Ac s1 s2} {f3:Ac s2 s3} {f4:Ac s3 s4} (h1:f1.Law) (h2:f2.Law) (h3:f3.Law) (h4:f4.Law) :(Ac.comp4 f1 f2 f3 f4).Law:=by
 constructor
 intro x s
 show f4.get (f3.get (f2.get (f1.get ((Ac.comp4 f1 f2 f3 f4).put x s))))=x
 show f4.get (f3.get (f2.get (f1.get ((f1.put (f2.put (f3.put (f4.put x (f3.get (f2.get (f1.get s)))) (f2.get (f1.get s))) (f1.get s)) s)))))=x
 rw [h1.same,h2.same,h3.same,h4.same]
theorem wP {s0 s1 s2 s3 s4:Type} {f1:Ac s0 s1} {f2:Ac s1 s2} {f3:Ac s2 s3} {f4:Ac s3 s4} {g1:Ac s0 s1} {g2:Ac s1 s2} {g3:Ac s2 s3} {g4:Ac s3 s4} (h:f1.Apart g1) :(Ac.comp4 f1 f2 f3 f4).Apart (Ac.comp4 g1 g2 g3 g4):=by
 constructor
 intro x s
 show g4.get (g3.get (g2.get (g1.get ((f1.put (f2.put (f3.put (f4.put x (f3.get (f2.get (f1.get s)))) (f2.get (f1.get s))) (f1.get s)) s)))))=g4.get (g3.get (g2.get (g1.get (s))))
 rw [h.l]
theorem wQ {s0 s1 s2 s3 s4:Type} {f1:Ac s0 s1} {f2:Ac s1 s2} {f3:Ac s2 s3} {f4:Ac s3 s4} {g2:Ac s1 s2} {g3:Ac s2 s3} {g4:Ac s3 s4} (h1:f1.Law) (h:f2.Apart g2) :(Ac.comp4 f1 f2 f3 f4).Apart (Ac.comp4 f1 g2 g3 g4):=by
 constructor
 intro x s
 show g4.get (g3.get (g2.get (f1.get ((f1.put (f2.put (f3.put (f4.put x (f3.get (f2.get (f1.get s)))) (f2.get (f1.get s))) (f1.get s)) s)))))=g4.get (g3.get (g2.get (f1.get (s))))
 rw [h1.same,h.l]
theorem wR {s0 s1 s2 s3 s4:Type} {f1:Ac s0 s1} {f2:Ac s1 s2} {f3:Ac s2 s3} {f4:Ac s3 s4} {g3:Ac s2 s3} {g4:Ac s3 s4} (h1:f1.Law) (h2:f2.Law) (h:f3.Apart g3) :(Ac.comp4 f1 f2 f3 f4).Apart (Ac.comp4 f1 f2 g3 g4):=by
 constructor
 intro x s
 show g4.get (g3.get (f2.get (f1.get ((f1.put (f2.put (f3.put (f4.put x (f3.get (f2.get (f1.get s)))) (f2.get (f1.get s))) (f1.get s)) s)))))=g4.get (g3.get (f2.get (f1.get (s))))
 rw [h1.same,h2.same,h.l]
theorem wS {s0 s1 s2 s3 s4:Type} {f1:Ac s0 s1} {f2:Ac s1 s2} {f3:Ac s2 s3} {f4:Ac s3 s4} {g4:Ac s3 s4} (h1:f1.Law) (h2:f2.Law) (h3:f3.Law) (h:f4.Apart g4) :(Ac.comp4 f1 f2 f3 f4).Apart (Ac.comp4 f1 f2 f3 g4):=by
 constructor
 intro x s
 show g4.get (f3.get (f2.get (f1.get ((f1.put (f2.put (f3.put (f4.put x (f3.get (f2.get (f1.get s)))) (f2.get (f1.get s))) (f1.get s)) s)))))=g4.get (f3.get (f2.get (f1.get (s))))
 rw [h1.same,h2.same,h3.same,h.l]
theorem EN {s0 s1 s2 s3 s4 s5 s6:Type} {f1:Ac s0 s1} {f2:Ac s1 s2} {f3:Ac s2 s3} {f4:Ac s3 s4} {f5:Ac s4 s5} {f6:Ac s5 s6} (h1:f1.Law) (h2:f2.Law) (h3:f3.Law) (h4:f4.Law) (h5:f5.Law) (h6:f6.Law) :(Ac.comp6 f1 f2 f3 f4 f5 f6).Law:=by
 constructor
 intro x s
 show f6.get (f5.get (f4.get (f3.get (f2.get (f1.get ((Ac.comp6 f1 f2 f3 f4 f5 f6).put x s))))))=x
 show f6.get (f5.get (f4.get (f3.get (f2.get (f1.get ((f1.put (f2.put (f3.put (f4.put (f5.put (f6.put x (f5.get (f4.get (f3.get (f2.get (f1.get s)))))) (f4.get (f3.get (f2.get (f1.get s))))) (f3.get (f2.get (f1.get s)))) (f2.get (f1.get s))) (f1.get s)) s)))))))=x
 rw [h1.same,h2.same,h3.same,h4.same,h5.same,h6.same]
theorem wT {s0 s1 s2 s3 s4 s5 s6:Type} {f1:Ac s0 s1} {f2:Ac s1 s2} {f3:Ac s2 s3} {f4:Ac s3 s4} {f5:Ac s4 s5} {f6:Ac s5 s6} {g1:Ac s0 s1} {g2:Ac s1 s2} {g3:Ac s2 s3} {g4:Ac s3 s4} {g5:Ac s4 s5} {g6:Ac s5 s6} (h:f1.Apart g1) :(Ac.comp6 f1 f2 f3 f4 f5 f6).Apart (Ac.comp6 g1 g2 g3 g4 g5 g6):=by
 constructor
 intro x s
 show g6.get (g5.get (g4.get (g3.get (g2.get (g1.get ((f1.put (f2.put (f3.put (f4.put (f5.put (f6.put x (f5.get (f4.get (f3.get (f2.get (f1.get s)))))) (f4.get (f3.get (f2.get (f1.get s))))) (f3.get (f2.get (f1.get s)))) (f2.get (f1.get s))) (f1.get s)) s)))))))=g6.get (g5.get (g4.get (g3.get (g2.get (g1.get (s))))))
 rw [h.l]
theorem wV {s0 s1 s2 s3 s4 s5 s6:Type} {f1:Ac s0 s1} {f2:Ac s1 s2} {f3:Ac s2 s3} {f4:Ac s3 s4} {f5:Ac s4 s5} {f6:Ac s5 s6} {g2:Ac s1 s2} {g3:Ac s2 s3} {g4:Ac s3 s4} {g5:Ac s4 s5} {g6:Ac s5 s6} (h1:f1.Law) (h:f2.Apart g2) :(Ac.comp6 f1 f2 f3 f4 f5 f6).Apart (Ac.comp6 f1 g2 g3 g4 g5 g6):=by
 constructor
 intro x s
 show g6.get (g5.get (g4.get (g3.get (g2.get (f1.get ((f1.put (f2.put (f3.put (f4.put (f5.put (f6.put x (f5.get (f4.get (f3.get (f2.get (f1.get s)))))) (f4.get (f3.get (f2.get (f1.get s))))) (f3.get (f2.get (f1.get s)))) (f2.get (f1.get s))) (f1.get s)) s)))))))=g6.get (g5.get (g4.get (g3.get (g2.get (f1.get (s))))))
 rw [h1.same,h.l]
theorem wW {s0 s1 s2 s3 s4 s5 s6:Type} {f1:Ac s0 s1} {f2:Ac s1 s2} {f3:Ac s2 s3} {f4:Ac s3 s4} {f5:Ac s4 s5} {f6:Ac s5 s6} {g3:Ac s2 s3} {g4:Ac s3 s4} {g5:Ac s4 s5} {g6:Ac s5 s6} (h1:f1.Law) (h2:f2.Law) (h:f3.Apart g3) :(Ac.comp6 f1 f2 f3 f4 f5 f6).Apart (Ac.comp6 f1 f2 g3 g4 g5 g6):=by
 constructor
 intro x s
 show g6.get (g5.get (g4.get (g3.get (f2.get (f1.get ((f1.put (f2.put (f3.put (f4.put (f5.put (f6.put x (f5.get (f4.get (f3.get (f2.get (f1.get s)))))) (f4.get (f3.get (f2.get (f1.get s))))) (f3.get (f2.get (f1.get s)))) (f2.get (f1.get s))) (f1.get s)) s)))))))=g6.get (g5.get (g4.get (g3.get (f2.get (f1.get (s))))))
 rw [h1.same,h2.same,h.l]
theorem wX {s0 s1 s2 s3 s4 s5 s6:Type} {f1:Ac s0 s1} {f2:Ac s1 s2} {f3:Ac s2 s3} {f4:Ac s3 s4} {f5:Ac s4 s5} {f6:Ac s5 s6} {g4:Ac s3 s4} {g5:Ac s4 s5} {g6:Ac s5 s6} (h1:f1.Law) (h2:f2.Law) (h3:f3.Law) (h:f4.Apart g4) :(Ac.comp6 f1 f2 f3 f4 f5 f6).Apart (Ac.comp6 f1 f2 f3 g4 g5 g6):=by
 constructor
 intro x s
 show g6.get (g5.get (g4.get (f3.get (f2.get (f1.get ((f1.put (f2.put (f3.put (f4.put (f5.put (f6.put x (f5.get (f4.get (f3.get (f2.get (f1.get s)))))) (f4.get (f3.get (f2.get (f1.get s))))) (f3.get (f2.get (f1.get s)))) (f2.get (f1.get s))) (f1.get s)) s)))))))=g6.get (g5.get (g4.get (f3.get (f2.get (f1.get (s))))))
 rw [h1.same,h2.same,h3.same,h.l]
theorem wY {s0 s1 s2 s3 s4 s5 s6:Type} {f1:Ac s0 s1} {f2:Ac s1 s2} {f3:Ac s2 s3} {f4:Ac s3 s4} {f5:Ac s4 s5} {f6:Ac s5 s6} {g5:Ac s4 s5} {g6:Ac s5 s6} (h1:f1.Law) (h2:f2.Law) (h3:f3.Law) (h4:f4.Law) (h:f5.Apart g5) :(Ac.comp6 f1 f2 f3 f4 f5 f6).Apart (Ac.comp6 f1 f2 f3 f4 g5 g6):=by
 constructor
 intro x s
 show g6.get (g5.get (f4.get (f3.get (f2.get (f1.get ((f1.put (f2.put (f3.put (f4.put (f5.put (f6.put x (f5.get (f4.get (f3.get (f2.get (f1.get s)))))) (f4.get (f3.get (f2.get (f1.get s))))) (f3.get (f2.get (f1.get s)))) (f2.get (f1.get s))) (f1.get s)) s)))))))=g6.get (g5.get (f4.get (f3.get (f2.get (f1.get (s))))))
 rw [h1.same,h2.same,h3.same,h4.same,h.l]
theorem wZ {s0 s1 s2 s3 s4 s5 s6:Type} {f1:Ac s0 s1} {f2:Ac s1 s2} {f3:Ac s2 s3} {f4:Ac s3 s4} {f5:Ac s4 s5} {f6:Ac s5 s6} {g6:Ac s5 s6} (h1:f1.Law) (h2:f2.Law) (h3:f3.Law) (h4:f4.Law) (h5:f5.Law) (h:f6.Apart g6) :(Ac.comp6 f1 f2 f3 f4 f5 f6).Apart (Ac.comp6 f1 f2 f3 f4 f5 g6):=by
 constructor
 intro x s
 show g6.get (f5.get (f4.get (f3.get (f2.get (f1.get ((f1.put (f2.put (f3.put (f4.put (f5.put (f6.put x (f5.get (f4.get (f3.get (f2.get (f1.get s)))))) (f4.get (f3.get (f2.get (f1.get s))))) (f3.get (f2.get (f1.get s)))) (f2.get (f1.get s))) (f1.get s)) s)))))))=g6.get (f5.get (f4.get (f3.get (f2.get (f1.get (s))))))
 rw [h1.same,h2.same,h3.same,h4.same,h5.same,h.l]
theorem gv {α:Type} (i:Nat) (x:α) (s:T3 α) :(cr i).get ((cr i).put x s)=x:=(EL (aR _) (aR _) (aR _)).same x s
theorem CZ {α:Type} {i j:Nat} (hi:i<512) (hj:j<512) (h:i≠j) (x:α) (s:T3 α) :(cr j).get ((cr i).put x s) =(cr j).get s:=by
 unfold cr
 by_cases e1:dig i 64=dig j 64
 case neg=>exact (wM (cw (Nat.mod_lt _ (by decide)) (Nat.mod_lt _ (by decide)) e1)).l x s
 by_cases e2:dig i 8=dig j 8
 case neg=>rw [←e1];exact (wN (aR _) (cw (Nat.mod_lt _ (by decide)) (Nat.mod_lt _ (by decide)) e2)).l x s
 by_cases e3:dig i 1=dig j 1
 case neg=>rw [←e1,←e2];exact (wO (aR _) (aR _) (cw (Nat.mod_lt _ (by decide)) (Nat.mod_lt _ (by decide)) e3)).l x s
 exfalso
 have q1:i / 64 % 8=j / 64 % 8:=e1
 have q2:i / 8 % 8=j / 8 % 8:=e2
 have q3:i / 1 % 8=j / 1 % 8:=e3
 omega
theorem Ev {α:Type} (i:Nat) (x:α) (s:T4 α) :(tA i).get ((tA i).put x s)=x:=(EM (aR _) (aR _) (aR _) (aR _)).same x s
theorem JJ {α:Type} {i j:Nat} (hi:i<4096) (hj:j<4096) (h:i≠j) (x:α) (s:T4 α) :(tA j).get ((tA i).put x s) =(tA j).get s:=by
 unfold tA
 by_cases e1:dig i 512=dig j 512
 case neg=>exact (wP (cw (Nat.mod_lt _ (by decide)) (Nat.mod_lt _ (by decide)) e1)).l x s
 by_cases e2:dig i 64=dig j 64
 case neg=>rw [←e1];exact (wQ (aR _) (cw (Nat.mod_lt _ (by decide)) (Nat.mod_lt _ (by decide)) e2)).l x s
 by_cases e3:dig i 8=dig j 8
 case neg=>rw [←e1,←e2];exact (wR (aR _) (aR _) (cw (Nat.mod_lt _ (by decide)) (Nat.mod_lt _ (by decide)) e3)).l x s
 by_cases e4:dig i 1=dig j 1
 case neg=>rw [←e1,←e2,←e3];exact (wS (aR _) (aR _) (aR _) (cw (Nat.mod_lt _ (by decide)) (Nat.mod_lt _ (by decide)) e4)).l x s
 exfalso
 have q1:i / 512 % 8=j / 512 % 8:=e1
 have q2:i / 64 % 8=j / 64 % 8:=e2
 have q3:i / 8 % 8=j / 8 % 8:=e3
 have q4:i / 1 % 8=j / 1 % 8:=e4
 omega
theorem Ew {α:Type} (i:Nat) (x:α) (s:T6 α) :(wF i).get ((wF i).put x s)=x:=(EN (aR _) (aR _) (aR _) (aR _) (aR _) (aR _)).same x s
theorem JK {α:Type} {i j:Nat} (hi:i<262144) (hj:j<262144) (h:i≠j) (x:α) (s:T6 α) :(wF j).get ((wF i).put x s) =(wF j).get s:=by
 unfold wF
 by_cases e1:dig i 32768=dig j 32768
 case neg=>exact (wT (cw (Nat.mod_lt _ (by decide)) (Nat.mod_lt _ (by decide)) e1)).l x s
 by_cases e2:dig i 4096=dig j 4096
 case neg=>rw [←e1];exact (wV (aR _) (cw (Nat.mod_lt _ (by decide)) (Nat.mod_lt _ (by decide)) e2)).l x s
 by_cases e3:dig i 512=dig j 512
 case neg=>rw [←e1,←e2];exact (wW (aR _) (aR _) (cw (Nat.mod_lt _ (by decide)) (Nat.mod_lt _ (by decide)) e3)).l x s
 by_cases e4:dig i 64=dig j 64
 case neg=>rw [←e1,←e2,←e3];exact (wX (aR _) (aR _) (aR _) (cw (Nat.mod_lt _ (by decide)) (Nat.mod_lt _ (by decide)) e4)).l x s
 by_cases e5:dig i 8=dig j 8
 case neg=>rw [←e1,←e2,←e3,←e4];exact (wY (aR _) (aR _) (aR _) (aR _) (cw (Nat.mod_lt _ (by decide)) (Nat.mod_lt _ (by decide)) e5)).l x s
 by_cases e6:dig i 1=dig j 1
 case neg=>rw [←e1,←e2,←e3,←e4,←e5];exact (wZ (aR _) (aR _) (aR _) (aR _) (aR _) (cw (Nat.mod_lt _ (by decide)) (Nat.mod_lt _ (by decide)) e6)).l x s
 exfalso
 have q1:i / 32768 % 8=j / 32768 % 8:=e1
 have q2:i / 4096 % 8=j / 4096 % 8:=e2
 have q3:i / 512 % 8=j / 512 % 8:=e3
 have q4:i / 64 % 8=j / 64 % 8:=e4
 have q5:i / 8 % 8=j / 8 % 8:=e5
 have q6:i / 1 % 8=j / 1 % 8:=e6
 omega
theorem jZ {α:Type} (r:Nat) (x:α) :(d8 r:Ac (N8 α) α).get (Cw x)=x:=by
 unfold d8
 cases Nat.beq r 0
 case true=>rfl
 cases Nat.beq r 1
 case true=>rfl
 cases Nat.beq r 2
 case true=>rfl
 cases Nat.beq r 3
 case true=>rfl
 cases Nat.beq r 4
 case true=>rfl
 cases Nat.beq r 5
 case true=>rfl
 cases Nat.beq r 6
 case true=>rfl
 rfl
theorem Ge {α:Type} (i:Nat) (x:α) :(cr i).get (FH x)=x:=by
 show (d8 _).get ((d8 _).get ((d8 _).get (FH x)))=x
 unfold FH
 rw [jZ,jZ,jZ]
theorem Gf {α:Type} (i:Nat) (x:α) :(wF i).get (K5 x)=x:=by
 show (d8 _).get ((d8 _).get ((d8 _).get ((d8 _).get ((d8 _).get ((d8 _).get (K5 x))))))=x
 unfold K5 OY FH
 rw [jZ,jZ,jZ,jZ,jZ,jZ]
end
end Go.Mir
namespace Go.Mir
open Go.RowKit
noncomputable section
inductive C where
 | int (k:IntKind) (n:Int)
 | kb (b:Bool)
 | ptr (h o:Nat)
 | gp (h v o:Nat)
 | gsl (h v e o l:Nat)
 | oth (v:V)
abbrev CT:=T4 C
inductive W where
 | c (x:C)
 | agg (t:CT) (n:Nat)
inductive U where
 | int (k:IntKind) (n:Int)
 | kb (b:Bool)
 | ptr (h o:Nat)
 | gp (h v o:Nat)
 | gsl (h v e o l:Nat)
 | oth (v:V)
 | agg (t:CT) (n:Nat)
 | tup (l:List W)
inductive Bk where
 | none
 | cells (t:CT) (n:Nat)
 | grow (ver esz:Nat) (t:CT) (n:Nat)
 | mp (es:List (V×V))
abbrev TM:=T3 U
abbrev HP:=T6 Bk
def tm0:TM:=FH (.oth .any)
def hp0:HP:=K5 .none
def ct0:CT:=OY (.oth .any)
inductive Rv where
 | go (e:Lf) (tm:TM) (hp:HP) (nx:Nat)
 | no (w:List Nat)
inductive Rf where
 | ok (u:U) (hp:HP) (nx:Nat)
 | ex (u:U) (hp:HP) (nx:Nat)
 | no (w:List Nat)
abbrev KR:=TM→HP→Nat→Rv
abbrev ek:=FuncId→List U→HP→Nat→Rf
def C.toV:C→V
 | .int k n=> .int k n
 | .kb b=> .kb b
 | .ptr h o=> .ptr h o
 | .gp h v o=> .gp h v o
 | .gsl h v e o l=> .gsl h v e o l
 | .oth v=>v
def b9 (t:CT) (i:Nat):C:=Ac.rec (motive:=fun _=>CT→C) (fun g _=>g) (tA i) t
def dE (t:CT) (i:Nat) (x:C):CT:=Ac.rec (motive:=fun _=>C→CT→CT) (fun _ p=>p) (tA i) x t
def Kt:Nat:=4096
def Ks:Nat:=262144
def yB (h:Nat):Ac HP Bk:=Bool.rec (motive:=fun _=>Ac HP Bk) ⟨fun _=> .none,fun _ s=>s⟩ (wF h) (Nat.ble (Nat.succ h) 262144)
def a8 (hp:HP) (h:Nat):Bk:=Ac.rec (motive:=fun _=>HP→Bk) (fun g _=>g) (yB h) hp
def cX (hp:HP) (h:Nat) (b:Bk):HP:=Ac.rec (motive:=fun _=>Bk→HP→HP) (fun _ p=>p) (yB h) b hp
def tq (t:CT):Nat→Nat→List V
 | 0,_=> []
 | n+1,i=>(b9 t i).toV::tq t n (i+1)
def toL (t:CT) (n:Nat):List V:=tq t n 0
def EF (v:V):C:=match v with
 | .int k n=> .int k n
 | .kb b=> .kb b
 | .ptr h o=> .ptr h o
 | .gp h v o=> .gp h v o
 | .gsl h v e o l=> .gsl h v e o l
 | v=> .oth v
def OB:List V→Nat→CT→CT:=List.rec (motive:=fun _=>Nat→CT→CT) (fun _ t=>t) (fun v _ ih i t=>ih (Nat.succ i) (dE t i (EF v)))
def ofL (l:List V):CT:=OB l 0 ct0
def W.toV:W→V
 | .c x=>x.toV
 | .agg t n=> .agg (toL t n)
def U.toV:U→V
 | .int k n=> .int k n
 | .kb b=> .kb b
 | .ptr h o=> .ptr h o
 | .gp h v o=> .gp h v o
 | .gsl h v e o l=> .gsl h v e o l
 | .oth v=>v
 | .agg t n=> .agg (toL t n)
 | .tup l=> .tup (l.map W.toV)
def Bk.toB:Bk→Option Blk
 | .none=>Option.none
 | .cells t n=>some (.cells (toL t n))
 | .grow v e t n=>some (.grow v e (toL t n))
 | .mp es=>some (.mp es)
def V.isOne (v:V):Bool:=
 V.rec (motive_1:=fun _=>Bool) (motive_2:=fun _=>Unit) false (fun _ _=>true) (fun _=>true) (fun _=>true) (fun q p=>false) (fun _=>true) true (fun _ _=>true) (fun _ _ _ _=>true) (fun _ _ _ _=>true) true true (fun _ _=>true) (fun _ _=>true) (fun _ _ _ _ _=>true) (fun _ _ _=>true) (fun _=>true) (fun _ _=>true) true true (fun _ _ _=>true) (fun cs ih=>false) (fun cs ih=>false) () (fun _ _ _ _=>()) v
def Bj (l:List V):Bool:=List.rec (motive:=fun _=>Bool) true (fun v _ ih=>Bool.rec false ih v.isOne) l
def fS (l:List V):Bool:=Bool.rec false (Nat.ble l.length Kt) (Bj l)
def jV (v:V):U:=match v with
 | .int k n=> .int k n
 | .kb b=> .kb b
 | .bool b=> .kb b
 | .ptr h o=> .ptr h o
 | .gp h v o=> .gp h v o
 | .gsl h v e o l=> .gsl h v e o l
 | .agg cs=>Bool.rec (.oth .any) (.agg (ofL cs) cs.length) (fS cs)
 | .tup vs=> .tup (vs.map fun v=>match v with
  | .agg cs=>Bool.rec (.c (.oth .any)) (.agg (ofL cs) cs.length) (fS cs)
  | .bool b=> .c (.kb b)
  | v=> .c (EF v))
 | v=> .oth v
def cU:C→U:=C.rec (motive:=fun _=>U) .int .kb .ptr .gp .gsl .oth
def wU:W→U:=W.rec (motive:=fun _=>U) cU .agg
def Ba:U→(IntKind→Int→Rv)→Rv→Rv:=U.rec (motive:=fun _=>(IntKind→Int→Rv)→Rv→Rv) (fun k n f sl=>f k n) (fun _ _ sl=>sl) (fun _ _ _ sl=>sl) (fun _ _ _ _ sl=>sl) (fun _ _ _ _ _ _ sl=>sl) (fun _ _ sl=>sl) (fun _ _ _ sl=>sl) (fun _ _ sl=>sl)
def uKb:U→(Bool→Rv)→Rv→Rv:=U.rec (motive:=fun _=>(Bool→Rv)→Rv→Rv) (fun _ _ _ sl=>sl) (fun b f sl=>f b) (fun _ _ _ sl=>sl) (fun _ _ _ _ sl=>sl) (fun _ _ _ _ _ _ sl=>sl) (fun _ _ sl=>sl) (fun _ _ _ sl=>sl) (fun _ _ sl=>sl)
def CV:U→(Nat→Nat→Rv)→(Nat→Nat→Nat→Rv)→Rv→Rv:=U.rec (motive:=fun _=>(Nat→Nat→Rv)→(Nat→Nat→Nat→Rv)→Rv→Rv) (fun _ _ _ _ sl=>sl) (fun _ _ _ sl=>sl) (fun h o f g sl=>f h o) (fun h v o f g sl=>g h v o) (fun _ _ _ _ _ _ _ sl=>sl) (fun _ _ _ sl=>sl) (fun _ _ _ _ sl=>sl) (fun _ _ _ sl=>sl)
def PP:U→(Nat→Nat→Nat→Nat→Nat→Rv)→Rv→Rv:=U.rec (motive:=fun _=>(Nat→Nat→Nat→Nat→Nat→Rv)→Rv→Rv) (fun _ _ _ sl=>sl) (fun _ _ sl=>sl) (fun _ _ _ sl=>sl) (fun _ _ _ _ sl=>sl) (fun h v e o l f sl=>f h v e o l) (fun _ _ sl=>sl) (fun _ _ _ sl=>sl) (fun _ _ sl=>sl)
def RM (v:V) (a b sl:Rv):Rv:=match v with
 | .nilsl=>a
 | .esl=>b
 | _=>sl
def uSl:U→Rv→Rv→(Nat→Nat→Nat→Nat→Nat→Rv)→Rv→Rv:=U.rec (motive:=fun _=>Rv→Rv→(Nat→Nat→Nat→Nat→Nat→Rv)→Rv→Rv) (fun _ _ _ _ _ sl=>sl) (fun _ _ _ _ sl=>sl) (fun _ _ _ _ _ sl=>sl) (fun _ _ _ _ _ _ sl=>sl) (fun h v e o l a b f sl=>f h v e o l) (fun v a b f sl=>RM v a b sl) (fun _ _ _ _ _ sl=>sl) (fun _ _ _ _ sl=>sl)
def vFn (v:V) (k:FuncId→List V→Rv) (sl:Rv):Rv:=match v with
 | .fn f cs=>k f cs
 | _=>sl
def uFn:U→(FuncId→List V→Rv)→Rv→Rv:=U.rec (motive:=fun _=>(FuncId→List V→Rv)→Rv→Rv) (fun _ _ _ sl=>sl) (fun _ _ sl=>sl) (fun _ _ _ sl=>sl) (fun _ _ _ _ sl=>sl) (fun _ _ _ _ _ _ sl=>sl) (fun v f sl=>vFn v f sl) (fun _ _ _ sl=>sl) (fun _ _ sl=>sl)
def Lo (v:V) (k sl:Rv):Rv:=Bool.rec (motive:=fun _=>Rv) sl k v.isOne
def uC:U→(C→Rv)→Rv→Rv:=U.rec (motive:=fun _=>(C→Rv)→Rv→Rv) (fun k n f sl=>f (.int k n)) (fun b f sl=>f (.kb b)) (fun h o f sl=>f (.ptr h o)) (fun h v o f sl=>f (.gp h v o)) (fun h v e o l f sl=>f (.gsl h v e o l)) (fun v f sl=>Lo v (f (.oth v)) sl) (fun _ _ _ sl=>sl) (fun _ _ sl=>sl)
def Ln:U→(CT→Nat→Rv)→Rv→Rv:=U.rec (motive:=fun _=>(CT→Nat→Rv)→Rv→Rv) (fun _ _ _ sl=>sl) (fun _ _ sl=>sl) (fun _ _ _ sl=>sl) (fun _ _ _ _ sl=>sl) (fun _ _ _ _ _ _ sl=>sl) (fun _ _ sl=>sl) (fun t n f sl=>f t n) (fun _ _ sl=>sl)
def Q7:U→(List W→Rv)→Rv→Rv:=U.rec (motive:=fun _=>(List W→Rv)→Rv→Rv) (fun _ _ _ sl=>sl) (fun _ _ sl=>sl) (fun _ _ _ sl=>sl) (fun _ _ _ _ sl=>sl) (fun _ _ _ _ _ _ sl=>sl) (fun _ _ sl=>sl) (fun _ _ _ sl=>sl) (fun l f sl=>f l)
def uCA:U→(C→Rv)→(CT→Nat→Rv)→Rv→Rv:=U.rec (motive:=fun _=>(C→Rv)→(CT→Nat→Rv)→Rv→Rv) (fun k n f g sl=>f (.int k n)) (fun b f g sl=>f (.kb b)) (fun h o f g sl=>f (.ptr h o)) (fun h v o f g sl=>f (.gp h v o)) (fun h v e o l f g sl=>f (.gsl h v e o l)) (fun v f g sl=>Lo v (f (.oth v)) sl) (fun t n f g sl=>g t n) (fun _ _ _ sl=>sl)
def Q4:U→Rv→Rv→Rv→Rv:=U.rec (motive:=fun _=>Rv→Rv→Rv→Rv) (fun _ _ _ _ sl=>sl) (fun b y n _=>Bool.rec (motive:=fun _=>Rv) n y b) (fun _ _ _ _ sl=>sl) (fun _ _ _ _ _ sl=>sl) (fun _ _ _ _ _ _ _ sl=>sl) (fun _ _ _ sl=>sl) (fun _ _ _ _ sl=>sl) (fun l _ n sl=>List.rec (motive:=fun _=>Rv) n (fun _ _ _=>sl) l)
def Q3:U→Rv→Rv→Rv→Rv:=U.rec (motive:=fun _=>Rv→Rv→Rv→Rv) (fun _ _ _ _ sl=>sl) (fun b y n _=>Bool.rec (motive:=fun _=>Rv) y n b) (fun _ _ _ _ sl=>sl) (fun _ _ _ _ _ sl=>sl) (fun _ _ _ _ _ _ _ sl=>sl) (fun _ _ _ sl=>sl) (fun _ _ _ _ sl=>sl) (fun l _ n sl=>List.rec (motive:=fun _=>Rv) n (fun _ _ _=>sl) l)
def ckR (b:Bool) (r sl:Rv):Rv:=Bool.rec (motive:=fun _=>Rv) sl r b
def bkC:Bk→(CT→Nat→Rv)→Rv→Rv:=Bk.rec (motive:=fun _=>(CT→Nat→Rv)→Rv→Rv) (fun _ sl=>sl) (fun t n k _=>k t n) (fun _ _ _ _ _ sl=>sl) (fun _ _ sl=>sl)
def bkG:Bk→(Nat→Nat→CT→Nat→Rv)→Rv→Rv:=Bk.rec (motive:=fun _=>(Nat→Nat→CT→Nat→Rv)→Rv→Rv) (fun _ sl=>sl) (fun _ _ _ sl=>sl) (fun v e t n k _=>k v e t n) (fun _ _ sl=>sl)
def dV (n:Nat) :(Nat→Rv)→Rv:=Nat.rec (motive:=fun _=>(Nat→Rv)→Rv) (fun k=>k 0) (fun n _ k=>k (Nat.succ n)) n
def IK:Int→(Nat→Rv)→Rv→Rv:=Int.rec (motive:=fun _=>(Nat→Rv)→Rv→Rv) (fun n k _=>k n) (fun _ _ sl=>sl)
def oL (dst:CT) (d:Nat) (src:CT) (s n:Nat):CT:=Nat.rec (motive:=fun _=>CT) dst (fun i acc=>dE acc (Nat.add d i) (b9 src (Nat.add s i))) n
inductive TI where
 | no
 | one
 | agg (n:Nat)
def tyI (tb:Tbl) (t:TypeId):TI:=match tb t with
 | some td=>if td.kind.agg then .agg td.size else if td.size=1 then .one else .no
 | none=> .no
def J6 (tb:Tbl) (t:TypeId) (f:Nat):Option Nat:=match tb t with
 | some td=>match td.kind with
  | .struct fs=>match fs[f]? with
   | some (o,ft)=>match tb ft with
    | some tf=>if tf.size=0 then none else some o
    | none=>none
   | none=>none
  | _=>none
 | none=>none
inductive FVI where
 | no
 | at (o:Nat) (i:TI)
def NF (tb:Tbl) (t:TypeId) (f:Nat):FVI:=match tb t with
 | some td=>match td.kind with
  | .struct fs=>match fs[f]? with
   | some (o,ft)=> .at o (tyI tb ft)
   | none=> .no
  | _=> .no
 | none=> .no
inductive IXI where
 | no
 | sl (esz:Nat)
 | ar (len esz:Nat)
def Kh (tb:Tbl) (t:TypeId):IXI:=match tb t with
 | some td=>match td.kind with
  | .slice e=>match tb e with|some te=> .sl te.size|none=> .no
  | .arr len e=>match tb e with|some te=> .ar len te.size|none=> .no
  | _=> .no
 | none=> .no
inductive IVI where
 | no
 | at (len esz:Nat) (i:TI)
def NR (tb:Tbl) (t:TypeId):IVI:=match tb t with
 | some td=>match td.kind with
  | .arr len e=>match tb e with|some te=> .at len te.size (tyI tb e)|none=> .no
  | _=> .no
 | none=> .no
inductive ZTI where
 | no
 | at (t:CT) (n:Nat)
def wy (tb:Tbl) (t:TypeId):ZTI:=match tb t with
 | some td=>bif fS td.zero then .at (ofL td.zero) td.zero.length else .no
 | none=> .no
def cvI (tb:Tbl) (s d:TypeId):Option IntKind:=match tb s,tb d with
 | some ts,some td=>match ts.kind,td.kind with
  | .int _,.int k=>some k
  | _,_=>none
 | _,_=>none
inductive PI where
 | no
 | at (o size:Nat)
def II (tb:Tbl) (t:TypeId) (i:Nat):PI:=match tb t with
 | some td=>match td.kind with
  | .struct fs=>match fs[i]? with
   | some (o,ft)=>match tb ft with
    | some tf=> .at o tf.size
    | none=> .no
   | none=> .no
  | .arr _ e=>match tb e with
   | some te=> .at (i*te.size) te.size
   | none=> .no
  | _=> .no
 | none=> .no
def wJ (tb:Tbl) (t:TypeId):Bool:=match tb t with
 | some td=>match td.kind with
  | .struct fs=>fs.all fun q=>(tb q.2).isSome
  | .arr _ e=>(tb e).isSome
  | _=>false
 | none=>false
inductive SLI where
 | no
 | at (esz:Nat) (t:CT) (n:Nat)
def Nd (tb:Tbl) (t:TypeId) (n:Nat):SLI:=match tb t with
 | some td=>match td.kind with
  | .slice e=>match tb e with
   | some te=>if te.ty.isNone=true∧n≤1000∧te.size≤1000∧te.zero.length=te.size∧fS (mF te.zero n)=true then .at te.size (ofL (mF te.zero n)) (n*te.size) else .no
   | none=> .no
  | _=> .no
 | none=> .no
inductive API where
 | no
 | at (esz bytes:Nat)
def M8 (tb:Tbl) (c:Call):API:=match c.argTypes.toList with
 | [t,t2]=>match tb t,tb t2 with
  | some td,some td2=>match td.kind with
   | .slice e=>match tb e with
    | some te=>if (iY tb td2).isSome=true∧te.ty.isNone=true∧0<te.bytes∧te.bytes≤1000∧te.zero.length=te.size then .at te.size te.bytes else .no
    | none=> .no
   | _=> .no
  | _,_=> .no
 | _=> .no
def Hm (tb:Tbl) (c:Call):Bool:=match c.argTypes.toList with
 | [t]=>match tb t with
  | some td=>Hl td.kind
  | none=>false
 | _=>false
def PN (tb:Tbl) (t:TypeId):Bool:=match tb t with
 | some _=>true
 | none=>false
def O5 (tb:Tbl) (t:TypeId):Option Nat:=match tb t with
 | some td=>iY tb td
 | none=>none
def mxK (k:IntKind):Nat:=IntKind.rec (motive:=fun _=>Nat) 127 32767 2147483647 9223372036854775807 255 65535 4294967295 18446744073709551615 k
def ikN (k:IntKind):Nat:=IntKind.rec (motive:=fun _=>Nat) 0 1 2 3 4 5 6 7 k
def NN (k k':IntKind):Bool:=Nat.beq (ikN k) (ikN k')
def Oz (a b:Int) (f:Nat→Nat→Int) (g:Int):Int:=Int.rec (motive:=fun _=>Int) (fun x=>Int.rec (motive:=fun _=>Int) (fun y=>f x y) (fun _=>g) b) (fun _=>g) a
def Oy (a b:Int) (f:Nat→Nat→Bool) (g:Bool):Bool:=Int.rec (motive:=fun _=>Bool) (fun x=>Int.rec (motive:=fun _=>Bool) (fun y=>f x y) (fun _=>g) b) (fun _=>g) a
def OA (a b:Int) (f:Nat→Nat→Rv) (g:Rv):Rv:=Int.rec (motive:=fun _=>Rv) (fun x=>Int.rec (motive:=fun _=>Rv) (fun y=>f x y) (fun _=>g) b) (fun _=>g) a
def xj (k:IntKind) (n:Nat) (s:Int):Int:=Bool.rec (motive:=fun _=>Int) s (.ofNat n) (Nat.ble n (mxK k))
def eN (k:IntKind) (a b:Int):Int:=Oz a b (fun x y=>xj k (Nat.add x y) (k.wrap (a+b))) (k.wrap (a+b))
def PJ (k:IntKind) (a b:Int):Int:=Oz a b (fun x y=>Bool.rec (motive:=fun _=>Int) (k.wrap (a - b)) (xj k (Nat.sub x y) (k.wrap (a - b))) (Nat.ble y x)) (k.wrap (a - b))
def Ov (k:IntKind) (a b:Int):Int:=Oz a b (fun x y=>xj k (Nat.mul x y) (k.wrap (a*b))) (k.wrap (a*b))
def cvS (k:IntKind) (a:Int):Int:=Int.rec (motive:=fun _=>Int) (fun x=>xj k x (k.wrap a)) (fun _=>k.wrap a) a
def eqS (a b:Int):Bool:=Oy a b (fun x y=>Nat.beq x y) (a==b)
def ltS (a b:Int):Bool:=Oy a b (fun x y=>Nat.ble (Nat.succ x) y) (decide (a<b))
def leS (a b:Int):Bool:=Oy a b (fun x y=>Nat.ble x y) (decide (a≤b))
def Ft (b:Bool):Bool:=Bool.rec (motive:=fun _=>Bool) true false b
def Qc (ik:IntKind) (a b:Int) (k:U→Rv) (_:Rv):Rv:=k (.int ik (eN ik a b))
def Qg (ik:IntKind) (a b:Int) (k:U→Rv) (_:Rv):Rv:=k (.int ik (PJ ik a b))
def Qd (ik:IntKind) (a b:Int) (k:U→Rv) (_:Rv):Rv:=k (.int ik (Ov ik a b))
def Qe (ik:IntKind) (a b:Int) (k:U→Rv) (sl:Rv):Rv:=OA a b (fun x y=>ckR (Nat.ble 1 y) (k (.int ik (xj ik (Nat.div x y) (ik.wrap (a.tdiv b))))) sl) sl
def Qf (ik:IntKind) (a b:Int) (k:U→Rv) (sl:Rv):Rv:=OA a b (fun x y=>ckR (Nat.ble 1 y) (k (.int ik (.ofNat (Nat.mod x y)))) sl) sl
def fEq (_:IntKind) (a b:Int) (k:U→Rv) (_:Rv):Rv:=k (.kb (eqS a b))
def fNe (_:IntKind) (a b:Int) (k:U→Rv) (_:Rv):Rv:=k (.kb (Ft (eqS a b)))
def fLt (_:IntKind) (a b:Int) (k:U→Rv) (_:Rv):Rv:=k (.kb (ltS a b))
def fLe (_:IntKind) (a b:Int) (k:U→Rv) (_:Rv):Rv:=k (.kb (leS a b))
def fGt (_:IntKind) (a b:Int) (k:U→Rv) (_:Rv):Rv:=k (.kb (ltS b a))
def fGe (_:IntKind) (a b:Int) (k:U→Rv) (_:Rv):Rv:=k (.kb (leS b a))
def Fq (m:Nat) (hp:HP) (b:Bk) (u:U) (k:U→HP→Rv) (sl:Rv):Rv:=ckR (Nat.ble (Nat.succ m) Ks) (k u (cX hp m b)) sl
def Ri (x:U) (hp:HP) (m:Nat) (k:U→HP→Rv) (sl:Rv):Rv:=uCA x (fun c=>Fq m hp (.cells (dE ct0 0 c) 1) (.ptr m 0) k sl) (fun t n=>Fq m hp (.cells t n) (.ptr m 0) k sl) sl
abbrev LdF:=CT→Nat→Nat→(U→Rv)→Rv→Rv
def zL:LdF:=fun ct n off k sl=>ckR (Nat.ble (Nat.succ off) n) (k (cU (b9 ct off))) sl
def zK (m:Nat):LdF:=fun ct n off k sl=>ckR (Nat.ble (Nat.add off m) n) (Bool.rec (motive:=fun _=>Rv) (k (.agg (oL ct0 0 ct off m) m)) (k (.agg ct n)) (Nat.beq m n)) sl
def ldG (ld:LdF) (a:U) (hp:HP) (k:U→Rv) (sl:Rv):Rv:=CV a (fun h o=>bkC (a8 hp h) (fun ct n=>ld ct n o k sl) sl) (fun h v o=>bkG (a8 hp h) (fun v' _ ct n=>ckR (Nat.beq v v') (ld ct n o k sl) sl) sl) sl
abbrev StF:=U→CT→Nat→Nat→(CT→Rv)→Rv→Rv
def Ms:StF:=fun x ct n off k sl=>ckR (Nat.ble (Nat.succ off) n) (uC x (fun c=>k (dE ct off c)) sl) sl
def Mr (m:Nat):StF:=fun x ct n off k sl=>Ln x (fun xt m'=>ckR (Nat.beq m m') (ckR (Nat.ble (Nat.add off m) n) (Bool.rec (motive:=fun _=>Rv) (k (oL ct off xt 0 m)) (k xt) (Nat.beq m n)) sl) sl) sl
def stG (st:StF) (a x:U) (hp:HP) (k:U→HP→Rv) (sl:Rv):Rv:=CV a (fun h o=>bkC (a8 hp h) (fun ct n=>st x ct n o (fun ct=>k (.tup []) (cX hp h (.cells ct n))) sl) sl) (fun h v o=>bkG (a8 hp h) (fun v' e ct n=>ckR (Nat.beq v v') (st x ct n o (fun ct=>k (.tup []) (cX hp h (.grow v e ct n))) sl) sl) sl) sl
def faG (d:Nat) (x:U) (k:U→Rv) (sl:Rv):Rv:=CV x (fun h o=>k (.ptr h (Nat.add o d))) (fun h v o=>k (.gp h v (Nat.add o d))) sl
def fvG (o:Nat) (ld:LdF) (x:U) (k:U→Rv) (sl:Rv):Rv:=Ln x (fun ct n=>ld ct n o k sl) sl
def Rx (esz:Nat) (x i:U) (hp:HP) (k:U→Rv) (sl:Rv):Rv:=Ba i (fun _ n=>IK n (fun m=>PP x (fun h v e o l=>ckR (Nat.ble (Nat.succ m) l) (bkG (a8 hp h) (fun v' e' _ _=>ckR (Nat.beq v v') (ckR (Nat.beq esz e) (ckR (Nat.beq e e') (k (.gp h v (Nat.mul (Nat.add o m) e))) sl) sl) sl) sl) sl) sl) sl) sl
def Rw (l esz:Nat) (x i:U) (k:U→Rv) (sl:Rv):Rv:=Ba i (fun _ n=>IK n (fun m=>ckR (Nat.ble (Nat.succ m) l) (CV x (fun h o=>k (.ptr h (Nat.add o (Nat.mul m esz)))) (fun h v o=>k (.gp h v (Nat.add o (Nat.mul m esz)))) sl) sl) sl) sl
def ixV (l esz:Nat) (ld:LdF) (x i:U) (k:U→Rv) (sl:Rv):Rv:=Ba i (fun _ n=>IK n (fun m=>ckR (Nat.ble (Nat.succ m) l) (Ln x (fun ct n=>ld ct n (Nat.mul m esz) k sl) sl) sl) sl) sl
abbrev Eu:=IntKind→Int→Int→(U→Rv)→Rv→Rv
def JN (f:Eu) (x y:U) (k:U→Rv) (sl:Rv):Rv:=Ba x (fun ik a=>Ba y (fun ik' b=>ckR (NN ik ik') (f ik a b k sl) sl) sl) sl
def RD (x:U) (k:U→Rv) (sl:Rv):Rv:=uKb x (fun b=>k (.kb (Ft b))) sl
def cvG (ik:IntKind) (x:U) (k:U→Rv) (sl:Rv):Rv:=Ba x (fun _ n=>k (.int ik (cvS ik n))) sl
def QB (i:Nat):List W→(U→Rv)→Rv→Rv:=Nat.rec (motive:=fun _=>List W→(U→Rv)→Rv→Rv) (List.rec (motive:=fun _=>(U→Rv)→Rv→Rv) (fun _ sl=>sl) fun w _ _ k _=>k (wU w)) (fun _ ih=>List.rec (motive:=fun _=>(U→Rv)→Rv→Rv) (fun _ sl=>sl) fun _ r _=>ih r) i
def exG (i:Nat) (x:U) (k:U→Rv) (sl:Rv):Rv:=Q7 x (fun l=>QB i l k sl) sl
def RB (x:U) (k:U→Rv) (sl:Rv):Rv:=CV x (fun h o=>k (.ptr h o)) (fun h v o=>k (.gp h v o)) sl
def QH (c a b:U) (k:U→Rv) (sl:Rv):Rv:=uKb c (fun p=>k (Bool.rec (motive:=fun _=>U) b a p)) sl
def Nc (x:Option Operand) (d:Nat) (ev:Operand→U) (k:Nat→Rv) (sl:Rv):Rv:=Option.rec (motive:=fun _=>Rv) (k d) (fun x=>Ba (ev x) (fun _ n=>IK n k sl) sl) x
def RK (esz:Nat) (x:U) (lo hi:Option Operand) (ev:Operand→U) (hp:HP) (k:U→Rv) (sl:Rv):Rv:=PP x (fun h v e o l=>bkG (a8 hp h) (fun v' e' _ _=>ckR (Nat.beq v v') (ckR (Nat.beq esz e) (ckR (Nat.beq e e') (Nc lo 0 ev (fun a=>Nc hi l ev (fun b=>ckR (Nat.ble b l) (ckR (Nat.ble (Nat.succ a) b) (k (.gsl h v e (Nat.add o a) (Nat.sub b a))) sl) sl) sl) sl) sl) sl) sl) sl) sl
def Rz (x:U) (hp:HP) (k:U→Rv) (sl:Rv):Rv:=uSl x (k (.int .i64 (.ofNat 0))) (k (.int .i64 (.ofNat 0))) (fun h v e _ l=>bkG (a8 hp h) (fun v' e' _ _=>ckR (Nat.beq v v') (ckR (Nat.beq e e') (ckR (Nat.ble l aw) (k (.int .i64 (.ofNat l))) sl) sl) sl) sl) sl
def gcG (hp:HP) (esz:Nat) (u:U) (k:Nat→CT→Nat→Rv) (sl:Rv):Rv:=uSl u (k 0 ct0 0) (k 0 ct0 0) (fun h v e o l=>bkG (a8 hp h) (fun v' e' t n=>ckR (Nat.beq v v') (ckR (Nat.beq e esz) (ckR (Nat.beq e' esz) (ckR (Nat.ble (Nat.mul (Nat.add o l) esz) n) (k l t (Nat.mul o esz)) sl) sl) sl) sl) sl) sl
def Gj (esz bytes:Nat) (hp:HP) (m n:Nat) (xt:CT) (xo:Nat) (k:U→HP→Rv) (sl:Rv):Rv:=ckR (Nat.ble (Nat.mul n bytes) 70368744177664) (ckR (Nat.ble (Nat.mul n esz) Kt) (Fq m hp (.grow m esz (oL ct0 0 xt xo (Nat.mul n esz)) (Nat.mul n esz)) (.gsl m m esz 0 n) k sl) sl) sl
def apX (esz bytes:Nat) (hp:HP) (m:Nat) (s:U) (c:Nat) (xt:CT) (xo:Nat) (k:U→HP→Rv) (sl:Rv):Rv:=
 Nat.rec (motive:=fun _=>Rv) (uSl s (k s hp) (k s hp) (fun h v e _ _=>bkG (a8 hp h) (fun v' e' _ _=>ckR (Nat.beq v v') (ckR (Nat.beq e e') (k s hp) sl) sl) sl) sl)
  (fun c _=>uSl s (Gj esz bytes hp m (Nat.succ c) xt xo k sl) (Gj esz bytes hp m (Nat.succ c) xt xo k sl)
   (fun h v e o l=>bkG (a8 hp h) (fun v' e' t n=>ckR (Nat.beq v v') (ckR (Nat.beq e esz) (ckR (Nat.beq e' esz) (ckR (Nat.beq o 0) (ckR (Nat.beq (Nat.mul l esz) n) (ckR (Nat.ble (Nat.mul (Nat.add l (Nat.succ c)) bytes) 70368744177664) (ckR (Nat.ble (Nat.add n (Nat.mul (Nat.succ c) esz)) Kt)
    (k (.gsl h m esz 0 (Nat.add l (Nat.succ c))) (cX hp h (.grow m esz (oL t n xt xo (Nat.mul (Nat.succ c) esz)) (Nat.add n (Nat.mul (Nat.succ c) esz))))) sl) sl) sl) sl) sl) sl) sl) sl) sl)
  c
def apG (esz bytes:Nat) (s x:U) (hp:HP) (nx:Nat) (k:U→HP→Rv) (sl:Rv):Rv:=gcG hp esz x (fun c xt xo=>dV nx fun m=>apX esz bytes hp m s c xt xo k sl) sl
def C6 (l:List Operand) (ev:Operand→U):List V:=List.rec (motive:=fun _=>List V) [] (fun x _ ih=>(ev x).toV::ih) l
structure En where
 e0:Nat
 e1:Nat
 e2:Nat
 e3:Nat
def en0:En:=⟨0,0,0,0⟩
abbrev Gt:=U→U→U→U→TM→U
def isK (K i:Nat):Bool:=Bool.rec (motive:=fun _=>Bool) false (Nat.beq (Nat.mod (Nat.shiftRight K i) 2) 1) (Nat.ble (Nat.succ i) 512)
def u0:U:= .oth .any
def cZ (K:Nat) (e:En) (i:Nat):Gt:=
 Bool.rec (motive:=fun _=>Gt) (Bool.rec (motive:=fun _=>Gt) (Bool.rec (motive:=fun _=>Gt) (Bool.rec (motive:=fun _=>Gt) (Bool.rec (motive:=fun _=>Gt) (fun _ _ _ _ _=>u0) (Ac.rec (motive:=fun _=>Gt) (fun g _=>fun _ _ _ _ tm=>g tm) (cr i)) (isK K i))
  (fun _ _ _ r _=>r) (Nat.beq e.e3 (Nat.succ i))) (fun _ _ r _ _=>r) (Nat.beq e.e2 (Nat.succ i))) (fun _ r _ _ _=>r) (Nat.beq e.e1 (Nat.succ i))) (fun r _ _ _ _=>r) (Nat.beq e.e0 (Nat.succ i))
def rdS (K:Nat) (e:En) (x:Operand):Gt:=Operand.rec (motive:=fun _=>Gt) (fun i=>cZ K e i) (fun v _ _ _ _ _=>jV (cv v)) (fun _ _ _ _ _ _=>u0) (fun f _ _ _ _ _=> .oth (.fn f [])) x
def Gk (l:List Gt):U→U→U→U→TM→List V→List U:=List.rec (motive:=fun _=>U→U→U→U→TM→List V→List U) (fun _ _ _ _ _ cs=>cs.map jV) (fun g _ ih a b c d tm cs=>g a b c d tm::ih a b c d tm cs) l
def Rm (l:List Gt) (f a b c d:U) (tm:TM) (k:FuncId→List U→Rv) (sl:Rv):Rv:=uFn f (fun g cs=>ckR (bV cs) (k g (Gk l a b c d tm cs)) sl) sl
inductive PG where
 | at (o s:Nat) (g:Gt)
def GX (a b c d:U) (tm:TM) (n:Nat) (l:List PG):CT→(CT→Rv)→Rv→Rv:=List.rec (motive:=fun _=>CT→(CT→Rv)→Rv→Rv) (fun t k _=>k t)
 (fun q _ ih t k sl=>PG.rec (motive:=fun _=>Rv) (fun o s g=>ckR (Nat.ble (Nat.add o s) n) (uCA (g a b c d tm) (fun x=>ckR (Nat.beq s 1) (ih (dE t o x) k sl) sl) (fun xt m=>ckR (Nat.beq s m) (ih (oL t o xt 0 m) k sl) sl) sl) sl) q) l
def Rj (esz n:Nat) (z:CT) (len:Nat) (a b c d:U) (tm:TM) (l:List PG) (hp:HP) (nx:Nat) (k:U→HP→Rv) (sl:Rv):Rv:=GX a b c d tm len l z (fun t=>dV nx fun m=>Fq m hp (.grow m esz t len) (.gsl m m esz 0 n) k sl) sl
abbrev VaF:=U→U→U→U→TM→HP→Nat→(U→Rv)→Rv→Rv
abbrev MeF:=U→U→U→U→TM→HP→Nat→(U→HP→Rv)→Rv→Rv
abbrev CaF:=U→U→U→U→TM→(FuncId→List U→Rv)→Rv→Rv
inductive Stp where
 | slow
 | val (f:VaF)
 | mem (f:MeF)
 | cal (f:CaF)
def Ha (K:Nat) (e:En) (i:Nat) (k:Gt→Stp):Stp:=
 Bool.rec (motive:=fun _=>Stp) (Bool.rec (motive:=fun _=>Stp) (Bool.rec (motive:=fun _=>Stp) (Bool.rec (motive:=fun _=>Stp) (Bool.rec (motive:=fun _=>Stp) (k fun _ _ _ _ _=>u0) (Ac.rec (motive:=fun _=>Stp) (fun g _=>k fun _ _ _ _ tm=>g tm) (cr i)) (isK K i))
  (k fun _ _ _ r _=>r) (Nat.beq e.e3 (Nat.succ i))) (k fun _ _ r _ _=>r) (Nat.beq e.e2 (Nat.succ i))) (k fun _ r _ _ _=>r) (Nat.beq e.e1 (Nat.succ i))) (k fun r _ _ _ _=>r) (Nat.beq e.e0 (Nat.succ i))
def di (K:Nat) (e:En) (x:Operand) (k:Gt→Stp):Stp:=Operand.rec (motive:=fun _=>Stp) (fun i=>Ha K e i k) (fun v=>U.rec (motive:=fun _=>Stp) (fun ik n=>k fun _ _ _ _ _=> .int ik n) (fun b=>k fun _ _ _ _ _=> .kb b) (fun h o=>k fun _ _ _ _ _=> .ptr h o) (fun h v o=>k fun _ _ _ _ _=> .gp h v o) (fun h v e o l=>k fun _ _ _ _ _=> .gsl h v e o l) (fun v=>k fun _ _ _ _ _=> .oth v) (fun t n=>k fun _ _ _ _ _=> .agg t n) (fun l=>k fun _ _ _ _ _=> .tup l) (jV (cv v))) (fun _=>k fun _ _ _ _ _=>u0) (fun f=>k fun _ _ _ _ _=> .oth (.fn f [])) x
def LU (K:Nat) (e:En) (l:List Operand) :(List Gt→Stp)→Stp:=List.rec (motive:=fun _=>(List Gt→Stp)→Stp) (fun k=>k []) (fun x _ ih k=>di K e x fun g=>ih fun gs=>k (g::gs)) l
def xU (K:Nat) (e:En) (pi:Nat→PI) (l:List (Nat×Operand)) :(List PG→Stp)→Stp:=List.rec (motive:=fun _=>(List PG→Stp)→Stp) (fun k=>k []) (fun q _ ih k=>PI.rec (motive:=fun _=>Stp) .slow (fun o s=>di K e q.2 fun g=>ih fun gs=>k (.at o s g::gs)) (pi q.1)) l
def C5 (x:Operand) (K:Nat) (e:En) (_:Tbl):Stp:=di K e x fun gx=> .val fun a b c d tm _ _ k _=>k (gx a b c d tm)
def Ly (p x y:Operand) (K:Nat) (e:En) (_:Tbl):Stp:=di K e p fun gp=>di K e x fun gx=>di K e y fun gy=> .val fun a b c d tm _ _=>QH (gp a b c d tm) (gx a b c d tm) (gy a b c d tm)
def Bs (t:TypeId) (_:Nat) (_:En) (tb:Tbl):Stp:=ZTI.rec (motive:=fun _=>Stp) .slow (fun z n=> .mem fun _ _ _ _ _ hp nx k sl=>dV nx fun m=>Fq m hp (.cells z n) (.ptr m 0) k sl) (wy tb t)
def P2 (_:TypeId) (x:Operand) (K:Nat) (e:En) (_:Tbl):Stp:=di K e x fun gx=> .mem fun a b c d tm hp nx k sl=>dV nx fun m=>Ri (gx a b c d tm) hp m k sl
def ldS (i:TI) :(LdF→Stp)→Stp:=TI.rec (motive:=fun _=>(LdF→Stp)→Stp) (fun _=> .slow) (fun k=>k zL) (fun n k=>k (zK n)) i
def Lx (t:TypeId) (x:Operand) (K:Nat) (e:En) (tb:Tbl):Stp:=ldS (tyI tb t) fun ld=>di K e x fun gx=> .val fun a b c d tm hp _=>ldG ld (gx a b c d tm) hp
def stS (i:TI) :(StF→Stp)→Stp:=TI.rec (motive:=fun _=>(StF→Stp)→Stp) (fun _=> .slow) (fun k=>k Ms) (fun n k=>k (Mr n)) i
def Gz (t:TypeId) (x y:Operand) (K:Nat) (e:En) (tb:Tbl):Stp:=stS (tyI tb t) fun st=>di K e x fun gx=>di K e y fun gy=> .mem fun a b c d tm hp _=>stG st (gx a b c d tm) (gy a b c d tm) hp
def cFA (t:TypeId) (x:Operand) (f:Nat) (K:Nat) (e:En) (tb:Tbl):Stp:=Option.rec (motive:=fun _=>Stp) .slow (fun o=>di K e x fun gx=> .val fun a b c d tm _ _=>faG o (gx a b c d tm)) (J6 tb t f)
def cFV (t:TypeId) (x:Operand) (f:Nat) (K:Nat) (e:En) (tb:Tbl):Stp:=FVI.rec (motive:=fun _=>Stp) .slow (fun o i=>ldS i fun ld=>di K e x fun gx=> .val fun a b c d tm _ _=>fvG o ld (gx a b c d tm)) (NF tb t f)
def cIA (t:TypeId) (x i:Operand) (K:Nat) (e:En) (tb:Tbl):Stp:=IXI.rec (motive:=fun _=>Stp) .slow
 (fun esz=>di K e x fun gx=>di K e i fun gi=> .val fun a b c d tm hp _=>Rx esz (gx a b c d tm) (gi a b c d tm) hp)
 (fun l esz=>di K e x fun gx=>di K e i fun gi=> .val fun a b c d tm _ _=>Rw l esz (gx a b c d tm) (gi a b c d tm)) (Kh tb t)
def Nl (t:TypeId) (x i:Operand) (K:Nat) (e:En) (tb:Tbl):Stp:=IVI.rec (motive:=fun _=>Stp) .slow (fun l esz ti=>ldS ti fun ld=>di K e x fun gx=>di K e i fun gi=> .val fun a b c d tm _ _=>ixV l esz ld (gx a b c d tm) (gi a b c d tm)) (NR tb t)
def Rh (op:BinOp) :(Eu→Stp)→Stp:=BinOp.rec (motive:=fun _=>(Eu→Stp)→Stp)
 (fun k=>k Qc) (fun k=>k Qg) (fun k=>k Qd) (fun k=>k Qe) (fun k=>k Qf) (fun _=> .slow) (fun _=> .slow) (fun _=> .slow) (fun _=> .slow) (fun _=> .slow) (fun _=> .slow)
 (fun k=>k fEq) (fun k=>k fNe) (fun k=>k fLt) (fun k=>k fLe) (fun k=>k fGt) (fun k=>k fGe) op
def Nh (op:BinOp) (t:TypeId) (x y:Operand) (_:TypeId) (K:Nat) (e:En) (tb:Tbl):Stp:=Bool.rec (motive:=fun _=>Stp) .slow (Rh op fun f=>di K e x fun gx=>di K e y fun gy=> .val fun a b c d tm _ _=>JN f (gx a b c d tm) (gy a b c d tm)) (PN tb t)
def cUn (op:UnOp) (_:TypeId) (x:Operand) (K:Nat) (e:En) (_:Tbl):Stp:=UnOp.rec (motive:=fun _=>Stp) .slow .slow (di K e x fun gx=> .val fun a b c d tm _ _=>RD (gx a b c d tm)) .slow op
def Gv (s t:TypeId) (x:Operand) (K:Nat) (e:En) (tb:Tbl):Stp:=Option.rec (motive:=fun _=>Stp) .slow (fun ik=>di K e x fun gx=> .val fun a b c d tm _ _=>cvG ik (gx a b c d tm)) (cvI tb s t)
def cMF (fn:Fn) (first caps:Array Operand) (K:Nat) (e:En) (_:Tbl):Stp:=match fn with
 | .func f=>Bool.rec (motive:=fun _=>Stp) .slow (.val fun a b c d tm _ _ k sl=>ckR (bV (C6 caps.toList fun x=>rdS K e x a b c d tm)) (k (.oth (.fn f (C6 caps.toList fun x=>rdS K e x a b c d tm)))) sl) (Nat.beq first.size 0)
 | _=> .slow
def P4 (x:Operand) (i:Nat) (K:Nat) (e:En) (_:Tbl):Stp:=di K e x fun gx=> .val fun a b c d tm _ _=>exG i (gx a b c d tm)
def P5 (x:Operand) (K:Nat) (e:En) (_:Tbl):Stp:=di K e x fun gx=> .val fun a b c d tm _ _=>RB (gx a b c d tm)
def Bt (t:TypeId) (parts:Array (Nat×Operand)) (K:Nat) (e:En) (tb:Tbl):Stp:=Bool.rec (motive:=fun _=>Stp) .slow (ZTI.rec (motive:=fun _=>Stp) .slow (fun z n=>xU K e (II tb t) parts.toList fun gs=> .val fun a b c d tm _ _ k sl=>GX a b c d tm n gs z (fun t=>k (.agg t n)) sl) (wy tb t)) (wJ tb t)
def Ng (t:TypeId) (n:Nat) (parts:Array (Nat×Operand)) (K:Nat) (e:En) (tb:Tbl):Stp:=SLI.rec (motive:=fun _=>Stp) .slow (fun esz z len=>xU K e (fun i=> .at (Nat.mul i esz) esz) parts.toList fun gs=> .mem fun a b c d tm hp nx=>Rj esz n z len a b c d tm gs hp nx) (Nd tb t n)
def Bu (t:TypeId) (x:Operand) (lo hi mx:Option Operand) (K:Nat) (e:En) (tb:Tbl):Stp:=Option.rec (motive:=fun _=>Stp) (Option.rec (motive:=fun _=>Stp) .slow (fun esz=>di K e x fun gx=> .val fun a b c d tm hp _=>RK esz (gx a b c d tm) lo hi (fun x=>rdS K e x a b c d tm) hp) (O5 tb t)) (fun _=> .slow) mx
def Cc (l:List Operand) (k:Operand→Stp):Stp:=List.rec (motive:=fun _=>Stp) .slow (fun x r _=>List.rec (motive:=fun _=>Stp) (k x) (fun _ _ _=> .slow) r) l
def JB (l:List Operand) (k:Operand→Operand→Stp):Stp:=List.rec (motive:=fun _=>Stp) .slow (fun x r _=>Cc r (k x)) l
def Nn (q:Call) (K:Nat) (e:En) (tb:Tbl):Stp:=Bool.rec (motive:=fun _=>Stp) .slow (Cc q.args.toList fun x=>di K e x fun gx=> .val fun a b c d tm hp _=>Rz (gx a b c d tm) hp) (Hm tb q)
def Nf (q:Call) (K:Nat) (e:En) (tb:Tbl):Stp:=API.rec (motive:=fun _=>Stp) .slow (fun esz bytes=>JB q.args.toList fun s x=>di K e s fun gs=>di K e x fun gx=> .mem fun a b c d tm hp nx=>apG esz bytes (gs a b c d tm) (gx a b c d tm) hp nx) (M8 tb q)
def gl (_:Call) (_:Nat) (_:En) (_:Tbl):Stp:= .slow
def P3 (b:Builtin):Call→Nat→En→Tbl→Stp:=Builtin.rec (motive:=fun _=>Call→Nat→En→Tbl→Stp) Nf gl gl gl gl gl gl gl Nn gl gl gl gl gl gl gl gl gl gl gl gl gl gl gl gl gl b
def Gs (q:Call) (K:Nat) (e:En) (tb:Tbl):Stp:=Callee.rec (motive:=fun _=>Stp) (fun f=>di K e f fun gf=>LU K e q.args.toList fun gs=> .cal fun a b c d tm=>Rm gs (gf a b c d tm) a b c d tm) (fun _ _=> .slow) (fun b=>P3 b q K e tb) q.callee
def cmp (K:Nat) (e:En) (tb:Tbl) (op:Op):Stp:=Op.rec (motive:=fun _=>Nat→En→Tbl→Stp)
 C5
 C5
 Ly
 Bs
 P2
 Bt
 Ng
 (fun _ _ _ _ _ _ _=> .slow)
 Lx
 Gz
 (fun _ _ _ _=> .slow)
 (fun _ _ _ _=> .slow)
 P5
 Nh
 cUn
 Gv
 (fun _ _ _ _ _=> .slow)
 (fun _ _ _ _ _=> .slow)
 cMF
 (fun _ _ _ _ _=> .slow)
 (fun _ _ _ _ _=> .slow)
 (fun _ _ _ _ _ _=> .slow)
 Bu
 cFA
 cFV
 cIA
 Nl
 (fun _ _ _ _ _ _ _=> .slow)
 (fun _ _ _ _ _ _ _=> .slow)
 (fun _ _ _ _ _ _=> .slow)
 (fun _ _ _ _ _ _ _=> .slow)
 (fun _ _ _ _ _=> .slow)
 (fun _ _ _ _ _=> .slow)
 (fun _ _ _ _=> .slow)
 (fun _ _ _ _ _ _ _=> .slow)
 P4
 Gs
 (fun _ _ _ _=> .slow)
 (fun _ _ _ _=> .slow)
 (fun _ _ _ _=> .slow)
 (fun _ _ _ _ _=> .slow)
 (fun _ _ _ _ _ _=> .slow)
 (fun _ _ _ _ _=> .slow) op K e tb
def hpH (hp:HP):au:=fun h=>(a8 hp h).toB
def sR:List (Nat×Blk)→HP→Option HP
 | [],hp=>some hp
 |(h,b)::r,hp=>match sR r hp with
  | some hp=>bif Nat.ble (Nat.succ h) Ks then match b with
   | .cells cs=>bif fS cs then some (cX hp h (.cells (ofL cs) cs.length)) else none
   | .grow v e cs=>bif fS cs then some (cX hp h (.grow v e (ofL cs) cs.length)) else none
   | .mp es=>some (cX hp h (.mp es))
   | .row _ _ _ _=>none
   | .abs _ _ _=>none
   else none
  | none=>none
def kbV:V→V
 | .agg cs=> .agg (cs.map jl)
 | .tup vs=> .tup (vs.map fun v=>match v with
  | .agg cs=> .agg (cs.map jl)
  | v=>jl v)
 | v=>jl v
def Mq (tb:Tbl) (N:Nat) (op:Op) (ev:Operand→U) (hp:HP) (nx:Nat) (k:U→HP→Rv):Rv:=dV nx fun nx=>
 match re tb N nx (hpH hp) (fun x=>(ev x).toV) op with
 | some (ps,v,dh)=>match LS ps with
  | true=>match sR dh hp with
   | some hp=>k (jV (kbV v)) hp
   | none=> .no [104]
  | false=> .no [100]
 | none=> .no [101]
abbrev RgF:=U→U→U→U→ek→TM→HP→Nat→Rv
structure Cds where
 run:RgF
abbrev Ra:=U→TM→TM
inductive DK where
 | none
 | drop
 | keep (p:Ra)
def dkS (K:Nat) (d:Option Nat):DK:=Option.rec (motive:=fun _=>DK) .none (fun i=>Bool.rec (motive:=fun _=>DK) .drop (Ac.rec (motive:=fun _=>DK) (fun _ p=> .keep p) (cr i)) (isK K i)) d
def enS (e:En) (d:Option Nat):En:=Option.rec (motive:=fun _=>En) e (fun i=>⟨Nat.succ i,e.e0,e.e1,e.e2⟩) d
def jE (dk:DK) (nxt:Cds):U→U→U→U→U→ek→TM→HP→Nat→Rv:=DK.rec (motive:=fun _=>U→U→U→U→U→ek→TM→HP→Nat→Rv)
 (fun _ a b c d call tm hp nx=>Cds.run nxt a b c d call tm hp nx)
 (fun u a b c _ call tm hp nx=>Cds.run nxt u a b c call tm hp nx)
 (fun p u a b c _ call tm hp nx=>Cds.run nxt u a b c call (p u tm) hp nx) dk
def P7 (r:Rf):FuncId→(U→HP→Nat→Rv)→Rv:=Rf.rec (motive:=fun _=>FuncId→(U→HP→Nat→Rv)→Rv) (fun v hp nx _ k=>k v hp nx) (fun v hp nx _ k=>k v hp nx) (fun w g _=> .no (g::w)) r
def oy (tb:Tbl) (N K:Nat) (e:En) (op:Op) (dk:DK) (nxt:Cds) (a b c d:U) (call:ek) (tm:TM) (hp:HP) (nx:Nat):Rv:=Mq tb N op (fun x=>rdS K e x a b c d tm) hp nx fun u hp=>jE dk nxt u a b c d call tm hp (Nat.succ nx)
def ym (tb:Tbl) (N K:Nat) (e:En) (op:Op) (dk:DK) (nxt:Cds) (s:Stp):Cds:=Stp.rec (motive:=fun _=>Cds)
 ⟨oy tb N K e op dk nxt⟩
 (fun f=>DK.rec (motive:=fun _=>Cds)
  ⟨fun a b c d call tm hp nx=>f a b c d tm hp nx (fun _=>Cds.run nxt a b c d call tm hp (Nat.succ nx)) (oy tb N K e op dk nxt a b c d call tm hp nx)⟩
  ⟨fun a b c d call tm hp nx=>f a b c d tm hp nx (fun u=>Cds.run nxt u a b c call tm hp (Nat.succ nx)) (oy tb N K e op dk nxt a b c d call tm hp nx)⟩
  (fun p=>⟨fun a b c d call tm hp nx=>f a b c d tm hp nx (fun u=>Cds.run nxt u a b c call (p u tm) hp (Nat.succ nx)) (oy tb N K e op dk nxt a b c d call tm hp nx)⟩) dk)
 (fun f=>⟨fun a b c d call tm hp nx=>f a b c d tm hp nx (fun u hp=>jE dk nxt u a b c d call tm hp (Nat.succ nx)) (oy tb N K e op dk nxt a b c d call tm hp nx)⟩)
 (fun f=>⟨fun a b c d call tm hp nx=>f a b c d tm (fun g args=>P7 (call g args hp nx) g fun u hp nx=>jE dk nxt u a b c d call tm hp nx) (oy tb N K e op dk nxt a b c d call tm hp nx)⟩) s
def G0 (all:List Oper) (j:Nat):Option Nat:=match all[j]? with
 | some oj=>oj.dst
 | none=>none
def P0:Cds:=⟨fun _ _ _ _ _ _ _ _=> .no [102]⟩
def G7 (K:Nat) (e:En) (i:Nat) (k:Gt→Cds):Cds:=
 Bool.rec (motive:=fun _=>Cds) (Bool.rec (motive:=fun _=>Cds) (Bool.rec (motive:=fun _=>Cds) (Bool.rec (motive:=fun _=>Cds) (Bool.rec (motive:=fun _=>Cds) (k fun _ _ _ _ _=>u0) (Ac.rec (motive:=fun _=>Cds) (fun g _=>k fun _ _ _ _ tm=>g tm) (cr i)) (isK K i))
  (k fun _ _ _ r _=>r) (Nat.beq e.e3 (Nat.succ i))) (k fun _ _ r _ _=>r) (Nat.beq e.e2 (Nat.succ i))) (k fun _ r _ _ _=>r) (Nat.beq e.e1 (Nat.succ i))) (k fun r _ _ _ _=>r) (Nat.beq e.e0 (Nat.succ i))
def gdC (K:Nat) (e:En) (dj:Nat) (want:Bool) (dk:DK) (nxt un:Cds):Cds:=G7 K e dj fun g=>Bool.rec (motive:=fun _=>Cds)
 ⟨fun a b c d call tm hp nx=>Q3 (g a b c d tm) (Cds.run un a b c d call tm hp nx) (jE dk nxt (.tup []) a b c d call tm hp nx) (.no [105])⟩
 ⟨fun a b c d call tm hp nx=>Q4 (g a b c d tm) (Cds.run un a b c d call tm hp nx) (jE dk nxt (.tup []) a b c d call tm hp nx) (.no [105])⟩ want
def OM (tb:Tbl) (N K:Nat) (all:List Oper) (e:En) (o:Oper) (dk:DK) (nxt:Cds):Cds:=Option.rec (motive:=fun _=>Cds) (ym tb N K e o.op dk nxt (cmp K e tb o.op))
 (fun q=>Option.rec (motive:=fun _=>Cds) P0 (fun dj=>gdC K e dj q.2 dk nxt (ym tb N K e o.op dk nxt (cmp K e tb o.op))) (G0 all q.1)) o.guard
def QG (tb:Tbl) (N K:Nat) (all l:List Oper):En→Cds:=List.rec (motive:=fun _=>En→Cds) (fun _=>⟨fun _ _ _ _ _ tm hp nx=> .go .nrm tm hp nx⟩) (fun o _ ih e=>OM tb N K all e o (dkS K o.dst) (ih (enS e o.dst))) l
def tj (tm:TM) (i:Nat) (u:U):TM:=Ac.rec (motive:=fun _=>U→TM→TM) (fun _ p=>p) (cr i) u tm
def wEx (v:V):Option W:=match v with
 | .agg cs=>Bool.rec (motive:=fun _=>Option W) none (some (.agg (ofL cs) cs.length)) (fS cs)
 | .tup _=>none
 | v=>some (.c (EF v))
def JF:List V→Option (List W)
 | []=>some []
 | v::r=>match wEx v with
  | some w=>match JF r with
   | some l=>some (w::l)
   | none=>none
  | none=>none
def uEx (v:V):Option U:=match v with
 | .agg cs=>Bool.rec (motive:=fun _=>Option U) none (some (.agg (ofL cs) cs.length)) (fS cs)
 | .tup vs=>match JF vs with
  | some l=>some (.tup l)
  | none=>none
 | .bool b=>some (.kb b)
 | .int k n=>some (.int k n)
 | .kb b=>some (.kb b)
 | .ptr h o=>some (.ptr h o)
 | .gp h v o=>some (.gp h v o)
 | .gsl h v e o l=>some (.gsl h v e o l)
 | v=>some (.oth v)
def vx (K:Nat) (tm:TM) (i:Nat):V:=(cZ K en0 i u0 u0 u0 u0 tm).toV
def BP (K:Nat) (all:List Oper) (tm:TM) (o:Oper):Option Bool:=
 match o.guard with
 | none=>some true
 | some (j,want)=>match all[j]? with
  | some oj=>match oj.dst with
   | some dj=>match vx K tm dj with
    | .kb b=>some (b==want)
    | .tup []=>some false
    | _=>none
   | none=>none
  | none=>none
def eE (K:Nat) (rs:List Nat) (tm:TM):Operand→V
 | .tmp t=>bif memN rs t then vx K tm t else .any
 | .const v=>cv v
 | .func f=> .fn f []
 | .global _=> .any
def yW (N K:Nat) (d:Option Nat):Bool:=match d with
 | some d=>Nat.blt d N&&isK K d
 | none=>true
def lN (d:Option Nat) (u:U) (tm:TM):TM:=match d with
 | some d=>tj tm d u
 | none=>tm
def NK (c:C) (r:List Nat):List Nat:=C.rec (motive:=fun _=>List Nat) (fun _ _=>r) (fun _=>r) (fun h _=>h::r) (fun h _ _=>h::r) (fun h _ _ _ _=>h::r) (fun v=>v.hs++r) c
def hsT (t:CT) (n:Nat):Nat→List Nat:=Nat.rec (motive:=fun _=>Nat→List Nat) (fun _=> []) (fun _ ih i=>NK (b9 t i) (ih (Nat.succ i))) n
def xz (b:Bk):List Nat:=Bk.rec (motive:=fun _=>List Nat) [] (fun t n=>hsT t n 0) (fun _ _ t n=>hsT t n 0) (fun es=>hsE es) b
def Qu (b:Bk):Bool:=Bk.rec (motive:=fun _=>Bool) false (fun _ _=>true) (fun _ _ _ _=>true) (fun _=>true) b
def pB (hp:HP):Nat→List Nat→List Nat→List Nat
 | 0,_,acc=>acc
 | n+1,new,acc=>
  let add:=new.filter fun h=>!memN acc h
  let nxt:=add.flatMap fun h=>xz (a8 hp h)
  match add with
  | []=>acc
  | _=>pB hp n nxt (add++acc)
def xq (hp:HP) (R:List Nat) (m K:Nat) (v:V) (dh:List (Nat×Blk)):Bool:=
 (R.all fun h=>bif Qu (a8 hp h) then mD R m K (xz (a8 hp h)) else false)&&(dh.all fun q=>mD R m K [q.1]&&mD R m K q.2.hs)&&mD R m K v.hs
def eqC (c d:C):Bool:=C.rec (motive:=fun _=>Bool)
 (fun k n=>C.rec (motive:=fun _=>Bool) (fun k' n'=>Bool.rec (motive:=fun _=>Bool) false (eqS n n') (NN k k')) (fun _=>false) (fun _ _=>false) (fun _ _ _=>false) (fun _ _ _ _ _=>false) (fun _=>false) d)
 (fun b=>C.rec (motive:=fun _=>Bool) (fun _ _=>false) (fun b'=>Bool.rec (motive:=fun _=>Bool) (Ft b') b' b) (fun _ _=>false) (fun _ _ _=>false) (fun _ _ _ _ _=>false) (fun _=>false) d)
 (fun h o=>C.rec (motive:=fun _=>Bool) (fun _ _=>false) (fun _=>false) (fun h' o'=>Bool.rec (motive:=fun _=>Bool) false (Nat.beq o o') (Nat.beq h h')) (fun _ _ _=>false) (fun _ _ _ _ _=>false) (fun _=>false) d)
 (fun h v o=>C.rec (motive:=fun _=>Bool) (fun _ _=>false) (fun _=>false) (fun _ _=>false) (fun h' v' o'=>Bool.rec (motive:=fun _=>Bool) false (Bool.rec (motive:=fun _=>Bool) false (Nat.beq o o') (Nat.beq v v')) (Nat.beq h h')) (fun _ _ _ _ _=>false) (fun _=>false) d)
 (fun h v e o l=>C.rec (motive:=fun _=>Bool) (fun _ _=>false) (fun _=>false) (fun _ _=>false) (fun _ _ _=>false) (fun h' v' e' o' l'=>Bool.rec (motive:=fun _=>Bool) false (Bool.rec (motive:=fun _=>Bool) false (Bool.rec (motive:=fun _=>Bool) false (Bool.rec (motive:=fun _=>Bool) false (Nat.beq l l') (Nat.beq o o')) (Nat.beq e e')) (Nat.beq v v')) (Nat.beq h h')) (fun _=>false) d)
 (fun v=>C.rec (motive:=fun _=>Bool) (fun _ _=>false) (fun _=>false) (fun _ _=>false) (fun _ _ _=>false) (fun _ _ _ _ _=>false) (fun v'=>V.eqb v v') d) c
def eqT (t t':CT) (n:Nat):Nat→Bool:=Nat.rec (motive:=fun _=>Nat→Bool) (fun _=>true) (fun _ ih i=>Bool.rec (motive:=fun _=>Bool) false (ih (Nat.succ i)) (eqC (b9 t i) (b9 t' i))) n
def E6 (b d:Bk):Bool:=Bk.rec (motive:=fun _=>Bool) (Bk.rec (motive:=fun _=>Bool) true (fun _ _=>false) (fun _ _ _ _=>false) (fun _=>false) d)
 (fun t n=>Bk.rec (motive:=fun _=>Bool) false (fun t' n'=>Bool.rec (motive:=fun _=>Bool) false (eqT t t' n 0) (Nat.beq n n')) (fun _ _ _ _=>false) (fun _=>false) d)
 (fun v e t n=>Bk.rec (motive:=fun _=>Bool) false (fun _ _=>false) (fun v' e' t' n'=>Bool.rec (motive:=fun _=>Bool) false (Bool.rec (motive:=fun _=>Bool) false (Bool.rec (motive:=fun _=>Bool) false (eqT t t' n 0) (Nat.beq n n')) (Nat.beq e e')) (Nat.beq v v')) (fun _=>false) d)
 (fun es=>Bk.rec (motive:=fun _=>Bool) false (fun _ _=>false) (fun _ _ _ _=>false) (fun es'=>E7 es es') d) b
def iC:List Nat→(List Nat→Rv)→Rv
 | [],k=>k []
 | n::r,k=>dV n fun n=>iC r fun r=>k (n::r)
def sE (hp:HP):List Nat→HP→HP
 | [],t=>t
 | h::r,t=>sE hp r (cX t h (a8 hp h))
def Fm (hp':HP):List Nat→HP→Option (HP×List (Nat×Blk))
 | [],hp=>some (hp,[])
 | h::r,hp=>match (a8 hp' h).toB with
  | some b=>match Fm hp' r hp with
   | some (hp,dh)=>some (cX hp h (a8 hp' h),(h,b)::dh)
   | none=>none
  | none=>none
def BA (call:ek) (g:FuncId) (args:List U) (hp:HP) (R:List Nat) (m:Nat) (k:U→HP→List (Nat×Blk)→Nat→Rv):Rv:=
 match call g args (sE hp R hp0) m with
 | .ok u hp' nx=>iC (R.filter fun h=>!E6 (a8 hp h) (a8 hp' h)) fun chg=>iC ((pB hp' 64 (u.toV.hs++chg) []).filter fun h=>!(memN R h&&!memN chg h)) fun keys=>
   bif chg.all (fun h=>memN keys h) then match Fm hp' keys hp with
    | some (hp,dh)=>k u hp dh nx
    | none=> .no [23]
   else .no [22]
 | .ex _ _ _=> .no [24]
 | .no w=> .no (g::w)
def Eh (all:List Oper) (o o':Oper):Bool:=qi o.dst.toList o'.dst.toList&&qi o.dst.toList (aj all o')&&qi o'.dst.toList (aj all o)
def Ei (ms:List Nat) (all:List Oper) (i:Nat) (o:Oper):Nat→List Oper→Bool
 | _,[]=>true
 | j,o'::os=>(((ms[j]?).getD 0).testBit i||Eh all o o')&&Ei ms all i o (j+1) os
def Ef (ms:List Nat) (all:List Oper):Nat→List Oper→Bool
 | _,[]=>true
 | i,o::os=>Ei ms all i o (i+1) os&&Ef ms all (i+1) os
def Eg (all:List Oper):Bool:=cu 0 all&&Ef (bL all []) all 0 all
def GP (r s:Rec):Bool:=qi (r.dh.map (·.1)) (s.dh.map (·.1))&&qi (r.dh.map (·.1)) s.R
def FB (ms:List Nat) (i j:Nat):Bool:=Nat.beq i j ||(bif Nat.blt i j then ((ms[j]?).getD 0).testBit i else ((ms[i]?).getD 0).testBit j)
def GQ (ms:List Nat) (i:Nat) (r:Rec):Nat→List Rec→Bool
 | _,[]=>true
 | j,s::ss=>(FB ms i j||GP r s)&&GQ ms i r (j+1) ss
def EY (ms:List Nat) (recs:List Rec):Nat→List Rec→Bool
 | _,[]=>true
 | i,r::rs=>(match r.dh with
  | []=>true
  | _::_=>GQ ms i r 0 recs)&&EY ms recs (i+1) rs
abbrev Alt:=Option (Nat×(Blk→Bool))
def lkD (tb:Tbl) (ev:Operand→V) (op:Op):Option (Nat×TD×TD×V×Bool):=match op with
 | .lookup t x k ok=>match jf tb t with
  | some q=>match ev x with
   | .mpv h=>some (h,q.1,q.2,ev k,ok)
   | _=>none
  | none=>none
 | _=>none
def OI (tk te:TD) (h0:Nat) (k:V) (ok:Bool) (v:V) (b:Blk):Bool:=match cc tk te (fun _=>some b) (.mpv h0) k ok with
 | .val _ v' _=>V.eqb v' v
 | _=>false
def Gi (ms:List Nat) (i h0:Nat) (okB:Blk→Bool):Nat→List Rec→Bool
 | _,[]=>true
 | j,s::ss=>(match find s.dh h0 with
  | none=>true
  | some b=>Nat.beq i j ||(bif Nat.blt j i then ((ms[i]?).getD 0).testBit j else ((ms[j]?).getD 0).testBit i||okB b))&&Gi ms i h0 okB (j+1) ss
def wG (ms:List Nat) (recs:List Rec):Nat→List Alt→Bool
 | _,[]=>true
 | i,none::r=>wG ms recs (i+1) r
 | i,some (h0,okB)::r=>Gi ms i h0 okB 0 recs&&wG ms recs (i+1) r
def kQ (tb:Tbl) (N K:Nat) (call:ek) (all:List Oper):List Oper→TM→HP→Nat→List (Rec×Alt)→Rv
 | [],tm,hp,nx,recs=>bif Eg all&&(EY (bL all []) (recs.reverse.map (·.1)) 0 (recs.reverse.map (·.1))&&wG (bL all []) (recs.reverse.map (·.1)) 0 (recs.reverse.map (·.2))) then .go .nrm tm hp nx else .no [30]
 | o::rest,tm,hp,nx,recs=>bif yW N K o.dst then
   match BP K all tm o with
   | some false=>dV (nx+1) fun nx=>kQ tb N K call all rest (lN o.dst (.tup []) tm) hp nx ((⟨o.dst,.tup [],[],[],aj all o⟩,none)::recs)
   | some true=>iC (aj all o) fun rs=>match lkD tb (eE K rs tm) o.op with
    | some (h0,tk,te,k,ok)=>match cc tk te (hpH hp) (.mpv h0) k ok with
     | .val _ v _=>match uEx v with
      | some u=>dV (nx+1) fun nx=>kQ tb N K call all rest (lN o.dst u tm) hp nx ((⟨o.dst,jl v,[],[],rs⟩,some (h0,OI tk te h0 k ok v))::recs)
      | none=> .no [39,rest.length]
     | _=> .no [40,rest.length]
    | none=>bif nP (eE K rs tm) o.op then iC (o.op.operands.toList.flatMap fun x=>(eE K rs tm x).hs) fun R=>
     match re tb N nx (hpH hp) (eE K rs tm) o.op with
     | none=> .no [37,rest.length]
     | some (ps,v,dh)=>bif ps.all Ob.chk then match uEx v,sR dh hp with
       | some u,some hp'=>dV (nx+1) fun nx=>kQ tb N K call all rest (lN o.dst u tm) hp' nx ((⟨o.dst,jl v,dh,R,rs⟩,none)::recs)
       | _,_=> .no [36,rest.length]
      else .no [38,rest.length]
    else iC (pB hp 8 (o.op.operands.toList.flatMap fun x=>(eE K rs tm x).hs) []) fun R=>
    match evA tb N nx (restr (hpH hp) R) (eE K rs tm) o.op with
    | .call g args=>BA call g (args.map jV) hp R nx fun u hp' dh nx2=>
      bif xq hp R nx (nx2+1 - nx) u.toV dh then
       dV (nx2+1) fun nx=>kQ tb N K call all rest (lN o.dst u tm) hp' nx ((⟨o.dst,u.toV,dh,R,rs⟩,none)::recs)
      else .no [31,rest.length]
    | .plain none=> .no [33,rest.length]
    | .plain (some (ps,v,dh))=>bif ps.all Ob.chk&&xq hp R nx 1 v dh then match uEx v,sR dh hp with
      | some u,some hp'=>dV (nx+1) fun nx=>kQ tb N K call all rest (lN o.dst u tm) hp' nx ((⟨o.dst,jl v,dh,R,rs⟩,none)::recs)
      | _,_=> .no [36,rest.length]
     else .no [32,rest.length]
   | none=> .no [34,rest.length]
  else .no [35,rest.length]
def La (r:Rv):KR→Rv:=Rv.rec (motive:=fun _=>KR→Rv) (fun e tm hp nx k=>Lf.rec (motive:=fun _=>Rv) (k tm hp nx) (fun id=> .go (.ext id) tm hp nx) (.go .ret tm hp nx) e) (fun w _=> .no w) r
def Gm (id:Nat) (r:Rv):Rv:=Rv.rec (motive:=fun _=>Rv) (fun e tm hp nx=>Lf.rec (motive:=fun _=>Rv) (.go .nrm tm hp nx) (fun i=>Bool.rec (motive:=fun _=>Rv) (.go (.ext i) tm hp nx) (.go .nrm tm hp nx) (Nat.beq i id)) (.go .ret tm hp nx) e) .no r
def HD (f:KR) (n:Nat):KR:=Nat.rec (motive:=fun _=>KR) (fun _ _ _=> .no [3]) (fun _ ih tm hp nx=>dV nx fun nx=>La (f tm hp nx) ih) n
structure Cd where
 run:ek→KR
def OX (tb:Tbl) (N K:Nat) (ops:List Oper):Cd:=Bool.rec (motive:=fun _=>Cd) ⟨fun _ _ _ _=> .no [103]⟩ ⟨Cds.run (QG tb N K ops ops en0) u0 u0 u0 u0⟩ (GO N ops)
def Dj (K:Nat) (e:En) (i:Nat) (k:Gt→Cd):Cd:=
 Bool.rec (motive:=fun _=>Cd) (Bool.rec (motive:=fun _=>Cd) (Bool.rec (motive:=fun _=>Cd) (Bool.rec (motive:=fun _=>Cd) (Bool.rec (motive:=fun _=>Cd) (k fun _ _ _ _ _=>u0) (Ac.rec (motive:=fun _=>Cd) (fun g _=>k fun _ _ _ _ tm=>g tm) (cr i)) (isK K i))
  (k fun _ _ _ r _=>r) (Nat.beq e.e3 (Nat.succ i))) (k fun _ _ r _ _=>r) (Nat.beq e.e2 (Nat.succ i))) (k fun _ r _ _ _=>r) (Nat.beq e.e1 (Nat.succ i))) (k fun r _ _ _ _=>r) (Nat.beq e.e0 (Nat.succ i))
def P9 (K:Nat) (c:Operand) (ix iy:Cd):Cd:=Operand.rec (motive:=fun _=>Cd) (fun i=>Dj K en0 i fun g=>⟨fun call tm hp nx=>uKb (g u0 u0 u0 u0 tm) (fun b=>Bool.rec (motive:=fun _=>Rv) (Cd.run iy call tm hp nx) (Cd.run ix call tm hp nx) b) (.no [4])⟩) (fun v=>⟨fun call tm hp nx=>uKb (jV (cv v)) (fun b=>Bool.rec (motive:=fun _=>Rv) (Cd.run iy call tm hp nx) (Cd.run ix call tm hp nx) b) (.no [4])⟩) (fun _=>⟨fun _ _ _ _=> .no [4]⟩) (fun _=>⟨fun _ _ _ _=> .no [4]⟩) c
def fg (tb:Tbl) (N K:Nat) (c:Code):Cd:=Code.rec (motive:=fun _=>Cd)
 ⟨fun _ tm hp nx=> .go .nrm tm hp nx⟩
 (fun _ ops dr=>Bool.rec (motive:=fun _=>Cd) (OX tb N K ops.toList) ⟨fun call tm hp nx=>kQ tb N K call ops.toList ops.toList tm hp nx []⟩ dr)
 (fun _ _ ia ib=>⟨fun call tm hp nx=>La (Cd.run ia call tm hp nx) (Cd.run ib call)⟩)
 (fun c _ _ ix iy=>P9 K c ix iy)
 (fun id _ ib=>⟨fun call tm hp nx=>Gm id (Cd.run ib call tm hp nx)⟩)
 (fun _ ib=>⟨fun call=>HD (Cd.run ib call) iV⟩)
 (fun _ _ _ _ _ _=>⟨fun _ _ _ _=> .no [6]⟩)
 (fun id=>⟨fun _ tm hp nx=> .go (.ext id) tm hp nx⟩)
 (fun _ _=>⟨fun _ _ _ _=> .no [6]⟩)
 (fun _=>⟨fun _ _ _ _=> .no [6]⟩)
 (fun _=>⟨fun _ _ _ _=> .no [6]⟩)
 ⟨fun _ tm hp nx=> .go .ret tm hp nx⟩
 (fun _=>⟨fun _ _ _ _=> .no [6]⟩) c
def iB (l:List U):Nat→TM→TM:=List.rec (motive:=fun _=>Nat→TM→TM) (fun _ tm=>tm) (fun u _ ih i tm=>ih (Nat.succ i) (tj tm i u)) l
def ldP (ld:LdF) (a:U) (hp:HP) (k:U→Rv) (sl:Rv):Rv:=CV a (fun h o=>bkC (a8 hp h) (fun ct n=>ld ct n o k sl) sl) (fun _ _ _=>sl) sl
def D7 (tb:Tbl) (K:Nat) (r:ResultVar):TM→HP→(U→Rv)→Rv→Rv:=ResultVar.rec (motive:=fun _=>TM→HP→(U→Rv)→Rv→Rv) (fun t tm _ k _=>k (cZ K en0 t u0 u0 u0 u0 tm))
 (fun a t=>TI.rec (motive:=fun _=>TM→HP→(U→Rv)→Rv→Rv) (fun _ _ _ sl=>sl) (fun tm hp=>ldP zL (cZ K en0 a u0 u0 u0 u0 tm) hp) (fun n tm hp=>ldP (zK n) (cZ K en0 a u0 u0 u0 u0 tm) hp) (tyI tb t)) r
def wOf (u:U) (k:W→Rv) (sl:Rv):Rv:=uCA u (fun c=>k (.c c)) (fun t n=>k (.agg t n)) sl
def IZ (tb:Tbl) (K:Nat) (l:List ResultVar):TM→HP→(List W→Rv)→Rv→Rv:=List.rec (motive:=fun _=>TM→HP→(List W→Rv)→Rv→Rv) (fun _ _ k _=>k []) (fun r _ ih tm hp k sl=>D7 tb K r tm hp (fun u=>wOf u (fun w=>ih tm hp (fun l=>k (w::l)) sl) sl) sl) l
def QK (tb:Tbl) (K:Nat) (l:List ResultVar):TM→HP→(U→Rv)→Rv→Rv:=List.rec (motive:=fun _=>TM→HP→(U→Rv)→Rv→Rv) (fun _ _ k _=>k (.tup [])) (fun r rs _=>List.rec (motive:=fun _=>TM→HP→(U→Rv)→Rv→Rv) (D7 tb K r) (fun _ _ _ tm hp k sl=>IZ tb K l tm hp (fun l=>k (.tup l)) sl) rs) l
def K7 (tb:Tbl) (K:Nat) (rs:List ResultVar) (tm:TM) (hp:HP) (nx:Nat):Rv:=QK tb K rs tm hp (fun u=> .go .ret (tj tm0 0 u) hp nx) (.no [8])
def I1 (r:Rv):Rf:=Rv.rec (motive:=fun _=>Rf) (fun _ tm hp nx=> .ok (Ac.rec (motive:=fun _=>TM→U) (fun g _=>g) (cr 0) tm) hp nx) .no r
def EZ (tb:Tbl) (K:Nat) (rs:List ResultVar) (r:Rv):Rf:=Rv.rec (motive:=fun _=>Rf) (fun e tm hp nx=>Lf.rec (motive:=fun _=>Rf) (I1 (K7 tb K rs tm hp nx)) (fun _=> .no [7]) (I1 (K7 tb K rs tm hp nx)) e) .no r
structure Fc where
 run:ek→List U→HP→Nat→Rf
def xr (tb:Tbl) (K:Nat) (fn:Func):Fc:=Option.rec (motive:=fun _=>Fc) ⟨fun _ _ _ _=> .no [10]⟩ (fun c=>Bool.rec (motive:=fun _=>Fc) ⟨fun _ _ _ _=> .no [14]⟩
 ⟨fun call args hp nx=>Bool.rec (motive:=fun _=>Rf) (.no [9]) (EZ tb K fn.results.toList (dV nx fun nx=>Cd.run (fg tb fn.ntmps K c) call (iB args 0 tm0) hp nx)) (Nat.ble args.length fn.ntmps)⟩ (Nat.ble fn.ntmps 512)) fn.body
abbrev wB:=FuncId→Option (List U→Option U)
def GV (r:Option U) (hp:HP) (nx:Nat):Rf:=Option.rec (motive:=fun _=>Rf) (.no [13]) (fun u=> .ex u hp nx) r
def qk (tb:Tbl) (P:FuncId→Option Func) (X:wB) (KK:FuncId→Nat) (f:FuncId):Fc:=Option.rec (motive:=fun _=>Fc) (Option.rec (motive:=fun _=>Fc) ⟨fun _ _ _ _=> .no [12]⟩ (xr tb (KK f)) (P f)) (fun x=>⟨fun _ args hp nx=>GV (x args) hp nx⟩) (X f)
def uy (tb:Tbl) (P:FuncId→Option Func) (X:wB) (KK:FuncId→Nat) (d:Nat):ek:=Nat.rec (motive:=fun _=>ek) (fun _ _ _ _=> .no [11]) (fun _ ih f args hp nx=>Fc.run (qk tb P X KK f) ih args hp nx) d
def Hn (l:List UInt8):Nat→Nat→Int:=List.rec (motive:=fun _=>Nat→Nat→Int) (fun _ _=> .negSucc 0) (fun b _ ih c i=>Bool.rec (motive:=fun _=>Int) (ih c (Nat.succ i)) (.ofNat i) (Nat.beq b.toNat c)) l
def ixB (l:List U):Option U:=match l with
 | [.oth (.str s),.int .u8 (.ofNat c)]=>some (.int .i64 (Hn s.data.toList c 0))
 | _=>none
end
end Go.Mir
namespace Go.Mir
open Go.RowKit
theorem zw (v:V):v.isOne=v.one:=by cases v <;> rfl
theorem uo :∀ l:List V,Bj l=l.all V.one
 | []=>rfl
 | v::l=>by
  show (Bool.rec (motive:=fun _=>Bool) false (Bj l) v.isOne:Bool)=_
  rw [zw,uo l,List.all_cons]
  cases v.one <;> rfl
theorem ax {a b:Nat} (h:Nat.beq a b=true):a=b:=Nat.eq_of_beq_eq_true h
theorem Bm {a b:Nat} (h:a≤b):Nat.ble a b=true:=by rw [Nat.ble_eq];exact h
theorem bd {a b:Nat} (h:Nat.ble a b=true):a≤b:=Nat.le_of_ble_eq_true h
theorem OH {l:List V} (h:fS l=true):l.length≤4096∧∀ v∈l,v.one=true:=by
 unfold fS at h
 rw [uo] at h
 cases hb:l.all V.one with
 | false=>rw [hb] at h;cases h
 | true=>
  rw [hb] at h
  have h:Nat.ble l.length Kt=true:=h
  exact ⟨bd h,fun v hv=>List.all_eq_true.1 hb v hv⟩
theorem na (t:CT) (i:Nat):b9 t i =(tA i).get t:=rfl
theorem pM (t:CT) (i:Nat) (x:C):dE t i x =(tA i).put x t:=rfl
theorem jt (t:HP) (i:Nat):a8 t i =(yB i).get t:=rfl
theorem mY (t:HP) (i:Nat) (x:Bk):cX t i x =(yB i).put x t:=rfl
theorem nL {h:Nat} (hl:h<262144):yB h=wF h:=by
 unfold yB
 have:Nat.ble (Nat.succ h) 262144=true:=Bm hl
 rw [this]
theorem C1 {h:Nat} (hl :¬ h<262144):yB h =⟨fun _=> .none,fun _ s=>s⟩:=by
 unfold yB
 cases hb:Nat.ble (Nat.succ h) 262144 with
 | true=>exact absurd (bd hb) hl
 | false=>rfl
theorem uB (t:CT) (i:Nat) (x:C):b9 (dE t i x) i=x:=by rw [na,pM,Ev]
theorem C7 {i j:Nat} (hi:i<4096) (hj:j<4096) (h:i≠j) (t:CT) (x:C):b9 (dE t i x) j=b9 t j:=by rw [na,pM,JJ hi hj h,na]
theorem oG {hp:HP} {h:Nat} (hl :¬ h<262144):a8 hp h = .none:=by rw [jt,C1 hl]
theorem qR {hp:HP} {h:Nat} (hl:h<262144) (b:Bk):a8 (cX hp h b) h=b:=by rw [jt,mY,nL hl,Ew]
theorem Bo {hp:HP} {h j:Nat} (hl:h<262144) (hj:h≠j) (b:Bk):a8 (cX hp h b) j=a8 hp j:=by
 by_cases hjl:j<262144
 ·rw [jt,mY,nL hl,nL hjl,JK hl hjl hj,jt,nL hjl]
 ·rw [oG hjl,oG hjl]
structure CsR (t:CT) (n:Nat) (cs:List V):Prop where
 len:cs.length=n
 le:n≤4096
 get :∀ i,i<n→cs[i]?=some (b9 t i).toV
 one :∀ v∈cs,v.one=true
theorem A8 (t:CT) :∀ n i,(tq t n i).length=n
 | 0,_=>rfl
 | n+1,i=>by simp only [tq,List.length_cons,A8 t n]
theorem A7 (t:CT) :∀ n i j,j<n→(tq t n i)[j]?=some (b9 t (i+j)).toV
 | n+1,i,0,_=>by simp only [tq,List.getElem?_cons_zero];rfl
 | n+1,i,j+1,h=>by
  simp only [tq,List.getElem?_cons_succ]
  rw [A7 t n (i+1) j (by omega),show i+1+j=i +(j+1) by omega]
theorem CsR.toL {t:CT} {n:Nat} {cs:List V} (h:CsR t n cs):toL t n=cs:=by
 apply List.ext_getElem?
 intro j
 unfold Mir.toL
 rcases Nat.lt_or_ge j n with hj|hj
 ·rw [A7 t n 0 j hj,Nat.zero_add,h.get j hj]
 ·rw [List.getElem?_eq_none (by rw [A8];exact hj),List.getElem?_eq_none (by rw [h.len];exact hj)]
theorem CsR.nil (t:CT):CsR t 0 []:=⟨rfl,by omega,fun i h=>by omega,fun v hv=>by cases hv⟩
theorem CsR.put {t:CT} {n:Nat} {cs:List V} (h:CsR t n cs) {i:Nat} (hi:i<n) {x:C} (hv:x.toV.one=true):CsR (dE t i x) n (cs.set i x.toV):=by
 have hle:=h.le
 refine ⟨by rw [List.length_set,h.len],hle,fun j hj=>?_,fun x hx=>?_⟩
 ·rw [List.getElem?_set]
  by_cases e:i=j
  ·subst e
   rw [if_pos rfl,if_pos (by rw [h.len];exact hi),uB]
  ·rw [if_neg e,h.get j hj,C7 (by omega) (by omega) e]
 ·rcases List.mem_or_eq_of_mem_set hx with h1|h1
  ·exact h.one x h1
  ·rw [h1];exact hv
theorem CsR.push {t:CT} {n:Nat} {cs:List V} (h:CsR t n cs) (hn:n<4096) {x:C} (hv:x.toV.one=true):CsR (dE t n x) (n+1) (cs++[x.toV]):=by
 have hl:=h.len
 refine ⟨by simp [h.len],by omega,fun j hj=>?_,fun x hx=>?_⟩
 ·by_cases e:n=j
  ·subst e
   rw [uB,List.getElem?_append_right (by omega),hl,Nat.sub_self]
   rfl
  ·rw [List.getElem?_append_left (by omega),h.get j (by omega),C7 hn (by omega) e]
 ·rcases List.mem_append.1 hx with h1|h1
  ·exact h.one x h1
  ·rw [List.mem_singleton.1 h1];exact hv
theorem yJ (v:V) :(EF v).toV=v:=by cases v <;> rfl
theorem Ah :∀ (l:List V) (i:Nat) (t:CT) (n:Nat) (cs:List V),CsR t n cs→n=i→n+l.length≤4096→(∀ v∈l,v.one=true)→CsR (OB l i t) (n+l.length) (cs++l)
 | [],i,t,n,cs,h,_,_,_=>by simpa [OB] using h
 | v::l,i,t,n,cs,h,e,hle,hl=>by
  subst e
  simp only [List.length_cons] at hle
  have h1:=h.push (by omega) (x:=EF v) (by rw [yJ];exact hl v List.mem_cons_self)
  rw [yJ] at h1
  have:=Ah l (n+1) (dE t n (EF v)) (n+1) (cs++[v]) h1 rfl (by omega) (fun x hx=>hl x (List.mem_cons_of_mem _ hx))
  rw [List.append_assoc,show n+1+l.length=n +(v::l).length by simp;omega] at this
  exact this
theorem CsR.ofL {l:List V} (h:fS l=true):CsR (ofL l) l.length l:=by
 obtain ⟨h1,h2⟩:=OH h
 have:=Ah l 0 ct0 0 [] (.nil _) rfl (by omega) h2
 simpa [Mir.ofL] using this
theorem EO (dst:CT) (d:Nat) (src:CT) (s n:Nat):oL dst d src s (n+1)=dE (oL dst d src s n) (d+n) (b9 src (s+n)):=rfl
def Au (cs:List V) (d:Nat) (xs:List V):List V:=cs.take d++xs++cs.drop (d+xs.length)
theorem sB {cs:List V} {d:Nat} {xs:List V} (hd:d≤cs.length) (j:Nat) :(Au cs d xs)[j]?=if d≤j∧j<d+xs.length then xs[j - d]? else cs[j]?:=by
 unfold Au
 rcases Nat.lt_or_ge j d with h|h
 ·rw [if_neg (by omega),List.append_assoc,List.getElem?_append_left (by rw [List.length_take];omega),List.getElem?_take_of_lt h]
 ·rcases Nat.lt_or_ge j (d+xs.length) with h2|h2
  ·rw [if_pos ⟨h,h2⟩,List.append_assoc,List.getElem?_append_right (by rw [List.length_take];omega),List.length_take,Nat.min_eq_left hd,List.getElem?_append_left (by omega)]
  ·rw [if_neg (by omega),List.getElem?_append_right (by rw [List.length_append,List.length_take];omega),List.length_append,List.length_take,Nat.min_eq_left hd,List.getElem?_drop]
   congr 1
   omega
theorem CsR.cpy {dst src:CT} {n m:Nat} {cs xs:List V} (hd:CsR dst n cs) (hs:CsR src m xs) {d s:Nat} (h1:d≤n) :∀ k,s+k≤m→d+k≤4096→∃ r,r=Au cs d ((xs.drop s).take k)∧CsR (oL dst d src s k) (max n (d+k)) r
 | 0,_,_=>by
  refine ⟨_,rfl,?_⟩
  have:Au cs d ((xs.drop s).take 0)=cs:=by simp [Au]
  rw [this,Nat.max_eq_left (by omega)]
  exact hd
 | k+1,h2,h3=>by
  obtain ⟨r,hr,hk⟩:=CsR.cpy (dst:=dst) (src:=src) (n:=n) (m:=m) (cs:=cs) (xs:=xs) (d:=d) (s:=s) hd hs h1 k (by omega) (by omega)
  refine ⟨_,rfl,?_⟩
  rw [EO]
  have hsl:=hs.len
  have hdl:=hd.len
  have hc:=hs.get (s+k) (by omega)
  have hone :(b9 src (s+k)).toV.one=true:=hs.one _ (List.mem_of_getElem? hc)
  have hlk :((xs.drop s).take k).length=k:=by rw [List.length_take,List.length_drop,hs.len];omega
  have hlk1 :((xs.drop s).take (k+1)).length=k+1:=by rw [List.length_take,List.length_drop,hs.len];omega
  have hl:r.length=max n (d+k):=hk.len
  have key:Au cs d ((xs.drop s).take (k+1))=if d+k<r.length then r.set (d+k) (b9 src (s+k)).toV else r++[(b9 src (s+k)).toV]:=by
   have hj :∀ j,r[j]?=if d≤j∧j<d+k then ((xs.drop s).take k)[j - d]? else cs[j]?:=fun j=>by rw [hr,sB (by rw [hd.len];exact h1),hlk]
   have hnew :((xs.drop s).take (k+1))[k]?=some (b9 src (s+k)).toV:=by rw [List.getElem?_take_of_lt (by omega),List.getElem?_drop];exact hc
   have hold :∀ i,i<k→((xs.drop s).take (k+1))[i]? =((xs.drop s).take k)[i]?:=fun i hi=>by rw [List.getElem?_take_of_lt (by omega),List.getElem?_take_of_lt hi]
   split
   ·rename_i hlt
    apply List.ext_getElem?
    intro j
    rw [sB (by rw [hd.len];exact h1),hlk1,List.getElem?_set]
    by_cases e:d+k=j
    ·subst e
     rw [if_pos (by omega),if_pos rfl,if_pos hlt,show d+k - d=k by omega]
     exact hnew
    ·rw [if_neg e,hj]
     by_cases e2:d≤j∧j<d+k
     ·rw [if_pos (by omega),if_pos e2,hold _ (by omega)]
     ·rw [if_neg (by omega),if_neg e2]
   ·rename_i hge
    have hrl:r.length=d+k:=by omega
    apply List.ext_getElem?
    intro j
    rw [sB (by rw [hd.len];exact h1),hlk1]
    rcases Nat.lt_or_ge j (d+k) with h|h
    ·rw [List.getElem?_append_left (by omega),hj]
     by_cases e2:d≤j
     ·rw [if_pos (by omega),if_pos ⟨e2,h⟩,hold _ (by omega)]
     ·rw [if_neg (by omega),if_neg (by omega)]
    ·rw [List.getElem?_append_right (by omega),hrl]
     by_cases e:j=d+k
     ·subst e
      rw [if_pos (by omega),show d+k - d=k by omega,hnew,Nat.sub_self]
      rfl
     ·rw [if_neg (by omega),List.getElem?_eq_none (by rw [hd.len];omega),List.getElem?_eq_none (by simp;omega)]
  rw [key]
  split
  ·rename_i hlt
   rw [show max n (d +(k+1))=max n (d+k) by omega]
   exact hk.put (by rw [←hl];exact hlt) hone
  ·rename_i hge
   have e:max n (d+k)=d+k:=by omega
   rw [e] at hk
   rw [show max n (d +(k+1))=d+k+1 by omega]
   exact hk.push (by omega) hone
theorem CsR.sub {src:CT} {m:Nat} {xs:List V} (hs:CsR src m xs) {s k:Nat} (h:s+k≤m):CsR (oL ct0 0 src s k) k ((xs.drop s).take k):=by
 have hle:=hs.le
 obtain ⟨r,hr,h1⟩:=CsR.cpy (.nil ct0) hs (d:=0) (Nat.le_refl 0) k h (by omega)
 have e:r =(xs.drop s).take k:=by rw [hr];simp [Au]
 rw [e,Nat.zero_add,Nat.max_eq_right (Nat.zero_le k)] at h1
 exact h1
theorem CsR.splice {dst src:CT} {n m:Nat} {cs xs:List V} (hd:CsR dst n cs) (hs:CsR src m xs) {d k:Nat} (h1:d+k≤n) (h2:k=m):CsR (oL dst d src 0 k) n (splice cs d xs):=by
 have hle:=hd.le
 obtain ⟨r,hr,h3⟩:=CsR.cpy hd hs (d:=d) (s:=0) (by omega) k (by omega) (by omega)
 have e:r=Mir.splice cs d xs:=by
  rw [hr,List.drop_zero,List.take_of_length_le (by rw [hs.len];omega)]
  rfl
 rw [e,Nat.max_eq_left h1] at h3
 exact h3
theorem CsR.app {dst src:CT} {n m:Nat} {cs xs:List V} (hd:CsR dst n cs) (hs:CsR src m xs) {s k:Nat} (h:s+k≤m) (h4:n+k≤4096):CsR (oL dst n src s k) (n+k) (cs ++(xs.drop s).take k):=by
 obtain ⟨r,hr,h3⟩:=CsR.cpy hd hs (d:=n) (s:=s) (Nat.le_refl n) k h h4
 have e:r=cs ++(xs.drop s).take k:=by
  rw [hr]
  unfold Au
  have h5:=hd.len
  have:cs.drop (n +((xs.drop s).take k).length)=[]:=List.drop_eq_nil_of_le (by omega)
  rw [List.take_of_length_le (by omega),this,List.append_nil]
 rw [e,Nat.max_eq_right (by omega)] at h3
 exact h3
theorem sQ {cs:List V} {i:Nat} {v:V} (h:i<cs.length):cs.set i v=splice cs i [v]:=by
 unfold splice
 rw [List.set_eq_take_append_cons_drop,if_pos h]
 simp
def W.wf:W→Prop
 | .c _=>True
 | .agg t n=>∃ cs,CsR t n cs
def U.wf:U→Prop
 | .agg t n=>∃ cs,CsR t n cs
 | .tup l=>∀ w∈l,w.wf
 | _=>True
def Bk.wf:Bk→Prop
 | .cells t n=>∃ cs,CsR t n cs
 | .grow _ _ t n=>∃ cs,CsR t n cs
 | _=>True
def hpW (hp:HP):Prop:=∀ h,(a8 hp h).wf
theorem fJ {hp:HP} {h:Nat} (hl:h<262144) {b:Bk} {B:Blk} (hb:b.toB=some B):hpH (cX hp h b)=ak (hpH hp) [(h,B)]:=by
 funext k
 unfold hpH ak
 simp only [find]
 by_cases e:h=k
 ·subst e
  rw [qR hl,Nat.beq_refl,hb]
  rfl
 ·rw [Bo hl e]
  have:Nat.beq h k=false:=by
   cases hb:Nat.beq h k with
   | false=>rfl
   | true=>exact absurd (ax hb) e
  rw [this]
  rfl
theorem fK {hp:HP} (h:hpW hp) {k:Nat} (hl:k<262144) {b:Bk} (hb:b.wf):hpW (cX hp k b):=fun j=>by
 by_cases e:k=j
 ·subst e;rw [qR hl];exact hb
 ·rw [Bo hl e];exact h j
theorem xy (h:Nat):a8 hp0 h = .none:=by
 by_cases hl:h<262144
 ·rw [jt,nL hl];exact Gf _ _
 ·exact oG hl
theorem Hf:hpW hp0:=fun h=>by rw [xy];trivial
theorem LN:hpH hp0=fun _=>none:=by funext h;unfold hpH;rw [xy];rfl
theorem Bn {hp:HP} {h:Nat} (hb:a8 hp h≠ .none):h<262144:=by
 by_cases hl:h<262144
 ·exact hl
 ·exact absurd (oG hl) hb
def VLe (v w:V):Prop:=∀ (E:Env) (x:Value),aa E v x→aa E w x
theorem VLe.refl (v:V):VLe v v:=fun _ _ h=>h
theorem VLe.of_eq {v w:V} (h:v=w):VLe v w:=h▸VLe.refl v
theorem VLe.trans {u v w:V} (h:VLe u v) (k:VLe v w):VLe u w:=fun E x q=>k E x (h E x q)
theorem VLe.any (v:V):VLe v .any:=fun _ _ _=>by simp [aa]
theorem Hr (b:Bool):VLe (.bool b) (.kb b):=fun E x h=>by simpa [aa] using h
theorem M5 (cs:List V) :(Bool.rec (motive:=fun _=>U) (.oth .any) (.agg (ofL cs) cs.length) (fS cs):U).wf:=by
 cases h:fS cs with
 | false=>trivial
 | true=>exact ⟨cs,CsR.ofL h⟩
theorem Ls (cs:List V) :(Bool.rec (motive:=fun _=>W) (.c (.oth .any)) (.agg (ofL cs) cs.length) (fS cs):W).wf:=by
 cases h:fS cs with
 | false=>trivial
 | true=>exact ⟨cs,CsR.ofL h⟩
theorem kN (v:V) :(jV v).wf:=by
 cases v <;> first|exact trivial|exact M5 _|skip
 rename_i vs
 intro w hw
 obtain ⟨v,_,rfl⟩:=List.mem_map.1 hw
 cases v <;> first|exact trivial|exact Ls _
theorem M4 (cs:List V):VLe (.agg cs) (Bool.rec (motive:=fun _=>U) (.oth .any) (.agg (ofL cs) cs.length) (fS cs):U).toV:=by
 cases h:fS cs with
 | false=>exact VLe.any _
 | true=>
  show VLe _ (V.agg (toL (ofL cs) cs.length))
  rw [(CsR.ofL h).toL]
  exact VLe.refl _
theorem Lr (cs:List V):VLe (.agg cs) (Bool.rec (motive:=fun _=>W) (.c (.oth .any)) (.agg (ofL cs) cs.length) (fS cs):W).toV:=by
 cases h:fS cs with
 | false=>exact VLe.any _
 | true=>
  show VLe _ (V.agg (toL (ofL cs) cs.length))
  rw [(CsR.ofL h).toL]
  exact VLe.refl _
theorem oB {E:Env} {α:Type} (f g:α→V) (h :∀ v,VLe (f v) (g v)) :∀ (vs:List α) (l:List Value),ab E (vs.map f) l→ab E (vs.map g) l
 | [],l,hl=>hl
 | v::vs,[],hl=>by simp [ab] at hl
 | v::vs,x::l,hl=>by
  simp only [List.map_cons,ab] at hl ⊢
  exact ⟨h v E x hl.1,oB f g h vs l hl.2⟩
theorem kM (v:V):VLe v (jV v).toV:=by
 cases v <;> first|exact VLe.refl _|exact Hr _|exact M4 _|skip
 rename_i vs
 intro E x hx
 simp only [jV,U.toV,aa] at hx ⊢
 obtain ⟨l,rfl,hl⟩:=hx
 refine ⟨l,rfl,?_⟩
 rw [List.map_map]
 have hl:ab E (vs.map fun v=>v) l.toList:=by simpa using hl
 refine oB _ _ (fun v=>?_) vs l.toList hl
 cases v <;> first|exact VLe.refl _|exact Hr _|exact Lr _
section views
variable {G:Rv→Prop} {sl:Rv} (h0:G sl)
include h0
theorem np {u:U} {f:IntKind→Int→Rv} (h :∀ k n,u = .int k n→G (f k n)):G (Ba u f sl):=by cases u <;> first|exact h0|exact h _ _ rfl
theorem LK {u:U} {f:Bool→Rv} (h :∀ b,u = .kb b→G (f b)):G (uKb u f sl):=by cases u <;> first|exact h0|exact h _ rfl
theorem oY {u:U} {f:Nat→Nat→Rv} {g:Nat→Nat→Nat→Rv} (h :∀ a o,u = .ptr a o→G (f a o)) (h' :∀ a v o,u = .gp a v o→G (g a v o)):G (CV u f g sl):=by
 cases u <;> first|exact h0|exact h _ _ rfl|exact h' _ _ _ rfl
theorem G3 {u:U} {k:Nat→Nat→Nat→Nat→Nat→Rv} (h :∀ a v e o l,u = .gsl a v e o l→G (k a v e o l)):G (PP u k sl):=by cases u <;> first|exact h0|exact h _ _ _ _ _ rfl
theorem Dh {u:U} {a b:Rv} {k:Nat→Nat→Nat→Nat→Nat→Rv} (h:u = .oth .nilsl→G a) (h':u = .oth .esl→G b) (h2 :∀ a v e o l,u = .gsl a v e o l→G (k a v e o l)):G (uSl u a b k sl):=by
 cases u with
 | oth v=>cases v <;> first|exact h0|exact h rfl|exact h' rfl
 | gsl=>exact h2 _ _ _ _ _ rfl
 | _=>exact h0
theorem Qh {u:U} {k:FuncId→List V→Rv} (h :∀ f cs,u = .oth (.fn f cs)→G (k f cs)):G (uFn u k sl):=by
 cases u with
 | oth v=>cases v <;> first|exact h0|exact h _ _ rfl
 | _=>exact h0
theorem bX {b:Bool} {r:Rv} (h:b=true→G r):G (ckR b r sl):=by
 cases b with
 | true=>exact h rfl
 | false=>exact h0
theorem G4 {v:V} {r:Rv} (h:v.one=true→G r):G (Lo v r sl):=by
 unfold Lo
 rw [zw]
 cases hv:v.one with
 | true=>exact h hv
 | false=>exact h0
theorem Rs {u:U} {k:C→Rv} (h :∀ c,c.toV=u.toV→c.toV.one=true→G (k c)):G (uC u k sl):=by
 cases u with
 | oth v=>exact G4 h0 fun hv=>h _ rfl hv
 | agg=>exact h0
 | tup=>exact h0
 | _=>exact h _ rfl rfl
theorem BN {u:U} {k:CT→Nat→Rv} (h :∀ t n,u = .agg t n→G (k t n)):G (Ln u k sl):=by cases u <;> first|exact h0|exact h _ _ rfl
theorem NH {u:U} {k:List W→Rv} (h :∀ l,u = .tup l→G (k l)):G (Q7 u k sl):=by cases u <;> first|exact h0|exact h _ rfl
theorem G2 {u:U} {k:C→Rv} {k2:CT→Nat→Rv} (h :∀ c,c.toV=u.toV→c.toV.one=true→G (k c)) (h' :∀ t n,u = .agg t n→G (k2 t n)):G (uCA u k k2 sl):=by
 cases u with
 | oth v=>exact G4 h0 fun hv=>h _ rfl hv
 | agg=>exact h' _ _ rfl
 | tup=>exact h0
 | _=>exact h _ rfl rfl
theorem G1 {b:Bk} {k:CT→Nat→Rv} (h :∀ t n,b = .cells t n→G (k t n)):G (bkC b k sl):=by cases b <;> first|exact h0|exact h _ _ rfl
theorem pT {b:Bk} {k:Nat→Nat→CT→Nat→Rv} (h :∀ v e t n,b = .grow v e t n→G (k v e t n)):G (bkG b k sl):=by cases b <;> first|exact h0|exact h _ _ _ _ rfl
theorem Dg {n:Int} {k:Nat→Rv} (h :∀ m:Nat,n = .ofNat m→G (k m)):G (IK n k sl):=by
 cases n with
 | ofNat m=>exact h m rfl
 | negSucc m=>exact h0
theorem LI {a b:Int} {f:Nat→Nat→Rv} (h :∀ x y:Nat,a = .ofNat x→b = .ofNat y→G (f x y)):G (OA a b f sl):=by
 cases a <;> cases b <;> first|exact h0|exact h _ _ rfl rfl
end views
theorem cJ {n:Nat} {k:Nat→Rv}:dV n k=k n:=by cases n <;> rfl
theorem Ow (k:IntKind) :(mxK k:Int)=k.max:=by cases k <;> decide
theorem Lt {k:IntKind} {n:Int} (h1:0≤n) (h2:n≤k.max):k.wrap n=n:=by
 cases k <;> simp only [IntKind.wrap,IntKind.bits,IntKind.signed,IntKind.max] at h2 ⊢ <;> simp at h2 ⊢ <;> omega
theorem nV {k:IntKind} {n:Nat} {m:Int} (h:m =(n:Int)):xj k n (k.wrap m)=k.wrap m:=by
 unfold xj
 cases hb:Nat.ble n (mxK k) with
 | false=>rfl
 | true=>
  have:=bd hb
  rw [h,Lt (by omega) (by rw [←Ow];omega)]
  rfl
theorem JM (k:IntKind) (a b:Int):eN k a b=k.wrap (a+b):=by
 cases a <;> cases b <;> first|rfl|exact nV rfl
theorem Lc (k:IntKind) (a b:Int):PJ k a b=k.wrap (a - b):=by
 cases a <;> cases b <;> first|rfl|skip
 rename_i x y
 show Bool.rec (motive:=fun _=>Int) _ _ (Nat.ble y x)=_
 cases hb:Nat.ble y x with
 | false=>rfl
 | true=>
  have:=bd hb
  exact nV (by show (x:Int) - (y:Int) =((x - y:Nat):Int);omega)
theorem Kw (k:IntKind) (a b:Int):Ov k a b=k.wrap (a*b):=by
 cases a <;> cases b <;> first|rfl|exact nV rfl
theorem Ns (k:IntKind) (a:Int):cvS k a=k.wrap a:=by
 cases a <;> first|rfl|exact nV rfl
theorem BF (a b:Int):eqS a b =(a==b):=by
 cases a <;> cases b <;> first|rfl|skip
 rename_i x y
 show Nat.beq x y =((x:Int) ==(y:Int))
 cases hb:Nat.beq x y with
 | true=>rw [ax hb];simp
 | false=>
  have :¬ x=y:=fun e=>by subst e;rw [Nat.beq_refl] at hb;cases hb
  symm
  rw [beq_eq_false_iff_ne]
  intro e
  exact this (by omega)
theorem Hy (a b:Int):leS a b=decide (a≤b):=by
 cases a <;> cases b <;> first|rfl|skip
 rename_i x y
 show Nat.ble x y=decide ((x:Int)≤(y:Int))
 cases hb:Nat.ble x y with
 | true=>have:=bd hb;symm;rw [decide_eq_true_eq];omega
 | false=>
  have :¬ x≤y:=fun e=>by rw [Bm e] at hb;cases hb
  symm;rw [decide_eq_false_iff_not];omega
theorem HE (a b:Int):ltS a b=decide (a<b):=by
 cases a <;> cases b <;> first|rfl|skip
 rename_i x y
 show Nat.ble (Nat.succ x) y=decide ((x:Int) <(y:Int))
 cases hb:Nat.ble (Nat.succ x) y with
 | true=>have:=bd hb;symm;rw [decide_eq_true_eq];omega
 | false=>
  have :¬ Nat.succ x≤y:=fun e=>by rw [Bm e] at hb;cases hb
  symm;rw [decide_eq_false_iff_not];omega
theorem Dr {k k':IntKind} (h:NN k k'=true):k=k':=by
 cases k <;> cases k' <;> first|rfl|cases h
theorem DP (b:Bool):Ft b=!b:=by cases b <;> rfl
end Go.Mir
