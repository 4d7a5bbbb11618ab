/- Texts of the mirror and contracts, put together. -/
import Derived.Test.YtffdpnmioidloaaGreatDoorPV4
import Derived.Test.YtffdpnmioidloaaGreatDoorPV3
import Derived.Shelf.Strings.BuilderF
import Derived.Lib.FrozenHead2
import Derived.Shelf.Small.Strs
namespace Go.Proofs.YtffdpnmioidloaaGreatDoor
open Go Go.Mir Go.RowKit
attribute [local irreducible] Go.Mir.DT.sat Go.Mir.evPat Go.Mir.RT.sat Go.Mir.evFn
abbrev RwsL:Ty:= .slice (.nm .Row)
def jj:List ByteArray→Int→Option (List Int)
 | [],_=>some []
 | w::l,i=>if i==6 then jj l (i+1) else if xd w then none else (jj l (i+1)).map ((lq w).1::·)
abbrev Q5:List (Nat×PB):= [(0,.row 1 (.nm .Row)),(2,.row 3 I)]
abbrev qN0:Pat:=⟨[(0,.h .str),(4,.c (.osl 0 1)),(8,.h (.slice .str)),(9,.c (.osl 2 3)),(23,.h (.slice .str)),(24,.h I),(25,.h I),(35,.h (.slice .str)),(36,.h I),(37,.h I)],Q5,4⟩
abbrev xN0:List (Lf×Pat):= [(.ext 2,⟨[(0,.h .str),(4,.c (.osl 0 1)),(8,.h (.slice .str)),(9,.c (.osl 2 3)),(23,.h (.slice .str)),(24,.h I),(25,.h I)],Q5,4⟩),(.ret,⟨[(2,.c .nilsl),(3,.h I)],[],0⟩)]
abbrev TN0:Type:=ByteArray×List ByteArray×List ByteArray×Int×Int×List ByteArray×Int×Int×List Mir.Row×List Int×Unit
abbrev ON0:Type:=Sum (ByteArray×List ByteArray×List ByteArray×Int×Int×List Mir.Row×List Int×Unit) (Int×Unit)
def vL (s:ByteArray) (w l:List ByteArray) (n i:Int) (rs:List Mir.Row) (o:List Int):Option (List Int)→ON0
 | some v=> .inl (s,w,l,n,i,rs,o++v,())
 | none=> .inr (4,())
def gG:TN0→ON0
 |(s,w,l,n,i,z,_,j,rs,o,_)=>vL s w l n i rs o (jj (z.drop j.toNat) j)
def pO:TN0→Prop
 |(_,_,_,_,_,z,m,j,_,o,_)=>(m =(z.length:Int)∧z.length=9)∧(0≤j∧j≤m)∧(o.length:Int)≤j
def xQ:TN0→Nat
 |(_,_,_,_,_,_,m,j,_)=>(m - j).toNat
def kK (l:List ByteArray):Option Mir.Row:=if l.length=9 then (jj l 0).map (fun v=>⟨v.getD 0 0,v.getD 1 0,v.getD 2 0,v.getD 3 0,v.getD 4 0,v.getD 5 0,l.getD 6 ByteArray.empty,v.getD 6 0,v.getD 7 0⟩) else none
def fA:List ByteArray→Option (List Mir.Row)
 | []=>some []
 | x::l=>(kK (bj x 32)).bind fun r=>(fA l).map (r::·)
abbrev qN1:Pat:=⟨[(0,.h .str),(4,.c (.osl 0 1)),(23,.h (.slice .str)),(24,.h I),(25,.h I)],[(0,.row 1 (.nm .Row))],2⟩
abbrev xN1:List (Lf×Pat):= [(.ext 0,⟨[(0,.h .str),(4,.c (.osl 0 1))],[(0,.row 1 (.nm .Row))],2⟩),(.ret,⟨[(2,.c .nilsl),(3,.h I)],[],0⟩)]
abbrev TN1:Type:=ByteArray×List ByteArray×Int×Int×List Mir.Row×Unit
def sw (s:ByteArray) (o:List Mir.Row):Option (List Mir.Row)→Sum (ByteArray×List Mir.Row×Unit) (Int×Unit)
 | some v=> .inl (s,o++v,())
 | none=> .inr (4,())
def jH:TN1→Sum (ByteArray×List Mir.Row×Unit) (Int×Unit)
 |(s,l,_,i,o,_)=>sw s o (fA (l.drop i.toNat))
def IM (l:List ByteArray):Prop:=l.length≤20000∧∀ x∈l,x.size≤20000
def uR:TN1→Prop
 |(_,l,n,i,o,_)=>(n =(l.length:Int)∧IM l)∧(0≤i∧i≤n)∧(o.length:Int)≤i
def I5:TN1→Nat
 |(_,_,n,i,_)=>(n - i).toNat
theorem sH :∀ {l:List ByteArray} {i:Int} {v:List Int},0≤i→jj l i=some v→(v.length:Int) =(l.length:Int) - (if i≤6∧6<i +(l.length:Int) then 1 else 0)
 | [],i,v,h0,h=>by
  cases h
  rw [if_neg (by rintro ⟨a,b⟩;simp at b;omega)]
  rfl
 | w::l,i,v,h0,h=>by
  have h :(if i==6 then jj l (i+1) else if xd w then none else (jj l (i+1)).map ((lq w).1::·))=some v:=h
  have hc :((w::l).length:Int) =(l.length:Int)+1:=by rw [List.length_cons];exact Int.natCast_add _ _
  split at h
  ·rename_i h6
   have h6:i=6:=eq_of_beq h6
   have:=sH (by omega) h
   rw [if_neg (by omega)] at this
   rw [if_pos (by omega),hc]
   omega
  ·rename_i h6
   have h6:i≠6:=fun e=>h6 (by rw [e];rfl)
   split at h
   ·cases h
   ·cases hr:jj l (i+1) with
    | none=>rw [hr] at h;cases h
    | some u=>
     rw [hr] at h;cases h
     have:=sH (by omega) hr
     have e :(i+1≤6∧6<i+1 +(l.length:Int))↔(i≤6∧6<i +((w::l).length:Int)):=by rw [hc];omega
     show ((((lq w).1::u).length:Nat):Int)=_
     rw [List.length_cons]
     by_cases hk:i≤6∧6<i +((w::l).length:Int)
     ·rw [if_pos (e.2 hk)] at this
      rw [if_pos hk,hc]
      omega
     ·rw [if_neg (fun h=>hk (e.1 h))] at this
      rw [if_neg hk,hc]
      omega
theorem PA {l:List ByteArray} {v:List Int} (hl:l.length=9) (h:jj l 0=some v):v.length=8:=by
 have:=sH (Int.le_refl 0) h
 rw [hl,if_pos (by decide)] at this
 omega
noncomputable def lpN0:Lp:=(⟨0,ax [vj] Tryz.f25,(fun _=>none),(gu Tryz.f25 0 0),qN0,xN0⟩:Lp)
theorem P2 (s:ByteArray) (w:List ByteArray) (l:List ByteArray) (n:Int) (i:Int) (z:List ByteArray) (m:Int) (j:Int) (rs:List Mir.Row) (o:List Int) (hi:pO (s,w,l,n,i,z,m,j,rs,o,())) :(Go.Mir.stepG lpN0 gG (fun y:Den (tyP lpN0.q)=>pO y∧xQ y<xQ (s,w,l,n,i,z,m,j,rs,o,())) (s,w,l,n,i,z,m,j,rs,o,())∧Go.Mir.stepE lpN0 gG (s,w,l,n,i,z,m,j,rs,o,())=gG (s,w,l,n,i,z,m,j,rs,o,())):=by
 refine cast (by kernel_rfl) (?_:let r1:Int:=IntKind.i64.wrap (j +(1:Int));let r2:Int×Int:=bK (z.getD j.toNat (dflt Ty.str)) (0:Int) (1000000:Int);let r3:List Int:= [r2.1];let r4:Bool:=r2.2 !=(0:Int);((decide (j<m)=true→((0:Int)≤j∧j <(↑z.length:Int))∧((j ==(6:Int))=true→pO (s,w,l,n,i,z,m,r1,rs,o,())∧xQ (s,w,l,n,i,z,m,r1,rs,o,())<xQ (s,w,l,n,i,z,m,j,rs,o,()))∧((j ==(6:Int))=false→(r4=true→True)∧(r4=false→(o.length+r3.length) *(8:Nat)≤(70368744177664:Nat)∧pO (s,w,l,n,i,z,m,r1,rs,o++r3,())∧xQ (s,w,l,n,i,z,m,r1,rs,o++r3,())<xQ (s,w,l,n,i,z,m,j,rs,o,()))))∧(decide (j<m)=false→True))∧(bif decide (j<m) then bif j ==(6:Int) then gG (s,w,l,n,i,z,m,r1,rs,o,()) else bif r4 then Sum.inr ((4:Int),()) else gG (s,w,l,n,i,z,m,r1,rs,o++r3,()) else Sum.inl (s,w,l,n,i,rs,o,()))=gG (s,w,l,n,i,z,m,j,rs,o,()))
 intro r1 r2 r3 r4
 clear_value (hr1:r1=_) (hr2:r2=_) (hr3:r3=_) (hr4:r4=_)
 obtain ⟨⟨h1,h1b⟩,⟨h2,h3⟩,h4⟩:=hi
 have h1:m =(z.length:Int):=h1
 have h1b:z.length=9:=h1b
 have h2:0≤j:=h2
 have h3:j≤m:=h3
 have h4 :(o.length:Int)≤j:=h4
 by_cases h:j<m
 ·have e1:r1=j+1:=by rw [hr1];exact wrap64 (by omega) (by omega)
  have hd:z.drop j.toNat=z.getD j.toNat (dflt Ty.str)::z.drop (j+1).toNat:=fM h2 (by omega) _
  generalize z.getD j.toNat (dflt Ty.str)=x at *
  have er:r2=lq x:=hr2.trans (cu _ _ _)
  have e4:r4=xd x:=by rw [hr4,er];rfl
  have hl:r3.length=1:=by rw [hr3];rfl
  have hI :∀ o':List Int,(o'.length:Int)≤j+1→pO (s,w,l,n,i,z,m,j+1,rs,o',())∧xQ (s,w,l,n,i,z,m,j+1,rs,o',())<xQ (s,w,l,n,i,z,m,j,rs,o,()):=fun o' ho=>by
   refine ⟨⟨⟨h1,h1b⟩,⟨?_,?_⟩,ho⟩,?_⟩
   ·show 0≤j+1;omega
   ·show j+1≤m;omega
   ·show (m - (j+1)).toNat <(m - j).toNat;omega
  have key:gG (s,w,l,n,i,z,m,j,rs,o,())=bif j==6 then gG (s,w,l,n,i,z,m,j+1,rs,o,()) else bif r4 then .inr (4,()) else gG (s,w,l,n,i,z,m,j+1,rs,o++r3,()):=by
   show vL s w l n i rs o (jj (z.drop j.toNat) j)=bif j==6 then vL s w l n i rs o (jj (z.drop (j+1).toNat) (j+1)) else bif r4 then .inr (4,()) else vL s w l n i rs (o++r3) (jj (z.drop (j+1).toNat) (j+1))
   rw [hd]
   generalize z.drop (j+1).toNat=R
   have e:jj (x::R) j=if j==6 then jj R (j+1) else if r4 then none else (jj R (j+1)).map (r2.1::·):=by rw [e4,er];rfl
   rw [e]
   cases j==6 with
   | true=>rfl
   | false=>
    cases r4 with
    | true=>rfl
    | false=>
     cases jj R (j+1) with
     | none=>rfl
     | some v=>
      show Sum.inl (s,w,l,n,i,rs,o++r2.1::v,())=Sum.inl (s,w,l,n,i,rs,(o++r3)++v,())
      rw [hr3,List.append_assoc]
      rfl
  rw [decide_eq_true h,e1,key]
  refine ⟨⟨fun _=>⟨⟨h2,by omega⟩,fun _=>hI _ (by omega),fun _=>⟨fun _=>trivial,fun _=>⟨by omega,hI _ (by rw [List.length_append];omega)⟩⟩⟩,fun z=>Bool.noConfusion z⟩,rfl⟩
 ·rw [decide_eq_false h]
  refine ⟨⟨fun z=>Bool.noConfusion z,fun _=>trivial⟩,?_⟩
  show _=vL s w l n i rs o (jj (z.drop j.toNat) j)
  rw [dV (l:=z) (by omega)]
  show Sum.inl (s,w,l,n,i,rs,o,())=Sum.inl (s,w,l,n,i,rs,o++[],())
  rw [List.append_nil]
noncomputable def RL:LoopSum:=az lpN0 gG pO
noncomputable def RD:Nat:=rid (gu Tryz.f25 0 0)
theorem OX:LoopOKp Tryz.prog 0 Tryz.f25.ntmps (gu Tryz.f25 0 0) (az lpN0 gG pO):=
 aY lpN0 (au (.consU so rfl .nil) _) mixed (fun b hb S hS=>by cases hS) gG pO xQ (fun |⟨s,w,l,n,i,z,m,j,rs,o,⟨⟩⟩,hi=>P2 s w l n i z m j rs o hi)
noncomputable def lpN1:Lp:=(⟨0,ax [oU,vj] Tryz.f25,(find [(RD,RL)]),(bf Tryz.f25 0),qN1,xN1⟩:Lp)
theorem P3 (s:ByteArray) (l:List ByteArray) (n:Int) (i:Int) (o:List Mir.Row) (hi:uR (s,l,n,i,o,())) :(Go.Mir.stepG lpN1 jH (fun y:Den (tyP lpN1.q)=>uR y∧I5 y<I5 (s,l,n,i,o,())) (s,l,n,i,o,())∧Go.Mir.stepE lpN1 jH (s,l,n,i,o,())=jH (s,l,n,i,o,())):=by
 refine cast (by kernel_rfl) (?_:let r1:List ByteArray:=bj (l.getD i.toNat (dflt Ty.str)) (UInt8.ofNat (Int.toNat (32:Int)));let r2:Int:=(↑r1.length:Int);let r3:Bool:=r2 !=(9:Int);let r4:Bool:=isL (gG (s,r1,l,n,i,r1,r2,(0:Int),o,[],()));let r5:ByteArray×List ByteArray×List ByteArray×Int×Int×List Mir.Row×List Int×PUnit:=oQ (dflt (Ty.str.prod (Ty.str.slice.prod (Ty.str.slice.prod (I.prod (I.prod ((Ty.nm Nm.Row).slice.prod (I.slice.prod Ty.unit)))))))) (gG (s,r1,l,n,i,r1,r2,(0:Int),o,[],()));let r6:Int:=(↑r5.2.2.2.2.2.2.1.length:Int);let r7:List Mir.Row:= [Mir.Row.mk (r5.2.2.2.2.2.2.1.getD (Int.toNat (0:Int)) (dflt (Ty.int IntKind.i64))) (r5.2.2.2.2.2.2.1.getD (Int.toNat (1:Int)) (dflt (Ty.int IntKind.i64))) (r5.2.2.2.2.2.2.1.getD (Int.toNat (2:Int)) (dflt (Ty.int IntKind.i64))) (r5.2.2.2.2.2.2.1.getD (Int.toNat (3:Int)) (dflt (Ty.int IntKind.i64))) (r5.2.2.2.2.2.2.1.getD (Int.toNat (4:Int)) (dflt (Ty.int IntKind.i64))) (r5.2.2.2.2.2.2.1.getD (Int.toNat (5:Int)) (dflt (Ty.int IntKind.i64))) (r5.2.1.getD (Int.toNat (6:Int)) (dflt Ty.str)) (r5.2.2.2.2.2.2.1.getD (Int.toNat (6:Int)) (dflt (Ty.int IntKind.i64))) (r5.2.2.2.2.2.2.1.getD (Int.toNat (7:Int)) (dflt (Ty.int IntKind.i64)))];((decide (i<n)=true→((0:Int)≤i∧i <(↑l.length:Int))∧ByteArray.size (l.getD i.toNat (dflt Ty.str))≤(1000000:Nat)∧(r3=true→True)∧(r3=false→((ij fun x=>none)∧(r2 =(↑r1.length:Int)∧r1.length=nat_lit 9)∧((0:Int)≤(0:Int)∧(0:Int)≤r2)∧(↑(0:Nat):Int)≤(0:Int))∧(r4=true→((0:Int)≤(0:Int)∧(0:Int)<r6)∧((0:Int)≤(1:Int)∧(1:Int)<r6)∧((0:Int)≤(2:Int)∧(2:Int)<r6)∧((0:Int)≤(3:Int)∧(3:Int)<r6)∧((0:Int)≤(4:Int)∧(4:Int)<r6)∧((0:Int)≤(5:Int)∧(5:Int)<r6)∧((0:Int)≤(6:Int)∧(6:Int) <(↑r5.2.1.length:Int))∧((0:Int)≤(6:Int)∧(6:Int)<r6)∧((0:Int)≤(7:Int)∧(7:Int)<r6)∧(r5.2.2.2.2.2.1.length+r7.length) *(80:Nat)≤(70368744177664:Nat)∧uR (r5.1,r5.2.2.1,r5.2.2.2.1,IntKind.i64.wrap (r5.2.2.2.2.1 +(1:Int)),r5.2.2.2.2.2.1++r7,())∧I5 (r5.1,r5.2.2.1,r5.2.2.2.1,IntKind.i64.wrap (r5.2.2.2.2.1 +(1:Int)),r5.2.2.2.2.2.1++r7,())<I5 (s,l,n,i,o,()))∧(r4=false→True)))∧(decide (i<n)=false→True))∧(bif decide (i<n) then bif r3 then Sum.inr ((4:Int),()) else bif r4 then jH (r5.1,r5.2.2.1,r5.2.2.2.1,IntKind.i64.wrap (r5.2.2.2.2.1 +(1:Int)),r5.2.2.2.2.2.1++r7,()) else Sum.inr (qk (dflt (I.prod Ty.unit)) (gG (s,r1,l,n,i,r1,r2,(0:Int),o,[],()))) else Sum.inl (s,o,()))=jH (s,l,n,i,o,()))
 intro r1 r2 r3 r4 r5 r6 r7
 clear_value (hr1:r1=_) (hr2:r2=_) (hr3:r3=_) (hr4:r4=_) (hr5:r5=_) (hr6:r6=_) (hr7:r7=_)
 obtain ⟨⟨h1,h1b⟩,⟨h2,h3⟩,h4⟩:=hi
 have h1:n =(l.length:Int):=h1
 have h1b:IM l:=h1b
 have h2:0≤i:=h2
 have h3:i≤n:=h3
 have h4 :(o.length:Int)≤i:=h4
 have hf:=h1b.1
 by_cases h:i<n
 ·have e1:IntKind.i64.wrap (i+1)=i+1:=wrap64 (by omega) (by omega)
  have hd:l.drop i.toNat=l.getD i.toNat (dflt Ty.str)::l.drop (i+1).toNat:=fM h2 (by omega) _
  have hm:l.getD i.toNat (dflt Ty.str)∈l:=List.mem_of_mem_drop (i:=i.toNat) (by rw [hd];exact List.mem_cons_self)
  have hz:ByteArray.size (l.getD i.toNat (dflt Ty.str))≤20000:=h1b.2 _ hm
  generalize l.getD i.toNat (dflt Ty.str)=x at *
  have er1:r1=bj x 32:=hr1
  have er:gG (s,r1,l,n,i,r1,r2,0,o,[],())=vL s r1 l n i o [] (jj r1 0):=rfl
  have key:jH (s,l,n,i,o,())=sw s o ((kK r1).bind fun r=>(fA (l.drop (i+1).toNat)).map (r::·)):=by
   show sw s o (fA (l.drop i.toNat))=_
   rw [hd,er1]
   rfl
  rw [er] at hr4 hr5 ⊢
  rw [decide_eq_true h,key]
  cases h3:r3 with
  | true=>
   have hl:r1.length≠9:=fun e=>by rw [hr3,hr2,e] at h3;exact Bool.noConfusion h3
   have eR:kK r1=none:=by unfold kK;rw [if_neg hl]
   rw [eR]
   exact ⟨⟨fun _=>⟨⟨h2,by omega⟩,Nat.le_trans hz (by decide),fun _=>trivial,fun z=>Bool.noConfusion z⟩,fun z=>Bool.noConfusion z⟩,rfl⟩
  | false=>
   have hl:r1.length=9:=by
    have h :(r2 != 9)=false:=by rw [←hr3];exact h3
    have h:r2=9:=by simpa using h
    omega
   have hE :(ij fun _=>none)∧(r2 =(r1.length:Int)∧r1.length=9)∧((0:Int)≤0∧0≤r2)∧((0:Nat):Int)≤0:=⟨rfl,⟨hr2,hl⟩,⟨Int.le_refl _,by omega⟩,Int.le_refl _⟩
   cases hN:jj r1 0 with
   | none=>
    rw [hN] at hr4
    have e4:r4=false:=hr4
    have eR:kK r1=none:=by unfold kK;rw [if_pos hl,hN];rfl
    rw [e4,eR]
    exact ⟨⟨fun _=>⟨⟨h2,by omega⟩,Nat.le_trans hz (by decide),fun _=>trivial,fun _=>⟨hE,fun z=>Bool.noConfusion z,fun _=>trivial⟩⟩,fun z=>Bool.noConfusion z⟩,rfl⟩
   | some v=>
    have hv:=PA hl hN
    rw [hN] at hr4 hr5
    have e4:r4=true:=hr4
    have e5:r5 =(s,r1,l,n,i,o,v,()):=hr5
    have e6:r6=8:=by rw [hr6,e5];show (v.length:Int)=8;omega
    have eR:kK r1=some ⟨v.getD 0 0,v.getD 1 0,v.getD 2 0,v.getD 3 0,v.getD 4 0,v.getD 5 0,r1.getD 6 ByteArray.empty,v.getD 6 0,v.getD 7 0⟩:=by unfold kK;rw [if_pos hl,hN];rfl
    have e7:r7=[⟨v.getD 0 0,v.getD 1 0,v.getD 2 0,v.getD 3 0,v.getD 4 0,v.getD 5 0,r1.getD 6 ByteArray.empty,v.getD 6 0,v.getD 7 0⟩]:=by rw [hr7,e5];rfl
    have l7:r7.length=1:=by rw [e7];rfl
    rw [e4,e5,e6,eR,e1]
    refine ⟨⟨fun _=>⟨⟨h2,by omega⟩,Nat.le_trans hz (by decide),fun _=>trivial,fun _=>⟨hE,fun _=>⟨by decide,by decide,by decide,by decide,by decide,by decide,⟨by decide,?_⟩,by decide,by decide,?_,⟨⟨h1,h1b⟩,⟨?_,?_⟩,?_⟩,?_⟩,fun z=>Bool.noConfusion z⟩⟩,fun z=>Bool.noConfusion z⟩,?_⟩
    ·show (6:Int) <(r1.length:Int);omega
    ·show (o.length+r7.length)*80≤70368744177664;omega
    ·show 0≤i+1;omega
    ·show i+1≤n;omega
    ·show ((o++r7).length:Int)≤i+1
     rw [List.length_append];omega
    ·show (n - (i+1)).toNat <(n - i).toNat;omega
    ·show sw s (o++r7) (fA (l.drop (i+1).toNat))=sw s o ((fA (l.drop (i+1).toNat)).map (_::·))
     rw [e7]
     cases fA (l.drop (i+1).toNat) with
     | none=>rfl
     | some u=>
      show Sum.inl (s,(o++[_])++u,())=Sum.inl (s,o++_::u,())
      rw [List.append_assoc]
      rfl
 ·rw [decide_eq_false h]
  refine ⟨⟨fun z=>Bool.noConfusion z,fun _=>trivial⟩,?_⟩
  show _=sw s o (fA (l.drop i.toNat))
  rw [dV (l:=l) (by omega)]
  show Sum.inl (s,o,())=Sum.inl (s,o++[],())
  rw [List.append_nil]
noncomputable def NJ:LoopSum:=az lpN1 jH uR
noncomputable def Nn:Nat:=rid (bf Tryz.f25 0)
theorem OY:LoopOKp Tryz.prog 0 Tryz.f25.ntmps (bf Tryz.f25 0) (az lpN1 jH uR):=
 aY lpN1 (au (.consU sq rfl (.consU so rfl .nil)) _) mixed (LoopsOKp.cons (by kernel_rfl) OX .nil) jH uR I5 (fun |⟨s,l,n,i,o,⟨⟩⟩,hi=>P3 s l n i o hi)
end Go.Proofs.YtffdpnmioidloaaGreatDoor
namespace Go.Mir
open Go.RowKit
variable {P:Program}
theorem KQ {B:Base} {E:Env} (hE:HRel B E) (m K:Nat) {h kk b:Nat} {t:Ty} {x:Den t} (hH:E.H h=some (.abs kk t x)) (hρ:E.ρ h=some b) {w':World}
  (hk:Keeps E.w (fun k=>k=b∨fB kk E.w b=some k) w') (hg :∀ g,fB kk w' b=some g→fB kk E.w b=some g∨(E.w.heap.size≤g∧g<w'.heap.size)) {x':Den t} (hA:AbsAt w' b kk t x') :
  ∃ E',GoodK B E m K [(h,.abs kk t x')] w' E':=by
 have tb :∀ {k},(k=b∨fB kk E.w b=some k)→k=b∨∃ k0,E.H h=some k0∧Tch E h k0 k:=fun hx=>hx.imp id fun h1=>⟨_,hH,.inr ⟨b,hρ,h1⟩⟩
 obtain ⟨R,X⟩:=NA hE h kk t x' b w' E.U (fun n h=>h) (hE.used _ _ hH)
  ⟨hk.os,hk.tape,hk.output,hk.size,fun k hlt hn=>hk.block k hlt fun hx=>hn (tb hx)⟩ (.inl ⟨⟨_,hH⟩,hρ⟩)
  (fun g h1=>(hg g h1).imp (fun h2=>⟨_,hH,.inr ⟨b,hρ,h2⟩⟩) id) hA
 exact ⟨_,R,X,rfl,(bl _ _ _).symm,fun n h=> .inl h⟩
def GQ (w:World) (b:Nat) (s:ByteArray):Prop:=s.size≤ai∧Lib.IsBuilderF bTy uTy 0 b (Lib.strCells s) w
theorem absB {w:World} {b:Nat} {s:ByteArray}:AbsAt w b 0 .str s↔GQ w b s:=by
 constructor
 ·rintro (⟨_,s',e,h⟩ |⟨e,_⟩)
  ·cases e;exact h
  ·cases e
 ·exact fun h=> .inl ⟨rfl,s,rfl,h⟩
def yQ (f:ByteArray→List V→Option (List Prop×V×ByteArray)):Ctr:=fun args H _=>match args with
 | .av 0 h::r=>match H h with
  | some (.abs 0 .str s)=>match f s r with
   | some (ps,v,s')=>some (ps,v,[(h,.abs 0 .str s')])
   | none=>none
  | _=>none
 | _=>none
theorem BS {K:Nat} {f:FuncId} {fn:Func} (hf:P.funcs[f]?=some fn) (hbody:fn.body.isSome=true) (hname :(fn.name == "runtime.NumGoroutine")=false) {g:ByteArray→List V→Option (List Prop×V×ByteArray)}
  (h :∀ (w:World) (b:Nat) (s:ByteArray) (r:List V) (us:List Value) (E:Env) (ps:List Prop) (v:V) (s':ByteArray),g s r=some (ps,v,s')→(∀ p∈ps,p)→GQ w b s→ab E r us→
   Calls P f (.pointer (some ⟨b,0,none⟩)::us).toArray w fun e w'=>∃ v',e = .returned v'∧Keeps w (fun k=>k=b∨fa w b=some k) w'∧(∀ k,fa w' b=some k→fa w b=some k∨(w.heap.size≤k∧k<w'.heap.size))∧GQ w' b s'∧∀ E':Env,aa E' v v') :
  CtrOK P K f (yQ g):=by
 refine ⟨⟨fn,hf,hbody,hname⟩,fun B E hE args av hav m hm ps v dh hct hps=>?_⟩
 unfold yQ at hct
 split at hct
 case h_2=>cases hct
 rename_i hh r
 split at hct
 case h_2=>cases hct
 rename_i s hH
 split at hct
 case h_2=>cases hct
 rename_i ps' v' s' hg
 cases hct
 cases av with
 | nil=>simp [ab] at hav
 | cons a us=>
  simp only [ab,aa] at hav
  obtain ⟨⟨_,_,h1⟩,h2⟩:=hav
  obtain ⟨b,h3,rfl⟩:=h1 _ _ hH
  obtain ⟨b',h4,_,_,h5⟩:=hE.blk _ _ hH
  rw [h3] at h4
  cases h4
  refine (h E.w b s r us E _ _ _ hg hps (absB.1 h5) h2).mono fun e w' ⟨u,k1,k2,k3,k4,k5⟩=>?_
  obtain ⟨E',G⟩:=KQ hE m K hH h3 (w':=w') k2 k3 (x':=s') (absB.2 k4)
  exact ⟨E',u,k1,G,k5 E'⟩
end Go.Mir
namespace Go.Proofs.YtffdpnmioidloaaGreatDoor
open Go Go.Mir Go.RowKit Go.Shelf
structure FrB (b:Nat) (w w':World):Prop where
 keeps:Keeps w (fun k=>k=b∨fa w b=some k) w'
 buf :∀ k,fa w' b=some k→fa w b=some k∨(w.heap.size≤k∧k<w'.heap.size)
theorem jr {w:World} {b:Nat} {p v:Value} {T:TypeId} {fr:Nat×Nat} (h:w.heap[b]?=some (.cells #[p,v] T fr)):fa w b=v.ownBlock:=by
 unfold fa
 rw [h]
 rfl
theorem sS {w:World} {a:Addr} {v:Value} {k:Nat} (h:k≠a.block) :(w.setCell a v).heap[k]?=w.heap[k]?:=Below.heap_setCell _ _ _ _ h
theorem KY {P:Program} (w:World) (t u ty e:TypeId) (i:TypeInfo) (ht:P.underlying t=some (.slice e)) (hu:P.underlying u=some .string) (hi:P.info? e=some i) (hz:i.zero=some (.int .u8 0))
  (hsize:i.size=1) (hby:i.bytes=1) (v:Value) (n:Nat) (xs:List Value) (hown:w.ownsRowF 0 e 1 v n xs) (s:ByteArray) (h63:n+s.size≤maxLen) (hbytes:n+s.size≤140737488355328) :
  ∃ v' w',(Builtin.append_ #[t,u] ty #[v,.string s]).run P w = .ok v' w'∧w'.ownsRowF 0 e 1 v' (n+s.size) (xs++Lib.strCells s)∧w.grownBy w' v.ownBlock∧∀ g,v'.ownBlock=some g→v.ownBlock=some g∨w.heap.size≤g:=by
 obtain ⟨v',w',h1,h2,h3,_⟩:=Lib.run_append_own_stringF (P:=P) w 0 t u ty e i ht hu hi hz hsize hby v n xs hown s h63 hbytes (Nat.zero_le _)
 refine ⟨v',w',h1,h2,h3,fun g hg=>?_⟩
 rcases hown.2 with ⟨rfl,rfl⟩ |⟨g0,cap,cur,fz,rfl,hbg,hg0,hfz,hnc,hcm,hcs,htake⟩
 ·obtain ⟨v1,w1,k1,k2,_,_⟩:=Lib.run_append_own_stringF (P:=P) w w.heap.size t u ty e i ht hu hi hz hsize hby (.slice none 0 0) 0 xs ⟨hown.1,.inl ⟨rfl,rfl⟩⟩ s h63 hbytes (Nat.le_refl _)
  rw [h1] at k1
  cases k1
  exact .inr (k2.lt g hg).1
 ·have hcs':cur.size=cap:=by simpa using hcs
  by_cases hroom:n+s.size≤cap
  ·have hr:=Lib.run_append_room_stringF (P:=P) w t u ty e i ht hu hi hsize g0 n cap cur fz hg0 (by simpa using hfz) s hroom (by omega)
   rw [h1] at hr
   cases hr
   exact .inl hg
  ·have hxl:xs.length=n:=by simpa using hown.1
   have hsmall:n+s.size≤9223372036854775807:=by simp only [maxLen] at h63;omega
   have hr:=Lib.run_append_grow_string (P:=P) w t u ty e i (.int .u8 0) ht hu hi hz ⟨g0,0,none⟩ n cap xs (by rw [hsize];simpa using hxl) (hown.cells (g:=g0) rfl) s (by omega) (by omega) (by rw [hby];exact growslice_fits (by omega) (by omega))
   rw [h1] at hr
   cases hr
   simp only [Value.ownBlock,Option.some.injEq] at hg
   subst hg
   exact .inr (Nat.le_refl _)
theorem BQ {P:Program} (w:World) {ops:Array Oper} {rest:List Oper} {o:Oper} {a:Act} {Q:Exit→Act→World→Prop} (hgd:o.guard=none) (sl x:Operand) (t u:TypeId)
  (ho:o.op = .call { callee:= .builtin .append,args:=#[sl,x],argTypes:=#[t,u] }) (e:TypeId) (i:TypeInfo) (ht:P.underlying t=some (.slice e)) (hu:P.underlying u=some .string) (hi:P.info? e=some i) (hz:i.zero=some (.int .u8 0))
  (hsize:i.size=1) (hby:i.bytes=1) (v:Value) (n:Nat) (xs:List Value) (hs:a.eval sl=v) (hown:w.ownsRowF 0 e 1 v n xs) (s:ByteArray) (hx:a.eval x = .string s) (h63:n+s.size≤maxLen) (hbytes:n+s.size≤140737488355328)
  (h :∀ v' w',w'.ownsRowF 0 e 1 v' (n+s.size) (xs++Lib.strCells s)→w.grownBy w' v.ownBlock→(∀ g,v'.ownBlock=some g→v.ownBlock=some g∨w.heap.size≤g)→wpList P ops Q rest (a.put o.dst v') w'):wpList P ops Q (o::rest) a w:=by
 refine wpList_plain hgd fun K hK=>?_
 obtain ⟨v',w',hr,h2,h3,h4⟩:=KY (P:=P) w t u o.type e i ht hu hi hz hsize hby v n xs hown s h63 hbytes
 unfold Oper.wp execOp
 simp only [ho,resolve,invoke,builtin,Sem.run_bind,Sem.run_pure,Result.andThen_ok,List.map_toArray,List.map_cons,List.map_nil,hs,hx,hr]
 exact hK _ _ (h v' w' h2 h3 h4)
theorem G3 {P:Program} (w:World) (t ty e:TypeId) (i:TypeInfo) (ht:P.underlying t=some (.slice e)) (hi:P.info? e=some i) (hz:i.zero=some (.int .u8 0))
  (hsize:i.size=1) (hby:i.bytes=1) (v:Value) (n:Nat) (xs:List Value) (hown:w.ownsRowF 0 e 1 v n xs) (a:Addr) (c:Value) (hc:w.cell? a=some c) (hc1:c.oneCell'=true) (h63:n+1≤maxLen) (hbytes:n+1≤140737488355328) :
  ∃ v' w',(Builtin.append_ #[t,t] ty #[v,.slice (some a) 1 1]).run P w = .ok v' w'∧w'.ownsRowF 0 e 1 v' (n+1) (xs++[c])∧w.grownBy w' v.ownBlock∧∀ g,v'.ownBlock=some g→v.ownBlock=some g∨w.heap.size≤g:=by
 have hnews :∀ j u,[c][j]?=some u→w.cell? (a.add j)=some u:=fun j u hj=>by
  cases j with
  | zero=>simp at hj;subst hj;simpa [Addr.add] using hc
  | succ j=>simp at hj
 have h1c :∀ u∈ [c],u.oneCell'=true:=fun u hu=>by simp at hu;subst hu;exact hc1
 obtain ⟨v',w',h1,h2,h3,_⟩:=run_append_ownF (P:=P) w 0 t ty e i (.int .u8 0) 1 1 ht hi hz hsize hby rfl (by decide) v n xs hown a 1 1 [c] rfl hnews h1c h63 (by omega) (Nat.zero_le _)
 refine ⟨v',w',h1,h2,h3,fun g hg=>?_⟩
 rcases hown.2 with ⟨rfl,rfl⟩ |⟨g0,cap,cur,fz,rfl,hbg,hg0,hfz,hnc,hcm,hcs,htake⟩
 ·obtain ⟨v1,w1,k1,k2,_,_⟩:=run_append_ownF (P:=P) w w.heap.size t ty e i (.int .u8 0) 1 1 ht hi hz hsize hby rfl (by decide) (.slice none 0 0) 0 xs ⟨hown.1,.inl ⟨rfl,rfl⟩⟩ a 1 1 [c] rfl hnews h1c h63 (by omega) (Nat.le_refl _)
  rw [h1] at k1
  cases k1
  exact .inr (k2.lt g hg).1
 ·have hcs':cur.size=cap:=by simpa using hcs
  by_cases hroom:n+1≤cap
  ·have hr:=run_append_roomF (P:=P) w t ty e i ht hi g0 n cap cur fz hg0 (by rw [hsize];exact hfz) a 1 1 [c] (by rw [hsize];rfl) hnews h1c hroom (by rw [hsize];simp;omega)
   rw [h1] at hr
   cases hr
   exact .inl hg
  ·have hxl:xs.length=n:=by simpa using hown.1
   have hr:=run_append_grow (P:=P) w t ty e i (.int .u8 0) ht hi hz ⟨g0,0,none⟩ n cap xs (by rw [hsize];simpa using hxl) (hown.cells (g:=g0) rfl) a 1 1 [c] (by rw [hsize];rfl) hnews (by omega) (by simp only [maxLen] at h63;omega) (by rw [hby];exact growslice_fits (by omega) (by omega))
   rw [h1] at hr
   cases hr
   simp only [Value.ownBlock,Option.some.injEq] at hg
   subst hg
   exact .inr (Nat.le_refl _)
theorem yL {P:Program} (w:World) {ops:Array Oper} {rest:List Oper} {o:Oper} {a:Act} {Q:Exit→Act→World→Prop} (hgd:o.guard=none) (sl x:Operand) (t:TypeId)
  (ho:o.op = .call { callee:= .builtin .append,args:=#[sl,x],argTypes:=#[t,t] }) (e:TypeId) (i:TypeInfo) (ht:P.underlying t=some (.slice e)) (hi:P.info? e=some i) (hz:i.zero=some (.int .u8 0))
  (hsize:i.size=1) (hby:i.bytes=1) (v:Value) (n:Nat) (xs:List Value) (hs:a.eval sl=v) (hown:w.ownsRowF 0 e 1 v n xs) (ad:Addr) (c:Value) (hx:a.eval x = .slice (some ad) 1 1) (hc:w.cell? ad=some c) (hc1:c.oneCell'=true) (h63:n+1≤maxLen) (hbytes:n+1≤140737488355328)
  (h :∀ v' w',w'.ownsRowF 0 e 1 v' (n+1) (xs++[c])→w.grownBy w' v.ownBlock→(∀ g,v'.ownBlock=some g→v.ownBlock=some g∨w.heap.size≤g)→wpList P ops Q rest (a.put o.dst v') w'):wpList P ops Q (o::rest) a w:=by
 refine wpList_plain hgd fun K hK=>?_
 obtain ⟨v',w',hr,h2,h3,h4⟩:=G3 (P:=P) w t o.type e i ht hi hz hsize hby v n xs hown ad c hc hc1 h63 hbytes
 unfold Oper.wp execOp
 simp only [ho,resolve,invoke,builtin,Sem.run_bind,Sem.run_pure,Result.andThen_ok,List.map_toArray,List.map_cons,List.map_nil,hs,hx,hr]
 exact hK _ _ (h v' w' h2 h3 h4)
section
variable {P:Program} {ρ:Ren}
theorem Ho (L:Lays.n240 P ρ) (X:Builder.X72 P ρ) (b:Nat) (bs:List Value) (w:World) (h:Lib.IsBuilderF (ρ.t 72) (ρ.t 5) 0 b bs w) :
  Calls P (ρ.f 240) #[.pointer (some ⟨b,0,none⟩)] w fun e w'=>e = .returned (.tuple #[])∧Lib.BuilderAtF (ρ.t 72) (ρ.t 5) 0 b (.pointer (some ⟨b,0,none⟩)) bs w'∧w'.os=w.os∧w'.tape=w.tape∧w'.output=w.output∧(w'.heap.size≤w.heap.size∧w.heap.size≤w'.heap.size)∧(∀ k,k≠b→w'.heap[k]?=w.heap[k]?)∧fa w' b=fa w b:=by
 rcases h with h|h
 ·refine (Any.Builder_copyCheck_fresh L X b w h.cell0 h.shape h.frozen0).mono ?_
  rintro e w' ⟨rfl,rfl⟩
  have hu:=h.used (.pointer (some ⟨b,0,none⟩))
  refine ⟨rfl,hu,rfl,rfl,rfl,⟨by simp [World.setCell],by simp [World.setCell]⟩,fun k hk=>sS hk,?_⟩
  obtain ⟨_,v,h1,_⟩:=h
  have h2 :(w.setCell ⟨b,0,none⟩ (.pointer (some ⟨b,0,none⟩))).heap[b]?=some (.cells #[.pointer (some ⟨b,0,none⟩),v] (ρ.t 72) (0,0)):=by simp [World.setCell,Array.getElem?_modify,h1]
  rw [jr h1,jr h2]
 ·refine (Any.Builder_copyCheck_used L X b w h.cell0).mono ?_
  rintro e w' ⟨rfl,rfl⟩
  exact ⟨rfl,h,rfl,rfl,rfl,⟨Nat.le_refl _,Nat.le_refl _⟩,fun _ _=>rfl,rfl⟩
theorem HL {b:Nat} {w w1 w2:World} {v v':Value} {T:TypeId} (h1:w1.os=w.os) (h2:w1.tape=w.tape) (h3:w1.output=w.output) (h4:w.heap.size≤w1.heap.size) (h5 :∀ k,k<w.heap.size→k≠b→w1.heap[k]?=w.heap[k]?) (h6:v.ownBlock=fa w b)
  (hb:w2.heap[b]?=some (.cells #[.pointer (some ⟨b,0,none⟩),v] T (0,0))) (hgr:w1.grownBy w2 v.ownBlock) (hv :∀ g,v'.ownBlock=some g→v.ownBlock=some g∨w1.heap.size≤g) (hlt :∀ g,v'.ownBlock=some g→g<w2.heap.size):FrB b w (w2.setCell ⟨b,1,none⟩ v'):=by
 refine ⟨⟨hgr.os.trans h1,hgr.tape.trans h2,hgr.output.trans h3,?_,fun k hk hn=>?_⟩,fun k hk=>?_⟩
 ·have:=hgr.size
  simp [World.setCell];omega
 ·have n1:k≠b:=fun e=>hn (.inl e)
  have n2:some k≠v.ownBlock:=fun e=>hn (.inr (by rw [←h6,←e]))
  rw [sS n1,hgr.block k (by omega) n2,h5 k hk n1]
 ·have hb' :(w2.setCell ⟨b,1,none⟩ v').heap[b]?=some (.cells #[.pointer (some ⟨b,0,none⟩),v'] T (0,0)):=by simp [World.setCell,Array.getElem?_modify,hb]
  rw [jr hb'] at hk
  rcases hv k hk with h|h
  ·exact .inl (by rw [←h6];exact h)
  ·have:=hlt k hk
   exact .inr ⟨by omega,by simpa [World.setCell] using this⟩
set_option maxHeartbeats 2000000 in
set_option maxRecDepth 100000 in
theorem Qu (L:Lays.n166 P ρ) (X:Builder.Extra P ρ) (b:Nat) (bs:List Value) (s:ByteArray) (w:World) (h:Lib.IsBuilderF (ρ.t 72) (ρ.t 5) 0 b bs w) (hlen:bs.length+s.size≤140737488355328) :
  Calls P (ρ.f 166) #[.pointer (some ⟨b,0,none⟩),.string s] w fun e w'=>e = .returned (.tuple #[.int .i64 s.size,.nilIface])∧Lib.BuilderAtF (ρ.t 72) (ρ.t 5) 0 b (.pointer (some ⟨b,0,none⟩)) (bs++Lib.strCells s) w'∧FrB b w w':=by
 obtain ⟨i0,hi,hz0,hz1,hz2⟩:=info_parts X.infoByte
 have mixed:=L.mixed
 have t72:=L.t72;have a72:=L.a72;have z72:=L.z72;have v72:=L.v72;have u72:=run_underlying L.t72
 have t70:=L.t70;have a70:=L.a70;have z70:=L.z70;have v70:=L.v70;have u70:=run_underlying L.t70
 have t37:=L.t37;have a37:=L.a37;have z37:=L.z37;have v37:=L.v37;have u37:=run_underlying L.t37
 have t3:=L.t3;have a3:=L.a3;have z3:=L.z3;have v3:=L.v3;have u3:=run_underlying L.t3
 have t9:=L.t9;have a9:=L.a9;have z9:=L.z9;have v9:=L.v9;have u9:=run_underlying L.t9
 have t4:=L.t4;have a4:=L.a4;have z4:=L.z4;have v4:=L.v4;have u4:=run_underlying L.t4
 have t164:=L.t164;have a164:=L.a164;have z164:=L.z164;have v164:=L.v164;have u164:=run_underlying L.t164
 have t5:=X.t5;have a5:=X.a5;have z5:=X.z5;have v5:=X.v5;have u5:=run_underlying X.t5
 have e240 :∀ args w,(callFunc (ρ.f 240) args).run P w = .ok (.enter (ρ.f 240) args) w:=enters_of L.f240 (by kernel_rfl) rfl
 go_enter L.f166,Body.n166_ntmps ρ
 go_wp2_with (go_at_fn (ρ.f 240);refine (Ho { L with } X.toX72 b bs _ h).mono ?_)
 rintro e w1 ⟨rfl,h1,o1,o2,o3,o4,o5,o6⟩
 obtain ⟨hB,v,hbk,hown,hne⟩:=h1
 have c0:w1.cell? ⟨b,0,none⟩=some (.pointer (some ⟨b,0,none⟩)):=by rw [Lib.cell_of_heap hbk];rfl
 have c1:w1.cell? ⟨b,1,none⟩=some v:=by rw [Lib.cell_of_heap hbk];rfl
 go_wp2_with (at_builtin;refine BQ _ rfl _ _ (ρ.t 37) (ρ.t 9) rfl (ρ.t 5) i0 L.t37 L.t9 hi hz0 hz1 hz2 _ _ _ rfl hown s rfl ?c3 ?c4 ?_)
 case c3=>unfold maxLen;omega
 case c4=>omega
 intro v' w2 hown' hgrow hv'
 have hlt:b<w1.heap.size:=by
  rcases Nat.lt_or_ge b w1.heap.size with h'|h'
  ·exact h'
  ·simp [Array.getElem?_eq_none h'] at hbk
 have hb2:w2.heap[b]?=some (.cells #[.pointer (some ⟨b,0,none⟩),v] (ρ.t 72) (0,0)):=by
  rw [hgrow.block b hlt (fun e=>hne e.symm)]
  exact hbk
 have d0:w2.cell? ⟨b,0,none⟩=some (.pointer (some ⟨b,0,none⟩)):=by rw [Lib.cell_of_heap hb2];rfl
 have d1:w2.cell? ⟨b,1,none⟩=some v:=by rw [Lib.cell_of_heap hb2];rfl
 have f1:w2.frozen? ⟨b,1,none⟩=false:=Lib.frozen_of_heap hb2 1
 obtain ⟨ao,n',cap,rfl⟩ :∃ ao n' cap,v' = .slice ao n' cap:=by
  rcases hown'.2 with ⟨hv,_⟩ |⟨g,cap,cur,fz,hv,_⟩
  ·exact ⟨_,_,_,hv⟩
  ·exact ⟨_,_,_,hv⟩
 go_wp2
 go_ret2
 refine ⟨rfl,?_,HL o1 o2 o3 o4.2 (fun k _ hk=>o5 k hk) ((jr hbk).symm.trans o6) hb2 hgrow hv' fun g hg=>(hown'.lt g hg).2⟩
 exact Lib.BuilderAtF.put (T:=(ρ.t 72)) (e:=(ρ.t 5)) hB hb2 (bs':=bs++Lib.strCells s) (by rw [List.length_append,Lib.strCells_length];exact hown') X.neB5
set_option maxHeartbeats 2000000 in
set_option maxRecDepth 100000 in
theorem Qo (L:Lays.n167 P ρ) (X:Builder.Extra P ρ) (b:Nat) (bs:List Value) (c:Int) (w:World) (h:Lib.IsBuilderF (ρ.t 72) (ρ.t 5) 0 b bs w) (hlen:bs.length+1≤140737488355328) :
  Calls P (ρ.f 167) #[.pointer (some ⟨b,0,none⟩),.int .u8 c] w fun e w'=>e = .returned .nilIface∧Lib.BuilderAtF (ρ.t 72) (ρ.t 5) 0 b (.pointer (some ⟨b,0,none⟩)) (bs++[.int .u8 c]) w'∧FrB b w w':=by
 obtain ⟨i0,hi,hz0,hz1,hz2⟩:=info_parts X.infoByte
 have mixed:=L.mixed
 have t72:=L.t72;have a72:=L.a72;have z72:=L.z72;have v72:=L.v72;have u72:=run_underlying L.t72
 have t70:=L.t70;have a70:=L.a70;have z70:=L.z70;have v70:=L.v70;have u70:=run_underlying L.t70
 have t5:=L.t5;have a5:=L.a5;have z5:=L.z5;have v5:=L.v5;have u5:=run_underlying L.t5
 have t37:=L.t37;have a37:=L.a37;have z37:=L.z37;have v37:=L.v37;have u37:=run_underlying L.t37
 have t9:=L.t9;have a9:=L.a9;have z9:=L.z9;have v9:=L.v9;have u9:=run_underlying L.t9
 have t4:=L.t4;have a4:=L.a4;have z4:=L.z4;have v4:=L.v4;have u4:=run_underlying L.t4
 have t164:=L.t164;have a164:=L.a164;have z164:=L.z164;have v164:=L.v164;have u164:=run_underlying L.t164
 have e240 :∀ args w,(callFunc (ρ.f 240) args).run P w = .ok (.enter (ρ.f 240) args) w:=enters_of L.f240 (by kernel_rfl) rfl
 go_enter L.f167,Body.n167_ntmps ρ
 go_wp2_with (go_at_fn (ρ.f 240);refine (Ho { L with } X.toX72 b bs _ h).mono ?_)
 rintro e w1 ⟨rfl,h1,o1,o2,o3,o4,o5,o6⟩
 obtain ⟨hB,v,hbk,hown,hne⟩:=h1
 have hlt:b<w1.heap.size:=by
  rcases Nat.lt_or_ge b w1.heap.size with h'|h'
  ·exact h'
  ·simp [Array.getElem?_eq_none h'] at hbk
 have c0:w1.cell? ⟨b,0,none⟩=some (.pointer (some ⟨b,0,none⟩)):=by rw [Lib.cell_of_heap hbk];rfl
 have c1:w1.cell? ⟨b,1,none⟩=some v:=by rw [Lib.cell_of_heap hbk];rfl
 go_wp2_with (at_builtin;refine yL _ rfl _ _ (ρ.t 37) rfl (ρ.t 5) i0 L.t37 hi hz0 hz1 hz2 _ _ _ rfl (hown.alloc _) ⟨w1.heap.size,0,none⟩ (.int .u8 c) rfl ?c1 rfl ?c3 ?c4 ?_)
 case c1=>simp
 case c3=>unfold maxLen;omega
 case c4=>omega
 intro v' w2 hown' hgrow hv'
 have hb2:w2.heap[b]?=some (.cells #[.pointer (some ⟨b,0,none⟩),v] (ρ.t 72) (0,0)):=by
  rw [hgrow.block b (by simp;omega) (fun e=>hne e.symm),Lib.alloc_old w1 _ b hlt]
  exact hbk
 have d0:w2.cell? ⟨b,0,none⟩=some (.pointer (some ⟨b,0,none⟩)):=by rw [Lib.cell_of_heap hb2];rfl
 have d1:w2.cell? ⟨b,1,none⟩=some v:=by rw [Lib.cell_of_heap hb2];rfl
 have f1:w2.frozen? ⟨b,1,none⟩=false:=Lib.frozen_of_heap hb2 1
 obtain ⟨g,cap,rfl⟩ :∃ g cap,v' = .slice (some ⟨g,0,none⟩) (bs.length+1) cap:=by
  rcases hown'.2 with ⟨_,h0⟩ |⟨g,cap,cur,fz,hv,_⟩
  ·omega
  ·exact ⟨g,cap,hv⟩
 go_wp2
 go_ret
 refine ⟨rfl,?_,HL (w1:=w1.alloc _) o1 o2 o3 (by simp;omega) (fun k hk hn=>(Lib.alloc_old w1 _ k (by omega)).trans (o5 k hn)) ((jr hbk).symm.trans o6) hb2 hgrow (fun g hg=>(hv' g hg).imp id fun h=>by simpa using h) fun g hg=>(hown'.lt g hg).2⟩
 exact Lib.BuilderAtF.put (T:=(ρ.t 72)) (e:=(ρ.t 5)) hB hb2 (bs':=bs++[.int .u8 c]) (by simpa using hown') X.neB5
theorem uI {w:World} {p:Addr} {n k:Nat} (h:k≠p.block) :(w.freeze p n).heap[k]?=w.heap[k]?:=by
 unfold World.freeze
 split
 ·rfl
 ·simp only [Array.getElem?_modify]
  rw [if_neg (fun e=>h e.symm)]
theorem D0 {b:Nat} {w:World}:FrB b w w.drew:=⟨⟨rfl,rfl,rfl,Nat.le_refl _,fun _ _ _=>rfl⟩,fun _ h=> .inl h⟩
set_option maxHeartbeats 2000000 in
set_option maxRecDepth 100000 in
theorem MA (L:Lays.n169 P ρ) (X:Builder.Extra P ρ) (b:Nat) (l:List UInt8) (w:World) (h:Lib.IsBuilderF (ρ.t 72) (ρ.t 5) 0 b (Lib.byteCells l) w) (h0:l≠ []) :
  Calls P (ρ.f 169) #[.pointer (some ⟨b,0,none⟩)] w fun e w'=>e = .returned (.string ⟨l.toArray⟩)∧Lib.IsBuilderF (ρ.t 72) (ρ.t 5) 0 b (Lib.byteCells l) w'∧FrB b w w':=by
 obtain ⟨p,hp,hAt⟩ :∃ p,(p = .pointer none∨p = .pointer (some ⟨b,0,none⟩))∧Lib.BuilderAtF (ρ.t 72) (ρ.t 5) 0 b p (Lib.byteCells l) w:=by
  rcases h with h|h
  ·exact ⟨_,.inl rfl,h⟩
  ·exact ⟨_,.inr rfl,h⟩
 obtain ⟨hB,v,hbk,hown,hne⟩:=hAt
 have hl0:l.length≠0:=by simpa using h0
 rw [Lib.byteCells_length] at hown
 obtain ⟨g,cap,cur,fz,rfl,hbg,hg,hfz,hnc,hcm,hcs,htake⟩ :∃ g cap cur fz,v = .slice (some ⟨g,0,none⟩) l.length cap∧0≤g∧w.heap[g]?=some (.cells cur (ρ.t 5) fz)∧fz.2≤l.length*1∧l.length≤cap∧cap≤maxLen∧cur.size=cap*1∧cur.toList.take (l.length*1)=Lib.byteCells l:=by
  rcases hown.2 with ⟨_,hz⟩ |⟨g,cap,cur,fz,hv,r⟩
  ·exact absurd hz hl0
  ·exact ⟨g,cap,cur,fz,hv,r⟩
 have c1:w.drew.cell? ⟨b,1,none⟩=some (.slice (some ⟨g,0,none⟩) l.length cap):=by
  have:w.drew.heap[b]?=some (.cells #[p,.slice (some ⟨g,0,none⟩) l.length cap] (ρ.t 72) (0,0)):=hbk
  rw [Lib.cell_of_heap this];rfl
 have hSD :(Builtin.unsafeSliceData_ #[(ρ.t 37)] (ρ.t 127) #[.slice (some ⟨g,0,none⟩) l.length cap]).run P w.drew = .ok (.pointer (some ⟨g,0,none⟩)) w.drew:=
  Lib.run_unsafeSliceData_row _ _ _ _ _ _ (by omega)
 have hUS :(Builtin.unsafeString_ #[(ρ.t 127),(ρ.t 3)] (ρ.t 9) #[.pointer (some ⟨g,0,none⟩),.int .i64 l.length]).run P w.drew = .ok (.string ⟨l.toArray⟩) (w.drew.freeze ⟨g,0,none⟩ l.length):=by
  refine Lib.run_unsafeString_row w.drew (ρ.t 127) (ρ.t 3) (ρ.t 9) (ρ.t 5) L.t127 X.cellsByte g cur.size (by have hg':w.drew.heap[g]?=some (.cells cur (ρ.t 5) fz):=hg;simp [World.shape?,hg']) l h0 (by omega) (by unfold maxLen at hcm;omega) ?_
  intro j x hx
  have:=hown.cells (g:=g) rfl j (.int .u8 x.toNat) (by simp [Lib.byteCells,hx])
  exact this
 have hkeep:Lib.IsBuilderF (ρ.t 72) (ρ.t 5) 0 b (Lib.byteCells l) (w.drew.freeze ⟨g,0,none⟩ l.length):=by
  have hA:Lib.BuilderAtF (ρ.t 72) (ρ.t 5) 0 b p (Lib.byteCells l) w.drew:=⟨hB,_,hbk,by rw [Lib.byteCells_length];exact hown,hne⟩
  have hF:=hA.froze (g:=g) (cap:=cap) (by rw [Lib.byteCells_length];exact c1)
  rw [Lib.byteCells_length] at hF
  rcases hp with rfl|rfl
  ·exact .inl hF
  ·exact .inr hF
 have hbg2:b≠g:=fun e=>hne (by rw [e];rfl)
 have hfr:FrB b w (w.drew.freeze ⟨g,0,none⟩ l.length):=by
  have hs :(w.drew.freeze ⟨g,0,none⟩ l.length).heap.size=w.heap.size:=by
   unfold World.freeze
   split
   ·rfl
   ·simp
  have hf :(w.drew.freeze ⟨g,0,none⟩ l.length).os=w.os∧(w.drew.freeze ⟨g,0,none⟩ l.length).tape=w.tape∧(w.drew.freeze ⟨g,0,none⟩ l.length).output=w.output:=by
   unfold World.freeze
   split <;> exact ⟨rfl,rfl,rfl⟩
  refine ⟨⟨hf.1,hf.2.1,hf.2.2,by omega,fun k _ hn=>?_⟩,fun k hk=>?_⟩
  ·exact uI (w:=w.drew) fun e=>hn (.inr (by rw [jr hbk,show k=g from e];rfl))
  ·rw [oy (w:=w) (uI (w:=w.drew) (p:=⟨g,0,none⟩) hbg2)] at hk
   exact .inl hk
 have mixed:=L.mixed
 have t72:=L.t72;have a72:=L.a72;have z72:=L.z72;have v72:=L.v72;have u72:=run_underlying L.t72
 have t70:=L.t70;have a70:=L.a70;have z70:=L.z70;have v70:=L.v70;have u70:=run_underlying L.t70
 have t37:=L.t37;have a37:=L.a37;have z37:=L.z37;have v37:=L.v37;have u37:=run_underlying L.t37
 have t127:=L.t127;have a127:=L.a127;have z127:=L.z127;have v127:=L.v127;have u127:=run_underlying L.t127
 have t3:=L.t3;have a3:=L.a3;have z3:=L.z3;have v3:=L.v3;have u3:=run_underlying L.t3
 have t9:=L.t9;have a9:=L.a9;have z9:=L.z9;have v9:=L.v9;have u9:=run_underlying L.t9
 have t5:=X.t5;have a5:=X.a5;have z5:=X.z5;have v5:=X.v5;have u5:=run_underlying X.t5
 go_enter L.f169,Body.n169_ntmps ρ
 go_wp2
 go_region_o
 all_goals (go_wp2;go_ret;exact ⟨rfl,hkeep,hfr⟩)
set_option maxHeartbeats 2000000 in
set_option maxRecDepth 100000 in
theorem EV (L:Lays.n169 P ρ) (X:Builder.Extra P ρ) (b:Nat) (p:Value) (w:World) (hA:Lib.BuilderAtF (ρ.t 72) (ρ.t 5) 0 b p [] w) :
  Calls P (ρ.f 169) #[.pointer (some ⟨b,0,none⟩)] w fun e w'=>e = .returned (.string ⟨#[]⟩)∧Lib.BuilderAtF (ρ.t 72) (ρ.t 5) 0 b p [] w'∧FrB b w w':=by
 have hUS:=Any.unsafeString_none L X
 have hlt:=hA.lt
 have hA':=hA
 obtain ⟨hB,v,hbk,hown,hne⟩:=hA
 have mixed:=L.mixed
 have t72:=L.t72;have a72:=L.a72;have z72:=L.z72;have v72:=L.v72;have u72:=run_underlying L.t72
 have t70:=L.t70;have a70:=L.a70;have z70:=L.z70;have v70:=L.v70;have u70:=run_underlying L.t70
 have t37:=L.t37;have a37:=L.a37;have z37:=L.z37;have v37:=L.v37;have u37:=run_underlying L.t37
 have t127:=L.t127;have a127:=L.a127;have z127:=L.z127;have v127:=L.v127;have u127:=run_underlying L.t127
 have t3:=L.t3;have a3:=L.a3;have z3:=L.z3;have v3:=L.v3;have u3:=run_underlying L.t3
 have t9:=L.t9;have a9:=L.a9;have z9:=L.z9;have v9:=L.v9;have u9:=run_underlying L.t9
 have t5:=X.t5;have a5:=X.a5;have z5:=X.z5;have v5:=X.v5;have u5:=run_underlying X.t5
 rcases hown.2 with ⟨rfl,_⟩ |⟨g,cap,cur,fz,rfl,hbg,hg,_,_,_,_,_⟩
 ·have c1:w.drew.cell? ⟨b,1,none⟩=some (.slice none 0 0):=by
   have:w.drew.heap[b]?=some (.cells #[p,.slice none 0 0] (ρ.t 72) (0,0)):=hbk
   rw [Lib.cell_of_heap this];rfl
  have hSD :(Builtin.unsafeSliceData_ #[(ρ.t 37)] (ρ.t 127) #[.slice none 0 0]).run P w.drew = .ok (.pointer none) w.drew:=rfl
  go_enter L.f169,Body.n169_ntmps ρ
  go_wp2
  go_region_o
  all_goals (go_wp2;go_ret;exact ⟨rfl,hA'.drew,D0⟩)
 ·have hg':w.drew.heap[g]?=some (.cells cur (ρ.t 5) fz):=hg
  by_cases hc0:cap=0
  ·subst hc0
   have c1:w.drew.cell? ⟨b,1,none⟩=some (.slice (some ⟨g,0,none⟩) 0 0):=by
    have:w.drew.heap[b]?=some (.cells #[p,.slice (some ⟨g,0,none⟩) 0 0] (ρ.t 72) (0,0)):=hbk
    rw [Lib.cell_of_heap this];rfl
   have hSD :(Builtin.unsafeSliceData_ #[(ρ.t 37)] (ρ.t 127) #[.slice (some ⟨g,0,none⟩) 0 0]).run P w.drew = .ok (.pointer (some ⟨w.drew.heap.size,0,none⟩)) (w.drew.alloc (.view ⟨g,0,none⟩ (ρ.t 5))):=
    Lib.run_unsafeSliceData_zero w.drew _ _ (ρ.t 5) L.t127 ⟨g,0,none⟩ 0 ((ρ.t 5),cur.size) (by simp [World.shape?,hg'])
   have c2 :(w.drew.alloc (.view ⟨g,0,none⟩ (ρ.t 5))).cell? ⟨b,1,none⟩=some (.slice (some ⟨g,0,none⟩) 0 0):=by
    have :(w.drew.alloc (.view ⟨g,0,none⟩ (ρ.t 5))).heap[b]?=_:=(Lib.alloc_old w.drew _ b hlt).trans hbk
    rw [Lib.cell_of_heap this];rfl
   have c3 :(w.alloc (.view ⟨g,0,none⟩ (ρ.t 5))).drew.cell? ⟨b,1,none⟩=some (.slice (some ⟨g,0,none⟩) 0 0):=c2
   have c0:w.cell? ⟨b,1,none⟩=some (.slice (some ⟨g,0,none⟩) 0 0):=c1
   have hfr:FrB b w (w.drew.alloc (.view ⟨g,0,none⟩ (ρ.t 5))):=by
    refine ⟨⟨rfl,rfl,rfl,by simp,fun k hk _=>Lib.alloc_old w.drew _ k hk⟩,fun k hk=> .inl ?_⟩
    rw [oy (w:=w) (Lib.alloc_old w.drew _ b hlt)] at hk
    exact hk
   go_enter L.f169,Body.n169_ntmps ρ
   go_wp2
   go_region_o
   all_goals (go_wp2;go_ret;exact ⟨rfl,hA'.drew.alloc _,hfr⟩)
  ·have c1:w.drew.cell? ⟨b,1,none⟩=some (.slice (some ⟨g,0,none⟩) 0 cap):=by
    have:w.drew.heap[b]?=some (.cells #[p,.slice (some ⟨g,0,none⟩) 0 cap] (ρ.t 72) (0,0)):=hbk
    rw [Lib.cell_of_heap this];rfl
   have hSD :(Builtin.unsafeSliceData_ #[(ρ.t 37)] (ρ.t 127) #[.slice (some ⟨g,0,none⟩) 0 cap]).run P w.drew = .ok (.pointer (some ⟨g,0,none⟩)) w.drew:=
    Lib.run_unsafeSliceData_row _ _ _ _ _ _ hc0
   clear hc0
   go_enter L.f169,Body.n169_ntmps ρ
   go_wp2
   go_region_o
   all_goals (go_wp2;go_ret;exact ⟨rfl,hA'.drew,D0⟩)
theorem PV (L:Lays.n169 P ρ) (X:Builder.Extra P ρ) (b:Nat) (s:ByteArray) (w:World) (h:Lib.IsBuilderF (ρ.t 72) (ρ.t 5) 0 b (Lib.strCells s) w) :
  Calls P (ρ.f 169) #[.pointer (some ⟨b,0,none⟩)] w fun e w'=>e = .returned (.string s)∧Lib.IsBuilderF (ρ.t 72) (ρ.t 5) 0 b (Lib.strCells s) w'∧FrB b w w':=by
 have hs :(⟨s.data.toList.toArray⟩:ByteArray)=s:=by cases s;simp
 rw [Lib.strCells_eq] at h ⊢
 by_cases h0:s.data.toList=[]
 ·rw [h0] at h hs ⊢
  rcases h with h|h
  ·refine (EV L X b _ w h).mono fun e w' ⟨h1,h2,h3⟩=>⟨by rw [h1,←hs],.inl h2,h3⟩
  ·refine (EV L X b _ w h).mono fun e w' ⟨h1,h2,h3⟩=>⟨by rw [h1,←hs],.inr h2,h3⟩
 ·refine (MA L X b s.data.toList w h h0).mono fun e w' ⟨h1,h2,h3⟩=>⟨by rw [h1,hs],h2,h3⟩
end
theorem LA:Lays.n166 Tryz.prog lays156_ren:={ lays156 with }
theorem LD:Lays.n169 Tryz.prog lays156_ren:={ lays156 with }
def pR:Go.Shelf.Ren:=⟨fun|167=>69|n=>lays156_ren.f n,lays156_ren.t,lays156_ren.g⟩
theorem LC:Lays.n167 Tryz.prog pR where
 mixed:=by kernel_rfl
 f167:=Tryz.func69.trans (congrArg some (by kernel_rfl))
 f240:=Tryz.func120.trans (congrArg some (by kernel_rfl))
 f276:=Tryz.func176.trans (congrArg some (by kernel_rfl))
 t5:=Tryz.underlying5
 a5:=Tryz.isAgg5
 z5:=Tryz.sizeOf5
 v5:=Tryz.zeroValue5
 t0:=lays156.t0
 a0:=lays156.a0
 z0:=lays156.z0
 v0:=lays156.v0
 t4:=lays156.t4
 a4:=lays156.a4
 z4:=lays156.z4
 v4:=lays156.v4
 t9:=lays156.t9
 a9:=lays156.a9
 z9:=lays156.z9
 v9:=lays156.v9
 t20:=lays156.t20
 a20:=lays156.a20
 z20:=lays156.z20
 v20:=lays156.v20
 t37:=lays156.t37
 a37:=lays156.a37
 z37:=lays156.z37
 v37:=lays156.v37
 t70:=lays156.t70
 a70:=lays156.a70
 z70:=lays156.z70
 v70:=lays156.v70
 t72:=lays156.t72
 a72:=lays156.a72
 z72:=lays156.z72
 v72:=lays156.v72
 t75:=lays156.t75
 a75:=lays156.a75
 z75:=lays156.z75
 v75:=lays156.v75
 t164:=lays156.t164
 a164:=lays156.a164
 z164:=lays156.z164
 v164:=lays156.v164
theorem II:Builder.Extra Tryz.prog pR where
 sizeBuilder:=by kernel_rfl
 liesBuilder:=by kernel_rfl
 t5:=Tryz.underlying5
 a5:=Tryz.isAgg5
 z5:=Tryz.sizeOf5
 v5:=Tryz.zeroValue5
 infoByte:=by kernel_rfl
 cellsByte:=by kernel_rfl
 sizeByte:=by kernel_rfl
 neB5:=by decide
def wsV (s:ByteArray):List V→Option (List Prop×V×ByteArray)
 | [.str x]=>some ([s.size+x.size≤ai],.tup [.int .i64 x.size,.any],s++x)
 | _=>none
def chB (c:Int):ByteArray:=⟨#[UInt8.ofNat c.toNat]⟩
def wbV (s:ByteArray):List V→Option (List Prop×V×ByteArray)
 | [.int .u8 c]=>some ([s.size+1≤ai],.any,s++chB c)
 | _=>none
def stV (s:ByteArray):List V→Option (List Prop×V×ByteArray)
 | []=>some ([],.str s,s)
 | _=>none
theorem og (s t:ByteArray):Lib.strCells (s++t)=Lib.strCells s++Lib.strCells t:=by
 unfold Lib.strCells
 rw [ByteArray.data_append,Array.toList_append,List.map_append]
def dZ:FuncId×Ctr:=(68,yQ wsV)
def lg:FuncId×Ctr:=(69,yQ wbV)
def zM:FuncId×Ctr:=(70,yQ stV)
theorem fm:CtrOK Tryz.prog KE 68 (yQ wsV):=by
 refine BS Tryz.func68 (by kernel_rfl) (by kernel_rfl) fun w b s r us E ps v s' hg hp hA hr=>?_
 unfold wsV at hg
 split at hg
 case h_2=>cases hg
 rename_i x
 cases hg
 have hz:s.size+x.size≤ai:=hp _ List.mem_cons_self
 match us,hr with
 | [u],hr=>
  simp only [ab,aa] at hr
  obtain ⟨⟨rfl,hx⟩,_⟩:=hr
  have hl :(140737488355328:Nat)=ai:=rfl
  refine (Qu LA Ab b (Lib.strCells s) x w hA.2 (by rw [Lib.strCells_length];omega)).mono fun e w' ⟨h1,h2,h3⟩=>⟨_,h1,h3.keeps,h3.buf,⟨?_,?_⟩,fun E'=>?_⟩
  ·rw [ByteArray.size_append];exact hz
  ·rw [og];exact .inr h2
  ·refine ⟨_,rfl,⟨rfl,?_⟩,trivial,trivial⟩
   have e1:IntKind.i64.min = -9223372036854775808:=by decide
   have e2:IntKind.i64.max=9223372036854775807:=by decide
   unfold ok
   rw [e1,e2]
   omega
theorem n9:CtrOK Tryz.prog KE 69 (yQ wbV):=by
 refine BS Tryz.func69 (by kernel_rfl) (by kernel_rfl) fun w b s r us E ps v s' hg hp hA hr=>?_
 unfold wbV at hg
 split at hg
 case h_2=>cases hg
 rename_i c
 cases hg
 have hz:s.size+1≤ai:=hp _ List.mem_cons_self
 match us,hr with
 | [u],hr=>
  simp only [ab,aa] at hr
  obtain ⟨⟨rfl,hc⟩,_⟩:=hr
  have e1:IntKind.u8.min=0:=by decide
  have e2:IntKind.u8.max=255:=by decide
  unfold ok at hc
  rw [e1,e2] at hc
  have hl :(140737488355328:Nat)=ai:=rfl
  have hcc:Lib.strCells (chB c)=[.int .u8 c]:=by
   unfold Lib.strCells chB
   simp only [List.map_cons,List.map_nil]
   rw [UInt8.toNat_ofNat']
   congr 2
   omega
  refine (Qo LC II b (Lib.strCells s) c w hA.2 (by rw [Lib.strCells_length];omega)).mono fun e w' ⟨h1,h2,h3⟩=>⟨_,h1,h3.keeps,h3.buf,⟨?_,?_⟩,fun E'=>trivial⟩
  ·rw [ByteArray.size_append];exact hz
  ·rw [og,hcc];exact .inr h2
theorem F9:CtrOK Tryz.prog KE 70 (yQ stV):=by
 refine BS Tryz.func70 (by kernel_rfl) (by kernel_rfl) fun w b s r us E ps v s' hg hp hA hr=>?_
 unfold stV at hg
 split at hg
 case h_2=>cases hg
 cases hg
 match us,hr with
 | [],_=>
  refine (PV LD Ab b s w hA.2).mono fun e w' ⟨h1,h2,h3⟩=>⟨_,h1,h3.keeps,h3.buf,⟨hA.1,h2⟩,fun E'=>⟨rfl,hA.1⟩⟩
end Go.Proofs.YtffdpnmioidloaaGreatDoor
namespace Go.Proofs.YtffdpnmioidloaaGreatDoor
open Go Go.Mir Go.RowKit
attribute [local irreducible] Go.Mir.DT.sat Go.Mir.evPat Go.Mir.RT.sat Go.Mir.evFn
def kI (l:List ByteArray) (o:ByteArray):ByteArray:=l.foldl (fun o x=>o ++(spV++x)) o
abbrev Q7:List (Nat×PB):= [(0,.abs 0 .str),(1,.dat (.nm .Row))]
abbrev qW0:Pat:=⟨[(4,.c (.av 0 0)),(6,.c (.ptr 1 0)),(8,.h (.slice I)),(15,.h RwsL),(16,.h I),(17,.h I),(52,.h (.slice I)),(53,.h I),(54,.h I)],Q7,2⟩
abbrev xW0:List (Lf×Pat):= [(.ext 2,⟨[(4,.c (.av 0 0)),(6,.c (.ptr 1 0)),(8,.h (.slice I)),(15,.h RwsL),(16,.h I),(17,.h I)],Q7,2⟩)]
abbrev TW0:Type:=List Int×List Mir.Row×Int×Int×List Int×Int×Int×ByteArray×Mir.Row×Unit
def mG:TW0→List Int×List Mir.Row×Int×Int×ByteArray×Mir.Row×Unit
 |(ys,l,n,i,xs,_,j,o,r,_)=>(ys,l,n,i,mh ((xs.drop j.toNat).map aZ) o,r,())
def inR (l:List Int):Prop:=l.length≤100∧∀ x∈l,0≤x∧x≤1000000
def uX:TW0→Prop
 |(_,_,_,_,xs,m,j,o,_)=>(m =(xs.length:Int)∧inR xs)∧(0≤j∧j≤m)∧(o.size:Int)+30 *(m - j)≤900000000
def Jc:TW0→Nat
 |(_,_,_,_,_,m,j,_)=>(m - j).toNat
abbrev qW1:Pat:=⟨[(4,.c (.av 0 0)),(15,.h RwsL),(16,.h I),(17,.h I),(66,.h (.slice I)),(67,.h I),(68,.h I)],[(0,.abs 0 .str)],1⟩
abbrev xW1:List (Lf×Pat):= [(.ext 4,⟨[(4,.c (.av 0 0)),(15,.h RwsL),(16,.h I),(17,.h I)],[(0,.abs 0 .str)],1⟩)]
abbrev TW1:Type:=List Mir.Row×Int×Int×List Int×Int×Int×ByteArray×Unit
def mH:TW1→List Mir.Row×Int×Int×ByteArray×Unit
 |(l,n,i,xs,_,j,o,_)=>(l,n,i,kI ((xs.drop j.toNat).map aZ) o,())
def uY:TW1→Prop
 |(_,_,_,xs,m,j,o,_)=>(m =(xs.length:Int)∧inR xs)∧(0≤j∧j≤m)∧(o.size:Int)+30 *(m - j)≤900000000
def Jd:TW1→Nat
 |(_,_,_,_,m,j,_)=>(m - j).toNat
theorem Dd (s:Int) :(evPat (ax [] Tryz.f66) (fun _=>none) Tryz.f66 qI1 nj (s,())).sat fun z_=>z_ =(PP (s,())).2:=by
 refine cast (by kernel_rfl) (?_ :(bif decide (s <(0:Int)) then true else decide (s >(1000000:Int)),()) =(dH s,()))
 all_goals trivial
def rS:FuncId×Ctr:=(66,ae KE qI1 nj PP)
theorem vF:CtrOK Tryz.prog KE 66 (ae KE qI1 nj PP):=by
 refine aE (C:=ax [] Tryz.f66) (au (CtrsOK.nil) _) mixed (fn:=Tryz.f66) Tryz.func66 (by kernel_rfl) (by kernel_rfl) (by kernel_rfl) (by kernel_rfl) (by kernel_rfl) (by kernel_rfl) (Λ:=fun _ _=>none) ?_ ?_
 ·exact fun _ _ _ _ _ _ _ _ h=>by cases h
 ·rintro ⟨s,⟨⟩⟩ hw hn
  exact Dd s
noncomputable def lpLoL:Lp:=(⟨0,ax [rS] Tryz.f114,(fun _=>none),(bf Tryz.f114 0),(qLo 66),xLo⟩:Lp)
theorem MB (xs:List Int) (n:Int) (i:Int) (hi:uO (xs,n,i,())) :(Go.Mir.stepG lpLoL jF (fun y:Den (tyP lpLoL.q)=>uO y∧F1 y<F1 (xs,n,i,())) (xs,n,i,())∧Go.Mir.stepE lpLoL jF (xs,n,i,())=jF (xs,n,i,())):=by
 refine cast (by kernel_rfl) (?_ :((decide (i<n)=true→((0:Int)≤i∧i <(↑xs.length:Int))∧(dH (xs.getD i.toNat (dflt (Ty.int IntKind.i64)))=true→True)∧(dH (xs.getD i.toNat (dflt (Ty.int IntKind.i64)))=false→uO (xs,n,IntKind.i64.wrap (i +(1:Int)),())∧F1 (xs,n,IntKind.i64.wrap (i +(1:Int)),())<F1 (xs,n,i,())))∧(decide (i<n)=false→True))∧(bif decide (i<n) then bif dH (xs.getD i.toNat (dflt (Ty.int IntKind.i64))) then Sum.inl (i,()) else jF (xs,n,IntKind.i64.wrap (i +(1:Int)),()) else Sum.inr ())=jF (xs,n,i,()))
 obtain ⟨h1,h2,h3,h4⟩:=hi
 simp only at h1 h2 h3 h4
 have h5 :(xs.length:Int)≤140737488355328:=by have:xs.length≤140737488355328:=h4;omega
 refine ⟨⟨fun h=>?_,fun _=>trivial⟩,?_⟩
 ·have h:i<n:=of_decide_eq_true h
  rw [wrap64 (n:=i+1) (by omega) (by omega)]
  refine ⟨⟨h2,by omega⟩,fun _=>trivial,fun _=>⟨⟨h1,by simp only;omega,by simp only;omega,h4⟩,by simp only [F1];omega⟩⟩
 ·by_cases h:i<n
  ·rw [decide_eq_true h,cond_true,wrap64 (n:=i+1) (by omega) (by omega)]
   have e:xs.drop i.toNat=xs.getD i.toNat (dflt (Ty.int IntKind.i64))::xs.drop (i+1).toNat:=fM h2 (by omega) _
   generalize xs.getD i.toNat (dflt (Ty.int IntKind.i64))=v at e ⊢
   simp only [jF,e,gY]
   cases dH v <;> rfl
  ·rw [decide_eq_false h,cond_false]
   simp only [jF]
   rw [dV (l:=xs) (by omega)]
   rfl
noncomputable def Kq:LoopSum:=az lpLoL jF uO
noncomputable def JX:Nat:=rid (bf Tryz.f114 0)
theorem LI:LoopOKp Tryz.prog 0 Tryz.f114.ntmps (bf Tryz.f114 0) (az lpLoL jF uO):=
 aY lpLoL (au (.consU vF rfl .nil) _) mixed (fun b hb S hS=>by cases hS) jF uO F1 (fun |⟨xs,n,i,⟨⟩⟩,hi=>MB xs n i hi)
theorem Gu (xs:List Int) (hx:xs.length≤ai) :(evPat (ax [rS] Tryz.f114) (find [(JX,Kq)]) Tryz.f114 (qFo 66) Mm (xs,())).sat fun z_=>z_ =((PO 66) (xs,())).2:=by
 refine cast (by kernel_rfl) (?_:let r1:Bool:=isL (jF (xs,(↑xs.length:Int),(0:Int),()));((ij fun x=>none)∧(↑xs.length:Int) =(↑xs.length:Int)∧(0:Int)≤(0:Int)∧(0:Int)≤(↑xs.length:Int)∧xs.length≤ai)∧(r1=true→oQ (dflt (I.prod Ty.unit)) (jF (xs,(↑xs.length:Int),(0:Int),())) =(Jj (gY dH xs (0:Int)),()))∧(r1=false→((-1:Int),()) =(Jj (gY dH xs (0:Int)),())))
 intro r1
 clear_value (hr1:r1=_)
 have e:jF (xs,(xs.length:Int),0,())=Rb (gY dH xs 0):=rfl
 try subst hr1
 rw [e]
 refine ⟨⟨rfl,rfl,Int.le_refl _,by omega,hx⟩,fun h=>?_,fun h=>?_⟩ <;> cases hf:gY dH xs 0 <;> rw [hf] at h <;> first|rfl|cases h
def Ek:FuncId×Ctr:=(114,ae KE (qFo 66) Mm (PO 66))
theorem Jp:CtrOK Tryz.prog KE 114 (ae KE (qFo 66) Mm (PO 66)):=by
 refine aE (C:=ax [rS] Tryz.f114) (au (.consU vF rfl .nil) _) mixed (fn:=Tryz.f114) Tryz.func114 (by kernel_rfl) (by kernel_rfl) (by kernel_rfl) (by kernel_rfl) (by kernel_rfl) (by kernel_rfl) (Λ:=fun x=>find [(JX,Kq)]) ?_ ?_
 ·rintro ⟨xs,⟨⟩⟩ hw hn
  exact LoopsOKp.at (by kernel_rfl) (.cons (by kernel_rfl) (LI) .nil)
 ·rintro ⟨xs,⟨⟩⟩ hw hn
  exact Gu xs (BI (nv hw))
theorem Gr (xs:List Int) :(evPat (ax [Ek] Tryz.f64) (fun _=>none) Tryz.f64 (qFo 66) nj (xs,())).sat fun z_=>z_ =((PL 66) (xs,())).2:=by
 refine cast (by kernel_rfl) (?_ :(decide (Jj (gY dH xs (0:Int))≥(0:Int)),()) =(xs.any dH,()))
 have e:=rD (p:=dH) (l:=xs) (i:=0)
 rw [←e]
 cases hf:gY dH xs 0 with
 | none=>rfl
 | some k=>
  have:=zk hf
  simp [this,Jj]
def Lv:FuncId×Ctr:=(64,ae KE (qFo 66) nj (PL 66))
theorem Jn:CtrOK Tryz.prog KE 64 (ae KE (qFo 66) nj (PL 66)):=by
 refine aE (C:=ax [Ek] Tryz.f64) (au (.consU Jp rfl .nil) _) mixed (fn:=Tryz.f64) Tryz.func64 (by kernel_rfl) (by kernel_rfl) (by kernel_rfl) (by kernel_rfl) (by kernel_rfl) (by kernel_rfl) (Λ:=fun _ _=>none) ?_ ?_
 ·exact fun _ _ _ _ _ _ _ _ h=>by cases h
 ·rintro ⟨xs,⟨⟩⟩ hw hn
  exact Gr xs
noncomputable def lpW0x:Lp:=(⟨0,ax [oV,dZ] Tryz.f21,(fun _=>none),(gu Tryz.f21 0 0),qW0,xW0⟩:Lp)
theorem MD (ys:List Int) (l:List Mir.Row) (n:Int) (i:Int) (xs:List Int) (m:Int) (j:Int) (o:ByteArray) (r:Mir.Row) (hi:uX (ys,l,n,i,xs,m,j,o,r,())) :(Go.Mir.stepG lpW0x mG (fun y:Den (tyP lpW0x.q)=>uX y∧Jc y<Jc (ys,l,n,i,xs,m,j,o,r,())) (ys,l,n,i,xs,m,j,o,r,())∧Go.Mir.stepE lpW0x mG (ys,l,n,i,xs,m,j,o,r,())=mG (ys,l,n,i,xs,m,j,o,r,())):=by
 refine cast (by kernel_rfl) (?_:let r1:ByteArray:=aZ (xs.getD j.toNat (dflt (Ty.int IntKind.i64)))++ByteArray.mk #[32];((decide (j<m)=true→((0:Int)≤j∧j <(↑xs.length:Int))∧(aZ (xs.getD j.toNat (dflt (Ty.int IntKind.i64)))).size +(ByteArray.mk #[32]).size≤ai∧o.size+r1.size≤ai∧uX (ys,l,n,i,xs,m,IntKind.i64.wrap (j +(1:Int)),o++r1,r,())∧Jc (ys,l,n,i,xs,m,IntKind.i64.wrap (j +(1:Int)),o++r1,r,())<Jc (ys,l,n,i,xs,m,j,o,r,()))∧(decide (j<m)=false→True))∧(bif decide (j<m) then mG (ys,l,n,i,xs,m,IntKind.i64.wrap (j +(1:Int)),o++r1,r,()) else (ys,l,n,i,o,r,()))=mG (ys,l,n,i,xs,m,j,o,r,()))
 intro r1
 clear_value (hr1:r1=_)
 obtain ⟨⟨h1,h1b⟩,⟨h2,h3⟩,h4⟩:=hi
 have h1:m =(xs.length:Int):=h1
 have h1b:inR xs:=h1b
 have h2:0≤j:=h2
 have h3:j≤m:=h3
 have h4 :(o.size:Int)+30 *(m - j)≤900000000:=h4
 have hL :(1000000000:Nat)≤ai:=by decide
 have hf:=h1b.1
 by_cases h:j<m
 ·have e1:IntKind.i64.wrap (j+1)=j+1:=wrap64 (by omega) (by omega)
  have hd:xs.drop j.toNat=xs.getD j.toNat (dflt (Ty.int IntKind.i64))::xs.drop (j+1).toNat:=fM h2 (by omega) _
  have hm:xs.getD j.toNat (dflt (Ty.int IntKind.i64))∈xs:=List.mem_of_mem_drop (i:=j.toNat) (by rw [hd];exact List.mem_cons_self)
  obtain ⟨b1,b2⟩:=h1b.2 _ hm
  generalize xs.getD j.toNat (dflt (Ty.int IntKind.i64))=x at *
  have hz:=lM b1 b2
  have hsp :(ByteArray.mk #[(32:UInt8)]).size=1:=rfl
  have hr:r1.size≤22:=by rw [hr1,ByteArray.size_append,hsp];omega
  have key:mG (ys,l,n,i,xs,m,j,o,r,())=mG (ys,l,n,i,xs,m,j+1,o++r1,r,()):=by
   show (ys,l,n,i,mh ((xs.drop j.toNat).map aZ) o,r,()) =(ys,l,n,i,mh ((xs.drop (j+1).toNat).map aZ) (o++r1),r,())
   rw [hd,hr1]
   rfl
  rw [decide_eq_true h,e1,key]
  refine ⟨⟨fun _=>⟨⟨h2,by omega⟩,by rw [hsp];omega,by omega,⟨⟨h1,h1b⟩,⟨?_,?_⟩,?_⟩,?_⟩,fun z=>Bool.noConfusion z⟩,rfl⟩
  ·show 0≤j+1;omega
  ·show j+1≤m;omega
  ·show ((o++r1).size:Int)+30 *(m - (j+1))≤900000000
   rw [ByteArray.size_append];omega
  ·show (m - (j+1)).toNat <(m - j).toNat;omega
 ·rw [decide_eq_false h]
  refine ⟨⟨fun z=>Bool.noConfusion z,fun _=>trivial⟩,?_⟩
  show _ =(ys,l,n,i,mh ((xs.drop j.toNat).map aZ) o,r,())
  rw [dV (l:=xs) (by omega)]
  rfl
noncomputable def Qc:LoopSum:=az lpW0x mG uX
noncomputable def PH:Nat:=rid (gu Tryz.f21 0 0)
theorem LJ:LoopOKp Tryz.prog 0 Tryz.f21.ntmps (gu Tryz.f21 0 0) (az lpW0x mG uX):=
 aY lpW0x (au (.consU nh rfl (.consU fm rfl .nil)) _) mixed (fun b hb S hS=>by cases hS) mG uX Jc (fun |⟨ys,l,n,i,xs,m,j,o,r,⟨⟩⟩,hi=>MD ys l n i xs m j o r hi)
noncomputable def lpW1x:Lp:=(⟨0,ax [oV,dZ] Tryz.f21,(fun _=>none),(gu Tryz.f21 0 1),qW1,xW1⟩:Lp)
theorem ME (l:List Mir.Row) (n:Int) (i:Int) (xs:List Int) (m:Int) (j:Int) (o:ByteArray) (hi:uY (l,n,i,xs,m,j,o,())) :(Go.Mir.stepG lpW1x mH (fun y:Den (tyP lpW1x.q)=>uY y∧Jd y<Jd (l,n,i,xs,m,j,o,())) (l,n,i,xs,m,j,o,())∧Go.Mir.stepE lpW1x mH (l,n,i,xs,m,j,o,())=mH (l,n,i,xs,m,j,o,())):=by
 refine cast (by kernel_rfl) (?_:let r1:ByteArray:=ByteArray.mk #[32]++aZ (xs.getD j.toNat (dflt (Ty.int IntKind.i64)));((decide (j<m)=true→((0:Int)≤j∧j <(↑xs.length:Int))∧(ByteArray.mk #[32]).size +(aZ (xs.getD j.toNat (dflt (Ty.int IntKind.i64)))).size≤ai∧o.size+r1.size≤ai∧uY (l,n,i,xs,m,IntKind.i64.wrap (j +(1:Int)),o++r1,())∧Jd (l,n,i,xs,m,IntKind.i64.wrap (j +(1:Int)),o++r1,())<Jd (l,n,i,xs,m,j,o,()))∧(decide (j<m)=false→True))∧(bif decide (j<m) then mH (l,n,i,xs,m,IntKind.i64.wrap (j +(1:Int)),o++r1,()) else (l,n,i,o,()))=mH (l,n,i,xs,m,j,o,()))
 intro r1
 clear_value (hr1:r1=_)
 obtain ⟨⟨h1,h1b⟩,⟨h2,h3⟩,h4⟩:=hi
 have h1:m =(xs.length:Int):=h1
 have h1b:inR xs:=h1b
 have h2:0≤j:=h2
 have h3:j≤m:=h3
 have h4 :(o.size:Int)+30 *(m - j)≤900000000:=h4
 have hL :(1000000000:Nat)≤ai:=by decide
 have hf:=h1b.1
 by_cases h:j<m
 ·have e1:IntKind.i64.wrap (j+1)=j+1:=wrap64 (by omega) (by omega)
  have hd:xs.drop j.toNat=xs.getD j.toNat (dflt (Ty.int IntKind.i64))::xs.drop (j+1).toNat:=fM h2 (by omega) _
  have hm:xs.getD j.toNat (dflt (Ty.int IntKind.i64))∈xs:=List.mem_of_mem_drop (i:=j.toNat) (by rw [hd];exact List.mem_cons_self)
  obtain ⟨b1,b2⟩:=h1b.2 _ hm
  generalize xs.getD j.toNat (dflt (Ty.int IntKind.i64))=x at *
  have hz:=lM b1 b2
  have hsp :(ByteArray.mk #[(32:UInt8)]).size=1:=rfl
  have hr:r1.size≤22:=by rw [hr1,ByteArray.size_append,hsp];omega
  have key:mH (l,n,i,xs,m,j,o,())=mH (l,n,i,xs,m,j+1,o++r1,()):=by
   show (l,n,i,kI ((xs.drop j.toNat).map aZ) o,()) =(l,n,i,kI ((xs.drop (j+1).toNat).map aZ) (o++r1),())
   rw [hd,hr1]
   rfl
  rw [decide_eq_true h,e1,key]
  refine ⟨⟨fun _=>⟨⟨h2,by omega⟩,by rw [hsp];omega,by omega,⟨⟨h1,h1b⟩,⟨?_,?_⟩,?_⟩,?_⟩,fun z=>Bool.noConfusion z⟩,rfl⟩
  ·show 0≤j+1;omega
  ·show j+1≤m;omega
  ·show ((o++r1).size:Int)+30 *(m - (j+1))≤900000000
   rw [ByteArray.size_append];omega
  ·show (m - (j+1)).toNat <(m - j).toNat;omega
 ·rw [decide_eq_false h]
  refine ⟨⟨fun z=>Bool.noConfusion z,fun _=>trivial⟩,?_⟩
  show _ =(l,n,i,kI ((xs.drop j.toNat).map aZ) o,())
  rw [dV (l:=xs) (by omega)]
  rfl
noncomputable def Qd:LoopSum:=az lpW1x mH uY
noncomputable def PJ:Nat:=rid (gu Tryz.f21 0 1)
theorem LK:LoopOKp Tryz.prog 0 Tryz.f21.ntmps (gu Tryz.f21 0 1) (az lpW1x mH uY):=
 aY lpW1x (au (.consU nh rfl (.consU fm rfl .nil)) _) mixed (fun b hb S hS=>by cases hS) mH uY Jd (fun |⟨l,n,i,xs,m,j,o,⟨⟩⟩,hi=>ME l n i xs m j o hi)
end Go.Proofs.YtffdpnmioidloaaGreatDoor
namespace Go.Proofs.YtffdpnmioidloaaGreatDoor
open Go Go.Mir
attribute [local irreducible] Go.Mir.DT.sat Go.Mir.evPat
def Pv:Ty:= .prod .str (.prod (.int .u8) .unit)
def ixW (s:ByteArray) (c:Int):Int:=Lib.indexByte s.data.toList c.toNat.toUInt8
def Kj:Den Pv→PRes:=fun x=>⟨[],.int .i64 (ixW x.1 x.2.1),[]⟩
def rR:FuncId×Ctr:=(108,bC KE Pv Kj)
def bd (d:Delivery):Int:=
 if decide (d.Typ<1) ||(decide (d.Typ>3) ||(decide (d.Source>3)||decide (d.How>10))) then 3
 else if !inW d.Runs 0 7 ||(!inW d.Short 0 d.Runs ||(d.Boundary != 0&&(d.Boundary != 4&&d.Boundary != 6) ||(!inW d.Victim 0 2 ||(!inW d.Fielder 0 11 ||(!inW d.Second 0 11||!inW d.Sector 0 8))))) then 2 else 0
def vX:Den (tyP qD)→List Prop×Den (tyP CW):=fun x=>([],(bd x.1,()))
def aD (k:Int):Prop:=1≤k∧k≤16
theorem M8 :∀ (l:List UInt8) (c:UInt8),Lib.indexByte l c≤l.length
 | [],c=>by unfold Lib.indexByte;simp
 | b::l,c=>by
  have:=M8 l c
  unfold Lib.indexByte
  simp only [List.length_cons]
  split
  ·omega
  ·split <;> omega
theorem Ay:CtrOK Tryz.prog KE 108 (bC KE Pv Kj):=by
 refine Hl Tryz.func108 (by kernel_rfl) (by kernel_rfl) (fun _=>⟨rfl,rfl⟩) (fun x av w E hw _ hav=>?_) (fun _ _=>rfl)
 obtain ⟨s,c,⟨⟩⟩:=x
 obtain ⟨a,r,rfl,h1,h2⟩:=bp hav
 obtain ⟨b,r2,rfl,h3,h4⟩:=bp h2
 have h5:r2=[]:=by cases r2 with|nil=>rfl|cons=>simp [iK,ab] at h4
 subst h5
 simp only [dS,aa] at h1 h3
 obtain ⟨rfl,hs⟩:=h1
 obtain ⟨rfl,hc⟩:=h3
 refine (Any.strings_IndexByte Ep s c w).mono fun e w' ⟨h6,h7⟩=>⟨_,h6,h7,fun E'=>?_⟩
 refine gD ?_
 have hge:=Lib.indexByte_ge s.data.toList c.toNat.toUInt8
 have hle:=M8 s.data.toList c.toNat.toUInt8
 have hl:s.data.toList.length≤ai:=by rw [Array.length_toList];exact hs
 unfold ai at hl
 have e1:IntKind.i64.min = -9223372036854775808:=by decide
 have e2:IntKind.i64.max=9223372036854775807:=by decide
 unfold ok
 rw [e1,e2]
 show _≤ixW s c∧ixW s c≤_
 unfold ixW
 omega
theorem Bc (n:Int) (lo:Int) (hi:Int) :(evPat (ax [] Tryz.f201) (fun _=>none) Tryz.f201 q3 sG (n,lo,hi,())).sat fun z_=>z_ =(sIn (n,lo,hi,())).2:=by
 refine cast (by kernel_rfl) (?_ :(bif decide (n≥lo) then decide (n≤hi) else false,()) =(inW n lo hi,()))
 grind [inW]
def ve:FuncId×Ctr:=(201,ae KE q3 sG sIn)
theorem CD:CtrOK Tryz.prog KE 201 (ae KE q3 sG sIn):=by
 refine aE (C:=ax [] Tryz.f201) (au (CtrsOK.nil) _) mixed (fn:=Tryz.f201) Tryz.func201 (by kernel_rfl) (by kernel_rfl) (by kernel_rfl) (by kernel_rfl) (by kernel_rfl) (by kernel_rfl) (Λ:=fun _ _=>none) ?_ ?_
 ·exact fun _ _ _ _ _ _ _ _ h=>by cases h
 ·rintro ⟨n,lo,hi,⟨⟩⟩ hw hn
  exact Bc n lo hi
theorem Mx (n:Int) (lo:Int) (hi:Int) :(evPat (ax [] Tryz.f204) (fun _=>none) Tryz.f204 q3 sG (n,lo,hi,())).sat fun z_=>z_ =(sIn (n,lo,hi,())).2:=by
 refine cast (by kernel_rfl) (?_ :(bif decide (n≥lo) then decide (n≤hi) else false,()) =(inW n lo hi,()))
 grind [inW]
def Na:FuncId×Ctr:=(204,ae KE q3 sG sIn)
theorem Pn:CtrOK Tryz.prog KE 204 (ae KE q3 sG sIn):=by
 refine aE (C:=ax [] Tryz.f204) (au (CtrsOK.nil) _) mixed (fn:=Tryz.f204) Tryz.func204 (by kernel_rfl) (by kernel_rfl) (by kernel_rfl) (by kernel_rfl) (by kernel_rfl) (by kernel_rfl) (Λ:=fun _ _=>none) ?_ ?_
 ·exact fun _ _ _ _ _ _ _ _ h=>by cases h
 ·rintro ⟨n,lo,hi,⟨⟩⟩ hw hn
  exact Mx n lo hi
theorem Gw (d:Delivery) :(evPat (ax [ve] Tryz.f150) (fun _=>none) Tryz.f150 qD CW (d,())).sat fun z_=>z_ =(vX (d,())).2:=by
 refine cast (by kernel_rfl) (?_:let r1:Bool:=bif !inW d.8 (0:Int) (2:Int) then true else bif !inW d.9 (0:Int) (11:Int) then true else bif !inW d.10 (0:Int) (11:Int) then true else !inW d.12 (0:Int) (8:Int);let r2:Bool:=bif decide (d.1 <(1:Int)) then true else bif decide (d.1 >(3:Int)) then true else bif decide (d.2 >(3:Int)) then true else decide (d.7 >(10:Int));let r3:Bool:=bif !inW d.3 (0:Int) (7:Int) then true else bif !inW d.4 (0:Int) d.3 then true else bif d.5 !=(0:Int) then bif d.5 !=(4:Int) then bif d.5 !=(6:Int) then true else r1 else r1 else r1;(r2=true→((3:Int),()) =(bd d,()))∧(r2=false→(r3=true→((2:Int),()) =(bd d,()))∧(r3=false→((0:Int),()) =(bd d,()))))
 intro r1 r2 r3
 clear_value (hr1:r1=_) (hr2:r2=_) (hr3:r3=_)
 repeat' (first|refine And.intro ?_ ?_|intro h)
 all_goals grind (splits:=40) [bd]
def Em:FuncId×Ctr:=(150,ae KE qD CW vX)
theorem Js:CtrOK Tryz.prog KE 150 (ae KE qD CW vX):=by
 refine aE (C:=ax [ve] Tryz.f150) (au (.consU CD rfl .nil) _) mixed (fn:=Tryz.f150) Tryz.func150 (by kernel_rfl) (by kernel_rfl) (by kernel_rfl) (by kernel_rfl) (by kernel_rfl) (by kernel_rfl) (Λ:=fun _ _=>none) ?_ ?_
 ·exact fun _ _ _ _ _ _ _ _ h=>by cases h
 ·rintro ⟨d,⟨⟩⟩ hw hn
  exact Gw d
theorem Di (d:Delivery) :(evPat (ax [Na] Tryz.f155) (fun _=>none) Tryz.f155 qD CW (d,())).sat fun z_=>z_ =(vX (d,())).2:=by
 refine cast (by kernel_rfl) (?_:let r1:Bool:=bif !inW d.8 (0:Int) (2:Int) then true else bif !inW d.9 (0:Int) (11:Int) then true else bif !inW d.10 (0:Int) (11:Int) then true else !inW d.12 (0:Int) (8:Int);let r2:Bool:=bif decide (d.1 <(1:Int)) then true else bif decide (d.1 >(3:Int)) then true else bif decide (d.2 >(3:Int)) then true else decide (d.7 >(10:Int));let r3:Bool:=bif !inW d.3 (0:Int) (7:Int) then true else bif !inW d.4 (0:Int) d.3 then true else bif d.5 !=(0:Int) then bif d.5 !=(4:Int) then bif d.5 !=(6:Int) then true else r1 else r1 else r1;(r2=true→((3:Int),()) =(bd d,()))∧(r2=false→(r3=true→((2:Int),()) =(bd d,()))∧(r3=false→((0:Int),()) =(bd d,()))))
 intro r1 r2 r3
 clear_value (hr1:r1=_) (hr2:r2=_) (hr3:r3=_)
 repeat' (first|refine And.intro ?_ ?_|intro h)
 all_goals grind (splits:=40) [bd]
def zT:FuncId×Ctr:=(155,ae KE qD CW vX)
theorem Ge:CtrOK Tryz.prog KE 155 (ae KE qD CW vX):=by
 refine aE (C:=ax [Na] Tryz.f155) (au (.consU Pn rfl .nil) _) mixed (fn:=Tryz.f155) Tryz.func155 (by kernel_rfl) (by kernel_rfl) (by kernel_rfl) (by kernel_rfl) (by kernel_rfl) (by kernel_rfl) (Λ:=fun _ _=>none) ?_ ?_
 ·exact fun _ _ _ _ _ _ _ _ h=>by cases h
 ·rintro ⟨d,⟨⟩⟩ hw hn
  exact Di d
end Go.Proofs.YtffdpnmioidloaaGreatDoor
namespace Go.Proofs.YtffdpnmioidloaaGreatDoor
open Go Go.Mir
attribute [local irreducible] Go.Mir.DT.sat Go.Mir.evPat Go.Mir.RT.sat Go.Mir.evFn
abbrev lB:Pat:=cW [I]
abbrev qIb:Pat:=cW [I,I]
abbrev aU:Pat:=cW [.str]
def dgs36:ByteArray:=⟨#[48,49,50,51,52,53,54,55,56,57,97,98,99,100,101,102,103,104,105,106,107,108,109,110,111,112,113,114,115,116,117,118,119,120,121,122]⟩
def sm200:ByteArray:=⟨((List.range 100).flatMap fun n=> [UInt8.ofNat (48+n / 10),UInt8.ofNat (48+n % 10)]).toArray⟩
def bF (n:Int):ByteArray:=if decide (n<10) then dgs36.extract n.toNat (n+1).toNat else sm200.extract (n*2).toNat (n*2+2).toNat
def dq (n:Int):Prop:=0≤n∧n<100
def qM (n:Int):Prop:=n=10
def gC:Den (tyP lB)→List Prop×Den (tyP aU):=fun x=>([dq x.1],(bF x.1,()))
def GB:Den (tyP qIb)→List Prop×Den (tyP aU):=fun x=>([dq x.1,qM x.2.1],(bF x.1,()))
def iH (n:Int):ByteArray:=Utf8.encode (IntKind.i32.wrap (IntKind.i64.wrap (48+n)))
def Dn:Den (tyP lB)→List Prop×Den (tyP aU):=fun x=>([],(iH x.1,()))
def dJ (t s:Int):ByteArray:=if s==0 then (if t != 2 then ⟨#[46]⟩ else ⟨#[]⟩) else if s==1 then (if t==2 then ⟨#[111]⟩ else ⟨#[]⟩) else if s==2 then ⟨#[98]⟩ else if s==3 then ⟨#[108]⟩ else ⟨#[]⟩
def ym:Den (tyP qD)→List Prop×Den (tyP aU):=fun x=>([],(dJ x.1.Typ x.1.Source,()))
def lets:ByteArray:=⟨#[78,66,67,76,83,72,82,84,79,77,81]⟩
def xD (h:Int):ByteArray:=lets.extract h.toNat (h+1).toNat
def gS (d:Delivery):Bool:=d.Fielder != 0 ||(d.Second != 0||d.Sub)
def qn (d:Delivery):ByteArray:=(⟨#[47]⟩++xD d.How)++iH d.Victim
def yE (d:Delivery):ByteArray:=qn d ++(⟨#[40]⟩++bF d.Fielder)
def tv (d:Delivery):ByteArray:=if d.Second != 0 then yE d ++(⟨#[44]⟩++bF d.Second) else yE d
def tx (d:Delivery):ByteArray:=if d.Sub then tv d ++⟨#[115]⟩ else tv d
def lJ (d:Delivery):ByteArray:=if d.How==0&&(d.Victim==0&&!gS d) then ⟨#[]⟩ else if gS d then tx d ++⟨#[41]⟩ else qn d
def FP (d:Delivery):Prop:=(0≤d.How∧d.How≤10)∧dq d.Fielder∧dq d.Second
def yn:Den (tyP qD)→List Prop×Den (tyP aU):=fun x=>([FP x.1],(lJ x.1,()))
def ns (t:Int):ByteArray:=if t==2 then ⟨#[119]⟩ else if t==3 then ⟨#[110]⟩ else ⟨#[]⟩
theorem QS (n:Int) :(Utf8.encode n).size≤4:=by
 unfold Utf8.encode
 generalize (if Utf8.valid n then n.toNat else Utf8.runeError)=c
 show (ite _ _ _:ByteArray).size≤4
 by_cases h1:c<0x80
 ·rw [if_pos h1];exact Nat.le_of_ble_eq_true rfl
 ·rw [if_neg h1]
  by_cases h2:c<0x800
  ·rw [if_pos h2];exact Nat.le_of_ble_eq_true rfl
  ·rw [if_neg h2]
   by_cases h3:c<0x10000
   ·rw [if_pos h3];exact Nat.le_of_ble_eq_true rfl
   ·rw [if_neg h3];exact Nat.le_of_ble_eq_true rfl
theorem qU {n:Int} (h:dq n) :(bF n).size≤200:=by
 have z5:dgs36.size=36:=rfl
 have z6:sm200.size=200:=by kernel_rfl
 unfold bF
 split <;> rw [ByteArray.size_extract] <;> omega
theorem Ba (n:Int) (hk:dq n) :(evPat (ax [] Tryz.f210) (fun _=>none) Tryz.f210 lB aU (n,())).sat fun z_=>z_ =(gC (n,())).2:=by
 refine cast (by kernel_rfl) (?_:let r1:Int:=IntKind.i64.wrap (n +(1:Int));let r2:Int:=IntKind.i64.wrap (n *(2:Int));let r3:Bool:=decide (n <(10:Int));let r4:Int:=IntKind.i64.wrap (r2 +(2:Int));let r5:ByteArray:=ByteArray.mk #[48,49,50,51,52,53,54,55,56,57,97,98,99,100,101,102,103,104,105,106,107,108,109,110,111,112,113,114,115,116,117,118,119,120,121,122];let r6:ByteArray:=ByteArray.mk (([(48:UInt8),(48:UInt8),(48:UInt8),(49:UInt8),(48:UInt8),(50:UInt8),(48:UInt8),(51:UInt8),(48:UInt8),(52:UInt8),(48:UInt8),(53:UInt8),(48:UInt8),(54:UInt8),(48:UInt8),(55:UInt8),(48:UInt8),(56:UInt8),(48:UInt8),(57:UInt8),(49:UInt8),(48:UInt8),(49:UInt8),(49:UInt8),(49:UInt8),(50:UInt8),(49:UInt8),(51:UInt8),(49:UInt8),(52:UInt8),(49:UInt8),(53:UInt8),(49:UInt8),(54:UInt8),(49:UInt8),(55:UInt8),(49:UInt8),(56:UInt8),(49:UInt8),(57:UInt8),(50:UInt8),(48:UInt8),(50:UInt8),(49:UInt8),(50:UInt8),(50:UInt8),(50:UInt8),(51:UInt8),(50:UInt8),(52:UInt8)].append [(50:UInt8),(53:UInt8),(50:UInt8),(54:UInt8),(50:UInt8),(55:UInt8),(50:UInt8),(56:UInt8),(50:UInt8),(57:UInt8),(51:UInt8),(48:UInt8),(51:UInt8),(49:UInt8),(51:UInt8),(50:UInt8),(51:UInt8),(51:UInt8),(51:UInt8),(52:UInt8),(51:UInt8),(53:UInt8),(51:UInt8),(54:UInt8),(51:UInt8),(55:UInt8),(51:UInt8),(56:UInt8),(51:UInt8),(57:UInt8),(52:UInt8),(48:UInt8),(52:UInt8),(49:UInt8),(52:UInt8),(50:UInt8),(52:UInt8),(51:UInt8),(52:UInt8),(52:UInt8),(52:UInt8),(53:UInt8),(52:UInt8),(54:UInt8),(52:UInt8),(55:UInt8),(52:UInt8),(56:UInt8),(52:UInt8),(57:UInt8)]).append ([(53:UInt8),(48:UInt8),(53:UInt8),(49:UInt8),(53:UInt8),(50:UInt8),(53:UInt8),(51:UInt8),(53:UInt8),(52:UInt8),(53:UInt8),(53:UInt8),(53:UInt8),(54:UInt8),(53:UInt8),(55:UInt8),(53:UInt8),(56:UInt8),(53:UInt8),(57:UInt8),(54:UInt8),(48:UInt8),(54:UInt8),(49:UInt8),(54:UInt8),(50:UInt8),(54:UInt8),(51:UInt8),(54:UInt8),(52:UInt8),(54:UInt8),(53:UInt8),(54:UInt8),(54:UInt8),(54:UInt8),(55:UInt8),(54:UInt8),(56:UInt8),(54:UInt8),(57:UInt8),(55:UInt8),(48:UInt8),(55:UInt8),(49:UInt8),(55:UInt8),(50:UInt8),(55:UInt8),(51:UInt8),(55:UInt8),(52:UInt8)].append [(55:UInt8),(53:UInt8),(55:UInt8),(54:UInt8),(55:UInt8),(55:UInt8),(55:UInt8),(56:UInt8),(55:UInt8),(57:UInt8),(56:UInt8),(48:UInt8),(56:UInt8),(49:UInt8),(56:UInt8),(50:UInt8),(56:UInt8),(51:UInt8),(56:UInt8),(52:UInt8),(56:UInt8),(53:UInt8),(56:UInt8),(54:UInt8),(56:UInt8),(55:UInt8),(56:UInt8),(56:UInt8),(56:UInt8),(57:UInt8),(57:UInt8),(48:UInt8),(57:UInt8),(49:UInt8),(57:UInt8),(50:UInt8),(57:UInt8),(51:UInt8),(57:UInt8),(52:UInt8),(57:UInt8),(53:UInt8),(57:UInt8),(54:UInt8),(57:UInt8),(55:UInt8),(57:UInt8),(56:UInt8),(57:UInt8),(57:UInt8)])).toArray;(r3=true→((0:Int)≤n∧n≤r1∧r1≤(↑r5.size:Int))∧(r5.extract n.toNat r1.toNat,()) =(bF n,()))∧(r3=false→((0:Int)≤r2∧r2≤r4∧r4≤(↑r6.size:Int))∧(r6.extract r2.toNat r4.toNat,()) =(bF n,())))
 intro r1 r2 r3 r4 r5 r6
 clear_value (hr1:r1=_) (hr2:r2=_) (hr3:r3=_) (hr4:r4=_) (hr5:r5=_) (hr6:r6=_)
 obtain ⟨h0,h1⟩:=hk
 have e1:r1=n+1:=by rw [hr1];exact wrap64 (by omega) (by omega)
 have e2:r2=n*2:=by rw [hr2];exact wrap64 (by omega) (by omega)
 have e4:r4=n*2+2:=by rw [hr4,e2];exact wrap64 (by omega) (by omega)
 have e5:r5=dgs36:=hr5
 have e6:r6=sm200:=by rw [hr6];kernel_rfl
 have z5:dgs36.size=36:=rfl
 have z6:sm200.size=200:=by kernel_rfl
 clear hr1 hr2 hr4 hr5 hr6
 subst e1 e2 e4 e5 e6
 refine ⟨fun h=>?_,fun h=>?_⟩
 ·rw [hr3] at h
  have hd:=of_decide_eq_true h
  refine ⟨⟨h0,by omega,by omega⟩,?_⟩
  unfold bF;rw [h];rfl
 ·rw [hr3] at h
  refine ⟨⟨by omega,by omega,by omega⟩,?_⟩
  unfold bF;rw [h];rfl
def vc:FuncId×Ctr:=(210,ae KE lB aU gC)
theorem CB:CtrOK Tryz.prog KE 210 (ae KE lB aU gC):=by
 refine aE (C:=ax [] Tryz.f210) (au (CtrsOK.nil) _) mixed (fn:=Tryz.f210) Tryz.func210 (by kernel_rfl) (by kernel_rfl) (by kernel_rfl) (by kernel_rfl) (by kernel_rfl) (by kernel_rfl) (Λ:=fun _ _=>none) ?_ ?_
 ·exact fun _ _ _ _ _ _ _ _ h=>by cases h
 ·rintro ⟨n,⟨⟩⟩ hw hn
  exact Ba n (hn _ List.mem_cons_self)
theorem Gs (n:Int) (b:Int) (hk:dq n) (hb:qM b) :(evPat (ax [vc] Tryz.f169) (fun _=>none) Tryz.f169 qIb aU (n,b,())).sat fun z_=>z_ =(GB (n,b,())).2:=by
 refine cast (by kernel_rfl) (?_:let r1:Bool:=bif decide ((0:Int)≤n) then decide (n <(100:Int)) else false;((b ==(10:Int))=true→(r1=true→dq n∧(bF n,()) =(bF n,()))∧(r1=false→False))∧((b ==(10:Int))=false→False))
 intro r1
 clear_value (hr1:r1=_)
 have hb:b=10:=hb
 have e1:r1=true:=by rw [hr1,decide_eq_true hk.1,decide_eq_true hk.2];rfl
 subst hb
 exact ⟨fun _=>⟨fun _=>⟨hk,rfl⟩,fun h=>by rw [e1] at h;cases h⟩,fun h=>by cases h⟩
def Ej:FuncId×Ctr:=(169,ae KE qIb aU GB)
theorem Jo:CtrOK Tryz.prog KE 169 (ae KE qIb aU GB):=by
 refine aE (C:=ax [vc] Tryz.f169) (au (.consU CB rfl .nil) _) mixed (fn:=Tryz.f169) Tryz.func169 (by kernel_rfl) (by kernel_rfl) (by kernel_rfl) (by kernel_rfl) (by kernel_rfl) (by kernel_rfl) (Λ:=fun _ _=>none) ?_ ?_
 ·exact fun _ _ _ _ _ _ _ _ h=>by cases h
 ·rintro ⟨n,b,⟨⟩⟩ hw hn
  exact Gs n b (hn _ List.mem_cons_self) (hn _ (List.mem_cons_of_mem _ List.mem_cons_self))
theorem Dc (n:Int) (b:Int) (hk:dq n) (hb:qM b) :(evPat (ax [Ej] Tryz.f105) (fun _=>none) Tryz.f105 qIb aU (n,b,())).sat fun z_=>z_ =(GB (n,b,())).2:=by
 refine cast (by kernel_rfl) (?_:dq n∧qM b∧(bF n,()) =(bF n,()))
 exact ⟨hk,hb,rfl⟩
def zK:FuncId×Ctr:=(105,ae KE qIb aU GB)
theorem F7:CtrOK Tryz.prog KE 105 (ae KE qIb aU GB):=by
 refine aE (C:=ax [Ej] Tryz.f105) (au (.consU Jo rfl .nil) _) mixed (fn:=Tryz.f105) Tryz.func105 (by kernel_rfl) (by kernel_rfl) (by kernel_rfl) (by kernel_rfl) (by kernel_rfl) (by kernel_rfl) (Λ:=fun _ _=>none) ?_ ?_
 ·exact fun _ _ _ _ _ _ _ _ h=>by cases h
 ·rintro ⟨n,b,⟨⟩⟩ hw hn
  exact Dc n b (hn _ List.mem_cons_self) (hn _ (List.mem_cons_of_mem _ List.mem_cons_self))
theorem Bb (n:Int) (hk:dq n) :(evPat (ax [zK] Tryz.f45) (fun _=>none) Tryz.f45 lB aU (n,())).sat fun z_=>z_ =(gC (n,())).2:=by
 refine cast (by kernel_rfl) (?_:dq n∧qM (10:Int)∧(bF n,()) =(bF n,()))
 exact ⟨hk,rfl,rfl⟩
def vd:FuncId×Ctr:=(45,ae KE lB aU gC)
theorem CC:CtrOK Tryz.prog KE 45 (ae KE lB aU gC):=by
 refine aE (C:=ax [zK] Tryz.f45) (au (.consU F7 rfl .nil) _) mixed (fn:=Tryz.f45) Tryz.func45 (by kernel_rfl) (by kernel_rfl) (by kernel_rfl) (by kernel_rfl) (by kernel_rfl) (by kernel_rfl) (Λ:=fun _ _=>none) ?_ ?_
 ·exact fun _ _ _ _ _ _ _ _ h=>by cases h
 ·rintro ⟨n,⟨⟩⟩ hw hn
  exact Bb n (hn _ List.mem_cons_self)
theorem Gx (n:Int) :(evPat (ax [] Tryz.f152) (fun _=>none) Tryz.f152 lB aU (n,())).sat fun z_=>z_ =(Dn (n,())).2:=by
 refine cast (by kernel_rfl) (?_ :(Utf8.encode (IntKind.i32.wrap (IntKind.i64.wrap ((48:Int)+n))),()) =(iH n,()))
 rfl
def qA:FuncId×Ctr:=(152,ae KE lB aU Dn)
theorem AB:CtrOK Tryz.prog KE 152 (ae KE lB aU Dn):=by
 refine aE (C:=ax [] Tryz.f152) (au (CtrsOK.nil) _) mixed (fn:=Tryz.f152) Tryz.func152 (by kernel_rfl) (by kernel_rfl) (by kernel_rfl) (by kernel_rfl) (by kernel_rfl) (by kernel_rfl) (Λ:=fun _ _=>none) ?_ ?_
 ·exact fun _ _ _ _ _ _ _ _ h=>by cases h
 ·rintro ⟨n,⟨⟩⟩ hw hn
  exact Gx n
theorem De (d:Delivery) :(evPat (ax [] Tryz.f151) (fun _=>none) Tryz.f151 qD aU (d,())).sat fun z_=>z_ =(ym (d,())).2:=by
 refine cast (by kernel_rfl) (?_ :(((d.2 ==(0:Int))=true→((d.1 !=(2:Int))=true→(ByteArray.mk #[46],()) =(dJ d.1 d.2,()))∧((d.1 !=(2:Int))=false→True))∧((d.2 ==(0:Int))=false→((d.2 ==(1:Int))=true→((d.1 ==(2:Int))=true→(ByteArray.mk #[111],()) =(dJ d.1 d.2,()))∧((d.1 ==(2:Int))=false→True))∧((d.2 ==(1:Int))=false→((d.2 ==(2:Int))=true→(ByteArray.mk #[98],()) =(dJ d.1 d.2,()))∧((d.2 ==(2:Int))=false→((d.2 ==(3:Int))=true→(ByteArray.mk #[108],()) =(dJ d.1 d.2,()))∧((d.2 ==(3:Int))=false→True)))))∧((bif d.2 ==(0:Int) then !d.1 !=(2:Int) else bif d.2 ==(1:Int) then !d.1 ==(2:Int) else bif d.2 ==(2:Int) then false else !d.2 ==(3:Int))=true→(ByteArray.mk #[],()) =(dJ d.1 d.2,())))
 unfold dJ
 generalize d.Typ=t
 generalize d.Source=s
 cases h0:s==0 <;> cases h1:s==1 <;> cases h2:s==2 <;> cases h3:s==3 <;> cases ht:t==2 <;> simp [h0,h1,h2,h3,ht,bne]
def zQ:FuncId×Ctr:=(151,ae KE qD aU ym)
theorem Gb:CtrOK Tryz.prog KE 151 (ae KE qD aU ym):=by
 refine aE (C:=ax [] Tryz.f151) (au (CtrsOK.nil) _) mixed (fn:=Tryz.f151) Tryz.func151 (by kernel_rfl) (by kernel_rfl) (by kernel_rfl) (by kernel_rfl) (by kernel_rfl) (by kernel_rfl) (Λ:=fun _ _=>none) ?_ ?_
 ·exact fun _ _ _ _ _ _ _ _ h=>by cases h
 ·rintro ⟨d,⟨⟩⟩ hw hn
  exact De d
theorem Df (d:Delivery) (hd:FP d) :(evPat (ax [qA,vd] Tryz.f153) (fun _=>none) Tryz.f153 qD aU (d,())).sat fun z_=>z_ =(yn (d,())).2:=by
 refine cast (by kernel_rfl) (?_:let r1:Int:=IntKind.u8.wrap (d.7 +(1:Int));let r2:ByteArray:=ByteArray.mk #[40]++bF d.9;let r3:ByteArray:=ByteArray.mk #[44]++bF d.10;let r4:Bool:=!bif d.9 !=(0:Int) then true else bif d.10 !=(0:Int) then true else d.11;let r5:Bool:=bif d.7 ==(0:Int) then bif d.8 ==(0:Int) then r4 else false else false;let r6:ByteArray:=ByteArray.mk #[78,66,67,76,83,72,82,84,79,77,81];let r7:ByteArray:=r6.extract d.7.toNat r1.toNat;let r8:ByteArray:=ByteArray.mk #[47]++r7;let r9:ByteArray:=r8++iH d.8;let r10:ByteArray:=r9++r2;let r11:ByteArray:=bif d.10 !=(0:Int) then r10++r3 else r10;let r12:ByteArray:=bif d.11 then r11++ByteArray.mk #[115] else r11;(r5=true→(ByteArray.mk #[],()) =(lJ d,()))∧(r5=false→((0:Int)≤d.7∧d.7≤r1∧r1≤(↑r6.size:Int))∧(ByteArray.mk #[47]).size+r7.size≤ai∧r8.size +(iH d.8).size≤ai∧(r4=true→(r9,()) =(lJ d,()))∧(r4=false→dq d.9∧(ByteArray.mk #[40]).size +(bF d.9).size≤ai∧r9.size+r2.size≤ai∧(((d.10 !=(0:Int))=true→dq d.10∧(ByteArray.mk #[44]).size +(bF d.10).size≤ai∧r10.size+r3.size≤ai∧True)∧((d.10 !=(0:Int))=false→True))∧(true=true→((d.11=true→r11.size +(ByteArray.mk #[115]).size≤ai∧True)∧(d.11=false→True))∧(true=true→r12.size +(ByteArray.mk #[41]).size≤ai∧(r12++ByteArray.mk #[41],()) =(lJ d,()))))))
 intro r1 r2 r3 r4 r5 r6 r7 r8 r9 r10 r11 r12
 clear_value (hr1:r1=_) (hr2:r2=_) (hr3:r3=_) (hr4:r4=_) (hr5:r5=_) (hr6:r6=_) (hr7:r7=_) (hr8:r8=_) (hr9:r9=_) (hr10:r10=_) (hr11:r11=_) (hr12:r12=_)
 obtain ⟨⟨h0,h1⟩,hf,hs⟩:=hd
 have e1:r1=d.How+1:=by
  rw [hr1]
  simp only [IntKind.wrap,IntKind.bits,IntKind.signed]
  simp
  omega
 have e6:r6.size=11:=by rw [hr6];rfl
 have z7:r7.size≤11:=by rw [hr7,ByteArray.size_extract];omega
 have zd:=QS (IntKind.i32.wrap (IntKind.i64.wrap (48+d.Victim)))
 have zd :(iH d.Victim).size≤4:=zd
 have zf:=qU hf
 have zs:=qU hs
 have z8:r8.size≤12:=by rw [hr8,ByteArray.size_append];show 1+_≤_;omega
 have z9:r9.size≤16:=by rw [hr9,ByteArray.size_append];omega
 have z2:r2.size≤201:=by rw [hr2,ByteArray.size_append];show 1+_≤_;omega
 have z3:r3.size≤201:=by rw [hr3,ByteArray.size_append];show 1+_≤_;omega
 have z10:r10.size≤217:=by rw [hr10,ByteArray.size_append];omega
 have z11:r11.size≤418:=by
  rw [hr11]
  cases d.Second != 0
  ·show r10.size≤_;omega
  ·show (r10++r3).size≤_;rw [ByteArray.size_append];omega
 have z12:r12.size≤419:=by
  rw [hr12]
  cases d.Sub
  ·show r11.size≤_;omega
  ·show (r11++_).size≤_;rw [ByteArray.size_append];show _+1≤_;omega
 have one :∀ c:UInt8,(ByteArray.mk #[c]).size=1:=fun _=>rfl
 have hL :(500:Nat)≤ai:=by decide
 have eA:r4=!gS d:=by rw [hr4];unfold gS;cases d.Fielder != 0 <;> cases d.Second != 0 <;> rfl
 have e7:r7=xD d.How:=by rw [hr7,e1,hr6];rfl
 have w1:r9=qn d:=by rw [hr9,hr8,e7];rfl
 have w2:r10=yE d:=by rw [hr10,w1,hr2];rfl
 have w3:r11=tv d:=by rw [hr11,w2,hr3];unfold tv;cases d.Second != 0 <;> rfl
 have w4:r12=tx d:=by rw [hr12,w3];unfold tx;cases d.Sub <;> rfl
 have e5 :(d.How==0&&(d.Victim==0&&!gS d))=r5:=by rw [hr5,eA];cases d.How==0 <;> cases d.Victim==0 <;> rfl
 refine ⟨fun h=>?_,fun h=>⟨⟨h0,by omega,by omega⟩,by rw [one];omega,by omega,fun a=>?_,fun a=>⟨hf,by rw [one];omega,by omega,⟨fun _=>⟨hs,by rw [one];omega,by omega,trivial⟩,fun _=>trivial⟩,fun _=>⟨⟨fun _=>⟨by rw [one];omega,trivial⟩,fun _=>trivial⟩,fun _=>⟨by rw [one];omega,?_⟩⟩⟩⟩⟩
 ·unfold lJ;rw [e5,h];rfl
 ·have:gS d=false:=by rw [eA] at a;simpa using a
  unfold lJ;rw [e5,h,this,w1];rfl
 ·have:gS d=true:=by rw [eA] at a;simpa using a
  unfold lJ;rw [e5,h,this,w4];rfl
def zR:FuncId×Ctr:=(153,ae KE qD aU yn)
theorem Gc:CtrOK Tryz.prog KE 153 (ae KE qD aU yn):=by
 refine aE (C:=ax [qA,vd] Tryz.f153) (au (.consU AB rfl (.consU CC rfl .nil)) _) mixed (fn:=Tryz.f153) Tryz.func153 (by kernel_rfl) (by kernel_rfl) (by kernel_rfl) (by kernel_rfl) (by kernel_rfl) (by kernel_rfl) (Λ:=fun _ _=>none) ?_ ?_
 ·exact fun _ _ _ _ _ _ _ _ h=>by cases h
 ·rintro ⟨d,⟨⟩⟩ hw hn
  exact Df d (hn _ List.mem_cons_self)
end Go.Proofs.YtffdpnmioidloaaGreatDoor
namespace Go.Proofs.YtffdpnmioidloaaGreatDoor
open Go Go.Mir
attribute [local irreducible] Go.Mir.DT.sat Go.Mir.evPat Go.Mir.RT.sat Go.Mir.evFn
abbrev AY:Pat:=cW [.str,I]
def cb (b:Bool) (x y:ByteArray):ByteArray:=bif b then x else y
def Br (d:Delivery) (src:ByteArray):Bool:=decide (d.Runs>0) ||((src.toList ==(ByteArray.mk #[]).toList)&&(d.Boundary==0&&d.Typ != 2))
def prA (d:Delivery):ByteArray:=ns d.Typ++dJ d.Typ d.Source
def prB (d:Delivery):ByteArray:=cb (Br d (dJ d.Typ d.Source)) (prA d++iH d.Runs) (prA d)
def prC (d:Delivery):ByteArray:=cb (d.Boundary==4) (prB d ++⟨#[70]⟩) (cb (d.Boundary==6) (prB d ++⟨#[83]⟩) (prB d))
def prD (d:Delivery):ByteArray:=cb (decide (d.Short>0)) (prC d ++(⟨#[45]⟩++iH d.Short)) (prC d)
def prE (d:Delivery):ByteArray:=cb d.Crossed (prD d ++⟨#[120]⟩) (prD d)
def prF (d:Delivery):ByteArray:=prE d++lJ d
def prG (d:Delivery):ByteArray:=cb (decide (d.Sector>0)) (prF d ++(⟨#[64]⟩++iH d.Sector)) (prF d)
def prS (d:Delivery):ByteArray:=if bd d != 0 then ⟨#[]⟩ else prG d
def Dq:Den (tyP qD)→List Prop×Den (tyP AY):=fun x=>([],(prS x.1,bd x.1,()))
abbrev qTS:Pat:=cW [U8,U8]
abbrev qT:Pat:=cW [U8]
def Kh:Den (tyP qT)→List Prop×Den (tyP aU):=fun x=>([],(ns x.1,()))
def Ke:Den (tyP qTS)→List Prop×Den (tyP aU):=fun x=>([],(dJ x.1 x.2.1,()))
theorem R6 {n:Nm} {x:n.T} (h:wfD (.nm n) x):wfD n.flds (n.to x):=by
 obtain ⟨S,w,cs,h⟩:=h
 cases h with
 | nm h=>exact ⟨_,_,_,h⟩
theorem Qp {k:IntKind} {n:Int} (h:wfD (.int k) n):Mir.ok k n:=by
 obtain ⟨S,w,cs,h⟩:=h
 cases h with
 | int h=>exact h
theorem KL {d:Delivery} (h:wfD (.nm .Delivery) d):0≤d.How:=by
 have h1:wfD (.prod (.int .u8) (.prod (.int .u8) (.prod I (.prod I (.prod I (.prod .bool (.prod (.int .u8) (.prod I (.prod I (.prod I (.prod .bool (.prod I .unit)))))))))))) (d.Typ,d.Source,d.Runs,d.Short,d.Boundary,d.Crossed,d.How,d.Victim,d.Fielder,d.Second,d.Sub,d.Sector,()):=R6 h
 exact (Qp (nv (nw (nw (nw (nw (nw (nw h1)))))))).1
theorem dw {d:Delivery} (h:bd d=0) :(1≤d.Typ∧d.Typ≤3)∧d.Source≤3∧d.How≤10∧(0≤d.Fielder∧d.Fielder≤11)∧(0≤d.Second∧d.Second≤11):=by
 unfold bd at h
 split at h
 ·cases h
 ·rename_i h1
  split at h
  ·cases h
  ·rename_i h2
   simp [inW] at h1 h2
   omega
theorem wa (t s:Int) :(dJ t s).size≤1:=by
 unfold dJ
 repeat' split
 all_goals exact Nat.le_of_ble_eq_true rfl
theorem we (t:Int) :(ns t).size≤1:=by
 unfold ns
 repeat' split
 all_goals exact Nat.le_of_ble_eq_true rfl
theorem dE (n:Int) :(iH n).size≤4:=QS _
theorem BJ {d:Delivery} (h:FP d) :(lJ d).size≤500:=by
 obtain ⟨⟨h0,h1⟩,hf,hs⟩:=h
 have one :∀ c:UInt8,(ByteArray.mk #[c]).size=1:=fun _=>rfl
 have zh :(xD d.How).size≤11:=by
  have:lets.size=11:=rfl
  unfold xD;rw [ByteArray.size_extract];omega
 have zd:=dE d.Victim
 have zf:=qU hf
 have zs:=qU hs
 have z1 :(qn d).size≤16:=by unfold qn;rw [ByteArray.size_append,ByteArray.size_append,one];omega
 have z2 :(yE d).size≤217:=by unfold yE;rw [ByteArray.size_append,ByteArray.size_append,one];omega
 have z3 :(tv d).size≤418:=by
  unfold tv
  split
  ·rw [ByteArray.size_append,ByteArray.size_append,one];omega
  ·omega
 have z4 :(tx d).size≤419:=by
  unfold tx
  split
  ·rw [ByteArray.size_append,one];omega
  ·omega
 unfold lJ
 split
 ·exact Nat.zero_le _
 ·split
  ·rw [ByteArray.size_append,one];omega
  ·omega
theorem ej {b:Bool} {x y:ByteArray} {n:Nat} (hx:x.size≤n) (hy:y.size≤n) :(cb b x y).size≤n:=by cases b <;> assumption
theorem Gz (d:Delivery) (hp:0≤d.How) :(evPat (ax [Em,zQ,qA,zR] Tryz.f87) (fun _=>none) Tryz.f87 qD AY (d,())).sat fun z_=>z_ =(Dq (d,())).2:=by
 refine cast (by kernel_rfl) (?_:let r1:Int:=IntKind.u8.wrap (d.1 - (1:Int));let r2:Bool:=decide (d.4 >(0:Int));let r3:Bool:=decide (d.12 >(0:Int));let r4:ByteArray:=ByteArray.mk #[45]++iH d.4;let r5:ByteArray:=ByteArray.mk #[64]++iH d.12;let r6:List ByteArray:= [ByteArray.mk #[],ByteArray.mk #[119],ByteArray.mk #[110]];let r7:ByteArray:=r6.getD r1.toNat (dflt Ty.str);let r8:Bool:=bif decide (d.3 >(0:Int)) then true else bif (dJ d.1 d.2).toList ==(ByteArray.mk #[]).toList then bif d.5 ==(0:Int) then d.1 !=(2:Int) else false else false;let r9:ByteArray:=r7++dJ d.1 d.2;let r10:ByteArray:=bif r8 then r9++iH d.3 else r9;let r11:ByteArray:=bif d.5 ==(4:Int) then r10++ByteArray.mk #[70] else bif d.5 ==(6:Int) then r10++ByteArray.mk #[83] else r10;let r12:ByteArray:=bif r2 then r11++r4 else r11;let r13:ByteArray:=bif d.6 then r12++ByteArray.mk #[120] else r12;let r14:ByteArray:=r13++lJ d;((bd d !=(0:Int))=true→(ByteArray.mk #[],bd d,()) =(prS d,bd d,()))∧((bd d !=(0:Int))=false→((0:Int)≤r1∧r1 <(↑r6.length:Int))∧r7.size +(dJ d.1 d.2).size≤ai∧((r8=true→r9.size +(iH d.3).size≤ai∧True)∧(r8=false→True))∧(true=true→(((d.5 ==(4:Int))=true→r10.size +(ByteArray.mk #[70]).size≤ai∧True)∧((d.5 ==(4:Int))=false→((d.5 ==(6:Int))=true→r10.size +(ByteArray.mk #[83]).size≤ai∧True)∧((d.5 ==(6:Int))=false→True)))∧(true=true→((r2=true→(ByteArray.mk #[45]).size +(iH d.4).size≤ai∧r11.size+r4.size≤ai∧True)∧(r2=false→True))∧(true=true→((d.6=true→r12.size +(ByteArray.mk #[120]).size≤ai∧True)∧(d.6=false→True))∧(true=true→FP d∧r13.size +(lJ d).size≤ai∧((r3=true→(ByteArray.mk #[64]).size +(iH d.12).size≤ai∧r14.size+r5.size≤ai∧True)∧(r3=false→True))∧(true=true→(bif r3 then r14++r5 else r14,(0:Int),()) =(prS d,bd d,()))))))))
 intro r1 r2 r3 r4 r5 r6 r7 r8 r9 r10 r11 r12 r13 r14
 clear_value (hr1:r1=_) (hr2:r2=_) (hr3:r3=_) (hr4:r4=_) (hr5:r5=_) (hr6:r6=_) (hr7:r7=_) (hr8:r8=_) (hr9:r9=_) (hr10:r10=_) (hr11:r11=_) (hr12:r12=_) (hr13:r13=_) (hr14:r14=_)
 refine ⟨fun h=>by unfold prS;rw [if_pos h],fun h=>?_⟩
 have hF:bd d=0:=by simpa using h
 obtain ⟨⟨t1,t3⟩,s3,ho,⟨f0,f1⟩,k0,k1⟩:=dw hF
 have hD:FP d:=⟨⟨hp,ho⟩,⟨f0,by omega⟩,⟨k0,by omega⟩⟩
 have e1:r1=d.Typ - 1:=by
  rw [hr1]
  simp only [IntKind.wrap,IntKind.bits,IntKind.signed]
  simp
  omega
 have e6:r6.length=3:=by rw [hr6];rfl
 have e7:r7=ns d.Typ:=by
  rw [hr7,e1,hr6]
  rcases (by omega:d.Typ=1∨d.Typ=2∨d.Typ=3) with h|h|h <;> rw [h] <;> rfl
 have one :∀ c:UInt8,(ByteArray.mk #[c]).size=1:=fun _=>rfl
 have hL :(2000:Nat)≤ai:=by decide
 have zt:=we d.Typ
 have zs:=wa d.Typ d.Source
 have zr:=dE d.Runs
 have zh:=dE d.Short
 have zx:=dE d.Sector
 have zw:=BJ hD
 have e9:r9=prA d:=by rw [hr9,e7];rfl
 have e8:r8=Br d (dJ d.Typ d.Source):=by
  rw [hr8];unfold Br
  cases decide (d.Runs>0) <;> cases (dJ d.Typ d.Source).toList ==(ByteArray.mk #[]).toList <;> cases d.Boundary==0 <;> rfl
 have e10:r10=prB d:=by rw [hr10,e8,e9];rfl
 have e11:r11=prC d:=by rw [hr11,e10];rfl
 have e12:r12=prD d:=by rw [hr12,e11,hr2,hr4];rfl
 have e13:r13=prE d:=by rw [hr13,e12];rfl
 have e14:r14=prF d:=by rw [hr14,e13];rfl
 have z4:r4.size≤5:=by rw [hr4,ByteArray.size_append,one];omega
 have z5:r5.size≤5:=by rw [hr5,ByteArray.size_append,one];omega
 have zA :(prA d).size≤2:=by unfold prA;rw [ByteArray.size_append];omega
 have zB :(prB d).size≤6:=ej (by rw [ByteArray.size_append];omega) (by omega)
 have zC :(prC d).size≤7:=ej (by rw [ByteArray.size_append,one];omega) (ej (by rw [ByteArray.size_append,one];omega) (by omega))
 have zD :(prD d).size≤12:=ej (by rw [ByteArray.size_append,ByteArray.size_append,one];omega) (by omega)
 have zE :(prE d).size≤13:=ej (by rw [ByteArray.size_append,one];omega) (by omega)
 have zF :(prF d).size≤513:=by unfold prF;rw [ByteArray.size_append];omega
 have eS:prS d=prG d:=by unfold prS;rw [hF];rfl
 rw [e7,e9,e10,e11,e12,e13,e14,eS,hF]
 refine ⟨⟨by omega,by omega⟩,by omega,⟨fun _=>⟨by omega,trivial⟩,fun _=>trivial⟩,fun _=>⟨⟨fun _=>⟨by rw [one];omega,trivial⟩,fun _=>⟨fun _=>⟨by rw [one];omega,trivial⟩,fun _=>trivial⟩⟩,fun _=>⟨⟨fun _=>⟨by rw [one];omega,by omega,trivial⟩,fun _=>trivial⟩,fun _=>⟨⟨fun _=>⟨by rw [one];omega,trivial⟩,fun _=>trivial⟩,fun _=>⟨hD,by omega,⟨fun _=>⟨by rw [one];omega,by omega,trivial⟩,fun _=>trivial⟩,fun _=>?_⟩⟩⟩⟩⟩
 rw [hr3,hr5];rfl
def Eo:FuncId×Ctr:=(87,ae KE qD AY Dq)
theorem Ju:CtrOK Tryz.prog KE 87 (ae KE qD AY Dq):=by
 refine aE (C:=ax [Em,zQ,qA,zR] Tryz.f87) (au (.consU Js rfl (.consU Gb rfl (.consU AB rfl (.consU Gc rfl .nil)))) _) mixed (fn:=Tryz.f87) Tryz.func87 (by kernel_rfl) (by kernel_rfl) (by kernel_rfl) (by kernel_rfl) (by kernel_rfl) (by kernel_rfl) (Λ:=fun _ _=>none) ?_ ?_
 ·exact fun _ _ _ _ _ _ _ _ h=>by cases h
 ·rintro ⟨d,⟨⟩⟩ hw hn
  exact Gz d (KL (nv hw))
theorem Bm (t:Int) :(evPat (ax [] Tryz.f157) (fun _=>none) Tryz.f157 qT aU (t,())).sat fun z_=>z_ =(Kh (t,())).2:=by
 refine cast (by kernel_rfl) (?_ :((t ==(2:Int))=true→(ByteArray.mk #[119],()) =(ns t,()))∧((t ==(2:Int))=false→((t ==(3:Int))=true→(ByteArray.mk #[110],()) =(ns t,()))∧((t ==(3:Int))=false→(ByteArray.mk #[],()) =(ns t,()))))
 unfold ns
 cases h2:t==2 <;> cases h3:t==3 <;> simp [h2,h3]
def vm:FuncId×Ctr:=(157,ae KE qT aU Kh)
theorem CJ:CtrOK Tryz.prog KE 157 (ae KE qT aU Kh):=by
 refine aE (C:=ax [] Tryz.f157) (au (CtrsOK.nil) _) mixed (fn:=Tryz.f157) Tryz.func157 (by kernel_rfl) (by kernel_rfl) (by kernel_rfl) (by kernel_rfl) (by kernel_rfl) (by kernel_rfl) (Λ:=fun _ _=>none) ?_ ?_
 ·exact fun _ _ _ _ _ _ _ _ h=>by cases h
 ·rintro ⟨t,⟨⟩⟩ hw hn
  exact Bm t
theorem tY (t:Int) (s:Int) :(evPat (ax [] Tryz.f156) (fun _=>none) Tryz.f156 qTS aU (t,s,())).sat fun z_=>z_ =(Ke (t,s,())).2:=by
 refine cast (by kernel_rfl) (?_:let r1:Bool:=bif t ==(2:Int) then s ==(1:Int) else false;let r2:Bool:=bif t !=(2:Int) then s ==(0:Int) else false;((s ==(2:Int))=true→(ByteArray.mk #[98],()) =(dJ t s,()))∧((s ==(2:Int))=false→((s ==(3:Int))=true→(ByteArray.mk #[108],()) =(dJ t s,()))∧((s ==(3:Int))=false→(r1=true→(ByteArray.mk #[111],()) =(dJ t s,()))∧(r1=false→(r2=true→(ByteArray.mk #[46],()) =(dJ t s,()))∧(r2=false→(ByteArray.mk #[],()) =(dJ t s,()))))))
 intro r1 r2
 clear_value (hr1:r1=_) (hr2:r2=_)
 unfold dJ
 cases h0:s==0 <;> cases h1:s==1 <;> cases h2:s==2 <;> cases h3:s==3 <;> cases ht:t==2 <;> simp_all [bne]
def pQ:FuncId×Ctr:=(156,ae KE qTS aU Ke)
theorem xZ:CtrOK Tryz.prog KE 156 (ae KE qTS aU Ke):=by
 refine aE (C:=ax [] Tryz.f156) (au (CtrsOK.nil) _) mixed (fn:=Tryz.f156) Tryz.func156 (by kernel_rfl) (by kernel_rfl) (by kernel_rfl) (by kernel_rfl) (by kernel_rfl) (by kernel_rfl) (Λ:=fun _ _=>none) ?_ ?_
 ·exact fun _ _ _ _ _ _ _ _ h=>by cases h
 ·rintro ⟨t,s,⟨⟩⟩ hw hn
  exact tY t s
end Go.Proofs.YtffdpnmioidloaaGreatDoor
namespace Go.Proofs.YtffdpnmioidloaaGreatDoor
open Go Go.Mir
attribute [local irreducible] Go.Mir.DT.sat Go.Mir.evPat Go.Mir.RT.sat Go.Mir.evFn
def DE (w:Int):Prop:=w=1
def yk:Den (tyP qIb)→List Prop×Den (tyP aU):=fun x=>([dq x.1,DE x.2.1],(bF x.1,()))
abbrev qPd:Pat:=⟨[(1,.h I),(5,.h .str),(6,.h (.int .u64)),(7,.h .str),(8,.h .str)],[],0⟩
abbrev xPd:List (Lf×Pat):= [(.ext 0,⟨[(5,.h .str),(8,.h .str)],[],0⟩)]
abbrev TPd:Type:=Int×ByteArray×Int×ByteArray×ByteArray×Unit
def dgs10:ByteArray:=⟨#[48,49,50,51,52,53,54,55,56,57]⟩
def dg1 (n:Int):ByteArray:=dgs10.extract n.toNat (n+1).toNat
def ql (u:Int) (s:ByteArray):ByteArray:=if decide (u≥10) then dg1 (u / 10) ++(dg1 (u % 10)++s) else if decide (u>0)||decide ((s.size:Int)<1) then dg1 u++s else s
def uV (x:TPd):Prop:=x.1=1∧(0≤x.2.2.1∧x.2.2.1<100)∧x.2.2.2.1=dgs10∧(x.2.2.2.2.1.size:Int)+x.2.2.1≤200
def Ja (x:TPd):Nat:=x.2.2.1.toNat +(if x.2.2.2.2.1.size=0 then 1 else 0)
def qd (x:TPd):ByteArray×ByteArray×Unit:=(x.2.1,ql x.2.2.1 x.2.2.2.2.1,())
def sQ:Den (tyP qD)→List Prop×Den (tyP AY):=fun x=>([],(prS x.1,bd x.1,()))
theorem b9 {a b:ByteArray} (h:a.data.toList=b.data.toList):a=b:=ByteArray.ext (Array.toList_inj.1 h)
theorem FI (a:ByteArray):ByteArray.mk #[]++a=a:=b9 (by simp [ByteArray.data_append])
theorem ui (a:ByteArray):a++ByteArray.mk #[]=a:=b9 (by simp [ByteArray.data_append])
theorem nB {n:Int} (h0:0≤n) (h1:n≤9):iH n=bF n:=by
 have key :((List.range 10).all fun k=>(iH (k:Int)).data.toList ==(bF (k:Int)).data.toList)=true:=by kernel_rfl
 have:=List.all_eq_true.1 key n.toNat (List.mem_range.2 (by omega))
 rw [show ((n.toNat:Nat):Int)=n from by omega] at this
 exact b9 (eq_of_beq this)
theorem Mb {n:Int} (h:dq n):ql n ⟨#[]⟩=bF n:=by
 have key :((List.range 100).all fun k=>(ql (k:Int) ⟨#[]⟩).data.toList ==(bF (k:Int)).data.toList)=true:=by kernel_rfl
 have:=List.all_eq_true.1 key n.toNat (List.mem_range.2 (by have:=h.1;have:=h.2;omega))
 rw [show ((n.toNat:Nat):Int)=n from by have:=h.1;omega] at this
 exact b9 (eq_of_beq this)
theorem Hx {n:Int} (h0:0≤n) (h1:n≤9) :(dg1 n).size=1:=by
 have:dgs10.size=10:=rfl
 unfold dg1;rw [ByteArray.size_extract];omega
theorem KO {n:Int} (h0:0≤n) (h1:n<18446744073709551616):IntKind.u64.wrap n=n:=by
 simp only [IntKind.wrap,IntKind.bits,IntKind.signed]
 simp
 omega
theorem cN {d:Delivery} (h:bd d=0) :(0≤d.Runs∧d.Runs≤7)∧(0≤d.Short∧d.Short≤7)∧(0≤d.Victim∧d.Victim≤2)∧(0≤d.Sector∧d.Sector≤8):=by
 unfold bd at h
 split at h
 ·cases h
 ·rename_i h1
  split at h
  ·cases h
  ·rename_i h2
   simp [inW] at h1 h2
   omega
noncomputable def lpPd:Lp:=(⟨0,ax [] Tryz.f121,(fun _=>none),(bf Tryz.f121 0),qPd,xPd⟩:Lp)
theorem P7 (w:Int) (sg:ByteArray) (u:Int) (dg:ByteArray) (s:ByteArray) (hi:uV (w,sg,u,dg,s,())) :(Go.Mir.stepG lpPd qd (fun y:Den (tyP lpPd.q)=>uV y∧Ja y<Ja (w,sg,u,dg,s,())) (w,sg,u,dg,s,())∧Go.Mir.stepE lpPd qd (w,sg,u,dg,s,())=qd (w,sg,u,dg,s,())):=by
 refine cast (by kernel_rfl) (?_:let r1:Int:=IntKind.u64.wrap (u.tmod (10:Int) +(1:Int));let r2:Int:=if (20:Int)<w then (20:Int) else w;let r3:ByteArray:=dg.extract (u.tmod (10:Int)).toNat r1.toNat;let r4:Int:=if r2 >(1:Int) then r2 else (1:Int);let r5:Bool:=bif decide (u >(0:Int)) then true else decide ((↑s.size:Int)<r4);((r5=true→(10:Int)≠(0:Int)∧(10:Int)≠(0:Int)∧((0:Int)≤u.tmod (10:Int)∧u.tmod (10:Int)≤r1∧r1≤(↑dg.size:Int))∧r3.size+s.size≤ai∧(10:Int)≠(0:Int)∧uV (w,sg,IntKind.u64.wrap (u.tdiv (10:Int)),dg,r3++s,())∧Ja (w,sg,IntKind.u64.wrap (u.tdiv (10:Int)),dg,r3++s,())<Ja (w,sg,u,dg,s,()))∧(r5=false→True))∧(bif r5 then qd (w,sg,IntKind.u64.wrap (u.tdiv (10:Int)),dg,r3++s,()) else (sg,s,()))=qd (w,sg,u,dg,s,()))
 intro r1 r2 r3 r4 r5
 clear_value (hr1:r1=_) (hr2:r2=_) (hr3:r3=_) (hr4:r4=_) (hr5:r5=_)
 obtain ⟨h1,⟨h2,h3⟩,h4,h5⟩:=hi
 have h1:w=1:=h1
 have h2:0≤u:=h2
 have h3:u<100:=h3
 have h4:dg=dgs10:=h4
 have h5 :(s.size:Int)+u≤200:=h5
 have et:u.tmod 10=u % 10:=Int.tmod_eq_emod_of_nonneg h2
 have ed:u.tdiv 10=u / 10:=Int.tdiv_eq_ediv_of_nonneg h2
 rw [ed]
 rw [et] at hr1 hr3 ⊢
 have e1:r1=u % 10+1:=by rw [hr1];exact KO (by omega) (by omega)
 have e2:r2=1:=by rw [hr2,h1];rfl
 have e4:r4=1:=by rw [hr4,e2];rfl
 have e3:r3=dg1 (u % 10):=by rw [hr3,e1,h4];rfl
 have z3:=Hx (n:=u % 10) (by omega) (by omega)
 have zs :(r3++s).size=1+s.size:=by rw [ByteArray.size_append,e3,z3]
 have eW:IntKind.u64.wrap (u / 10)=u / 10:=KO (by omega) (by omega)
 have hL :(500:Nat)≤ai:=by decide
 have e5:r5 =(decide (u>0)||decide ((s.size:Int)<1)):=by rw [hr5,e4];cases decide (u>0) <;> rfl
 have hc:r5=true→u>0∨(s.size:Int)<1:=fun h=>by rw [e5] at h;simpa using h
 have z10 :(dgs10.size:Int)=10:=rfl
 rw [eW]
 refine ⟨⟨fun h=>⟨by decide,by decide,⟨by omega,by omega,by rw [h4];omega⟩,by rw [e3,z3];omega,by decide,⟨h1,⟨by show 0≤u / 10;omega,by show u / 10<100;omega⟩,h4,?_⟩,?_⟩,fun _=>trivial⟩,?_⟩
 ·show ((r3++s).size:Int)+u / 10≤200
  rw [zs]
  rcases hc h with h|h <;> omega
 ·show (u / 10).toNat +(if (r3++s).size=0 then 1 else 0)<u.toNat +(if s.size=0 then 1 else 0)
  rw [zs,if_neg (by omega)]
  rcases hc h with h|h
  ·omega
  ·rw [if_pos (by omega)];omega
 ·cases hb:r5 with
  | true=>
   have hc:=hc hb
   show (sg,ql (u / 10) (r3++s),()) =(sg,ql u s,())
   have:ql (u / 10) (r3++s)=ql u s:=by
    unfold ql
    by_cases h10:u≥10
    ·rw [decide_eq_true h10,decide_eq_false (show ¬ u / 10≥10 by omega),decide_eq_true (show u / 10>0 by omega),e3]
     simp
    ·have hu:u / 10=0:=by omega
     have hm:u % 10=u:=by omega
     rw [e5] at hb
     rw [decide_eq_false h10,hu,decide_eq_false (show ¬(0:Int)≥10 by decide),hb,decide_eq_false (show ¬(0:Int)>0 by decide),decide_eq_false (show ¬((r3++s).size:Int)<1 by rw [zs];omega),e3,hm]
     simp
   rw [this]
  | false=>
   rw [e5] at hb
   have hb':=hb
   simp only [Bool.or_eq_false_iff,decide_eq_false_iff_not] at hb'
   show (sg,s,()) =(sg,ql u s,())
   have:ql u s=s:=by
    unfold ql
    rw [decide_eq_false (show ¬ u≥10 by omega),hb]
    simp
   rw [this]
noncomputable def NN:LoopSum:=az lpPd qd uV
noncomputable def Nr:Nat:=rid (bf Tryz.f121 0)
theorem O2:LoopOKp Tryz.prog 0 Tryz.f121.ntmps (bf Tryz.f121 0) (az lpPd qd uV):=
 aY lpPd (au (CtrsOK.nil) _) mixed (fun b hb S hS=>by cases hS) qd uV Ja (fun |⟨w,sg,u,dg,s,⟨⟩⟩,hi=>P7 w sg u dg s hi)
theorem Bi (n:Int) (w:Int) (hk:dq n) (hw1:DE w) :(evPat (ax [] Tryz.f121) (find [(Nr,NN)]) Tryz.f121 qIb aU (n,w,())).sat fun z_=>z_ =(yk (n,w,())).2:=by
 refine cast (by kernel_rfl) (?_:let r1:Bool:=decide (n <(0:Int));let r2:ByteArray:=bif r1 then ByteArray.mk #[45] else ByteArray.mk #[];let r3:Int:=bif r1 then IntKind.u64.wrap ((0:Int) - IntKind.u64.wrap n) else IntKind.u64.wrap n;let r4:ByteArray:=ql r3 (ByteArray.mk #[]);((ij fun x=>none)∧w =(1:Int)∧((0:Int)≤r3∧r3 <(100:Int))∧ByteArray.mk #[48,49,50,51,52,53,54,55,56,57]=dgs10∧(↑(ByteArray.mk #[]).size:Int)+r3≤(200:Int))∧r2.size+r4.size≤ai∧(r2++r4,()) =(bF n,()))
 intro r1 r2 r3 r4
 clear_value (hr1:r1=_) (hr2:r2=_) (hr3:r3=_) (hr4:r4=_)
 obtain ⟨k0,k1⟩:=hk
 have e1:r1=false:=by rw [hr1];exact decide_eq_false (by omega)
 have e2:r2=ByteArray.mk #[]:=by rw [hr2,e1];rfl
 have e3:r3=n:=by rw [hr3,e1];exact KO k0 (by omega)
 have e4:r4=bF n:=by rw [hr4,e3];exact Mb ⟨k0,k1⟩
 have z:=qU ⟨k0,k1⟩
 have hL :(500:Nat)≤ai:=by decide
 rw [e2,e3,e4,FI]
 exact ⟨⟨rfl,hw1,⟨k0,k1⟩,rfl,by show (0:Int)+n≤200;omega⟩,by show 0+_≤_;omega,rfl⟩
def vk:FuncId×Ctr:=(121,ae KE qIb aU yk)
theorem CI:CtrOK Tryz.prog KE 121 (ae KE qIb aU yk):=by
 refine aE (C:=ax [] Tryz.f121) (au (CtrsOK.nil) _) mixed (fn:=Tryz.f121) Tryz.func121 (by kernel_rfl) (by kernel_rfl) (by kernel_rfl) (by kernel_rfl) (by kernel_rfl) (by kernel_rfl) (Λ:=fun x=>find [(Nr,NN)]) ?_ ?_
 ·rintro ⟨n,w,⟨⟩⟩ hw hn
  exact LoopsOKp.at (by kernel_rfl) (.cons (by kernel_rfl) (O2) .nil)
 ·rintro ⟨n,w,⟨⟩⟩ hw hn
  exact Bi n w (hn _ List.mem_cons_self) (hn _ (List.mem_cons_of_mem _ List.mem_cons_self))
theorem yh (n:Int) (hk:dq n) :(evPat (ax [vk] Tryz.f71) (fun _=>none) Tryz.f71 lB aU (n,())).sat fun z_=>z_ =(gC (n,())).2:=by
 refine cast (by kernel_rfl) (?_:dq n∧DE (1:Int)∧(bF n,()) =(bF n,()))
 exact ⟨hk,rfl,rfl⟩
def rT:FuncId×Ctr:=(71,ae KE lB aU gC)
theorem AC:CtrOK Tryz.prog KE 71 (ae KE lB aU gC):=by
 refine aE (C:=ax [vk] Tryz.f71) (au (.consU CI rfl .nil) _) mixed (fn:=Tryz.f71) Tryz.func71 (by kernel_rfl) (by kernel_rfl) (by kernel_rfl) (by kernel_rfl) (by kernel_rfl) (by kernel_rfl) (Λ:=fun _ _=>none) ?_ ?_
 ·exact fun _ _ _ _ _ _ _ _ h=>by cases h
 ·rintro ⟨n,⟨⟩⟩ hw hn
  exact yh n (hn _ List.mem_cons_self)
theorem J4 (n:Int) (hk:dq n) :(evPat (ax [rT] Tryz.f158) (fun _=>none) Tryz.f158 lB aU (n,())).sat fun z_=>z_ =(gC (n,())).2:=by
 refine cast (by kernel_rfl) (?_:dq n∧(bF n,()) =(bF n,()))
 exact ⟨hk,rfl⟩
def ID:FuncId×Ctr:=(158,ae KE lB aU gC)
theorem L0:CtrOK Tryz.prog KE 158 (ae KE lB aU gC):=by
 refine aE (C:=ax [rT] Tryz.f158) (au (.consU AC rfl .nil) _) mixed (fn:=Tryz.f158) Tryz.func158 (by kernel_rfl) (by kernel_rfl) (by kernel_rfl) (by kernel_rfl) (by kernel_rfl) (by kernel_rfl) (Λ:=fun _ _=>none) ?_ ?_
 ·exact fun _ _ _ _ _ _ _ _ h=>by cases h
 ·rintro ⟨n,⟨⟩⟩ hw hn
  exact J4 n (hn _ List.mem_cons_self)
theorem Dk (d:Delivery) (hp:0≤d.How) :(evPat (ax [zT,vm,pQ,ID] Tryz.f89) (fun _=>none) Tryz.f89 qD AY (d,())).sat fun z_=>z_ =(sQ (d,())).2:=by
 refine cast (by kernel_rfl) (?_:let r1:ByteArray:=ns d.1++dJ d.1 d.2;let r2:Int:=IntKind.u8.wrap (d.7 +(1:Int));let r3:Bool:=decide (d.4 >(0:Int));let r4:Bool:=decide (d.12 >(0:Int));let r5:ByteArray:=ByteArray.mk #[45]++bF d.4;let r6:ByteArray:=ByteArray.mk #[40]++bF d.9;let r7:ByteArray:=ByteArray.mk #[44]++bF d.10;let r8:ByteArray:=ByteArray.mk #[64]++bF d.12;let r9:Bool:=bif d.9 !=(0:Int) then true else bif d.10 !=(0:Int) then true else d.11;let r10:Bool:=bif d.7 !=(0:Int) then true else bif d.8 !=(0:Int) then true else r9;let r11:Bool:=bif decide (d.3 >(0:Int)) then true else bif (dJ d.1 d.2).toList ==(ByteArray.mk #[]).toList then bif d.5 ==(0:Int) then d.1 !=(2:Int) else false else false;let r12:ByteArray:=ByteArray.mk #[78,66,67,76,83,72,82,84,79,77,81];let r13:ByteArray:=r12.extract d.7.toNat r2.toNat;let r14:ByteArray:=bif r11 then r1++bF d.3 else r1;let r15:ByteArray:=ByteArray.mk #[47]++r13;let r16:ByteArray:=r15++bF d.8;let r17:ByteArray:=bif d.5 ==(4:Int) then r14++ByteArray.mk #[70] else bif d.5 ==(6:Int) then r14++ByteArray.mk #[83] else r14;let r18:ByteArray:=bif r3 then r17++r5 else r17;let r19:ByteArray:=bif d.6 then r18++ByteArray.mk #[120] else r18;let r20:ByteArray:=r19++r16;let r21:ByteArray:=r20++r6;let r22:ByteArray:=bif d.10 !=(0:Int) then r21++r7 else r21;let r23:ByteArray:=bif d.11 then r22++ByteArray.mk #[115] else r22;let r24:ByteArray:=bif r10 then bif r9 then r23++ByteArray.mk #[41] else r20 else r19;((bd d !=(0:Int))=true→(ByteArray.mk #[],bd d,()) =(prS d,bd d,()))∧((bd d !=(0:Int))=false→(ns d.1).size +(dJ d.1 d.2).size≤ai∧((r11=true→dq d.3∧r1.size +(bF d.3).size≤ai∧True)∧(r11=false→True))∧(true=true→(((d.5 ==(4:Int))=true→r14.size +(ByteArray.mk #[70]).size≤ai∧True)∧((d.5 ==(4:Int))=false→((d.5 ==(6:Int))=true→r14.size +(ByteArray.mk #[83]).size≤ai∧True)∧((d.5 ==(6:Int))=false→True)))∧(true=true→((r3=true→dq d.4∧(ByteArray.mk #[45]).size +(bF d.4).size≤ai∧r17.size+r5.size≤ai∧True)∧(r3=false→True))∧(true=true→((d.6=true→r18.size +(ByteArray.mk #[120]).size≤ai∧True)∧(d.6=false→True))∧(true=true→((r10=true→((0:Int)≤d.7∧d.7≤r2∧r2≤(↑r12.size:Int))∧(ByteArray.mk #[47]).size+r13.size≤ai∧dq d.8∧r15.size +(bF d.8).size≤ai∧r19.size+r16.size≤ai∧(r9=true→dq d.9∧(ByteArray.mk #[40]).size +(bF d.9).size≤ai∧r20.size+r6.size≤ai∧(((d.10 !=(0:Int))=true→dq d.10∧(ByteArray.mk #[44]).size +(bF d.10).size≤ai∧r21.size+r7.size≤ai∧True)∧((d.10 !=(0:Int))=false→True))∧(true=true→((d.11=true→r22.size +(ByteArray.mk #[115]).size≤ai∧True)∧(d.11=false→True))∧(true=true→r23.size +(ByteArray.mk #[41]).size≤ai∧True)))∧(r9=false→True))∧(r10=false→True))∧((bif r10 then bif r9 then true&&true else true else true)=true→((r4=true→dq d.12∧(ByteArray.mk #[64]).size +(bF d.12).size≤ai∧r24.size+r8.size≤ai∧True)∧(r4=false→True))∧(true=true→(bif r4 then r24++r8 else r24,(0:Int),()) =(prS d,bd d,())))))))))
 intro r1 r2 r3 r4 r5 r6 r7 r8 r9 r10 r11 r12 r13 r14 r15 r16 r17 r18 r19 r20 r21 r22 r23 r24
 clear_value (hr1:r1=_) (hr2:r2=_) (hr3:r3=_) (hr4:r4=_) (hr5:r5=_) (hr6:r6=_) (hr7:r7=_) (hr8:r8=_) (hr9:r9=_) (hr10:r10=_) (hr11:r11=_) (hr12:r12=_) (hr13:r13=_) (hr14:r14=_) (hr15:r15=_) (hr16:r16=_) (hr17:r17=_) (hr18:r18=_) (hr19:r19=_) (hr20:r20=_) (hr21:r21=_) (hr22:r22=_) (hr23:r23=_) (hr24:r24=_)
 refine ⟨fun h=>by unfold prS;rw [if_pos h],fun h=>?_⟩
 have hF:bd d=0:=by simpa using h
 obtain ⟨⟨t1,t3⟩,s3,ho,⟨f0,f1⟩,k0,k1⟩:=dw hF
 obtain ⟨⟨a0,a1⟩,⟨b0,b1⟩,⟨c0,c1⟩,g0,g1⟩:=cN hF
 have nR:dq d.Runs:=⟨a0,by omega⟩
 have nS:dq d.Short:=⟨b0,by omega⟩
 have nV:dq d.Victim:=⟨c0,by omega⟩
 have nX:dq d.Sector:=⟨g0,by omega⟩
 have nF:dq d.Fielder:=⟨f0,by omega⟩
 have nG:dq d.Second:=⟨k0,by omega⟩
 have hD:FP d:=⟨⟨hp,ho⟩,nF,nG⟩
 have e2:r2=d.How+1:=by
  rw [hr2]
  simp only [IntKind.wrap,IntKind.bits,IntKind.signed]
  simp
  omega
 have eR:=nB a0 (by omega)
 have eSh:=nB b0 (by omega)
 have eV:=nB c0 (by omega)
 have eX:=nB g0 (by omega)
 rw [←eR] at hr14
 rw [←eSh] at hr5
 rw [←eV] at hr16
 rw [←eX] at hr8
 have one :∀ c:UInt8,(ByteArray.mk #[c]).size=1:=fun _=>rfl
 have hL :(5000:Nat)≤ai:=by decide
 have zt:=we d.Typ
 have zs:=wa d.Typ d.Source
 have zr:=qU nR
 have zh:=qU nS
 have zv:=qU nV
 have zx:=qU nX
 have zf:=qU nF
 have zg:=qU nG
 have zw:=BJ hD
 have z12:r12.size=11:=by rw [hr12];rfl
 have e1:r1=prA d:=hr1
 have e11:r11=Br d (dJ d.Typ d.Source):=by
  rw [hr11];unfold Br
  cases decide (d.Runs>0) <;> cases (dJ d.Typ d.Source).toList ==(ByteArray.mk #[]).toList <;> cases d.Boundary==0 <;> rfl
 have e14:r14=prB d:=by rw [hr14,e11,e1];rfl
 have e17:r17=prC d:=by rw [hr17,e14];rfl
 have e18:r18=prD d:=by rw [hr18,e17,hr3,hr5];rfl
 have e19:r19=prE d:=by rw [hr19,e18];rfl
 have e13:r13=xD d.How:=by rw [hr13,e2,hr12];rfl
 have e16:r16=qn d:=by rw [hr16,hr15,e13];rfl
 have e9:r9=gS d:=by rw [hr9];unfold gS;cases d.Fielder != 0 <;> cases d.Second != 0 <;> rfl
 have e20:r20=prE d++qn d:=by rw [hr20,e19,e16]
 have e21:r21=prE d++yE d:=by rw [hr21,e20,hr6,ByteArray.append_assoc];rfl
 have e22:r22=prE d++tv d:=by
  rw [hr22,e21,hr7];unfold tv
  cases d.Second != 0
  ·rfl
  ·exact ByteArray.append_assoc
 have e23:r23=prE d++tx d:=by
  rw [hr23,e22];unfold tx
  cases d.Sub
  ·rfl
  ·exact ByteArray.append_assoc
 have e10:r10=!(d.How==0&&(d.Victim==0&&!gS d)):=by rw [hr10,e9];cases hh:d.How==0 <;> cases hv:d.Victim==0 <;> simp [bne,hh,hv]
 have e24:r24=prF d:=by
  rw [hr24,e10,e9,e19,e20,e23]
  unfold prF lJ
  cases d.How==0&&(d.Victim==0&&!gS d)
  ·cases gS d
   ·rfl
   ·exact ByteArray.append_assoc
  ·exact (ui _).symm
 have z5:r5.size≤5:=by rw [hr5,ByteArray.size_append,one];have:=dE d.Short;omega
 have z8:r8.size≤5:=by rw [hr8,ByteArray.size_append,one];have:=dE d.Sector;omega
 have z6:r6.size≤201:=by rw [hr6,ByteArray.size_append,one];omega
 have z7:r7.size≤201:=by rw [hr7,ByteArray.size_append,one];omega
 have zA :(prA d).size≤2:=by unfold prA;rw [ByteArray.size_append];omega
 have zB :(prB d).size≤6:=ej (by rw [ByteArray.size_append];have:=dE d.Runs;omega) (by omega)
 have zC :(prC d).size≤7:=ej (by rw [ByteArray.size_append,one];omega) (ej (by rw [ByteArray.size_append,one];omega) (by omega))
 have zD :(prD d).size≤12:=ej (by rw [ByteArray.size_append,ByteArray.size_append,one];have:=dE d.Short;omega) (by omega)
 have zE :(prE d).size≤13:=ej (by rw [ByteArray.size_append,one];omega) (by omega)
 have zF :(prF d).size≤513:=by unfold prF;rw [ByteArray.size_append];omega
 have z13:r13.size≤11:=by rw [hr13,ByteArray.size_extract];omega
 have z15:r15.size≤12:=by rw [hr15,ByteArray.size_append,one];omega
 have z16:r16.size≤16:=by rw [hr16,ByteArray.size_append];have:=dE d.Victim;omega
 have z20:r20.size≤29:=by rw [hr20,ByteArray.size_append,e19];omega
 have z21:r21.size≤230:=by rw [hr21,ByteArray.size_append];omega
 have z22:r22.size≤431:=by
  rw [hr22]
  exact ej (b:=d.Second != 0) (by rw [ByteArray.size_append];omega) (by omega)
 have z23:r23.size≤432:=by
  rw [hr23]
  exact ej (b:=d.Sub) (by rw [ByteArray.size_append,one];omega) (by omega)
 have eS:prS d=prG d:=by unfold prS;rw [hF];rfl
 rw [e1,e14,e17,e18,e19,e24,eS,hF]
 refine ⟨by omega,⟨fun _=>⟨nR,by omega,trivial⟩,fun _=>trivial⟩,fun _=>⟨⟨fun _=>⟨by rw [one];omega,trivial⟩,fun _=>⟨fun _=>⟨by rw [one];omega,trivial⟩,fun _=>trivial⟩⟩,fun _=>⟨⟨fun _=>⟨nS,by rw [one];omega,by omega,trivial⟩,fun _=>trivial⟩,fun _=>⟨⟨fun _=>⟨by rw [one];omega,trivial⟩,fun _=>trivial⟩,fun _=>⟨⟨fun _=>⟨⟨hp,by omega,by omega⟩,by rw [one];omega,nV,by omega,by omega,fun _=>⟨nF,by rw [one];omega,by omega,⟨fun _=>⟨nG,by rw [one];omega,by omega,trivial⟩,fun _=>trivial⟩,fun _=>⟨⟨fun _=>⟨by rw [one];omega,trivial⟩,fun _=>trivial⟩,fun _=>⟨by rw [one];omega,trivial⟩⟩⟩,fun _=>trivial⟩,fun _=>trivial⟩,fun _=>⟨⟨fun _=>⟨nX,by rw [one];omega,by omega,trivial⟩,fun _=>trivial⟩,fun _=>?_⟩⟩⟩⟩⟩⟩
 rw [hr4,hr8];rfl
def zU:FuncId×Ctr:=(89,ae KE qD AY sQ)
theorem Gf:CtrOK Tryz.prog KE 89 (ae KE qD AY sQ):=by
 refine aE (C:=ax [zT,vm,pQ,ID] Tryz.f89) (au (.consU Ge rfl (.consU CJ rfl (.consU xZ rfl (.consU L0 rfl .nil)))) _) mixed (fn:=Tryz.f89) Tryz.func89 (by kernel_rfl) (by kernel_rfl) (by kernel_rfl) (by kernel_rfl) (by kernel_rfl) (by kernel_rfl) (Λ:=fun _ _=>none) ?_ ?_
 ·exact fun _ _ _ _ _ _ _ _ h=>by cases h
 ·rintro ⟨d,⟨⟩⟩ hw hn
  exact Dk d (KL (nv hw))
end Go.Proofs.YtffdpnmioidloaaGreatDoor
namespace Go.Proofs.YtffdpnmioidloaaGreatDoor
open Go Go.Mir
attribute [local irreducible] Go.Mir.DT.sat Go.Mir.evPat Go.Mir.RT.sat Go.Mir.evFn
def hd (s:ByteArray):Int:=((s.data.getD 0 0).toNat:Int)
def emp (s:ByteArray):Bool:=s.toList ==(ByteArray.mk #[]).toList
def tl (s:ByteArray):ByteArray:=s.extract 1 s.size
def tkB (s:ByteArray) (c:Int):Bool:=!emp s&&hd s==c
def tkR (s:ByteArray) (c:Int):ByteArray:=if tkB s c then tl s else s
def cn (s:ByteArray):Bool:=!emp s&&(decide (hd s≥48)&&decide (hd s≤57))
def dgV (s:ByteArray):Int:=if cn s then hd s - 48 else 0
def dgR (s:ByteArray):ByteArray:=if cn s then tl s else s
def nmV (s:ByteArray):Int:=if cn (dgR s) then 10*dgV s+dgV (dgR s) else dgV s
def nmR (s:ByteArray):ByteArray:=if cn (dgR s) then dgR (dgR s) else dgR s
def soV (t:Int) (s:ByteArray):Int:=if tkB s 98 then 2 else if tkB s 108 then 3 else if t==2&&tkB s 111 then 1 else if t==2 then 0 else if tkB s 46 then 0 else 1
def soR (t:Int) (s:ByteArray):ByteArray:=if tkB s 98 then tl s else if tkB s 108 then tl s else if t==2&&tkB s 111 then tl s else if t==2 then s else tkR s 46
abbrev Il:List (Nat×PB):= [(0,.cells [.h .str])]
abbrev qTk:Pat:=⟨[(0,.c (.ptr 0 0)),(1,.h U8)],Il,1⟩
abbrev Mq:Pat:=⟨[(0,.h .bool)],Il,1⟩
abbrev qRd:Pat:=⟨[(0,.c (.ptr 0 0))],Il,1⟩
abbrev p8:Pat:=⟨[(0,.h I)],Il,1⟩
abbrev EM:Pat:=⟨[(0,.h U8)],Il,1⟩
def Kg:Den (tyP qTk)→List Prop×Den (tyP Mq):=fun x=>([],(tkB x.2.1 x.1,tkR x.2.1 x.1,()))
def Dr:Den (tyP qRd)→List Prop×Den (tyP p8):=fun x=>([],(dgV x.1,dgR x.1,()))
def Ds:Den (tyP qRd)→List Prop×Den (tyP p8):=fun x=>([],(nmV x.1,nmR x.1,()))
def Dt:Den (tyP qTk)→List Prop×Den (tyP EM):=fun x=>([],(soV x.1 x.2.1,soR x.1 x.2.1,()))
theorem fc {s:ByteArray} (h:emp s=false):1≤s.size:=by
 rcases Nat.eq_zero_or_pos s.size with hz|hz
 ·have hl:s.data.toList =(ByteArray.mk #[]).data.toList:=by
   have:s.data.toList.length=0:=by simpa using hz
   rw [List.eq_nil_of_length_eq_zero this]
  have:emp s=true:=bytes_eq_iff.2 hl
  rw [h] at this;cases this
 ·exact hz
theorem Ic (s:ByteArray):0≤hd s∧hd s≤255:=by
 unfold hd
 have:=(s.data.getD 0 0).toNat_lt
 omega
theorem Qg {s:ByteArray} {c:Int} (h:emp s=true):tkB s c=false:=by unfold tkB;rw [h];rfl
theorem bL {s:ByteArray} {c:Int} (h:tkB s c=false):tkR s c=s:=by unfold tkR;rw [h];rfl
theorem aQ {s:ByteArray} {c:Int} (h:tkB s c=true):tkR s c=tl s:=by unfold tkR;rw [h];rfl
theorem GA (c:Int) (s:ByteArray) :(evPat (ax [] Tryz.f116) (fun _=>none) Tryz.f116 qTk Mq (c,s,())).sat fun z_=>z_ =(Kg (c,s,())).2:=by
 refine cast (by kernel_rfl) (?_:let r1:Bool:=s.toList ==(ByteArray.mk #[]).toList;let r2:Bool:=bif r1 then true else (↑(s.1.getD (Int.toNat (0:Int)) (0:UInt8)).toNat:Int) != c;((r1=true→True)∧(r1=false→((0:Int)≤(0:Int)∧(0:Int) <(↑s.size:Int))∧True))∧(true=true→(r2=true→(false,s,()) =(tkB s c,tkR s c,()))∧(r2=false→((0:Int)≤(1:Int)∧(1:Int)≤(↑s.size:Int)∧(↑s.size:Int)≤(↑s.size:Int))∧(true,s.extract (Int.toNat (1:Int)) (↑s.size:Int).toNat,()) =(tkB s c,tkR s c,()))))
 intro r1 r2
 clear_value (hr1:r1=_) (hr2:r2=_)
 have e1:r1=emp s:=hr1
 have e2:r2=!tkB s c:=by rw [hr2,e1];unfold tkB;show (bif emp s then true else hd s != c)=_;cases emp s <;> simp [bne]
 have hz:r1=false→1≤s.size:=fun h=>fc (by rw [←e1];exact h)
 refine ⟨⟨fun _=>trivial,fun h=>⟨⟨Int.le_refl _,by have:=hz h;omega⟩,trivial⟩⟩,fun _=>⟨fun h=>?_,fun h=>?_⟩⟩
 ·have hb:tkB s c=false:=by rw [e2] at h;simpa using h
  rw [hb,bL hb]
 ·have hb:tkB s c=true:=by rw [e2] at h;simpa using h
  have h1:r1=false:=by rw [e1];cases he:emp s with|false=>rfl|true=>rw [Qg he] at hb;cases hb
  have:=hz h1
  rw [hb,aQ hb]
  exact ⟨⟨by decide,by omega,Int.le_refl _⟩,rfl⟩
def lX:FuncId×Ctr:=(116,ae KE qTk Mq Kg)
theorem sn:CtrOK Tryz.prog KE 116 (ae KE qTk Mq Kg):=by
 refine aE (C:=ax [] Tryz.f116) (au (CtrsOK.nil) _) mixed (fn:=Tryz.f116) Tryz.func116 (by kernel_rfl) (by kernel_rfl) (by kernel_rfl) (by kernel_rfl) (by kernel_rfl) (by kernel_rfl) (Λ:=fun _ _=>none) ?_ ?_
 ·exact fun _ _ _ _ _ _ _ _ h=>by cases h
 ·rintro ⟨c,s,⟨⟩⟩ hw hn
  exact GA c s
theorem Dg (s:ByteArray) :(evPat (ax [] Tryz.f118) (fun _=>none) Tryz.f118 qRd p8 (s,())).sat fun z_=>z_ =(Dr (s,())).2:=by
 refine cast (by kernel_rfl) (?_:let r1:Bool:=s.toList ==(ByteArray.mk #[]).toList;let r2:Int:=(↑(s.1.getD (Int.toNat (0:Int)) (0:UInt8)).toNat:Int);let r3:Bool:=decide (r2 <(48:Int));let r4:Bool:=bif r1 then true else bif r3 then true else decide (r2 >(57:Int));((r1=true→True)∧(r1=false→((0:Int)≤(0:Int)∧(0:Int) <(↑s.size:Int))∧(r3=true→True)∧(r3=false→((0:Int)≤(0:Int)∧(0:Int) <(↑s.size:Int))∧True)))∧(true=true→(r4=true→((0:Int),s,()) =(dgV s,dgR s,()))∧(r4=false→((0:Int)≤(0:Int)∧(0:Int) <(↑s.size:Int))∧((0:Int)≤(1:Int)∧(1:Int)≤(↑s.size:Int)∧(↑s.size:Int)≤(↑s.size:Int))∧(IntKind.i64.wrap (IntKind.u8.wrap (r2 - (48:Int))),s.extract (Int.toNat (1:Int)) (↑s.size:Int).toNat,()) =(dgV s,dgR s,()))))
 intro r1 r2 r3 r4
 clear_value (hr1:r1=_) (hr2:r2=_) (hr3:r3=_) (hr4:r4=_)
 have e1:r1=emp s:=hr1
 have e2:r2=hd s:=hr2
 have hr:=Ic s
 have e4:r4=!cn s:=by
  rw [hr4,hr3,e1,e2];unfold cn
  by_cases h1:hd s<48
  ·rw [decide_eq_true h1,decide_eq_false (show ¬ hd s≥48 by omega)];cases emp s <;> rfl
  ·rw [decide_eq_false h1,decide_eq_true (show hd s≥48 by omega)]
   by_cases h2:hd s≤57
   ·rw [decide_eq_true h2,decide_eq_false (show ¬ hd s>57 by omega)];cases emp s <;> rfl
   ·rw [decide_eq_false h2,decide_eq_true (show hd s>57 by omega)];cases emp s <;> rfl
 have hz:r1=false→1≤s.size:=fun h=>fc (by rw [←e1];exact h)
 refine ⟨⟨fun _=>trivial,fun h=>⟨⟨Int.le_refl _,by have:=hz h;omega⟩,fun _=>trivial,fun _=>⟨⟨Int.le_refl _,by have:=hz h;omega⟩,trivial⟩⟩⟩,fun _=>⟨fun h=>?_,fun h=>?_⟩⟩
 ·have hb:cn s=false:=by rw [e4] at h;simpa using h
  unfold dgV dgR;rw [hb];rfl
 ·have hb:cn s=true:=by rw [e4] at h;simpa using h
  have hb':=hb
  unfold cn at hb'
  simp only [Bool.and_eq_true,Bool.not_eq_true',decide_eq_true_eq] at hb'
  have h1:r1=false:=by rw [e1];exact hb'.1
  have:=hz h1
  have ew:IntKind.i64.wrap (IntKind.u8.wrap (r2 - 48))=hd s - 48:=by
   rw [e2]
   have:IntKind.u8.wrap (hd s - 48)=hd s - 48:=by
    simp only [IntKind.wrap,IntKind.bits,IntKind.signed]
    simp
    omega
   rw [this]
   exact qf (by omega) (by omega)
  rw [ew]
  refine ⟨⟨Int.le_refl _,by omega⟩,⟨by decide,by omega,Int.le_refl _⟩,?_⟩
  unfold dgV dgR;rw [hb];rfl
def jx:FuncId×Ctr:=(118,ae KE qRd p8 Dr)
theorem pc:CtrOK Tryz.prog KE 118 (ae KE qRd p8 Dr):=by
 refine aE (C:=ax [] Tryz.f118) (au (CtrsOK.nil) _) mixed (fn:=Tryz.f118) Tryz.func118 (by kernel_rfl) (by kernel_rfl) (by kernel_rfl) (by kernel_rfl) (by kernel_rfl) (by kernel_rfl) (Λ:=fun _ _=>none) ?_ ?_
 ·exact fun _ _ _ _ _ _ _ _ h=>by cases h
 ·rintro ⟨s,⟨⟩⟩ hw hn
  exact Dg s
theorem Bd (s:ByteArray) :(evPat (ax [jx] Tryz.f175) (fun _=>none) Tryz.f175 qRd p8 (s,())).sat fun z_=>z_ =(Ds (s,())).2:=by
 refine cast (by kernel_rfl) (?_:let r1:Bool:=!(dgR s).toList ==(ByteArray.mk #[]).toList;let r2:Int:=(↑((dgR s).1.getD (Int.toNat (0:Int)) (0:UInt8)).toNat:Int);let r3:Bool:=decide (r2≥(48:Int));let r4:Bool:=bif r1 then bif r3 then decide (r2≤(57:Int)) else false else false;(((r1=true→((0:Int)≤(0:Int)∧(0:Int) <(↑(dgR s).size:Int))∧(r3=true→((0:Int)≤(0:Int)∧(0:Int) <(↑(dgR s).size:Int))∧True)∧(r3=false→True))∧(r1=false→True))∧(true=true→(r4=true→True)∧(r4=false→True)))∧(true=true→(bif r4 then IntKind.i64.wrap (IntKind.i64.wrap ((10:Int)*dgV s)+dgV (dgR s)) else dgV s,bif r4 then dgR (dgR s) else dgR s,()) =(nmV s,nmR s,())))
 intro r1 r2 r3 r4
 clear_value (hr1:r1=_) (hr2:r2=_) (hr3:r3=_) (hr4:r4=_)
 have e1:r1=!emp (dgR s):=hr1
 have e2:r2=hd (dgR s):=hr2
 have hz:r1=true→1≤(dgR s).size:=fun h=>fc (by rw [e1] at h;simpa using h)
 have e4:r4=cn (dgR s):=by
  rw [hr4,hr3,e1,e2];unfold cn
  cases emp (dgR s) <;> cases decide (hd (dgR s)≥48) <;> rfl
 have hv :∀ z:ByteArray,0≤dgV z∧dgV z≤9:=fun z=>by
  unfold dgV
  split
  ·rename_i h
   unfold cn at h
   simp only [Bool.and_eq_true,Bool.not_eq_true',decide_eq_true_eq] at h
   omega
  ·omega
 have a:=hv s
 have b:=hv (dgR s)
 have ew:IntKind.i64.wrap (IntKind.i64.wrap (10*dgV s)+dgV (dgR s))=10*dgV s+dgV (dgR s):=by
  rw [show IntKind.i64.wrap (10*dgV s)=10*dgV s from qf (by omega) (by omega)]
  exact qf (by omega) (by omega)
 refine ⟨⟨⟨fun h=>⟨⟨Int.le_refl _,by have:=hz h;omega⟩,fun _=>⟨⟨Int.le_refl _,by have:=hz h;omega⟩,trivial⟩,fun _=>trivial⟩,fun _=>trivial⟩,fun _=>⟨fun _=>trivial,fun _=>trivial⟩⟩,fun _=>?_⟩
 rw [ew,e4]
 unfold nmV nmR
 cases cn (dgR s) <;> rfl
def vf:FuncId×Ctr:=(175,ae KE qRd p8 Ds)
theorem CE:CtrOK Tryz.prog KE 175 (ae KE qRd p8 Ds):=by
 refine aE (C:=ax [jx] Tryz.f175) (au (.consU pc rfl .nil) _) mixed (fn:=Tryz.f175) Tryz.func175 (by kernel_rfl) (by kernel_rfl) (by kernel_rfl) (by kernel_rfl) (by kernel_rfl) (by kernel_rfl) (Λ:=fun _ _=>none) ?_ ?_
 ·exact fun _ _ _ _ _ _ _ _ h=>by cases h
 ·rintro ⟨s,⟨⟩⟩ hw hn
  exact Bd s
theorem Be (t:Int) (s:ByteArray) :(evPat (ax [lX] Tryz.f117) (fun _=>none) Tryz.f117 qTk EM (t,s,())).sat fun z_=>z_ =(Dt (t,s,())).2:=by
 refine cast (by kernel_rfl) (?_:let r1:Bool:=bif t ==(2:Int) then tkB (tkR (tkR s (98:Int)) (108:Int)) (111:Int) else false;let r2:ByteArray:=bif t ==(2:Int) then tkR (tkR (tkR s (98:Int)) (108:Int)) (111:Int) else tkR (tkR s (98:Int)) (108:Int);let r3:Bool:=tkB r2 (46:Int);(tkB s (98:Int)=true→((2:Int),tkR s (98:Int),()) =(soV t s,soR t s,()))∧(tkB s (98:Int)=false→(tkB (tkR s (98:Int)) (108:Int)=true→((3:Int),tkR (tkR s (98:Int)) (108:Int),()) =(soV t s,soR t s,()))∧(tkB (tkR s (98:Int)) (108:Int)=false→(r1=true→((1:Int),r2,()) =(soV t s,soR t s,()))∧(r1=false→((t ==(2:Int))=true→((0:Int),r2,()) =(soV t s,soR t s,()))∧((t ==(2:Int))=false→(r3=true→((0:Int),tkR r2 (46:Int),()) =(soV t s,soR t s,()))∧(r3=false→((1:Int),tkR r2 (46:Int),()) =(soV t s,soR t s,())))))))
 intro r1 r2 r3
 clear_value (hr1:r1=_) (hr2:r2=_) (hr3:r3=_)
 unfold soV soR
 cases hb:tkB s 98 with
 | true=>exact ⟨fun _=>(by rw [aQ hb];rfl),fun h=>(by cases h)⟩
 | false=>
  rw [bL hb] at hr1 hr2 ⊢
  refine ⟨fun h=>(by cases h),fun _=>?_⟩
  cases hl:tkB s 108 with
  | true=>exact ⟨fun _=>(by rw [aQ hl];rfl),fun h=>(by cases h)⟩
  | false=>
   rw [bL hl] at hr1 hr2 ⊢
   refine ⟨fun h=>(by cases h),fun _=>?_⟩
   cases ht:t==2 with
   | false=>
    rw [ht] at hr1 hr2
    have e1:r1=false:=hr1
    have e2:r2=s:=hr2
    rw [e1,hr3,e2]
    refine ⟨fun h=>(by cases h),fun _=>⟨fun h=>(by cases h),fun _=>⟨fun h=>?_,fun h=>?_⟩⟩⟩
    ·rw [h];rfl
    ·rw [h];rfl
   | true=>
    rw [ht] at hr1 hr2
    have e1:r1=tkB s 111:=hr1
    have e2:r2=tkR s 111:=hr2
    rw [e1,e2]
    refine ⟨fun h=>?_,fun h=>⟨fun _=>?_,fun h=>(by cases h)⟩⟩
    ·rw [h,aQ h];rfl
    ·rw [h,bL h];rfl
def vg:FuncId×Ctr:=(117,ae KE qTk EM Dt)
theorem CF:CtrOK Tryz.prog KE 117 (ae KE qTk EM Dt):=by
 refine aE (C:=ax [lX] Tryz.f117) (au (.consU sn rfl .nil) _) mixed (fn:=Tryz.f117) Tryz.func117 (by kernel_rfl) (by kernel_rfl) (by kernel_rfl) (by kernel_rfl) (by kernel_rfl) (by kernel_rfl) (Λ:=fun _ _=>none) ?_ ?_
 ·exact fun _ _ _ _ _ _ _ _ h=>by cases h
 ·rintro ⟨t,s,⟨⟩⟩ hw hn
  exact Be t s
end Go.Proofs.YtffdpnmioidloaaGreatDoor
namespace Go.Proofs.YtffdpnmioidloaaGreatDoor
open Go Go.Mir
attribute [local irreducible] Go.Mir.DT.sat Go.Mir.evPat Go.Mir.RT.sat Go.Mir.evFn
abbrev Q9:List (Nat×PB):= [(0,.cells [.h .str]),(1,.dat (.nm .Delivery))]
abbrev qWk:Pat:=⟨[(0,.c (.ptr 0 0)),(1,.c (.ptr 1 0))],Q9,2⟩
abbrev Mr:Pat:=⟨[],Q9,2⟩
def mxI (x:Int):Int:=if (0:Int)>x then 0 else x
def hwV (s:ByteArray):Int:=IntKind.u8.wrap (mxI (ixW lets (hd s)))
def wk1 (s:ByteArray):ByteArray:=tkR s 47
def yD (s:ByteArray):Bool:=tkB s 47&&!emp (wk1 s)
def wk2 (s:ByteArray):ByteArray:=tl (wk1 s)
def wk3 (s:ByteArray):ByteArray:=dgR (wk2 s)
def wk4 (s:ByteArray):ByteArray:=tkR (wk3 s) 40
def wk5 (s:ByteArray):ByteArray:=nmR (wk4 s)
def wk6 (s:ByteArray):ByteArray:=if tkB (wk5 s) 44 then nmR (tl (wk5 s)) else wk5 s
def wk7 (s:ByteArray):ByteArray:=tkR (wk6 s) 115
def MS (d:Delivery) (s:ByteArray):Delivery:={ d with How:=hwV (wk1 s),Victim:=dgV (wk2 s) }
def Qr (d:Delivery) (s:ByteArray):Delivery:={ MS d s with Fielder:=nmV (wk4 s),Second:=if tkB (wk5 s) 44 then nmV (tl (wk5 s)) else d.Second,Sub:=tkB (wk6 s) 115 }
def wkD (d:Delivery) (s:ByteArray):Delivery:=if !yD s then d else if !tkB (wk3 s) 40 then MS d s else Qr d s
def wkR (s:ByteArray):ByteArray:=if !yD s then wk1 s else if !tkB (wk3 s) 40 then wk3 s else tkR (wk7 s) 41
def Du:Den (tyP qWk)→List Prop×Den (tyP Mr):=fun x=>([],(wkR x.1,wkD x.2.1 x.1,()))
abbrev nk:Pat:=cW [.str]
abbrev CU:Pat:=cW [.nm .Delivery,I]
def paT (s:ByteArray):Int:=if tkB s 119 then 2 else if tkB s 110 then 3 else 1
def pa1 (s:ByteArray):ByteArray:=if tkB s 119 then tl s else tkR s 110
def pa2 (s:ByteArray):ByteArray:=soR (paT s) (pa1 s)
def pa3 (s:ByteArray):ByteArray:=dgR (pa2 s)
def pa4 (s:ByteArray):ByteArray:=if tkB (pa3 s) 70 then tl (pa3 s) else tkR (pa3 s) 83
def pa5 (s:ByteArray):ByteArray:=if tkB (pa4 s) 45 then dgR (tl (pa4 s)) else pa4 s
def pa6 (s:ByteArray):ByteArray:=tkR (pa5 s) 120
def paD (s:ByteArray):Delivery:={ Typ:=paT s,Source:=soV (paT s) (pa1 s),Runs:=dgV (pa2 s),Short:=if tkB (pa4 s) 45 then dgV (tl (pa4 s)) else 0,Boundary:=if tkB (pa3 s) 70 then 4 else if tkB (pa3 s) 83 then 6 else 0,Crossed:=tkB (pa5 s) 120,How:=0,Victim:=0,Fielder:=0,Second:=0,Sub:=false,Sector:=0 }
def paW (s:ByteArray):Delivery:=wkD (paD s) (pa6 s)
def pa7 (s:ByteArray):ByteArray:=wkR (pa6 s)
def kn (s:ByteArray):Delivery:={ paW s with Sector:=if tkB (pa7 s) 64 then dgV (tl (pa7 s)) else (paW s).Sector }
def jB (s:ByteArray):Bool:=bd (kn s) != 0||!((prS (kn s)).toList==s.toList)
def tU (s:ByteArray):Delivery:=if jB s then Delivery.zero else kn s
def mq (s:ByteArray):Int:=if jB s then 4 else 0
def pw:Den (tyP nk)→List Prop×Den (tyP CU):=fun x=>([],(tU x.1,mq x.1,()))
theorem Bf (s:ByteArray) (d:Delivery) :(evPat (ax [lX,jx,vf,rR] Tryz.f119) (fun _=>none) Tryz.f119 qWk Mr (s,d,())).sat fun z_=>z_ =(Du (s,d,())).2:=by
 refine cast (by kernel_rfl) (?_:let r1:ByteArray:=bif !tkB s (47:Int) then tkR s (47:Int) else tkR s (47:Int);let r2:Int:=(↑r1.size:Int);let r3:Bool:=bif !tkB s (47:Int) then true else (tkR s (47:Int)).toList ==(ByteArray.mk #[]).toList;let r4:ByteArray:=r1.extract (Int.toNat (1:Int)) r2.toNat;let r5:ByteArray:=dgR r4;let r6:Int:=dgV r4;let r7:ByteArray:=tkR r5 (40:Int);let r8:Bool:=!tkB r5 (40:Int);let r9:ByteArray:=nmR r7;let r10:Int:=nmV r7;let r11:Bool:=tkB r9 (44:Int);let r12:ByteArray:=tkR r9 (44:Int);let r13:Int:=ixW (ByteArray.mk #[78,66,67,76,83,72,82,84,79,77,81]) (↑(r1.1.getD (Int.toNat (0:Int)) (0:UInt8)).toNat:Int);let r14:ByteArray:=bif r11 then nmR r12 else r12;let r15:Int:=IntKind.u8.wrap (if (0:Int)>r13 then (0:Int) else r13);(r3=true→(r1,d,()) =(wkR s,wkD d s,()))∧(r3=false→((0:Int)≤(0:Int)∧(0:Int)<r2)∧((0:Int)≤(1:Int)∧(1:Int)≤r2∧r2≤r2)∧(r8=true→(r7,Delivery.mk d.1 d.2 d.3 d.4 d.5 d.6 r15 r6 d.9 d.10 d.11 d.12,()) =(wkR s,wkD d s,()))∧(r8=false→(tkR (tkR r14 (115:Int)) (41:Int),Delivery.mk (bif r11 then d.1 else d.1) (bif r11 then d.2 else d.2) (bif r11 then d.3 else d.3) (bif r11 then d.4 else d.4) (bif r11 then d.5 else d.5) (bif r11 then d.6 else d.6) (bif r11 then r15 else r15) (bif r11 then r6 else r6) (bif r11 then r10 else r10) (bif r11 then nmV r12 else d.10) (tkB r14 (115:Int)) (bif r11 then d.12 else d.12),()) =(wkR s,wkD d s,()))))
 intro r1 r2 r3 r4 r5 r6 r7 r8 r9 r10 r11 r12 r13 r14 r15
 clear_value (hr1:r1=_) (hr2:r2=_) (hr3:r3=_) (hr4:r4=_) (hr5:r5=_) (hr6:r6=_) (hr7:r7=_) (hr8:r8=_) (hr9:r9=_) (hr10:r10=_) (hr11:r11=_) (hr12:r12=_) (hr13:r13=_) (hr14:r14=_) (hr15:r15=_)
 have e1:r1=wk1 s:=by rw [hr1];cases tkB s 47 <;> rfl
 have e2:r2 =((wk1 s).size:Int):=by rw [hr2,e1]
 have e3:r3=!yD s:=by
  rw [hr3];unfold yD
  show (bif !tkB s 47 then true else emp (wk1 s))=_
  cases tkB s 47 <;> cases emp (wk1 s) <;> rfl
 have e4:r4=wk2 s:=by rw [hr4,e2,e1];rfl
 have e5:r5=wk3 s:=by rw [hr5,e4];rfl
 have e6:r6=dgV (wk2 s):=by rw [hr6,e4]
 have e7:r7=wk4 s:=by rw [hr7,e5];rfl
 have e8:r8=!tkB (wk3 s) 40:=by rw [hr8,e5]
 have e9:r9=wk5 s:=by rw [hr9,e7];rfl
 have e10:r10=nmV (wk4 s):=by rw [hr10,e7]
 have e11:r11=tkB (wk5 s) 44:=by rw [hr11,e9]
 have e12:r12=tkR (wk5 s) 44:=by rw [hr12,e9]
 have e15:r15=hwV (wk1 s):=by rw [hr15,hr13,e1];rfl
 have e14:r14=wk6 s:=by
  rw [hr14,e11,e12];unfold wk6
  cases h:tkB (wk5 s) 44 with
  | true=>rw [aQ h];rfl
  | false=>rw [bL h];rfl
 have hz:r3=false→1≤(wk1 s).size:=fun h=>by
  rw [e3] at h
  unfold yD at h
  cases ha:tkB s 47 with
  | false=>rw [ha] at h;cases h
  | true=>rw [ha] at h;exact fc (by simpa using h)
 refine ⟨fun h=>?_,fun h=>⟨⟨Int.le_refl _,by have:=hz h;omega⟩,⟨by decide,by have:=hz h;omega,Int.le_refl _⟩,fun a=>?_,fun a=>?_⟩⟩
 ·rw [e3] at h
  unfold wkR wkD
  rw [h,e1];rfl
 ·rw [e3] at h
  rw [e8] at a
  have h40:tkB (wk3 s) 40=false:=by simpa using a
  unfold wkR wkD
  rw [h,a,e7,e15,e6]
  unfold wk4
  rw [bL h40];rfl
 ·rw [e3] at h
  rw [e8] at a
  have h40:tkB (wk3 s) 40=true:=by simpa using a
  unfold wkR wkD
  rw [h,a,e14,e15,e6,e10,e11,e12]
  have e13 :(bif tkB (wk5 s) 44 then nmV (tkR (wk5 s) 44) else d.Second)=if tkB (wk5 s) 44 then nmV (tl (wk5 s)) else d.Second:=by
   cases h:tkB (wk5 s) 44 with
   | true=>rw [aQ h];rfl
   | false=>rfl
  rw [e13]
  simp only [Bool.cond_self]
  rfl
def vh:FuncId×Ctr:=(119,ae KE qWk Mr Du)
theorem CG:CtrOK Tryz.prog KE 119 (ae KE qWk Mr Du):=by
 refine aE (C:=ax [lX,jx,vf,rR] Tryz.f119) (au (.consU sn rfl (.consU pc rfl (.consU CE rfl (.consU Ay rfl .nil)))) _) mixed (fn:=Tryz.f119) Tryz.func119 (by kernel_rfl) (by kernel_rfl) (by kernel_rfl) (by kernel_rfl) (by kernel_rfl) (by kernel_rfl) (Λ:=fun _ _=>none) ?_ ?_
 ·exact fun _ _ _ _ _ _ _ _ h=>by cases h
 ·rintro ⟨s,d,⟨⟩⟩ hw hn
  exact Bf s d
theorem Gy (s:ByteArray) :(evPat (ax [lX,vg,jx,vh,Eo] Tryz.f67) (fun _=>none) Tryz.f67 nk CU (s,())).sat fun z_=>z_ =(pw (s,())).2:=by
 refine cast (by kernel_rfl) (?_:let r1:Int:=bif tkB s (119:Int) then (2:Int) else bif tkB (tkR s (119:Int)) (110:Int) then (3:Int) else (1:Int);let r2:Int:=bif tkB s (119:Int) then (0:Int) else bif tkB (tkR s (119:Int)) (110:Int) then (0:Int) else (0:Int);let r3:ByteArray:=bif tkB s (119:Int) then tkR s (119:Int) else bif tkB (tkR s (119:Int)) (110:Int) then tkR (tkR s (119:Int)) (110:Int) else tkR (tkR s (119:Int)) (110:Int);let r4:ByteArray:=soR r1 r3;let r5:Int:=soV r1 r3;let r6:ByteArray:=dgR r4;let r7:Int:=dgV r4;let r8:Bool:=tkB r6 (70:Int);let r9:ByteArray:=tkR r6 (70:Int);let r10:Bool:=tkB r9 (83:Int);let r11:ByteArray:=tkR r9 (83:Int);let r12:Int:=bif r8 then (4:Int) else bif r10 then (6:Int) else r2;let r13:Int:=bif r8 then r1 else bif r10 then r1 else r1;let r14:Int:=bif r8 then r2 else bif r10 then r2 else r2;let r15:Int:=bif r8 then r5 else bif r10 then r5 else r5;let r16:Int:=bif r8 then r7 else bif r10 then r7 else r7;let r17:ByteArray:=bif r8 then r9 else bif r10 then r11 else r11;let r18:Bool:=tkB r17 (45:Int);let r19:ByteArray:=tkR r17 (45:Int);let r20:Int:=bif r18 then r14 else r14;let r21:ByteArray:=bif r18 then dgR r19 else r19;let r22:ByteArray:=tkR r21 (120:Int);let r23:ByteArray:=wkR r22;let r24:Bool:=tkB r23 (64:Int);let r25:Delivery:=wkD (Delivery.mk (bif r18 then r13 else r13) (bif r18 then r15 else r15) (bif r18 then r16 else r16) (bif r18 then dgV r19 else r14) (bif r18 then r12 else r12) (tkB r21 (120:Int)) r20 r20 r20 r20 false r20) r22;let r26:Delivery:=Delivery.mk (bif r24 then r25.1 else r25.1) (bif r24 then r25.2 else r25.2) (bif r24 then r25.3 else r25.3) (bif r24 then r25.4 else r25.4) (bif r24 then r25.5 else r25.5) (bif r24 then r25.6 else r25.6) (bif r24 then r25.7 else r25.7) (bif r24 then r25.8 else r25.8) (bif r24 then r25.9 else r25.9) (bif r24 then r25.10 else r25.10) (bif r24 then r25.11 else r25.11) (bif r24 then dgV (tkR r23 (64:Int)) else r25.12);let r27:Bool:=bif bd r26 !=(0:Int) then true else !(prS r26).toList==s.toList;(r27=true→(Delivery.mk (0:Int) (0:Int) (0:Int) (0:Int) (0:Int) false (0:Int) (0:Int) (0:Int) (0:Int) false (0:Int),(4:Int),()) =(tU s,mq s,()))∧(r27=false→(r26,(0:Int),()) =(tU s,mq s,())))
 intro r1 r2 r3 r4 r5 r6 r7 r8 r9 r10 r11 r12 r13 r14 r15 r16 r17 r18 r19 r20 r21 r22 r23 r24 r25 r26 r27
 clear_value (hr1:r1=_) (hr2:r2=_) (hr3:r3=_) (hr4:r4=_) (hr5:r5=_) (hr6:r6=_) (hr7:r7=_) (hr8:r8=_) (hr9:r9=_) (hr10:r10=_) (hr11:r11=_) (hr12:r12=_) (hr13:r13=_) (hr14:r14=_) (hr15:r15=_) (hr16:r16=_) (hr17:r17=_) (hr18:r18=_) (hr19:r19=_) (hr20:r20=_) (hr21:r21=_) (hr22:r22=_) (hr23:r23=_) (hr24:r24=_) (hr25:r25=_) (hr26:r26=_) (hr27:r27=_)
 have n119:tkB s 119=false→tkR s 119=s:=fun h=>bL h
 have e1:r1=paT s:=by
  rw [hr1];unfold paT
  cases h:tkB s 119 with
  | true=>rfl
  | false=>rw [n119 h];cases tkB s 110 <;> rfl
 have e2:r2=0:=by rw [hr2];simp only [Bool.cond_self]
 have e3:r3=pa1 s:=by
  rw [hr3];unfold pa1
  cases h:tkB s 119 with
  | true=>rw [aQ h];rfl
  | false=>rw [n119 h];cases tkB s 110 <;> rfl
 have e4:r4=pa2 s:=by rw [hr4,e1,e3];rfl
 have e5:r5=soV (paT s) (pa1 s):=by rw [hr5,e1,e3]
 have e6:r6=pa3 s:=by rw [hr6,e4];rfl
 have e7:r7=dgV (pa2 s):=by rw [hr7,e4]
 have e8:r8=tkB (pa3 s) 70:=by rw [hr8,e6]
 have e9:tkB (pa3 s) 70=false→r9=pa3 s:=fun h=>by rw [hr9,e6];exact bL h
 have e12:r12=if tkB (pa3 s) 70 then 4 else if tkB (pa3 s) 83 then 6 else 0:=by
  rw [hr12,e8,hr10,e2]
  cases h:tkB (pa3 s) 70 with
  | true=>rfl
  | false=>rw [e9 h];cases tkB (pa3 s) 83 <;> rfl
 have e13:r13=paT s:=by rw [hr13,e1];simp only [Bool.cond_self]
 have e14:r14=0:=by rw [hr14,e2];simp only [Bool.cond_self]
 have e15:r15=soV (paT s) (pa1 s):=by rw [hr15,e5];simp only [Bool.cond_self]
 have e16:r16=dgV (pa2 s):=by rw [hr16,e7];simp only [Bool.cond_self]
 have e17:r17=pa4 s:=by
  rw [hr17,e8,hr11];unfold pa4
  cases h:tkB (pa3 s) 70 with
  | true=>rw [hr9,e6,aQ h];rfl
  | false=>rw [e9 h];cases r10 <;> rfl
 have e18:r18=tkB (pa4 s) 45:=by rw [hr18,e17]
 have e19:tkB (pa4 s) 45=true→r19=tl (pa4 s):=fun h=>by rw [hr19,e17];exact aQ h
 have e20:r20=0:=by rw [hr20,e14];simp only [Bool.cond_self]
 have e21:r21=pa5 s:=by
  rw [hr21,e18];unfold pa5
  cases h:tkB (pa4 s) 45 with
  | true=>rw [e19 h];rfl
  | false=>rw [hr19,e17];exact bL h
 have e22:r22=pa6 s:=by rw [hr22,e21];rfl
 have e23:r23=pa7 s:=by rw [hr23,e22];rfl
 have e25:r25=paW s:=by
  rw [hr25,e22,e13,e15,e16,e14,e12,e20,e21,e18]
  have h :(bif tkB (pa4 s) 45 then dgV r19 else 0)=if tkB (pa4 s) 45 then dgV (tl (pa4 s)) else 0:=by
   cases h:tkB (pa4 s) 45 with
   | true=>rw [e19 h];rfl
   | false=>rfl
  rw [h];simp only [Bool.cond_self];rfl
 have e26:r26=kn s:=by
  rw [hr26,hr24,e23,e25]
  have h :(bif tkB (pa7 s) 64 then dgV (tkR (pa7 s) 64) else (paW s).Sector)=if tkB (pa7 s) 64 then dgV (tl (pa7 s)) else (paW s).Sector:=by
   cases h:tkB (pa7 s) 64 with
   | true=>rw [aQ h];rfl
   | false=>rfl
  unfold kn
  rw [←h];simp only [Bool.cond_self]
 have e27:r27=jB s:=by
  rw [hr27,e26];unfold jB
  cases bd (kn s) != 0 <;> rfl
 refine ⟨fun h=>?_,fun h=>?_⟩
 ·rw [e27] at h;unfold tU mq;rw [h];rfl
 ·rw [e27] at h;unfold tU mq;rw [h,e26];rfl
def Lw:FuncId×Ctr:=(67,ae KE nk CU pw)
theorem Jt:CtrOK Tryz.prog KE 67 (ae KE nk CU pw):=by
 refine aE (C:=ax [lX,vg,jx,vh,Eo] Tryz.f67) (au (.consU sn rfl (.consU CF rfl (.consU pc rfl (.consU CG rfl (.consU Ju rfl .nil))))) _) mixed (fn:=Tryz.f67) Tryz.func67 (by kernel_rfl) (by kernel_rfl) (by kernel_rfl) (by kernel_rfl) (by kernel_rfl) (by kernel_rfl) (Λ:=fun _ _=>none) ?_ ?_
 ·exact fun _ _ _ _ _ _ _ _ h=>by cases h
 ·rintro ⟨s,⟨⟩⟩ hw hn
  exact Gy s
end Go.Proofs.YtffdpnmioidloaaGreatDoor
namespace Go.Proofs.YtffdpnmioidloaaGreatDoor
open Go Go.Mir
attribute [local irreducible] Go.Mir.DT.sat Go.Mir.evPat Go.Mir.RT.sat Go.Mir.evFn
abbrev qHs:Pat:=cW [.str,U8]
abbrev Mk:Pat:=cW [.bool]
def PN:Den (tyP qHs)→List Prop×Den (tyP Mk):=fun x=>([],(tkB x.1 x.2.1,()))
abbrev Ml:Pat:=cW [I,.str]
def J8:Den (tyP nk)→List Prop×Den (tyP Ml):=fun x=>([],(nmV x.1,nmR x.1,()))
abbrev qNb:Pat:=⟨[(0,.h .str),(4,.h I),(5,.h I)],[],0⟩
abbrev xNb:List (Lf×Pat):= [(.ext 0,⟨[(0,.h .str),(4,.h I),(5,.h I)],[],0⟩)]
abbrev TNb:Type:=ByteArray×Int×Int×Unit
def atB (s:ByteArray) (i:Int):Int:=((s.data.getD i.toNat 0).toNat:Int)
def atD (s:ByteArray) (i:Int):Bool:=decide (i <(s.size:Int))&&(decide (atB s i≥48)&&decide (atB s i≤57))
def nbV (s:ByteArray) (n i:Int):Int:=if i==0 then (if atD s 0 then (if atD s 1 then 10 *(10*n +(atB s 0 - 48)) +(atB s 1 - 48) else 10*n +(atB s 0 - 48)) else n) else if i==1 then (if atD s 1 then 10*n +(atB s 1 - 48) else n) else n
def nbI (s:ByteArray) (i:Int):Int:=if i==0 then (if atD s 0 then (if atD s 1 then 2 else 1) else 0) else if i==1 then (if atD s 1 then 2 else 1) else i
def uS (x:TNb):Prop:=(x.2.2.1=0∧x.2.1=0)∨(x.2.2.1=1∧0≤x.2.1∧x.2.1≤9)∨(x.2.2.1=2∧0≤x.2.1∧x.2.1≤99)
def I6 (x:TNb):Nat:=(2 - x.2.2.1).toNat
def qb (x:TNb):ByteArray×Int×Int×Unit:=(x.1,nbV x.1 x.2.1 x.2.2.1,nbI x.1 x.2.2.1,())
theorem DV (s:ByteArray):emp s=!decide ((s.size:Int)>0):=by
 cases h:emp s with
 | false=>have:=fc h;rw [decide_eq_true (show (s.size:Int)>0 by omega)];rfl
 | true=>
  have h2:=bytes_eq_iff.1 h
  have:s.data.toList.length=0:=by rw [h2];rfl
  have:s.size=0:=by simpa using this
  rw [decide_eq_false (show ¬(s.size:Int)>0 by omega)];rfl
theorem NT {n:Int} (h0:0≤n) (h1:n<256):IntKind.u8.wrap n=n:=by
 simp only [IntKind.wrap,IntKind.bits,IntKind.signed]
 simp
 omega
theorem qH (s:ByteArray) :(tl s).data.toList=s.data.toList.drop 1:=by
 unfold tl
 rw [ByteArray.data_extract,Array.toList_extract]
 show (s.data.toList.drop 1).take (s.size - 1)=_
 rw [List.take_of_length_le (by simp)]
theorem D7 (s:ByteArray):hd s =((s.data.toList.headD 0).toNat:Int):=by
 unfold hd
 rw [Array.getD_eq_getD_getElem?,←Array.getElem?_toList]
 cases s.data.toList <;> rfl
theorem E8 (s:ByteArray) :(tl s).size=s.size - 1:=by unfold tl;rw [ByteArray.size_extract];omega
theorem M6 (s:ByteArray):hd (tl s)=atB s 1:=by
 rw [D7,qH]
 unfold atB
 rw [Array.getD_eq_getD_getElem?,←Array.getElem?_toList]
 show _ =(((s.data.toList[1]?).getD 0).toNat:Int)
 cases s.data.toList with
 | nil=>rfl
 | cons x l=>cases l <;> rfl
theorem QC (s:ByteArray):atD s 0=cn s:=by
 unfold atD cn;rw [DV]
 show (decide ((0:Int)<s.size)&&_) =(!!decide ((s.size:Int)>0)&&_)
 rw [Bool.not_not];rfl
theorem QD (s:ByteArray):atD s 1=cn (tl s):=by
 unfold atD cn;rw [DV,M6,E8]
 have:decide ((1:Int)<s.size)=!!decide (((s.size - 1:Nat):Int)>0):=by
  rw [Bool.not_not];apply decide_eq_decide.2;omega
 rw [this]
theorem G5 (s:ByteArray) (i:Int):0≤atB s i∧atB s i≤255:=by
 unfold atB
 have:=(s.data.getD i.toNat 0).toNat_lt
 omega
theorem J5 (s:ByteArray) (c:Int) :(evPat (ax [] Tryz.f177) (fun _=>none) Tryz.f177 qHs Mk (s,c,())).sat fun z_=>z_ =(PN (s,c,())).2:=by
 refine cast (by kernel_rfl) (?_:let r1:Bool:=decide ((↑s.size:Int) >(0:Int));((r1=true→((0:Int)≤(0:Int)∧(0:Int) <(↑s.size:Int))∧True)∧(r1=false→True))∧(true=true→(bif r1 then (↑(s.1.getD (Int.toNat (0:Int)) (0:UInt8)).toNat:Int)==c else false,()) =(tkB s c,())))
 intro r1
 clear_value (hr1:r1=_)
 have e1:r1=!emp s:=by rw [DV,Bool.not_not];exact hr1
 refine ⟨⟨fun h=>⟨⟨Int.le_refl _,?_⟩,trivial⟩,fun _=>trivial⟩,fun _=>?_⟩
 ·rw [hr1] at h;simpa using h
 ·rw [e1]
  show (bif !emp s then hd s==c else false,()) =(!emp s&&hd s==c,())
  cases emp s <;> rfl
def rV:FuncId×Ctr:=(177,ae KE qHs Mk PN)
theorem xY:CtrOK Tryz.prog KE 177 (ae KE qHs Mk PN):=by
 refine aE (C:=ax [] Tryz.f177) (au (CtrsOK.nil) _) mixed (fn:=Tryz.f177) Tryz.func177 (by kernel_rfl) (by kernel_rfl) (by kernel_rfl) (by kernel_rfl) (by kernel_rfl) (by kernel_rfl) (Λ:=fun _ _=>none) ?_ ?_
 ·exact fun _ _ _ _ _ _ _ _ h=>by cases h
 ·rintro ⟨s,c,⟨⟩⟩ hw hn
  exact J5 s c
noncomputable def lpNb:Lp:=(⟨0,ax [] Tryz.f178,(fun _=>none),(bf Tryz.f178 0),qNb,xNb⟩:Lp)
theorem P4 (s:ByteArray) (n:Int) (i:Int) (hi:uS (s,n,i,())) :(Go.Mir.stepG lpNb qb (fun y:Den (tyP lpNb.q)=>uS y∧I6 y<I6 (s,n,i,())) (s,n,i,())∧Go.Mir.stepE lpNb qb (s,n,i,())=qb (s,n,i,())):=by
 refine cast (by kernel_rfl) (?_:let r1:Int:=(↑(s.1.getD i.toNat (0:UInt8)).toNat:Int);let r2:Bool:=decide (i <(↑s.size:Int));let r3:Bool:=decide (i <(2:Int));let r4:Bool:=decide (r1≥(48:Int));let r5:Bool:=bif r2 then bif r3 then bif r4 then decide (r1≤(57:Int)) else false else false else false;let r6:ByteArray×Int×Int×PUnit:=bif r5 then qb (s,IntKind.i64.wrap (IntKind.i64.wrap ((10:Int)*n)+IntKind.i64.wrap (IntKind.u8.wrap (r1 - (48:Int)))),IntKind.i64.wrap (i +(1:Int)),()) else (s,n,i,());(((r2=true→(r3=true→((0:Int)≤i∧i <(↑s.size:Int))∧(r4=true→((0:Int)≤i∧i <(↑s.size:Int))∧True)∧(r4=false→True))∧(r3=false→True))∧(r2=false→True))∧(true=true→(r5=true→((0:Int)≤i∧i <(↑s.size:Int))∧uS (s,IntKind.i64.wrap (IntKind.i64.wrap ((10:Int)*n)+IntKind.i64.wrap (IntKind.u8.wrap (r1 - (48:Int)))),IntKind.i64.wrap (i +(1:Int)),())∧I6 (s,IntKind.i64.wrap (IntKind.i64.wrap ((10:Int)*n)+IntKind.i64.wrap (IntKind.u8.wrap (r1 - (48:Int)))),IntKind.i64.wrap (i +(1:Int)),())<I6 (s,n,i,()))∧(r5=false→True)))∧(bif true&&true&&true&&true then r6 else bif true then r6 else bif r2 then bif r3 then bif r4 then dflt (Ty.str.prod (I.prod (I.prod Ty.unit))) else dflt (Ty.str.prod (I.prod (I.prod Ty.unit))) else dflt (Ty.str.prod (I.prod (I.prod Ty.unit))) else dflt (Ty.str.prod (I.prod (I.prod Ty.unit))))=qb (s,n,i,()))
 intro r1 r2 r3 r4 r5 r6
 clear_value (hr1:r1=_) (hr2:r2=_) (hr3:r3=_) (hr4:r4=_) (hr5:r5=_) (hr6:r6=_)
 have e5:r5 =(atD s i&&r3):=by
  rw [hr5,hr4,hr2,hr1];unfold atD atB
  cases decide (i <(s.size:Int)) <;> cases r3 <;> cases decide (((s.data.getD i.toNat 0).toNat:Int)≥48) <;> cases decide (((s.data.getD i.toNat 0).toNat:Int)≤57) <;> rfl
 have hi0:0≤i:=by rcases hi with ⟨h,_⟩ |⟨h,_⟩ |⟨h,_⟩ <;>(simp only at h;omega)
 have hz:r2=true→0≤i∧i <(s.size:Int):=fun h=>⟨hi0,by rw [hr2] at h;simpa using h⟩
 have hw:r5=true→IntKind.i64.wrap (IntKind.i64.wrap ((10:Int)*n)+IntKind.i64.wrap (IntKind.u8.wrap (r1 - (48:Int))))=10*n +(atB s i - 48)∧IntKind.i64.wrap (i+1)=i+1∧i<2∧r2=true∧atD s i=true∧48≤atB s i∧atB s i≤57:=fun h=>by
  rw [e5] at h
  simp only [Bool.and_eq_true] at h
  have h2:=h.1
  unfold atD at h2
  simp only [Bool.and_eq_true,decide_eq_true_eq] at h2
  have h3:i<2:=by have:=h.2;rw [hr3] at this;simpa using this
  have hn:0≤n∧n≤9:=by rcases hi with ⟨a,b⟩ |⟨a,b,c⟩ |⟨a,b,c⟩ <;> simp only at a b <;>(try simp only at c) <;> omega
  have e1:r1=atB s i:=hr1
  have w1:IntKind.u8.wrap (atB s i - 48)=atB s i - 48:=NT (by omega) (by omega)
  have w2:IntKind.i64.wrap (atB s i - 48)=atB s i - 48:=qf (by omega) (by omega)
  have w3:IntKind.i64.wrap (10*n)=10*n:=qf (by omega) (by omega)
  rw [e1,w1,w2,w3]
  exact ⟨qf (by omega) (by omega),qf (by omega) (by omega),h3,by rw [hr2];simpa using h2.1,h.1,h2.2.1,h2.2.2⟩
 refine ⟨⟨⟨fun h=>⟨fun _=>⟨hz h,fun _=>⟨hz h,trivial⟩,fun _=>trivial⟩,fun _=>trivial⟩,fun _=>trivial⟩,fun _=>⟨fun h=>?_,fun _=>trivial⟩⟩,?_⟩
 ·obtain ⟨a,b,c,d,e,f,g⟩:=hw h
  rw [a,b]
  refine ⟨hz d,?_,?_⟩
  ·show (i+1=0∧_)∨(i+1=1∧_)∨(i+1=2∧_)
   rcases hi with ⟨x,z⟩ |⟨x,z,w⟩ |⟨x,z,w⟩
   ·have x:i=0:=x
    have z:n=0:=z
    exact .inr (.inl ⟨by omega,by show 0≤10*n +(atB s i - 48);omega,by show 10*n +(atB s i - 48)≤9;omega⟩)
   ·have x:i=1:=x
    have z:0≤n:=z
    have w:n≤9:=w
    exact .inr (.inr ⟨by omega,by show 0≤10*n +(atB s i - 48);omega,by show 10*n +(atB s i - 48)≤99;omega⟩)
   ·have x:i=2:=x
    omega
  ·show (2 - (i+1)).toNat <(2 - i).toNat
   omega
 ·show r6=_
  rw [hr6]
  cases h:r5 with
  | true=>
   obtain ⟨a,b,c,d,e,f,g⟩:=hw h
   rw [a,b]
   show (s,nbV s _ (i+1),nbI s (i+1),()) =(s,nbV s n i,nbI s i,())
   rcases hi with ⟨x,z⟩ |⟨x,z,w⟩ |⟨x,z,w⟩
   ·have x:i=0:=x
    subst x
    unfold nbV nbI
    rw [e];rfl
   ·have x:i=1:=x
    subst x
    unfold nbV nbI
    rw [e];rfl
   ·have x:i=2:=x
    omega
  | false=>
   show (s,n,i,()) =(s,nbV s n i,nbI s i,())
   rw [h] at e5
   rcases hi with ⟨x,z⟩ |⟨x,z,w⟩ |⟨x,z,w⟩
   ·have x:i=0:=x
    subst x
    have e3:r3=true:=hr3
    rw [e3,Bool.and_true] at e5
    unfold nbV nbI
    rw [←e5];rfl
   ·have x:i=1:=x
    subst x
    have e3:r3=true:=hr3
    rw [e3,Bool.and_true] at e5
    unfold nbV nbI
    rw [←e5];rfl
   ·have x:i=2:=x
    subst x
    rfl
noncomputable def NK:LoopSum:=az lpNb qb uS
noncomputable def No:Nat:=rid (bf Tryz.f178 0)
theorem OZ:LoopOKp Tryz.prog 0 Tryz.f178.ntmps (bf Tryz.f178 0) (az lpNb qb uS):=
 aY lpNb (au (CtrsOK.nil) _) mixed (fun b hb S hS=>by cases hS) qb uS I6 (fun |⟨s,n,i,⟨⟩⟩,hi=>P4 s n i hi)
theorem Bl (s:ByteArray) :(evPat (ax [] Tryz.f178) (find [(No,NK)]) Tryz.f178 nk Ml (s,())).sat fun z_=>z_ =(J8 (s,())).2:=by
 refine cast (by kernel_rfl) (?_ :((ij fun x=>none)∧((0:Int) =(0:Int)∧(0:Int) =(0:Int)∨(0:Int) =(1:Int)∧(0:Int)≤(0:Int)∧(0:Int)≤(9:Int)∨(0:Int) =(2:Int)∧(0:Int)≤(0:Int)∧(0:Int)≤(99:Int)))∧((0:Int)≤nbI s (0:Int)∧nbI s (0:Int)≤(↑s.size:Int)∧(↑s.size:Int)≤(↑s.size:Int))∧(nbV s (0:Int) (0:Int),s.extract (nbI s (0:Int)).toNat (↑s.size:Int).toNat,()) =(nmV s,nmR s,()))
 refine ⟨⟨rfl,.inl ⟨rfl,rfl⟩⟩,?_,?_⟩
 ·have h0:=QC s
  have h1:=QD s
  unfold nbI
  rw [h0,h1]
  cases a:cn s with
  | false=>exact ⟨Int.le_refl _,by show (0:Int)≤s.size;omega,Int.le_refl _⟩
  | true=>
   have z:=fc (s:=s) (by unfold cn at a;simp at a;exact a.1)
   cases b:cn (tl s) with
   | false=>exact ⟨(by decide :(0:Int)≤1),by show (1:Int)≤s.size;omega,Int.le_refl _⟩
   | true=>
    have z2:=fc (s:=tl s) (by unfold cn at b;simp at b;exact b.1)
    rw [E8] at z2
    exact ⟨(by decide :(0:Int)≤2),by show (2:Int)≤s.size;omega,Int.le_refl _⟩
 ·have h0:=QC s
  have h1:=QD s
  have g1:hd (tl s)=atB s 1:=M6 s
  have g0:hd s=atB s 0:=rfl
  unfold nbI nbV
  rw [h0,h1]
  cases a:cn s with
  | false=>
   have e:dgR s=s:=by unfold dgR;rw [a];rfl
   have e2:dgV s=0:=by unfold dgV;rw [a];rfl
   unfold nmV nmR
   rw [e,a,e2]
   show (_,s.extract 0 s.size,())=_
   have:s.extract 0 s.size=s:=by simp
   rw [this];rfl
  | true=>
   have e:dgR s=tl s:=by unfold dgR;rw [a];rfl
   have e2:dgV s=hd s - 48:=by unfold dgV;rw [a];rfl
   unfold nmV nmR
   rw [e,e2]
   cases b:cn (tl s) with
   | false=>
    show ((10*0 +(atB s 0 - 48):Int),tl s,()) =(hd s - 48,tl s,())
    rw [g0];simp
   | true=>
    have e3:dgR (tl s)=tl (tl s):=by unfold dgR;rw [b];rfl
    have e4:dgV (tl s)=hd (tl s) - 48:=by unfold dgV;rw [b];rfl
    rw [e3,e4,g0,g1]
    have:tl (tl s)=s.extract 2 s.size:=b9 (by
     rw [qH,qH,ByteArray.data_extract,Array.toList_extract]
     show (s.data.toList.drop 1).drop 1 =(s.data.toList.drop 2).take (s.size - 2)
     rw [List.drop_drop,List.take_of_length_le (by simp)])
    rw [this]
    show (10 *(10*0 +(atB s 0 - 48)) +(atB s 1 - 48),s.extract 2 s.size,()) =(10 *(atB s 0 - 48) +(atB s 1 - 48),s.extract 2 s.size,())
    rw [Int.mul_zero,Int.zero_add]
def lY:FuncId×Ctr:=(178,ae KE nk Ml J8)
theorem sr:CtrOK Tryz.prog KE 178 (ae KE nk Ml J8):=by
 refine aE (C:=ax [] Tryz.f178) (au (CtrsOK.nil) _) mixed (fn:=Tryz.f178) Tryz.func178 (by kernel_rfl) (by kernel_rfl) (by kernel_rfl) (by kernel_rfl) (by kernel_rfl) (by kernel_rfl) (Λ:=fun x=>find [(No,NK)]) ?_ ?_
 ·rintro ⟨s,⟨⟩⟩ hw hn
  exact LoopsOKp.at (by kernel_rfl) (.cons (by kernel_rfl) (OZ) .nil)
 ·rintro ⟨s,⟨⟩⟩ hw hn
  exact Bl s
end Go.Proofs.YtffdpnmioidloaaGreatDoor
