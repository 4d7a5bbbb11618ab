/- Texts of the mirror and contracts, put together. -/
import Derived.Test.YtffdpnmioidloaaGreatDoorPK7
import Derived.Test.YtffdpnmioidloaaGreatDoorPK6
import Derived.Test.YtffdpnmioidloaaGreatDoorTie
import Derived.SizedLaws
import Derived.LaidMore
import Derived.OpenShut
import Derived.ProofKit
import Derived.Test.YtffdpnmioidloaaGreatDoorPK4
import Derived.HandedShaped
import Derived.LaidSub
import Derived.Stop.LaidErr
import Derived.Lib.LaidTab
import Derived.Lay
import Derived.MakeChecks
import Derived.Test.YtffdpnmioidloaaGreatDoorPK3
namespace Go.Proofs.YtffdpnmioidloaaGreatDoor
open Go Go.Mir Go.RowKit
def JC:V:= .fsl (.nm .Event) exL
noncomputable def Q5:U:= .oth JC
def Er:V:=Ar (q2Play0.tmOf tx)
noncomputable def Q6:U:=jV (kbV Er)
def Gd:V:= .agg [.str exR.Name,.int .i64 2,.int .i64 1,.int .i64 1,.int .i64 4,.int .i64 0,.int .i64 1,.int .i64 1,.kb false,.int .i64 0,.int .i64 0,.int .i64 0,.int .i64 11,.nilsl]
def Du (v:V):Bool:=match v with
 | .fsl t xs=>if h:t = .nm .Event then BE (eqD eM (.nm .Event)) (h▸xs:List (Den (.nm .Event))) exL else false
 | _=>false
theorem Hi {v:V} (h:Du v=true):v=JC:=by
 unfold Du at h
 split at h
 ·split at h
  ·rename_i e
   subst e
   have:=w7 (oQ eM _) h
   unfold JC
   exact congrArg _ this
  ·cases h
 ·cases h
noncomputable def Hd (args:List U):Option (U×Nat):=match args with
 | []=>some (Q5,KE)
 | _=>none
noncomputable def BQ (args:List U):Option (U×Nat):=match args with
 | [a,b]=>Bool.rec (motive:=fun _=>Option (U×Nat)) none (Bool.rec (motive:=fun _=>Option (U×Nat)) none (some (Q6,KE)) (Du b.toV)) (V.eqb a.toV Gd)
 | _=>none
noncomputable def Nz:yA:=fun f=>Bool.rec (motive:=fun _=>Option (List U→Option (U×Nat))) (Bool.rec (motive:=fun _=>Option (List U→Option (U×Nat))) none (some BQ) (Nat.beq f 76)) (some Hd) (Nat.beq f 38)
theorem NJ (H:au) (m:Nat) :∃ ps,ah KE OT IP (fun x=>([x =()],(exL,()))) [] H m=some (ps,JC,[])∧∀ p∈ps,p:=
 ⟨[() =()],by kernel_rfl,fun p hp=>by rw [List.mem_singleton.1 hp]⟩
theorem Kg (H:au) (m:Nat) :∃ ps,ah KE xX q2Play0 (fun x=>([x=pH],tx)) [Gd,JC] H m=some (ps,Er,[])∧∀ p∈ps,p:=
 ⟨[pH=pH],by kernel_rfl,fun p hp=>by rw [List.mem_singleton.1 hp]⟩
theorem NA:PS Tryz.prog Nz:=fun g hk h args q hp nx _ W hq=>by
 have h :(Bool.rec (motive:=fun _=>Option (List U→Option (U×Nat))) (Bool.rec (motive:=fun _=>Option (List U→Option (U×Nat))) none (some BQ) (Nat.beq g 76)) (some Hd) (Nat.beq g 38))=some hk:=h
 cases h1:Nat.beq g 38 with
 | true=>
  rw [h1] at h
  cases h
  obtain rfl:=ax h1
  unfold Hd at hq
  split at hq
  ·cases hq
   exact Dq OJ (us:= []) (u:=Q5) NJ (VLe.refl _) trivial W
  ·cases hq
 | false=>
  rw [h1] at h
  cases h2:Nat.beq g 76 with
  | false=>rw [h2] at h;cases h
  | true=>
   rw [h2] at h
   cases h
   obtain rfl:=ax h2
   unfold BQ at hq
   split at hq
   ·rename_i a b _
    cases h3:V.eqb a.toV Gd with
    | false=>rw [h3] at hq;cases hq
    | true=>
     rw [h3] at hq
     cases h4:Du b.toV with
     | false=>rw [h4] at hq;cases hq
     | true=>
      rw [h4] at hq
      cases hq
      refine Dq KG (us:= [a,b]) (v:=Er) (fun H m=>?_) ((BW _).trans (kM _)) (kN _) W
      show ∃ ps,ah KE xX q2Play0 (fun x=>([x=pH],tx)) [a.toV,b.toV] H m=some (ps,Er,[])∧∀ p∈ps,p
      rw [V.eqb_eq _ _ h3,Hi h4]
      exact Kg H m
   ·cases hq
theorem Ny (d:Nat):CallVOK Tryz.prog (qT (F3 tbl) awP awX awK Nz d):=yK PZ mixed (zW C3) (fun _ _ h=>h) Lv awK NA d
end Go.Proofs.YtffdpnmioidloaaGreatDoor
namespace Go.Proofs.YtffdpnmioidloaaGreatDoor
open Go Go.Mir Go.RowKit
def vw:FuncId×Ctr:=(11,aO KE .unit fun _=>⟨[],.bool true,[]⟩)
theorem Re:Qt true (qT (F3 tbl) awP awX awK Nz 40 11 [] hp0 0)=true:=by kernel_rfl
theorem Cb:CtrOK Tryz.prog KE 11 (aO KE .unit fun _=>⟨[],.bool true,[]⟩):=Bz (Ny 40) Re
end Go.Proofs.YtffdpnmioidloaaGreatDoor
namespace Go.Proofs.YtffdpnmioidloaaGreatDoor
open Go Go.Mir Go.RowKit
attribute [local irreducible] Go.Mir.DT.sat Go.Mir.evPat Go.Mir.RT.sat Go.Mir.evFn
def tB (s:ByteArray):ByteArray:=s.extract 0 (min 20 s.size)
def yR (l:List ByteArray):List ByteArray:=(l.take 12).map tB
abbrev qSl:Pat:=eQ [.slice .str]
abbrev K4:Pat:=⟨[(0,.c (.osl 0 1))],[(0,.row 1 .str)],2⟩
def O0:Den (tyP qSl)→List Prop×Den (tyP K4):=fun x=>([],(yR x.1,()))
abbrev qCu:Pat:=⟨[(3,.c (.osl 0 1)),(10,.h (.slice .str)),(11,.h I),(12,.h I)],[(0,.row 1 .str)],2⟩
abbrev xCu:List (Lf×Pat):= [(.ext 0,⟨[(3,.c (.osl 0 1))],[(0,.row 1 .str)],2⟩)]
abbrev TCu:Type:=List ByteArray×Int×Int×List ByteArray×Unit
def mL:TCu→List ByteArray×Unit
 |(l,_,i,o,_)=>(o ++(l.drop i.toNat).map tB,())
def uS:TCu→Prop
 |(l,n,i,o,_)=>(n =(l.length:Int)∧l.length≤12)∧(0≤i∧i≤n)∧(o.length:Int)≤i
def HK:TCu→Nat
 |(_,n,i,_)=>(n - i).toNat
def w2 (x:Mir.Box):Mir.Box:=⟨x.Over,x.Bowler,yR x.Symbols⟩
def w4 (x:Mir.Strip):Mir.Strip:=⟨x.Player,yR x.Symbols,x.How,x.Bowler⟩
def fP (b:Mir.Book):Mir.Book:=⟨b.Side,(b.Boxes.take 8).map w2,(b.Strips.take 8).map w4,b.Extras,b.Total,b.Wickets⟩
def O2:Den (tyP qBk)→List Prop×Den (tyP qBk):=fun x=>([],(fP x.1,()))
abbrev PY:PB:= .cells [.c .any,.c .any,.c .any,.c .any,.c .any,.c .any,.c .any,.c .any,.c .any,.c .any]
abbrev Ql:List (Nat×PB):= [(0,.dat (.nm .Book)),(1,.row 2 (.nm .Box)),(3,PY)]
abbrev qF0:Pat:=⟨[(1,.c (.ptr 0 0)),(2,.c (.ptr 3 0)),(3,.c (.osl 1 2)),(15,.h Bxs),(16,.h I),(17,.h I)],Ql,4⟩
abbrev xF0:List (Lf×Pat):= [(.ext 0,⟨[(1,.c (.ptr 0 0)),(2,.c (.ptr 3 0)),(3,.c (.osl 1 2))],Ql,4⟩)]
abbrev TF0:Type:=List Mir.Box×Int×Int×Mir.Book×List Mir.Box×Unit
def mM:TF0→Mir.Book×List Mir.Box×Unit
 |(l,_,i,b,o,_)=>(b,o ++(l.drop i.toNat).map w2,())
def uV:TF0→Prop
 |(l,n,i,_,o,_)=>(n =(l.length:Int)∧l.length≤8)∧(0≤i∧i≤n)∧(o.length:Int)≤i
def HN:TF0→Nat
 |(_,n,i,_)=>(n - i).toNat
abbrev Qm:List (Nat×PB):= [(0,.dat (.nm .Book)),(1,.row 2 (.nm .Box)),(3,.row 4 (.nm .Strip)),(5,PY)]
abbrev qF1:Pat:=⟨[(1,.c (.ptr 0 0)),(2,.c (.ptr 5 0)),(3,.c (.osl 1 2)),(6,.c (.osl 3 4)),(36,.h Sts),(37,.h I),(38,.h I)],Qm,6⟩
abbrev xF1:List (Lf×Pat):= [(.ext 2,⟨[(1,.c (.ptr 0 0)),(2,.c (.ptr 5 0)),(3,.c (.osl 1 2)),(6,.c (.osl 3 4))],Qm,6⟩)]
abbrev TF1:Type:=List Mir.Strip×Int×Int×Mir.Book×List Mir.Box×List Mir.Strip×Unit
def mN:TF1→Mir.Book×List Mir.Box×List Mir.Strip×Unit
 |(l,_,i,b,a,o,_)=>(b,a,o ++(l.drop i.toNat).map w4,())
def uW:TF1→Prop
 |(l,n,i,_,_,o,_)=>(n =(l.length:Int)∧l.length≤8)∧(0≤i∧i≤n)∧(o.length:Int)≤i
def HO:TF1→Nat
 |(_,n,i,_)=>(n - i).toNat
def QW:Den (tyP qBk)→List Prop×Den (tyP bq):=fun _=>([],(true,()))
noncomputable def lpCu:Lp:=(⟨0,aC [] Tryz.f40,(fun _=>none),(aq Tryz.f40 0),qCu,xCu⟩:Lp)
theorem O8 (l:List ByteArray) (n:Int) (i:Int) (o:List ByteArray) (hi:uS (l,n,i,o,())) :(Go.Mir.stepG lpCu mL (fun y:Den (tyP lpCu.q)=>uS y∧HK y<HK (l,n,i,o,())) (l,n,i,o,())∧Go.Mir.stepE lpCu mL (l,n,i,o,())=mL (l,n,i,o,())):=by
 refine cast (by kernel_rfl) (?_:let r1:Int:=if (20:Int) <(↑(ByteArray.size (l.getD i.toNat (dflt Ty.str))):Int) then (20:Int) else (↑(ByteArray.size (l.getD i.toNat (dflt Ty.str))):Int);let r2:List ByteArray:= [ByteArray.extract (l.getD i.toNat (dflt Ty.str)) (Int.toNat (0:Int)) r1.toNat];((decide (i<n)=true→((0:Int)≤i∧i <(↑l.length:Int))∧((0:Int)≤(0:Int)∧(0:Int)≤r1∧r1≤(↑(ByteArray.size (l.getD i.toNat (dflt Ty.str))):Int))∧(o.length+r2.length) *(16:Nat)≤(70368744177664:Nat)∧uS (l,n,IntKind.i64.wrap (i +(1:Int)),o++r2,())∧HK (l,n,IntKind.i64.wrap (i +(1:Int)),o++r2,())<HK (l,n,i,o,()))∧(decide (i<n)=false→True))∧(bif decide (i<n) then mL (l,n,IntKind.i64.wrap (i +(1:Int)),o++r2,()) else (o,()))=mL (l,n,i,o,()))
 intro r1 r2
 clear_value (hr1:r1=_) (hr2:r2=_)
 obtain ⟨⟨h1,h1b⟩,⟨h2,h3⟩,h4⟩:=hi
 have h1:n =(l.length:Int):=h1
 have h1b:l.length≤12:=h1b
 have h2:0≤i:=h2
 have h3:i≤n:=h3
 have h4 :(o.length:Int)≤i:=h4
 by_cases h:i<n
 ·have e1:IntKind.i64.wrap (i+1)=i+1:=wrap64 (by omega) (by omega)
  have hd:l.drop i.toNat=l.getD i.toNat (dflt (Ty.str))::l.drop (i+1).toNat:=aL h2 (by omega) _
  generalize l.getD i.toNat (dflt (Ty.str))=x at *
  have e1r:r1.toNat=min 20 (ByteArray.size x):=by rw [hr1];split <;> omega
  have eR:r2=[tB x]:=by rw [hr2,e1r];rfl
  have hl:r2.length=1:=by rw [eR];rfl
  have hr:0≤r1∧r1≤(ByteArray.size x:Int):=by rw [hr1];split <;> omega
  have key:mL (l,n,i,o,())=mL (l,n,i+1,o++r2,()):=by
   show (o ++(l.drop i.toNat).map tB,()) =((o++r2) ++(l.drop (i+1).toNat).map tB,())
   rw [hd,eR,List.map_cons,List.append_assoc]
   rfl
  rw [decide_eq_true h,e1,key]
  refine ⟨⟨fun _=>⟨⟨h2,by omega⟩,⟨Int.le_refl _,hr⟩,by omega,⟨⟨h1,h1b⟩,⟨?_,?_⟩,?_⟩,?_⟩,fun z=>Bool.noConfusion z⟩,rfl⟩
  ·show 0≤i+1;omega
  ·show i+1≤n;omega
  ·show ((o++r2).length:Int)≤i+1
   rw [List.length_append];omega
  ·show (n - (i+1)).toNat <(n - i).toNat;omega
 ·rw [decide_eq_false h]
  refine ⟨⟨fun z=>Bool.noConfusion z,fun _=>trivial⟩,?_⟩
  show _ =(o ++(l.drop i.toNat).map tB,())
  rw [aF (l:=l) (by omega),List.map_nil,List.append_nil]
  rfl
noncomputable def Mu:LoopSum:=ai lpCu mL uS
noncomputable def LW:Nat:=rid (aq Tryz.f40 0)
theorem NU:LoopOKp Tryz.prog 0 Tryz.f40.ntmps (aq Tryz.f40 0) (ai lpCu mL uS):=
 az lpCu (ao (CtrsOK.nil) _) mixed (fun b hb S hS=>by cases hS) mL uS HK (fun |⟨l,n,i,o,⟨⟩⟩,hi=>O8 l n i o hi)
theorem FR (l:List ByteArray) :(evPat (aC [] Tryz.f40) (find [(LW,Mu)]) Tryz.f40 qSl K4 (l,())).sat fun z_=>z_ =(O0 (l,())).2:=by
 refine cast (by kernel_rfl) (?_:let r1:Int:=if (12:Int) <(↑l.length:Int) then (12:Int) else (↑l.length:Int);let r2:List ByteArray:=List.drop (Int.toNat (0:Int)) (List.take r1.toNat l);let r3:Int:=(↑r2.length:Int);((0:Int)≤(0:Int)∧(0:Int)≤r1∧r1≤(↑l.length:Int))∧((c8 fun x=>none)∧(r3 =(↑r2.length:Int)∧r2.length≤(12:Nat))∧((0:Int)≤(0:Int)∧(0:Int)≤r3)∧(↑(0:Nat):Int)≤(0:Int))∧([]++List.map tB (List.drop (Int.toNat (0:Int)) r2),()) =(yR l,()))
 intro r1 r2 r3
 clear_value (hr1:r1=_) (hr2:r2=_) (hr3:r3=_)
 have e1:0≤r1∧r1≤(l.length:Int)∧r1.toNat=min 12 l.length:=by rw [hr1];split <;> omega
 have e2:r2=l.take 12:=by
  rw [hr2,e1.2.2]
  show l.take (min 12 l.length)=_
  rw [List.take_eq_take_iff]
  omega
 have hl:r2.length≤12:=by rw [e2,List.length_take];omega
 refine ⟨⟨Int.le_refl _,e1.1,e1.2.1⟩,⟨rfl,⟨hr3,hl⟩,⟨Int.le_refl _,by omega⟩,Int.le_refl _⟩,?_⟩
 rw [e2]
 rfl
def qz:FuncId×Ctr:=(40,ah KE qSl K4 O0)
theorem sy:CtrOK Tryz.prog KE 40 (ah KE qSl K4 O0):=by
 refine ba (C:=aC [] Tryz.f40) (ao (CtrsOK.nil) _) mixed (fn:=Tryz.f40) Tryz.func40 (by kernel_rfl) (by kernel_rfl) (by kernel_rfl) (by kernel_rfl) (by kernel_rfl) (by kernel_rfl) (Λ:=fun x=>find [(LW,Mu)]) ?_ ?_
 ·rintro ⟨l,⟨⟩⟩ hw hn
  exact LoopsOKp.at (by kernel_rfl) (.cons (by kernel_rfl) (NU) .nil)
 ·rintro ⟨l,⟨⟩⟩ hw hn
  exact FR l
noncomputable def lpF0:Lp:=(⟨0,aC [qz] Tryz.f12,(fun _=>none),(aq Tryz.f12 0),qF0,xF0⟩:Lp)
theorem Pc (l:List Mir.Box) (n:Int) (i:Int) (b:Mir.Book) (o:List Mir.Box) (hi:uV (l,n,i,b,o,())) :(Go.Mir.stepG lpF0 mM (fun y:Den (tyP lpF0.q)=>uV y∧HN y<HN (l,n,i,b,o,())) (l,n,i,b,o,())∧Go.Mir.stepE lpF0 mM (l,n,i,b,o,())=mM (l,n,i,b,o,())):=by
 refine cast (by kernel_rfl) (?_:let r1:List Mir.Box:= [Mir.Box.mk (l.getD i.toNat (dflt (Ty.nm Nm.Box))).1 (l.getD i.toNat (dflt (Ty.nm Nm.Box))).2 (yR (l.getD i.toNat (dflt (Ty.nm Nm.Box))).3)];((decide (i<n)=true→((0:Int)≤i∧i <(↑l.length:Int))∧(o.length+r1.length) *(40:Nat)≤(70368744177664:Nat)∧uV (l,n,IntKind.i64.wrap (i +(1:Int)),b,o++r1,())∧HN (l,n,IntKind.i64.wrap (i +(1:Int)),b,o++r1,())<HN (l,n,i,b,o,()))∧(decide (i<n)=false→True))∧(bif decide (i<n) then mM (l,n,IntKind.i64.wrap (i +(1:Int)),b,o++r1,()) else (b,o,()))=mM (l,n,i,b,o,()))
 intro r1
 clear_value (hr1:r1=_)
 obtain ⟨⟨h1,h1b⟩,⟨h2,h3⟩,h4⟩:=hi
 have h1:n =(l.length:Int):=h1
 have h1b:l.length≤8:=h1b
 have h2:0≤i:=h2
 have h3:i≤n:=h3
 have h4 :(o.length:Int)≤i:=h4
 by_cases h:i<n
 ·have e1:IntKind.i64.wrap (i+1)=i+1:=wrap64 (by omega) (by omega)
  have hd:l.drop i.toNat=l.getD i.toNat (dflt (Ty.nm Nm.Box))::l.drop (i+1).toNat:=aL h2 (by omega) _
  generalize l.getD i.toNat (dflt (Ty.nm Nm.Box))=x at *
  have eR:r1=[w2 x]:=hr1
  have hl:r1.length=1:=by rw [eR];rfl
  have key:mM (l,n,i,b,o,())=mM (l,n,i+1,b,o++r1,()):=by
   show (b,o ++(l.drop i.toNat).map w2,()) =(b,(o++r1) ++(l.drop (i+1).toNat).map w2,())
   rw [hd,eR,List.map_cons,List.append_assoc]
   rfl
  rw [decide_eq_true h,e1,key]
  refine ⟨⟨fun _=>⟨⟨h2,by omega⟩,by omega,⟨⟨h1,h1b⟩,⟨?_,?_⟩,?_⟩,?_⟩,fun z=>Bool.noConfusion z⟩,rfl⟩
  ·show 0≤i+1;omega
  ·show i+1≤n;omega
  ·show ((o++r1).length:Int)≤i+1
   rw [List.length_append];omega
  ·show (n - (i+1)).toNat <(n - i).toNat;omega
 ·rw [decide_eq_false h]
  refine ⟨⟨fun z=>Bool.noConfusion z,fun _=>trivial⟩,?_⟩
  show _ =(b,o ++(l.drop i.toNat).map w2,())
  rw [aF (l:=l) (by omega),List.map_nil,List.append_nil]
  rfl
noncomputable def My:LoopSum:=ai lpF0 mM uV
noncomputable def L0:Nat:=rid (aq Tryz.f12 0)
theorem NY:LoopOKp Tryz.prog 0 Tryz.f12.ntmps (aq Tryz.f12 0) (ai lpF0 mM uV):=
 az lpF0 (ao (.consU sy rfl .nil) _) mixed (fun b hb S hS=>by cases hS) mM uV HN (fun |⟨l,n,i,b,o,⟨⟩⟩,hi=>Pc l n i b o hi)
noncomputable def lpF1:Lp:=(⟨0,aC [qz] Tryz.f12,(fun _=>none),(aq Tryz.f12 1),qF1,xF1⟩:Lp)
theorem Pd (l:List Mir.Strip) (n:Int) (i:Int) (b:Mir.Book) (a:List Mir.Box) (o:List Mir.Strip) (hi:uW (l,n,i,b,a,o,())) :(Go.Mir.stepG lpF1 mN (fun y:Den (tyP lpF1.q)=>uW y∧HO y<HO (l,n,i,b,a,o,())) (l,n,i,b,a,o,())∧Go.Mir.stepE lpF1 mN (l,n,i,b,a,o,())=mN (l,n,i,b,a,o,())):=by
 refine cast (by kernel_rfl) (?_:let r1:List Mir.Strip:= [Mir.Strip.mk (l.getD i.toNat (dflt (Ty.nm Nm.Strip))).1 (yR (l.getD i.toNat (dflt (Ty.nm Nm.Strip))).2) (l.getD i.toNat (dflt (Ty.nm Nm.Strip))).3 (l.getD i.toNat (dflt (Ty.nm Nm.Strip))).4];((decide (i<n)=true→((0:Int)≤i∧i <(↑l.length:Int))∧(o.length+r1.length) *(48:Nat)≤(70368744177664:Nat)∧uW (l,n,IntKind.i64.wrap (i +(1:Int)),b,a,o++r1,())∧HO (l,n,IntKind.i64.wrap (i +(1:Int)),b,a,o++r1,())<HO (l,n,i,b,a,o,()))∧(decide (i<n)=false→True))∧(bif decide (i<n) then mN (l,n,IntKind.i64.wrap (i +(1:Int)),b,a,o++r1,()) else (b,a,o,()))=mN (l,n,i,b,a,o,()))
 intro r1
 clear_value (hr1:r1=_)
 obtain ⟨⟨h1,h1b⟩,⟨h2,h3⟩,h4⟩:=hi
 have h1:n =(l.length:Int):=h1
 have h1b:l.length≤8:=h1b
 have h2:0≤i:=h2
 have h3:i≤n:=h3
 have h4 :(o.length:Int)≤i:=h4
 by_cases h:i<n
 ·have e1:IntKind.i64.wrap (i+1)=i+1:=wrap64 (by omega) (by omega)
  have hd:l.drop i.toNat=l.getD i.toNat (dflt (Ty.nm Nm.Strip))::l.drop (i+1).toNat:=aL h2 (by omega) _
  generalize l.getD i.toNat (dflt (Ty.nm Nm.Strip))=x at *
  have eR:r1=[w4 x]:=hr1
  have hl:r1.length=1:=by rw [eR];rfl
  have key:mN (l,n,i,b,a,o,())=mN (l,n,i+1,b,a,o++r1,()):=by
   show (b,a,o ++(l.drop i.toNat).map w4,()) =(b,a,(o++r1) ++(l.drop (i+1).toNat).map w4,())
   rw [hd,eR,List.map_cons,List.append_assoc]
   rfl
  rw [decide_eq_true h,e1,key]
  refine ⟨⟨fun _=>⟨⟨h2,by omega⟩,by omega,⟨⟨h1,h1b⟩,⟨?_,?_⟩,?_⟩,?_⟩,fun z=>Bool.noConfusion z⟩,rfl⟩
  ·show 0≤i+1;omega
  ·show i+1≤n;omega
  ·show ((o++r1).length:Int)≤i+1
   rw [List.length_append];omega
  ·show (n - (i+1)).toNat <(n - i).toNat;omega
 ·rw [decide_eq_false h]
  refine ⟨⟨fun z=>Bool.noConfusion z,fun _=>trivial⟩,?_⟩
  show _ =(b,a,o ++(l.drop i.toNat).map w4,())
  rw [aF (l:=l) (by omega),List.map_nil,List.append_nil]
  rfl
noncomputable def Mz:LoopSum:=ai lpF1 mN uW
noncomputable def L1:Nat:=rid (aq Tryz.f12 1)
theorem NZ:LoopOKp Tryz.prog 0 Tryz.f12.ntmps (aq Tryz.f12 1) (ai lpF1 mN uW):=
 az lpF1 (ao (.consU sy rfl .nil) _) mixed (fun b hb S hS=>by cases hS) mN uW HO (fun |⟨l,n,i,b,a,o,⟨⟩⟩,hi=>Pd l n i b a o hi)
theorem FQ (b:Mir.Book) :(evPat (aC [qz] Tryz.f12) (find [(L0,My),(L1,Mz)]) Tryz.f12 qBk qBk (b,())).sat fun z_=>z_ =(O2 (b,())).2:=by
 refine cast (by kernel_rfl) (?_:let r1:Int:=if (8:Int) <(↑b.2.length:Int) then (8:Int) else (↑b.2.length:Int);let r2:Int:=if (8:Int) <(↑b.3.length:Int) then (8:Int) else (↑b.3.length:Int);let r3:List Mir.Box:=List.drop (Int.toNat (0:Int)) (List.take r1.toNat b.2);let r4:List Mir.Strip:=List.drop (Int.toNat (0:Int)) (List.take r2.toNat b.3);let r5:Int:=(↑r3.length:Int);let r6:Int:=(↑r4.length:Int);((0:Int)≤(0:Int)∧(0:Int)≤r1∧r1≤(↑b.2.length:Int))∧((c8 fun x=>none)∧(r5 =(↑r3.length:Int)∧r3.length≤(8:Nat))∧((0:Int)≤(0:Int)∧(0:Int)≤r5)∧(↑(0:Nat):Int)≤(0:Int))∧((0:Int)≤(0:Int)∧(0:Int)≤r2∧r2≤(↑b.3.length:Int))∧((c8 fun x=>none)∧(r6 =(↑r4.length:Int)∧r4.length≤(8:Nat))∧((0:Int)≤(0:Int)∧(0:Int)≤r6)∧(↑(0:Nat):Int)≤(0:Int))∧(Mir.Book.mk b.1 ([]++List.map w2 (List.drop (Int.toNat (0:Int)) r3)) ([]++List.map w4 (List.drop (Int.toNat (0:Int)) r4)) b.4 b.5 b.6,()) =(fP b,()))
 intro r1 r2 r3 r4 r5 r6
 clear_value (hr1:r1=_) (hr2:r2=_) (hr3:r3=_) (hr4:r4=_) (hr5:r5=_) (hr6:r6=_)
 have e1:0≤r1∧r1≤(b.Boxes.length:Int)∧r1.toNat=min 8 b.Boxes.length:=by rw [hr1];split <;> omega
 have e2:0≤r2∧r2≤(b.Strips.length:Int)∧r2.toNat=min 8 b.Strips.length:=by rw [hr2];split <;> omega
 have e3:r3=b.Boxes.take 8:=by
  rw [hr3,e1.2.2]
  show b.Boxes.take (min 8 b.Boxes.length)=_
  rw [List.take_eq_take_iff]
  omega
 have e4:r4=b.Strips.take 8:=by
  rw [hr4,e2.2.2]
  show b.Strips.take (min 8 b.Strips.length)=_
  rw [List.take_eq_take_iff]
  omega
 have l3:r3.length≤8:=by rw [e3,List.length_take];omega
 have l4:r4.length≤8:=by rw [e4,List.length_take];omega
 refine ⟨⟨Int.le_refl _,e1.1,e1.2.1⟩,⟨rfl,⟨hr5,l3⟩,⟨Int.le_refl _,by omega⟩,Int.le_refl _⟩,⟨Int.le_refl _,e2.1,e2.2.1⟩,⟨rfl,⟨hr6,l4⟩,⟨Int.le_refl _,by omega⟩,Int.le_refl _⟩,?_⟩
 rw [e3,e4]
 rfl
def DC:FuncId×Ctr:=(12,ah KE qBk qBk O2)
theorem IB:CtrOK Tryz.prog KE 12 (ah KE qBk qBk O2):=by
 refine ba (C:=aC [qz] Tryz.f12) (ao (.consU sy rfl .nil) _) mixed (fn:=Tryz.f12) Tryz.func12 (by kernel_rfl) (by kernel_rfl) (by kernel_rfl) (by kernel_rfl) (by kernel_rfl) (by kernel_rfl) (Λ:=fun x=>find [(L0,My),(L1,Mz)]) ?_ ?_
 ·rintro ⟨b,⟨⟩⟩ hw hn
  exact LoopsOKp.at (by kernel_rfl) (.cons (by kernel_rfl) (NY) (.cons (by kernel_rfl) (NZ) .nil))
 ·rintro ⟨b,⟨⟩⟩ hw hn
  exact FQ b
theorem ER (s:ByteArray) :(tB s).size≤20:=by
 unfold tB
 rw [ByteArray.size_extract]
 omega
theorem yS :∀ l:List ByteArray,aU (l.map tB)≤21*l.length
 | []=>Nat.zero_le _
 | x::l=>by
  have h1:=ER x
  have h2:=yS l
  rw [List.map_cons,bK,List.length_cons]
  omega
theorem uH (l:List ByteArray):aU (yR l)≤252:=by
 have h:=yS (l.take 12)
 have :(l.take 12).length≤12:=by rw [List.length_take];omega
 unfold yR
 omega
theorem LD (b:Mir.Book) :(fP b).Boxes.length≤8∧∀ x∈(fP b).Boxes,aU x.Symbols≤252:=by
 refine ⟨?_,fun x hx=>?_⟩
 ·show ((b.Boxes.take 8).map w2).length≤8
  rw [List.length_map,List.length_take];omega
 ·obtain ⟨y,_,rfl⟩:=List.mem_map.1 hx
  exact uH _
theorem LF (b:Mir.Book) :(fP b).Strips.length≤8∧∀ x∈(fP b).Strips,aU x.Symbols≤252:=by
 refine ⟨?_,fun x hx=>?_⟩
 ·show ((b.Strips.take 8).map w4).length≤8
  rw [List.length_map,List.length_take];omega
 ·obtain ⟨y,_,rfl⟩:=List.mem_map.1 hx
  exact uH _
theorem ND (b:Mir.Book):tz (fP b):=by
 obtain ⟨h1,h2⟩:=LD b
 obtain ⟨h3,h4⟩:=LF b
 exact ⟨⟨by omega,by omega⟩,fun x hx=>Nat.le_trans (h2 x hx) (by decide),fun x hx=>Nat.le_trans (h4 x hx) (by decide)⟩
theorem qN {K:Nat} :∀ (l:List Mir.Box) (o:ByteArray),(∀ x∈l,(lnB (bj x)).size≤K)→(jq l o).size≤o.size+K*l.length
 | [],o,_=>by show o.size≤_;omega
 | x::l,o,h=>by
  have h1:=h x List.mem_cons_self
  have ih:=qN l (o++lnB (bj x)) fun y hy=>h y (List.mem_cons_of_mem _ hy)
  show (jq l (o++lnB (bj x))).size≤_
  rw [ByteArray.size_append] at ih
  rw [List.length_cons,Nat.mul_add]
  omega
theorem qO {K:Nat} :∀ (l:List Mir.Strip) (o:ByteArray),(∀ x∈l,(lnB (aG x)).size≤K)→(qh l o).size≤o.size+K*l.length
 | [],o,_=>by show o.size≤_;omega
 | x::l,o,h=>by
  have h1:=h x List.mem_cons_self
  have ih:=qO l (o++lnB (aG x)) fun y hy=>h y (List.mem_cons_of_mem _ hy)
  show (qh l (o++lnB (aG x))).size≤_
  rw [ByteArray.size_append] at ih
  rw [List.length_cons,Nat.mul_add]
  omega
theorem sa (ws:List ByteArray) :(lnB ws).size≤aU ws+1:=by
 have h:=fv ws
 have:nlV.size=1:=rfl
 unfold lnB
 rw [ByteArray.size_append]
 omega
theorem Js {b:Mir.Book} (h:bT (fP b)=0) :(fi (fP b)).size≤20000:=by
 have hw:=yx h
 obtain ⟨h1,h2⟩:=LD b
 obtain ⟨h3,h4⟩:=LF b
 have hx :∀ x∈(fP b).Boxes,(lnB (bj x)).size≤400:=fun x hx=>by
  have:=sa (bj x)
  obtain ⟨g1,g2,_⟩:=hw.bx x hx
  have z1:=bl g1.1 g1.2
  have z2:=bl g2.1 g2.2
  have z3:=h2 x hx
  have e:aU (bj x)≤399:=by
   unfold bj bA
   simp only [List.map_cons,List.map_nil,List.cons_append,List.nil_append,bK]
   have hb:boxV.size=3:=rfl
   omega
  omega
 have hy :∀ x∈(fP b).Strips,(lnB (aG x)).size≤400:=fun x hx=>by
  have:=sa (aG x)
  obtain ⟨g1,g2,_⟩:=hw.st x hx
  have z1:=bl g1.1 g1.2
  have z2:=bl g2.1 g2.2
  have z3:=h4 x hx
  have z4:=mj x.How
  have e:aU (aG x)≤399:=by
   unfold aG bA
   simp only [List.map_cons,List.map_nil,List.cons_append,List.nil_append,bK]
   have hb:stripV.size=5:=rfl
   omega
  omega
 have h0 :(lnB (bm (fP b))).size≤400:=by
  have:=sa (bm (fP b))
  have e:aU (bm (fP b))≤399:=by
   unfold bm bA bR
   have z:=fun n hn=>bl (hw.hd n hn).1 (hw.hd n hn).2
   unfold bR at z
   simp only [List.map_cons,List.map_nil,List.append_nil,bK]
   have h0:aU []=0:=rfl
   have hb:bookV.size=4:=rfl
   have z1:=z (fP b).Side (by simp)
   have z2:=z (fP b).Total (by simp)
   have z3:=z (fP b).Wickets (by simp)
   have z4:=z (fP b).Extras.Wides (by simp)
   have z5:=z (fP b).Extras.NoBalls (by simp)
   have z6:=z (fP b).Extras.Byes (by simp)
   have z7:=z (fP b).Extras.LegByes (by simp)
   have z8:=z (fP b).Extras.Penalties (by simp)
   omega
  omega
 have k1:=qN _ (lnB (bm (fP b))) hx
 have k2:=qO _ (jq (fP b).Boxes (lnB (bm (fP b)))) hy
 rw [th]
 omega
theorem AU (b:Mir.Book) :(evPat (aC [vw,DC,xD,zA,zx,Dz,zz] Tryz.f3) (fun _=>none) Tryz.f3 qBk bq (b,())).sat fun z_=>z_ =(QW (b,())).2:=by
 refine cast (by kernel_rfl) (?_:let r1:Mir.Book:=Mir.Book.mk b.1 (List.map w2 (List.take (8:Nat) b.2)) (List.map w4 (List.take (8:Nat) b.3)) b.4 b.5 b.6;let r2:ByteArray×Int:=bs r1;let r3:Mir.Book×Int:=gb r2.1;let r4:Bool:=r2.2 !=(0:Int);let r5:Bool:=mT r1 r3.1;let r6:Bool:=bif !r2.1.toList==r2.1.toList then true else r2.2 != r2.2;((!true)=true→(false,()) =(true,()))∧((!true)=false→tz r1∧tz r1∧(r6=true→(false,()) =(true,()))∧(r6=false→(r4=true→(r2.1.toList ==(ByteArray.mk #[]).toList,()) =(true,()))∧(r4=false→r2.1.size≤(20000:Nat)∧(bif r3.2 ==(0:Int) then bif r5 then r5 else false else false,()) =(true,())))))
 intro r1 r2 r3 r4 r5 r6
 clear_value (hr1:r1=_) (hr2:r2=_) (hr3:r3=_) (hr4:r4=_) (hr5:r5=_) (hr6:r6=_)
 have e1:r1=fP b:=hr1
 have hb:tz r1:=by rw [e1];exact ND b
 refine ⟨fun h=>Bool.noConfusion h,fun _=>⟨hb,hb,fun h6=>?_,fun _=>⟨fun h4=>?_,fun h4=>?_⟩⟩⟩
 ·have:r6=false:=by rw [hr6];simp
  rw [this] at h6
  exact Bool.noConfusion h6
 ·have hW:bT r1≠0:=fun hW=>by rw [hr4,hr2,qJ hW] at h4;exact Bool.noConfusion h4
  rw [hr2,qI hW]
  show ((⟨#[]⟩:ByteArray).toList ==(⟨#[]⟩:ByteArray).toList,())=_
  rw [beq_self_eq_true]
 ·have hW:bT r1=0:=by
   by_cases hW:bT r1=0
   ·exact hW
   ·rw [hr4,hr2,qI hW] at h4
    have h4:bT r1=0:=by simpa using h4
    exact h4
  have e2:r2 =(fi r1,0):=by rw [hr2,qJ hW]
  have e3:r3 =(r1,0):=by rw [hr3,e2];exact (Ch hW).1
  have e5:r5=true:=by rw [hr5,e3];exact FU r1
  rw [e1] at hW
  have hz:=Js hW
  rw [←e1] at hz
  rw [e5,e3,e2]
  exact ⟨hz,rfl⟩
theorem Ca:CtrOK Tryz.prog KE 3 (ah KE qBk bq QW):=by
 refine ba (C:=aC [vw,DC,xD,zA,zx,Dz,zz] Tryz.f3) (ao (.consU Cb rfl (.consU IB rfl (.consU Am rfl (.consU Fy rfl (.consU Fv rfl (.consU Iz rfl (.consU Fx rfl .nil))))))) _) mixed (fn:=Tryz.f3) Tryz.func3 (by kernel_rfl) (by kernel_rfl) (by kernel_rfl) (by kernel_rfl) (by kernel_rfl) (by kernel_rfl) (Λ:=fun _ _=>none) ?_ ?_
 ·exact fun _ _ _ _ _ _ _ _ h=>by cases h
 ·rintro ⟨b,⟨⟩⟩ hw hn
  exact AU b
end Go.Proofs.YtffdpnmioidloaaGreatDoor
namespace Go.Proofs.YtffdpnmioidloaaGreatDoor
open Go Go.ChangeShapes Go.WideShapes Go.ChangeAt Go.RowKit
theorem RI:ownKnob Tryz.prog.godebug=none:=by kernel_rfl
end Go.Proofs.YtffdpnmioidloaaGreatDoor
namespace Go.Proofs.YtffdpnmioidloaaGreatDoor
open Go Go.Mir Go.RowKit Go.Shelf Go.ChangeShapes Go.WideShapes Go.ChangeAt
theorem nM {H:Type} {enc:TypeId×Value→H} {a:Assume} {C:Checked} {os:Os} {f:FuncId} {fn:Func} {s:ChangeSpec} {conds:List PathCond} {apart fresh handsOn again:Bool} {X:World→Array Value→Prop}
  (hX :∀ (w w':World) (args:Array Value),w.heap=w'.heap→X w args→X w' args)
  (own:ownKnob C.prog.godebug=none) (started:os.Started) (noInit:C.prog.inits.idxOf? f=none) (hfn:C.prog.funcs[f]?=some fn)
  (witness :∃ (w:World) (tape:Tape) (i:Input),w.os=os∧(w.forCall tape i).Shaped C.prog∧i.vars=[]∧Input.okWide C.prog (w.forCall tape i) .any w.heap.size f i∧
   ((s.pre enc C.prog fn conds apart (w.forCall tape i).memory i.args∧X (w.forCall tape i).memory i.args)∧sizedMet enc C.prog fn (OpenSpec.ofChange s) apart (w.forCall tape i).memory i.args)∧a.holds C.prog (lone (Frame.enter C.prog f i.args .normal) [] (w.forCall tape i)))
  (contract :∀ (W:World) (base:Nat) (args:Array Value) (ds gs:List (DataW H)) (before:List MemPlace),
   (∀ (j:Nat) t v,fn.params[j]?=some t→args[j]?=some v→Value.okWide C.prog W .any base t v)→
   DataW.Whole enc C.prog fn.params.toList s.vars apart W args.toList ds gs before→
   conds.all (PathCond.test C.prog ⟨fn.params.toList,ds,s.plain.varTypes C.prog,gs⟩)=true→
   (DataW.weightsEach C.prog (fn.params.toList++s.plain.varTypes C.prog) (ds++gs)).all (·≤reachBytes)=true→X W args→W.ShapedOpen C.prog→
   a.holds C.prog (lone (Frame.enter C.prog f args .normal) [] W)→
   Calls C.prog f args W fun e W'=>∃ v,e = .returned v∧s.post enc C.prog fn apart fresh handsOn again W args v W') :
  ReturnsInHanded a C os f .any (fun w args=>(s.pre enc C.prog fn conds apart w args∧X w args)∧sizedMet enc C.prog fn (OpenSpec.ofChange s) apart w args) (s.post enc C.prog fn apart fresh handsOn again):=by
 refine returnsInHanded_of_calls own started noInit witness ?_
 intro w tape i _ hsh _ hok hpre hholds
 obtain ⟨_,_,_,fn',hfn',_,_,_,_,hval⟩:=hok
 have e:fn'=fn:=Option.some.inj (hfn'.symm.trans hfn)
 subst e
 obtain ⟨⟨⟨ds,gs,before,hw,hc⟩,hx⟩,hz⟩:=hpre
 have hw':=DataW.Whole.of_heap (w':=w.forCall tape i) (by rfl) hw
 refine (contract (w.forCall tape i) w.heap.size i.args ds gs before hval hw' hc (hz.weights hw) (hX _ _ _ (by rfl) hx) hsh hholds).mono fun e W' ⟨v,he,hp⟩=>?_
 subst he
 exact ChangeSpec.post_blind hp
abbrev kV:List (String×DataW Unit):= [("math/bits.deBruijn32tab",Rows.laid_math_bits_deBruijn32tab),("math/bits.deBruijn64tab",Rows.laid_math_bits_deBruijn64tab),("internal/strconv.uint64pow10",Rows.laid_internal_strconv_uint64pow10),("unicode/utf8.acceptRanges",Rows.laid_unicode_utf8_acceptRanges),("strconv.ErrRange",Rows.laid_strconv_ErrRange),("strconv.ErrSyntax",Rows.laid_strconv_ErrSyntax),("unicode/utf8.first",Rows.laid_unicode_utf8_first)]
theorem Hw {w:World} (h:laidMetH Tryz.prog kV w):laidMet Tryz.prog kV w:=by
 have:=(laidMetH_iff.1 h).1
 exact this
theorem qS {w:World} {n:String} {g:Nat} (hg:Tryz.prog.globalNamed n=some g) {c:Array Value} (h:w.var? Tryz.prog n=some c) :∃ T fr,w.heap[g]?=some (.cells c T fr):=by
 unfold World.var? at h
 rw [hg] at h
 simp only [Option.bind_some] at h
 split at h
 ·rename_i c' T fr hh
  cases h
  exact ⟨_,_,hh⟩
 ·cases h
theorem QX : "*" ++ "errors.errorString" = "*errors.errorString":=by decide
theorem Mp (u:TypeId) (h:Tryz.prog.typeName? 3 u=some "*errors.errorString"):u=325:=
 typeName_ptr_named (nm:="errors.errorString") (by rw [QX];kernel_rfl) (by kernel_rfl) (by decide) u (by rw [QX];exact h)
theorem Jr {w:World} (h:laidMet Tryz.prog kV w):Lib.TabIs Tryz.prog w "internal/strconv.uint64pow10" .u64 Lib.pow10Tab:=
 Lib.tabIs_of_head (g:=0) (t:=298) (e:=197) (n:=20) (by kernel_rfl) (by kernel_rfl) Tryz.underlying298 Tryz.underlying197 (by kernel_rfl) (by kernel_rfl) h.tail.tail
theorem F1 {w:World} (h:laidMet Tryz.prog kV w) :∃ T fr te pe,w.heap[2]?=some (.cells #[.iface te pe] T fr):=by
 obtain ⟨a,s,hv,-,-,-⟩:=laid_sentinel (g:=2) (ti:=118) h.tail.tail.tail.tail.tail (by kernel_rfl) (by kernel_rfl) Tryz.underlying118 Mp Tryz.underlying325 Tryz.underlying327 rfl rfl Tryz.underlying9 (by kernel_rfl) (by kernel_rfl)
 obtain ⟨T,fr,hb⟩:=qS (g:=2) (by kernel_rfl) hv
 exact ⟨T,fr,_,_,hb⟩
theorem FG {w:World} (h:laidMet Tryz.prog kV w) :∃ T fr te pe,w.heap[3]?=some (.cells #[.iface te pe] T fr):=by
 obtain ⟨a,s,hv,-,-,-⟩:=laid_sentinel (g:=3) (ti:=118) h.tail.tail.tail.tail (by kernel_rfl) (by kernel_rfl) Tryz.underlying118 Mp Tryz.underlying325 Tryz.underlying327 rfl rfl Tryz.underlying9 (by kernel_rfl) (by kernel_rfl)
 obtain ⟨T,fr,hb⟩:=qS (g:=3) (by kernel_rfl) hv
 exact ⟨T,fr,_,_,hb⟩
theorem ju {P:Program} {w:World} {g:Nat} {t:TypeId} {zero:Array Value} {k:IntKind}
  (h:w.ShapedOpen P) (hg:g<P.globals.size)
  (h0 :((begin P (fun _ _=>0) default).world.heap[g]?).bind Obj.row?=some (zero,t)) (hz:zero.size=1)
  (hb:P.buildable t=true) (hc:P.cellTypes P.depth t=some [t]) (hu:P.underlying t=some (.int k)) :
  ∃ m T fr,w.heap[g]?=some (.cells #[.int k m] T fr):=by
 obtain ⟨cs,hh,hs,hr⟩:=h.1 g zero t hg h0
 obtain ⟨ts,hts,_,hall⟩:=hr hb
 rw [hc] at hts
 cases hts
 have hs1:cs.size=1:=by omega
 have h1:0<cs.size:=by omega
 obtain ⟨u,hu',hok⟩:=hall 0 cs[0] (by simp [h1])
 have:u=t:=by simpa using hu'.symm
 subst this
 unfold Cell.ok at hok
 rw [hu] at hok
 have hcs:cs=#[cs[0]]:=by
  apply Array.ext
  ·simp [hs1]
  ·intro i h1 h2
   have:i=0:=by omega
   subst this
   rfl
 cases hv:cs[0] <;> rw [hv] at hok <;> simp at hok
 case int k' n=>
  refine ⟨n,u,(0,0),?_⟩
  rw [hh,hcs,hv,hok.1]
theorem Ke {w:World} (h:laidMetH Tryz.prog kV w) (hs:w.ShapedOpen Tryz.prog):jn w fun _=>False:=by
 have h:=Hw h
 intro p hp
 refine ⟨?_,fun h=>h⟩
 unfold GL at hp
 simp only [List.mem_cons,List.not_mem_nil,or_false] at hp
 rcases hp with rfl|rfl|rfl|rfl
 ·have ht:=Jr h
  unfold Lib.TabIs at ht
  obtain ⟨T,fr,hb⟩:=qS (g:=0) (by kernel_rfl) ht
  exact ⟨_,hb,T,fr,rfl⟩
 ·obtain ⟨m,T,fr,hb⟩:=ju (g:=1) (k:= .i64) (zero:=#[.int .i64 0]) (t:=3) hs (of_decide_eq_true (by kernel_rfl)) (by kernel_rfl) rfl (by kernel_rfl) (by kernel_rfl) Tryz.underlying3
  exact ⟨_,hb,m,T,fr,rfl⟩
 ·obtain ⟨T,fr,te,pe,hb⟩:=F1 h
  exact ⟨_,hb,te,pe,T,fr,rfl⟩
 ·obtain ⟨T,fr,te,pe,hb⟩:=FG h
  exact ⟨_,hb,te,pe,T,fr,rfl⟩
end Go.Proofs.YtffdpnmioidloaaGreatDoor
namespace Go.Proofs.YtffdpnmioidloaaGreatDoor
open Go Go.ChangeShapes Go.WideShapes Go.ChangeAt Go.RowKit
theorem EU (os:Os) (args:Array Value):laidMetH Tryz.prog kV ((World.laidAll Tryz.prog os kV).forCall (fun _ _=>0) ⟨#[],args,[]⟩).memory:=by
 rw [MakeChecks.laidMetH_plain _ _ _ (by kernel_rfl)]
 exact laidMet_laidAll _ (by kernel_rfl) (by kernel_rfl)
end Go.Proofs.YtffdpnmioidloaaGreatDoor
namespace Go.Mir
open Go.RowKit
variable {P:Program}
inductive PF where
 | dat
 | ptr
 | clo (g:FuncId)
end Go.Mir
namespace Go.Mir
open Go.RowKit Go.ChangeShapes Go.WideShapes
open Go.Proofs.YtffdpnmioidloaaGreatDoor.Rows (uptoBulk uptoBulkAll)
section
variable {H:Type} {enc:TypeId×Value→H} {P:Program} {w:World}
theorem B0 {K:Nat} {f:FuncId} {fn:Func} {c:Ctr} (hc:CtrOK P K f c) {ps:Ty} (hps:sT P fn.params.toList ps=true) (hgl:jn w fun _=>False)
  (h :∀ x:Den ps,wfD ps x→∃ ls,c (eo ps x) (fun _=>none) 0=some (ls,.bool true,[])∧∀ p∈ls,p)
  {args:Array Value} {ds:List (DataW H)} {p:List MemPlace} (hA:DataW.TrodAll enc P w 0 (fun _=>true) true fn.params.toList args.toList ds p) (hval :∀ (j:Nat) t v,fn.params[j]?=some t→args[j]?=some v→∃ r b,Value.okWide P w r b t v)
  (hw :∀ m∈DataW.weightsEach P fn.params.toList ds,m≤aw) :
  Calls P f args w fun e w'=>e = .returned (.bool true)∧Keeps w (fun _=>False) w':=by
 obtain ⟨x,k1,⟨cs,k2⟩,_,_,_⟩:=oE hA hps (fun j t v h1 h2=>hval j t v (by simpa using h1) (by simpa using h2)) hw
 obtain ⟨ls,e1,e2⟩:=h x ⟨_,_,_,k2⟩
 have hc:=hc.calls (Lw w hgl) (J2 w) (GS w hgl) _ _ k1 0 (fun n _ _ hu=>hu) ls _ _ e1 e2
 have e:args.toList.toArray=args:=by simp
 rw [e] at hc
 refine Calls.mono hc fun e w' hr=>?_
 obtain ⟨E',v',rfl,G,hv⟩:=hr
 simp only [aa] at hv
 subst hv
 refine ⟨rfl,?_⟩
 have:=G.rel.keeps
 rw [G.w] at this
 exact this
end
end Go.Mir
