/- Texts of the mirror and contracts, put together. -/
import Derived.Test.YtjcbhomccohklaaGreatDoorPC3
import Derived.Shelf.Small.Wraps
namespace Go.Proofs.YtjcbhomccohklaaGreatDoor
section
open Go Go.Mir Go.RowKit Go.Shelf
attribute [local irreducible] Go.Mir.DT.sat Go.Mir.evPat Go.Mir.RT.sat Go.Mir.evFn
def BP:Go.Shelf.Ren:=⟨fun|103=>151|210=>182|206=>219|n=>n,fun|9=>9|4=>4|24=>218|3=>3|n=>n,fun|n=>n⟩
theorem L7:Go.Proofs.Lays.n103 Tryz.prog BP where
 mixed:=by kernel_rfl
 f103:=Tryz.func151.trans (congrArg some (by kernel_rfl))
 f206:=Tryz.func219.trans (congrArg some (by kernel_rfl))
 f210:=Tryz.func182.trans (congrArg some (by kernel_rfl))
 t3:=Tryz.underlying3
 a3:=Tryz.isAgg3
 z3:=Tryz.sizeOf3
 v3:=Tryz.zeroValue3
 t4:=Tryz.underlying4
 a4:=Tryz.isAgg4
 z4:=Tryz.sizeOf4
 v4:=Tryz.zeroValue4
 t9:=Tryz.underlying9
 a9:=Tryz.isAgg9
 z9:=Tryz.sizeOf9
 v9:=Tryz.zeroValue9
 t24:=Tryz.underlying218
 a24:=Tryz.isAgg218
 z24:=Tryz.sizeOf218
 v24:=Tryz.zeroValue218
abbrev QF:Ty:= .prod .str (.prod .str .unit)
def K0:Den QF→PRes:=fun x=>⟨[],.tup [.str (GU x.1 x.2.1),.bool (BE x.1 x.2.1)],[]⟩
def iD:FuncId×Ctr:=(151,aK KE QF K0)
def KQ:Den (tyP qTn)→List Prop×Den (tyP ke):=fun x=>([],(bZ x.1,()))
abbrev tEn:Ty:= .nm .boxbook_entry
def D5 (x:boxbook_entry):Prop:=Hb x∧k3 x.kind 119 110∧k3 x.mark 87 82
def KV:Den (tyP (cn [tEn]))→List Prop×Den (tyP ke):=fun x=>([D5 x.1],(gE x.1,()))
abbrev qS0:Pat:=cn [.str]
abbrev MI:Pat:=cn [I,.str]
def sDg:Den (tyP qS0)→List Prop×Den (tyP MI):=fun x=>([],((dgZ x.1).1,(dgZ x.1).2,()))
abbrev qDg:Pat:=⟨[(0,.h .str),(6,.h I),(7,.h I)],[],0⟩
abbrev xDg:List (Lf×Pat):= [(.ext 0,⟨[(0,.h .str),(6,.h I),(7,.h I)],[],0⟩)]
abbrev TDg:Type:=ByteArray×Int×Int×Unit
def nK:TDg→TDg
 |(s,n,i,_)=>(s,(eN s n i).1,(eN s n i).2,())
def wG:TDg→Prop
 |(s,n,i,_)=>(0≤i∧i≤6∧i≤(s.size:Int))∧0≤n∧n<10 ^ i.toNat
def JF:TDg→Nat
 |(_,_,i,_)=>(6 - i).toNat
def nv (r:Rules):Prop:=(1≤r.Wide∧r.Wide≤5)∧(1≤r.NoBall∧r.NoBall≤5)
def Dc (r:Rules) (x:boxbook_entry):Bool:=AQ (x.kind,x.charge - dH r.Wide r.NoBall x.kind,x.byes,x.leg,x.mark)
abbrev qER:Pat:=cn [tEn,.nm .Rules]
abbrev F8:Pat:=cn [.bool]
def Q4:Den (tyP qER)→List Prop×Den (tyP F8):=fun x=>([nv x.2.1,Hb x.1],(Dc x.2.1 x.1,()))
abbrev qRS:Pat:=cn [.nm .Rules,.str]
abbrev ME:Pat:=cn [tEn,.bool]
def KU:Den (tyP qRS)→List Prop×Den (tyP ME):=fun x=>([nv x.1],(rdL x.2.1.data.toList,okL x.1.Wide x.1.NoBall x.2.1.data.toList,()))
abbrev MG:Pat:=cn [I,.bool]
def QX:Den (tyP qS0)→List Prop×Den (tyP MG):=fun x=>([],((bF x.1).1,(bF x.1).2,()))
theorem ml:CtrOK Tryz.prog KE 151 (aK KE QF K0):=by
 refine pY Tryz.func151 (by kernel_rfl) (by kernel_rfl) (fun _=>⟨rfl,rfl⟩) (fun x av w E hw hn hg hav=>?_) (fun _ _=>rfl)
 obtain ⟨s,sep,⟨⟩⟩:=x
 obtain ⟨a,r,rfl,⟨rfl,hs1⟩,h1⟩:=cW hav
 obtain ⟨a,r,rfl,⟨rfl,hs2⟩,h2⟩:=cW h1
 have h5:r=[]:=by cases r with|nil=>rfl|cons=>simp [dy,ab] at h2
 subst h5
 refine (Any.strings_CutPrefix L7 s sep w).mono fun e w' ⟨he,hw'⟩=>⟨_,he,by rw [hw'];exact Keeps.refl _ _,fun E'=>?_⟩
 have:=GV s sep
 exact ⟨_,rfl,⟨rfl,Nat.le_trans this hs1⟩,rfl,trivial⟩
theorem RZ {k:Nat} (h:k≤5) :(10:Int) ^ k≤100000:=by
 have:k=0∨k=1∨k=2∨k=3∨k=4∨k=5:=by omega
 rcases this with rfl|rfl|rfl|rfl|rfl|rfl <;> decide
theorem Uh {n:Int} (h0:0≤n) (h1:n<256):IntKind.u8.wrap n=n:=by
 simp only [IntKind.wrap,IntKind.bits,IntKind.signed]
 simp
 omega
theorem Am (n:Int) :(evPat (az [xm] Tryz.f111) (fun _=>none) Tryz.f111 qTn ke (n,())).sat fun z_=>z_ =(KQ (n,())).2:=by
 refine cast (by kernel_rfl) (?_ :((n==0)=true→(ByteArray.mk #[46],()) =(bZ n,()))∧((n==0)=false→(fk n,()) =(bZ n,())))
 exact ⟨fun h=>by unfold bZ;rw [h];rfl,fun h=>by unfold bZ;rw [h];rfl⟩
def tB:FuncId×Ctr:=(111,aj KE qTn ke KQ)
theorem Cc:CtrOK Tryz.prog KE 111 (aj KE qTn ke KQ):=by
 refine aO (C:=az [xm] Tryz.f111) (an (.consU El rfl .nil) _) mixed (fn:=Tryz.f111) Tryz.func111 (by kernel_rfl) (by kernel_rfl) (by kernel_rfl) (by kernel_rfl) (by kernel_rfl) (by kernel_rfl) (Λ:=fun _ _=>none) ?_ ?_
 ·exact fun _ _ _ _ _ _ _ _ h=>by cases h
 ·rintro ⟨n,⟨⟩⟩ hw hn
  exact Am n
theorem Ap (x:boxbook_entry) (hk:D5 x) :(evPat (az [tB] Tryz.f58) (fun _=>none) Tryz.f58 (cn [tEn]) ke (x,())).sat fun z_=>z_ =(KV (x,())).2:=by
 refine cast (by kernel_rfl) (?_:let r1:Bool:=decide (x.3>0);let r2:Bool:=decide (x.4>0);let r3:ByteArray:=ByteArray.mk #[98]++bZ x.3;let r4:ByteArray:=ByteArray.mk #[108]++bZ x.4;let r5:ByteArray:=cond (x.1 != 0) (Utf8.encode (IntKind.i32.wrap x.1)++bZ x.2) (bZ x.2);let r6:ByteArray:=cond r1 (r5++r3) r5;let r7:ByteArray:=cond r2 (r6++r4) r6;(((x.1 != 0)=true→(Utf8.encode (IntKind.i32.wrap x.1)).size +(bZ x.2).size≤aA∧True)∧((x.1 != 0)=false→True))∧(true=true→((r1=true→(ByteArray.mk #[98]).size +(bZ x.3).size≤aA∧r5.size+r3.size≤aA∧True)∧(r1=false→True))∧(true=true→((r2=true→(ByteArray.mk #[108]).size +(bZ x.4).size≤aA∧r6.size+r4.size≤aA∧True)∧(r2=false→True))∧(true=true→(((x.5 != 0)=true→r7.size +(Utf8.encode (IntKind.i32.wrap x.5)).size≤aA∧True)∧((x.5 != 0)=false→True))∧(true=true→(cond (x.5 != 0) (r7++Utf8.encode (IntKind.i32.wrap x.5)) r7,()) =(gE x,()))))))
 intro r1 r2 r3 r4 r5 r6 r7
 clear_value (hr1:r1=_) (hr2:r2=_) (hr3:r3=_) (hr4:r4=_) (hr5:r5=_) (hr6:r6=_) (hr7:r7=_)
 have one :∀ c:UInt8,(ByteArray.mk #[c]).size=1:=fun _=>rfl
 have hL :(1000:Nat)≤aA:=by decide
 obtain ⟨hf,hk1,hk2⟩:=hk
 have zc:=dP hf.1
 have zb:=dP hf.2.1
 have zl:=dP hf.2.2
 have ck:=oI hk1 (.inl ⟨rfl,rfl⟩)
 have cm:=oI hk2 (.inr ⟨rfl,rfl⟩)
 unfold chZ at ck cm
 have e5:r5=sz1 x:=by rw [hr5];unfold sz1 chZ;cases x.kind != 0 <;> rfl
 have e6:r6=sz2 x:=by rw [hr6,hr1,e5,hr3];unfold sz2;cases decide (x.byes>0) <;> rfl
 have e7:r7=sz3 x:=by rw [hr7,hr2,e6,hr4];unfold sz3;cases decide (x.leg>0) <;> rfl
 obtain ⟨s1,s2,s3,s4⟩:=M7 hf hk1 hk2
 rw [←e5] at s1
 rw [←e6] at s2
 rw [←e7] at s3
 have z3:r3.size≤22:=by rw [hr3,ByteArray.size_append,one];omega
 have z4:r4.size≤22:=by rw [hr4,ByteArray.size_append,one];omega
 refine ⟨⟨fun _=>⟨by omega,trivial⟩,fun _=>trivial⟩,fun _=>⟨⟨fun _=>⟨by rw [one];omega,by omega,trivial⟩,fun _=>trivial⟩,fun _=>⟨⟨fun _=>⟨by rw [one];omega,by omega,trivial⟩,fun _=>trivial⟩,fun _=>⟨⟨fun _=>⟨by omega,trivial⟩,fun _=>trivial⟩,fun _=>?_⟩⟩⟩⟩
 rw [e7];unfold gE chZ;cases x.mark != 0 <;> rfl
def tF:FuncId×Ctr:=(58,aj KE (cn [tEn]) ke KV)
theorem Cj:CtrOK Tryz.prog KE 58 (aj KE (cn [tEn]) ke KV):=by
 refine aO (C:=az [tB] Tryz.f58) (an (.consU Cc rfl .nil) _) mixed (fn:=Tryz.f58) Tryz.func58 (by kernel_rfl) (by kernel_rfl) (by kernel_rfl) (by kernel_rfl) (by kernel_rfl) (by kernel_rfl) (Λ:=fun _ _=>none) ?_ ?_
 ·exact fun _ _ _ _ _ _ _ _ h=>by cases h
 ·rintro ⟨x,⟨⟩⟩ hw hn
  exact Ap x (hn _ List.mem_cons_self)
noncomputable def lpDg:Lp:=(⟨0,az [iD] Tryz.f150,(fun _=>none),(aq Tryz.f150 0),qDg,xDg⟩:Lp)
theorem Rq (s:ByteArray) (n:Int) (i:Int) (hi:wG (s,n,i,())) :(Go.Mir.stepG lpDg nK (fun y:Den (tyP lpDg.q)=>wG y∧JF y<JF (s,n,i,())) (s,n,i,())∧Go.Mir.stepE lpDg nK (s,n,i,())=nK (s,n,i,())):=by
 refine cast (by kernel_rfl) (?_:let r1:Int:=(↑(s.1.getD i.toNat (0:UInt8)).toNat:Int);let r2:Bool:=decide (i <(↑s.size:Int));let r3:Bool:=decide (i<6);let r4:Bool:=decide (r1≥48);let r5:Bool:=cond r2 (cond r3 (cond r4 (decide (r1≤57)) false) false) false;let r6:ByteArray×Int×Int×PUnit:=cond r5 (nK (s,IntKind.i64.wrap (IntKind.i64.wrap (10*n)+IntKind.i64.wrap (IntKind.u8.wrap (r1 - 48))),IntKind.i64.wrap (i+1),())) (s,n,i,());(((r2=true→(r3=true→(0≤i∧i <(↑s.size:Int))∧(r4=true→(0≤i∧i <(↑s.size:Int))∧True)∧(r4=false→True))∧(r3=false→True))∧(r2=false→True))∧(true=true→(r5=true→(0≤i∧i <(↑s.size:Int))∧wG (s,IntKind.i64.wrap (IntKind.i64.wrap (10*n)+IntKind.i64.wrap (IntKind.u8.wrap (r1 - 48))),IntKind.i64.wrap (i+1),())∧JF (s,IntKind.i64.wrap (IntKind.i64.wrap (10*n)+IntKind.i64.wrap (IntKind.u8.wrap (r1 - 48))),IntKind.i64.wrap (i+1),())<JF (s,n,i,()))∧(r5=false→True)))∧(cond (true&&true&&true&&true) r6 (cond true r6 (cond r2 (cond r3 (cond r4 (dflt (Ty.str.prod (I.prod (I.prod Ty.unit)))) (dflt (Ty.str.prod (I.prod (I.prod Ty.unit))))) (dflt (Ty.str.prod (I.prod (I.prod Ty.unit))))) (dflt (Ty.str.prod (I.prod (I.prod Ty.unit)))))))=nK (s,n,i,()))
 intro r1 r2 r3 r4 r5 r6
 clear_value (hr1:r1=_) (hr2:r2=_) (hr3:r3=_) (hr4:r4=_) (hr5:r5=_) (hr6:r6=_)
 obtain ⟨⟨h0,h6,hs⟩,hn0,hn1⟩:=hi
 have h0:0≤i:=h0
 have h6:i≤6:=h6
 have hs:i≤(s.size:Int):=hs
 have hn0:0≤n:=hn0
 have hn1:n<10 ^ i.toNat:=hn1
 have e5:r5 =(r2&&(r3&&(r4&&decide (r1≤57)))):=by rw [hr5];cases r2 <;> cases r3 <;> cases r4 <;> rfl
 cases hc:r5 with
 | true=>
  have hc':=hc
  rw [e5,hr2,hr3,hr4] at hc'
  simp only [Bool.and_eq_true,decide_eq_true_eq] at hc'
  obtain ⟨c1,c2,c3,c4⟩:=hc'
  have hb:n<100000:=Int.lt_of_lt_of_le hn1 (RZ (by omega))
  have w1:IntKind.u8.wrap (r1 - 48)=r1 - 48:=Uh (by omega) (by omega)
  have w2:IntKind.i64.wrap (r1 - 48)=r1 - 48:=bf (by omega) (by omega)
  have w3:IntKind.i64.wrap (10*n)=10*n:=bf (by omega) (by omega)
  have w4:IntKind.i64.wrap (10*n +(r1 - 48))=10*n +(r1 - 48):=bf (by omega) (by omega)
  have w5:IntKind.i64.wrap (i+1)=i+1:=bf (by omega) (by omega)
  have key:nK (s,n,i,())=nK (s,10*n +(r1 - 48),i+1,()):=by
   have e:eN s n i=eN s (10*n +(r1 - 48)) (i+1):=by
    unfold eN
    have ek :(6 - i).toNat =(6 - (i+1)).toNat+1:=by omega
    rw [ek,Fl s h0 c1]
    have hd :(decide (48≤(s.data.getD i.toNat 0).toNat)&&decide ((s.data.getD i.toNat 0).toNat≤57))=true:=by
     have a1 :(48:Int)≤((s.data.getD i.toNat 0).toNat:Int):=by rw [←hr1];exact c3
     have a2 :((s.data.getD i.toNat 0).toNat:Int)≤57:=by rw [←hr1];exact c4
     rw [decide_eq_true (by omega),decide_eq_true (by omega)];rfl
    have hst :∀ k l,dgF (k+1) n (s.data.getD i.toNat 0::l)=dgF k (10*n +(r1 - 48)) l:=fun k l=>by
     rw [dgF,if_pos hd,hr1]
    rw [hst]
   show (s,(eN s n i).1,(eN s n i).2,()) =(s,(eN s (10*n +(r1 - 48)) (i+1)).1,(eN s (10*n +(r1 - 48)) (i+1)).2,())
   rw [←e]
  rw [hc] at hr6
  rw [w1,w2,w3,w4,w5] at hr6 ⊢
  have hp :(10:Int) ^ (i+1).toNat=10 ^ i.toNat*10:=by rw [show (i+1).toNat=i.toNat+1 by omega,Int.pow_succ]
  refine ⟨⟨⟨fun _=>⟨fun _=>⟨⟨h0,c1⟩,fun _=>⟨⟨h0,c1⟩,trivial⟩,fun _=>trivial⟩,fun _=>trivial⟩,fun _=>trivial⟩,fun _=>⟨fun _=>⟨⟨h0,c1⟩,⟨⟨?_,?_,?_⟩,?_,?_⟩,?_⟩,fun z=>Bool.noConfusion z⟩⟩,?_⟩
  ·show 0≤i+1;omega
  ·show i+1≤6;omega
  ·show i+1≤(s.size:Int);omega
  ·show 0≤10*n +(r1 - 48);omega
  ·show 10*n +(r1 - 48)<10 ^ (i+1).toNat
   rw [hp];omega
  ·show (6 - (i+1)).toNat <(6 - i).toNat;omega
  ·rw [key];exact hr6
 | false=>
  have hc':=hc
  rw [e5,hr2,hr3,hr4] at hc'
  have key:eN s n i =(n,i):=by
   unfold eN
   by_cases c2:i<6
   ·have ek :(6 - i).toNat =(6 - (i+1)).toNat+1:=by omega
    rw [ek]
    by_cases c1:i <(s.size:Int)
    ·rw [Fl s h0 c1]
     have hd :¬(decide (48≤(s.data.getD i.toNat 0).toNat)&&decide ((s.data.getD i.toNat 0).toNat≤57))=true:=fun h=>by
      rw [decide_eq_true c1,decide_eq_true c2,hr1] at hc'
      simp only [Bool.and_eq_true,decide_eq_true_eq] at h
      rw [decide_eq_true (by omega),decide_eq_true (by omega)] at hc'
      exact Bool.noConfusion hc'
     have hst :∀ k l,dgF (k+1) n (s.data.getD i.toNat 0::l) =(n,s.data.getD i.toNat 0::l):=fun k l=>by
      rw [dgF,if_neg hd]
     rw [hst,←Fl s h0 c1,List.length_drop,iE]
     show (n,_) =(n,i)
     congr 1;omega
    ·rw [List.drop_eq_nil_of_le (by rw [iE];omega)]
     show (n,(s.size:Int) - ((0:Nat):Int)) =(n,i)
     congr 1;omega
   ·have ek :(6 - i).toNat=0:=by omega
    rw [ek]
    show (n,(s.size:Int) - ((s.data.toList.drop i.toNat).length:Int)) =(n,i)
    rw [List.length_drop,iE]
    congr 1;omega
  rw [hc] at hr6
  refine ⟨⟨⟨fun a=>⟨fun b=>⟨⟨h0,?_⟩,fun _=>⟨⟨h0,?_⟩,trivial⟩,fun _=>trivial⟩,fun _=>trivial⟩,fun _=>trivial⟩,fun _=>⟨fun z=>Bool.noConfusion z,fun _=>trivial⟩⟩,?_⟩
  ·rw [hr2] at a;exact of_decide_eq_true a
  ·rw [hr2] at a;exact of_decide_eq_true a
  ·show _ =(s,(eN s n i).1,(eN s n i).2,())
   rw [key];exact hr6
noncomputable def Ok:LoopSum:=ai lpDg nK wG
noncomputable def NK:Nat:=rid (aq Tryz.f150 0)
theorem PV:LoopOKp Tryz.prog 0 Tryz.f150.ntmps (aq Tryz.f150 0) (ai lpDg nK wG):=
 ax lpDg (an (.consU ml rfl .nil) _) mixed (fun b hb S hS=>by cases hS) nK wG JF (fun |⟨s,n,i,⟨⟩⟩,hi=>Rq s n i hi)
theorem CM (s:ByteArray) :(evPat (az [iD] Tryz.f150) (find [(NK,Ok)]) Tryz.f150 qS0 MI (s,())).sat fun z_=>z_ =(sDg (s,())).2:=by
 refine cast (by kernel_rfl) (?_:let r1:Bool:=BE s (ByteArray.mk #[46]);let r2:Int:=(↑s.size:Int) - (↑(dgF ((6:Int) - 0).toNat 0 (List.drop (Int.toNat 0) s.1.1)).2.length:Int);(r1=true→(0,GU s (ByteArray.mk #[46]),()) =((dgB s.1.1).1,toB (dgB s.1.1).2,()))∧(r1=false→((cg fun x=>none)∧((0:Int)≤0∧(0:Int)≤6∧0≤(↑s.size:Int))∧(0:Int)≤0∧(0:Int)<10 ^ Int.toNat 0)∧(0≤r2∧r2≤(↑s.size:Int)∧(↑s.size:Int)≤(↑s.size:Int))∧((dgF ((6:Int) - 0).toNat 0 (List.drop (Int.toNat 0) s.1.1)).1,s.extract r2.toNat (↑s.size:Int).toNat,()) =((dgB s.1.1).1,toB (dgB s.1.1).2,())))
 intro r1 r2
 clear_value (hr1:r1=_) (hr2:r2=_)
 have hz:=iE s
 have hr:=IB s 0 (i:=0) (Int.le_refl _) (by omega)
 have e2:r2 =(eN s 0 0).2:=hr2
 refine ⟨fun h=>?_,fun h=>⟨⟨rfl,⟨Int.le_refl _,by decide,by omega⟩,Int.le_refl _,by decide⟩,⟨by omega,by omega,Int.le_refl _⟩,?_⟩⟩
 ·rw [hr1,me] at h
  have ec:=Iu s 46
  rw [me] at ec
  show ((0:Int),GU s ⟨#[46]⟩,()) =((dgB s.data.toList).1,toB (dgB s.data.toList).2,())
  cases hl:s.data.toList with
  | nil=>rw [hl] at h;cases h
  | cons c l=>
   rw [hl] at h ec
   have h :(c==46)=true:=h
   rw [ec]
   show ((0:Int),(if (c==46)=true then _ else _),())=_
   rw [if_pos h]
   have hd:dgB (c::l) =(0,l):=by show (if (c==46)=true then (0,l) else dgF 6 0 (c::l))=_;rw [if_pos h]
   rw [hd]
   rfl
 ·have hd:dgB s.data.toList=dgF 6 0 s.data.toList:=by
   rw [hr1,me] at h
   cases hl:s.data.toList with
   | nil=>rfl
   | cons c l=>
    rw [hl] at h
    have h :(c==46)=false:=h
    show (if (c==46)=true then (0,l) else dgF 6 0 (c::l))=_
    rw [if_neg (by rw [h];exact Bool.false_ne_true)]
  show ((dgF 6 0 s.data.toList).1,s.extract r2.toNat (s.size:Int).toNat,()) =((dgB s.data.toList).1,toB (dgB s.data.toList).2,())
  rw [hd,e2,Int.toNat_natCast,hr.2]
  rfl
def xe:FuncId×Ctr:=(150,aj KE qS0 MI sDg)
theorem Ee:CtrOK Tryz.prog KE 150 (aj KE qS0 MI sDg):=by
 refine aO (C:=az [iD] Tryz.f150) (an (.consU ml rfl .nil) _) mixed (fn:=Tryz.f150) Tryz.func150 (by kernel_rfl) (by kernel_rfl) (by kernel_rfl) (by kernel_rfl) (by kernel_rfl) (by kernel_rfl) (Λ:=fun x=>find [(NK,Ok)]) ?_ ?_
 ·rintro ⟨s,⟨⟩⟩ hw hn
  exact LoopsOKp.at (by kernel_rfl) (.cons (by kernel_rfl) (PV) .nil)
 ·rintro ⟨s,⟨⟩⟩ hw hn
  exact CM s
theorem EP (x:boxbook_entry) (r:Rules) (hr:nv r) (hx:Hb x) :(evPat (az [] Tryz.f152) (fun _=>none) Tryz.f152 qER F8 (x,r,())).sat fun z_=>z_ =(Q4 (x,r,())).2:=by
 refine cast (by kernel_rfl) (?_:let r1:Int:=cond (x.5==82) 7 11;let r2:Bool:=decide (IntKind.i64.wrap (x.3+x.4)>0);let r3:Int:=cond (x.1==119) (IntKind.i64.wrap (x.2 - r.7)) (cond (x.1==110) (IntKind.i64.wrap (x.2 - r.8)) x.2);let r4:Bool:=r3==0;let r5:Bool:=cond (decide (r3<0)) true (cond (decide (r3>r1)) true (decide (IntKind.i64.wrap (x.3+x.4)>r1)));(r5=true→(false,()) =(Dc r x,()))∧(r5=false→(r2=true→(cond r4 (cond (x.1 != 119) (x.5 != 87) false) false,()) =(Dc r x,()))∧(r2=false→((x.5==87)=true→(cond r4 (x.1 != 110) false,()) =(Dc r x,()))∧((x.5==87)=false→(true,()) =(Dc r x,())))))
 intro r1 r2 r3 r4 r5
 clear_value (hr1:r1=_) (hr2:r2=_) (hr3:r3=_) (hr4:r4=_) (hr5:r5=_)
 obtain ⟨hw,hv⟩:=hr
 obtain ⟨⟨a0,a1⟩,⟨b0,b1⟩,⟨c0,c1⟩⟩:=hx
 have ew:IntKind.i64.wrap (x.byes+x.leg)=x.byes+x.leg:=bf (by omega) (by omega)
 have e3:r3=x.charge - dH r.Wide r.NoBall x.kind:=by
  rw [hr3]
  unfold dH
  cases x.kind==119
  ·cases x.kind==110
   ·show x.charge=x.charge - 0
    omega
   ·exact bf (by omega) (by omega)
  ·exact bf (by omega) (by omega)
 rw [ew] at hr2 hr5
 rw [e3] at hr4 hr5
 unfold Dc AQ Lv B2 MX
 generalize hG:x.charge - dH r.Wide r.NoBall x.kind=g at *
 simp only
 have e1:r1=if x.mark==82 then 7 else 11:=by rw [hr1];cases x.mark==82 <;> rfl
 rw [←e1]
 have e5 :(decide (g<0) ||(decide (g>r1)||decide (x.byes+x.leg>r1)))=r5:=by rw [hr5];cases decide (g<0) <;> cases decide (g>r1) <;> rfl
 rw [e5,←hr2,←hr4]
 refine ⟨fun h=>?_,fun h=>⟨fun h2=>?_,fun h2=>⟨fun h6=>?_,fun h6=>?_⟩⟩⟩
 ·rw [h];rfl
 ·rw [h,h2]
  cases r4 <;> cases x.kind != 119 <;> rfl
 ·rw [h,h2,h6]
  cases r4 <;> rfl
 ·rw [h,h2,h6];rfl
def BI:FuncId×Ctr:=(152,aj KE qER F8 Q4)
theorem Hn:CtrOK Tryz.prog KE 152 (aj KE qER F8 Q4):=by
 refine aO (C:=az [] Tryz.f152) (an (CtrsOK.nil) _) mixed (fn:=Tryz.f152) Tryz.func152 (by kernel_rfl) (by kernel_rfl) (by kernel_rfl) (by kernel_rfl) (by kernel_rfl) (by kernel_rfl) (Λ:=fun _ _=>none) ?_ ?_
 ·exact fun _ _ _ _ _ _ _ _ h=>by cases h
 ·rintro ⟨x,r,⟨⟩⟩ hw hn
  exact EP x r (hn _ List.mem_cons_self) (hn _ (List.mem_cons_of_mem _ List.mem_cons_self))
theorem Hy (r:Rules) (s:ByteArray) (hr:nv r) :(evPat (az [xe,iD,tF,BI] Tryz.f117) (fun _=>none) Tryz.f117 qRS ME (r,s,())).sat fun z_=>z_ =(KU (r,s,())).2:=by
 refine cast (by kernel_rfl) (?_:let r1:Bool:=!s.toList ==(ByteArray.mk #[]).toList;let r2:Int:=(↑(s.1.getD (Int.toNat 0) (0:UInt8)).toNat:Int);let r3:Bool:=r2==119;let r4:Bool:=cond r1 (cond r3 true (r2==110)) false;let r5:Int:=cond r4 0 0;let r6:ByteArray:=toB (dgB (cond r4 (s.extract (Int.toNat 1) (↑s.size:Int).toNat) s).1.1).2;let r7:Int:=cond r4 r2 0;let r8:Bool:=BE r6 (ByteArray.mk #[98]);let r9:Bool:=BE r6 (ByteArray.mk #[108]);let r10:Int:=cond r9 r5 r5;let r11:Int:=cond r8 (dgB (Lib.trimPrefix (dgB (cond r4 (s.extract (Int.toNat 1) (↑s.size:Int).toNat) s).1.1).2 [(98:UInt8)])).1 r10;let r12:Int:=cond r8 r5 (cond r9 (dgB (Lib.trimPrefix (dgB (cond r4 (s.extract (Int.toNat 1) (↑s.size:Int).toNat) s).1.1).2 [(108:UInt8)])).1 r5);let r13:Int:=cond r8 (dgB (cond r4 (s.extract (Int.toNat 1) (↑s.size:Int).toNat) s).1.1).1 (cond r9 (dgB (cond r4 (s.extract (Int.toNat 1) (↑s.size:Int).toNat) s).1.1).1 (dgB (cond r4 (s.extract (Int.toNat 1) (↑s.size:Int).toNat) s).1.1).1);let r14:Int:=cond r8 r7 (cond r9 r7 r7);let r15:ByteArray:=cond r8 (toB (dgB (Lib.trimPrefix (dgB (cond r4 (s.extract (Int.toNat 1) (↑s.size:Int).toNat) s).1.1).2 [(98:UInt8)])).2) (cond r9 (toB (dgB (Lib.trimPrefix (dgB (cond r4 (s.extract (Int.toNat 1) (↑s.size:Int).toNat) s).1.1).2 [(108:UInt8)])).2) r6);let r16:Bool:=cond (r15.toList ==(ByteArray.mk #[87]).toList) true (r15.toList ==(ByteArray.mk #[82]).toList);let r17:Int:=cond r16 r11 r11;let r18:Int:=cond r16 r12 r12;let r19:Int:=cond r16 r13 r13;let r20:Int:=cond r16 (↑(r15.1.getD (Int.toNat 0) (0:UInt8)).toNat:Int) (cond r8 r5 r10);let r21:Int:=cond r16 r14 r14;let r22:boxbook_entry:=boxbook_entry.mk r21 r19 r17 r18 r20;let r23:Bool:=(gE r22).toList==s.toList;(((r1=true→((0:Int)≤0∧0 <(↑s.size:Int))∧(r3=true→True)∧(r3=false→((0:Int)≤0∧0 <(↑s.size:Int))∧True))∧(r1=false→True))∧(true=true→(r4=true→((0:Int)≤0∧0 <(↑s.size:Int))∧((0:Int)≤1∧1≤(↑s.size:Int)∧(↑s.size:Int)≤(↑s.size:Int))∧True)∧(r4=false→True)))∧(true=true→((r16=true→((0:Int)≤0∧0 <(↑r15.size:Int))∧True)∧(r16=false→True))∧(true=true→(D5 r22∧(r23=true→nv r∧Hb r22∧True)∧(r23=false→True))∧(true=true→(boxbook_entry.mk (cond r23 r21 r21) (cond r23 r19 r19) (cond r23 r17 r17) (cond r23 r18 r18) (cond r23 r20 r20),cond r23 (Dc r r22) false,()) =(rdL s.1.1,okL r.7 r.8 s.1.1,())))))
 intro r1 r2 r3 r4 r5 r6 r7 r8 r9 r10 r11 r12 r13 r14 r15 r16 r17 r18 r19 r20 r21 r22 r23
 clear_value (hr1:r1=_) (hr2:r2=_) (hr3:r3=_) (hr4:r4=_) (hr5:r5=_) (hr6:r6=_) (hr7:r7=_) (hr8:r8=_) (hr9:r9=_) (hr10:r10=_) (hr11:r11=_) (hr12:r12=_) (hr13:r13=_) (hr14:r14=_) (hr15:r15=_) (hr16:r16=_) (hr17:r17=_) (hr18:r18=_) (hr19:r19=_) (hr20:r20=_) (hr21:r21=_) (hr22:r22=_) (hr23:r23=_)
 have hz:=iE s
 have eT :((s.size:Int)).toNat=s.size:=Int.toNat_natCast _
 have main :(bif r4 then s.extract (Int.toNat (1:Int)) (s.size:Int).toNat else s).data.toList=rkR s.data.toList∧r7=rkK s.data.toList∧(r1=true→0<s.size):=by
  cases hl:s.data.toList with
  | nil=>
   have e1:r1=false:=by
    rw [hr1,bytes_eq_iff.2 (show s.data.toList =(ByteArray.mk #[]).data.toList from hl)];rfl
   have e4:r4=false:=by rw [hr4,e1];rfl
   rw [hr7,e4]
   exact ⟨hl,rfl,fun h=>by rw [e1] at h;cases h⟩
  | cons c u=>
   have hs:0<s.size:=by rw [←hz,hl];exact Nat.succ_pos _
   have e1:r1=true:=by
    rw [hr1]
    cases hb :(s.toList ==(ByteArray.mk #[]).toList) with
    | false=>rfl
    | true=>
     have:=bytes_eq_iff.1 hb
     rw [hl] at this
     cases this
   have hc:s.data.getD 0 0=c:=by
    have:=Fl s (i:=0) (Int.le_refl _) (by omega)
    rw [hl] at this
    exact (List.cons.inj this).1.symm
   have e2:r2 =(c.toNat:Int):=by rw [hr2];show ((s.data.getD 0 0).toNat:Int)=_;rw [hc]
   have e4:r4 =(c==119||c==110):=by
    rw [hr4,hr3,e1,e2,show (119:Int) =(((119:UInt8).toNat:Nat):Int) from rfl,show (110:Int) =(((110:UInt8).toNat:Nat):Int) from rfl,OM,OM]
    cases c==119 <;> rfl
   refine ⟨?_,?_,fun _=>hs⟩
   ·rw [e4]
    show _=if (c==119||c==110)=true then u else c::u
    cases c==119||c==110
    ·exact hl
    ·show (s.extract 1 (s.size:Int).toNat).data.toList=u
     rw [eT,Bn s (by omega),hl]
     rfl
   ·rw [hr7,e4,e2]
    show _=if (c==119||c==110)=true then (c.toNat:Int) else 0
    cases c==119||c==110 <;> rfl
 obtain ⟨eS,e7,hpos⟩:=main
 have eS :(bif r4 then s.extract (Int.toNat (1:Int)) (s.size:Int).toNat else s).1.1=rkR s.1.1:=eS
 have e7:r7=rkK s.1.1:=e7
 rw [eS] at hr6 hr11 hr12 hr13 hr15
 have e5:r5=0:=by rw [hr5];cases r4 <;> rfl
 have e10:r10=0:=by rw [hr10,e5];cases r9 <;> rfl
 have e13:r13 =(dgB (rkR s.1.1)).1:=by rw [hr13];cases r8 <;> cases r9 <;> rfl
 have e14:r14=rkK s.1.1:=by rw [hr14,e7];cases r8 <;> cases r9 <;> rfl
 rw [e5] at hr12 hr20
 rw [e10] at hr11 hr20
 have body:r11=rbB (dgB (rkR s.1.1)).2∧r12=rbL (dgB (rkR s.1.1)).2∧r15=toB (rbR (dgB (rkR s.1.1)).2):=by
  rw [hr11,hr12,hr15,hr8,hr9,me,me,hr6]
  generalize (dgB (rkR s.1.1)).2=t
  show (bif (match t with | []=>false|x::_=>x==98) then _ else _)=_∧(bif (match t with | []=>false|x::_=>x==98) then _ else bif (match t with | []=>false|x::_=>x==108) then _ else _)=_∧(bif (match t with | []=>false|x::_=>x==98) then _ else bif (match t with | []=>false|x::_=>x==108) then _ else _)=_
  cases t with
  | nil=>exact ⟨rfl,rfl,rfl⟩
  | cons c u=>
   unfold rbB rbL rbR
   simp only
   by_cases h1:c=98
   ·subst h1
    rw [C6 _ 98 u rfl]
    exact ⟨rfl,rfl,rfl⟩
   ·have e1 :(c==98)=false:=by simpa using h1
    rw [e1]
    by_cases h2:c=108
    ·subst h2
     rw [C6 _ 108 u rfl]
     exact ⟨rfl,rfl,rfl⟩
    ·have e2 :(c==108)=false:=by simpa using h2
     rw [e2]
     exact ⟨rfl,rfl,rfl⟩
 obtain ⟨e11,e12,e15⟩:=body
 have e16:r16 =(rbR (dgB (rkR s.1.1)).2==[87]||rbR (dgB (rkR s.1.1)).2==[82]):=by
  have g :∀ (a:List UInt8) (c:UInt8),((toB a).toList ==(ByteArray.mk #[c]).toList) =(a==[c]):=fun a c=>by
   rw [Bool.eq_iff_iff,bytes_eq_iff,beq_iff_eq];exact Iff.rfl
  rw [hr16,e15,g,g]
  cases rbR (dgB (rkR s.1.1)).2==[87] <;> rfl
 have e20:r20=rmM (rbR (dgB (rkR s.1.1)).2):=by
  rw [hr20,e16,e15]
  generalize rbR (dgB (rkR s.1.1)).2=t
  unfold rmM
  by_cases h1:t=[87]
  ·subst h1;rfl
  ·have e1 :(t==[87])=false:=by simpa using h1
   rw [e1]
   by_cases h2:t=[82]
   ·subst h2;rfl
   ·have e2 :(t==[82])=false:=by simpa using h2
    rw [e2]
    show (bif r8 then (0:Int) else 0)=0
    cases r8 <;> rfl
 have e21:r21=rkK s.1.1:=by rw [hr21,e14];cases r16 <;> rfl
 have e19:r19 =(dgB (rkR s.1.1)).1:=by rw [hr19,e13];cases r16 <;> rfl
 have e17:r17=rbB (dgB (rkR s.1.1)).2:=by rw [hr17,e11];cases r16 <;> rfl
 have e18:r18=rbL (dgB (rkR s.1.1)).2:=by rw [hr18,e12];cases r16 <;> rfl
 have e22:r22=rdL s.1.1:=by rw [hr22,e21,e19,e17,e18,e20];rfl
 have hf:=QM s.1.1
 have e23:r23 =(syL (rdL s.1.1)==s.1.1):=by
  rw [hr23,e22,Bool.eq_iff_iff,bytes_eq_iff,beq_iff_eq,yd (Af _) (Ag _)]
 have p16:r16=true→0<r15.size:=fun h=>by
  rw [e16] at h
  rw [e15]
  show 0 <(rbR (dgB (rkR s.1.1)).2).toArray.size
  rw [List.size_toArray]
  simp only [Bool.or_eq_true,beq_iff_eq] at h
  rcases h with h|h <;> rw [h] <;> exact Nat.succ_pos _
 have q4:r4=true→0<s.size:=fun h=>hpos (by
  rw [hr4] at h
  cases h1:r1 with
  | true=>rfl
  | false=>rw [h1] at h;cases h)
 have hF :(boxbook_entry.mk (bif r23 then r21 else r21) (bif r23 then r19 else r19) (bif r23 then r17 else r17) (bif r23 then r18 else r18) (bif r23 then r20 else r20))=rdL s.1.1:=by
  rw [←e22,hr22];cases r23 <;> rfl
 refine ⟨⟨⟨fun h=>⟨⟨Int.le_refl _,by have:=hpos h;omega⟩,fun _=>trivial,fun _=>⟨⟨Int.le_refl _,by have:=hpos h;omega⟩,trivial⟩⟩,fun _=>trivial⟩,fun _=>⟨fun h=>⟨⟨Int.le_refl _,by have:=q4 h;omega⟩,⟨by decide,by have:=q4 h;omega,Int.le_refl _⟩,trivial⟩,fun _=>trivial⟩⟩,fun _=>⟨⟨fun h=>⟨⟨Int.le_refl _,by have:=p16 h;omega⟩,trivial⟩,fun _=>trivial⟩,fun _=>⟨⟨?_,fun _=>⟨hr,?_,trivial⟩,fun _=>trivial⟩,fun _=>?_⟩⟩⟩
 ·rw [e22];exact ⟨hf,Af _,Ag _⟩
 ·rw [e22];exact hf
 ·rw [hF,e22,e23]
  unfold okL Dc
  cases syL (rdL s.1.1)==s.1.1 <;> rfl
def FH:FuncId×Ctr:=(117,aj KE qRS ME KU)
theorem Ci:CtrOK Tryz.prog KE 117 (aj KE qRS ME KU):=by
 refine aO (C:=az [xe,iD,tF,BI] Tryz.f117) (an (.consU Ee rfl (.consU ml rfl (.consU Cj rfl (.consU Hn rfl .nil)))) _) mixed (fn:=Tryz.f117) Tryz.func117 (by kernel_rfl) (by kernel_rfl) (by kernel_rfl) (by kernel_rfl) (by kernel_rfl) (by kernel_rfl) (Λ:=fun _ _=>none) ?_ ?_
 ·exact fun _ _ _ _ _ _ _ _ h=>by cases h
 ·rintro ⟨r,s,⟨⟩⟩ hw hn
  exact Hy r s (hn _ List.mem_cons_self)
theorem EO (s:ByteArray) :(evPat (az [BM] Tryz.f40) (fun _=>none) Tryz.f40 qS0 MG (s,())).sat fun z_=>z_ =(QX (s,())).2:=by
 refine cast (by kernel_rfl) (?_:let r1:Bool:=s.toList ==(ByteArray.mk #[46]).toList;(r1=true→(0,true,()) =((bF s).1,(bF s).2,()))∧(r1=false→((cJ s 1 11).1,(cJ s 1 11).2==0,()) =((bF s).1,(bF s).2,())))
 intro r1
 clear_value (hr1:r1=_)
 have e:r1 =(s.toList==dotS.toList):=hr1
 rw [e]
 unfold bF
 exact ⟨fun h=>by rw [h];rfl,fun h=>by rw [h];rfl⟩
def pf:FuncId×Ctr:=(40,aj KE qS0 MG QX)
theorem na:CtrOK Tryz.prog KE 40 (aj KE qS0 MG QX):=by
 refine aO (C:=az [BM] Tryz.f40) (an (.consU Hp rfl .nil) _) mixed (fn:=Tryz.f40) Tryz.func40 (by kernel_rfl) (by kernel_rfl) (by kernel_rfl) (by kernel_rfl) (by kernel_rfl) (by kernel_rfl) (Λ:=fun _ _=>none) ?_ ?_
 ·exact fun _ _ _ _ _ _ _ _ h=>by cases h
 ·rintro ⟨s,⟨⟩⟩ hw hn
  exact EO s
end
section
open Go Go.Mir Go.RowKit
attribute [local irreducible] Go.Mir.DT.sat Go.Mir.evPat Go.Mir.RT.sat Go.Mir.evFn
def smX (l:List Mir.Box):Prop:=l.length≤4000∧∀ x∈l,x.Symbols.length≤4000
def smY (l:List Mir.Strip):Prop:=l.length≤4000∧∀ x∈l,x.Symbols.length≤4000
def smB (b:Mir.Book):Prop:=smX b.Boxes∧smY b.Strips
def xW:Den (tyP qBk)→List Prop×Den (tyP dT):=fun x=>([smB x.1],(gq x.1,()))
abbrev qM0:Pat:=⟨[(1,.c (.ptr 0 0)),(3,.h I),(4,.h I),(10,.h (.slice (.nm .Box))),(11,.h I),(12,.h I)],[(0,.dat (.nm .Book))],1⟩
abbrev xM0:List (Lf×Pat):= [(.ext 0,⟨[(1,.c (.ptr 0 0)),(3,.h I),(4,.h I)],[(0,.dat (.nm .Book))],1⟩)]
abbrev TM0:Type:=Int×Int×List Mir.Box×Int×Int×Mir.Book×Unit
def gS:TM0→Int×Int×Mir.Book×Unit
 |(a,c,l,_,i,b,_)=>(a+nY (l.drop i.toNat),c,b,())
def lA:TM0→Prop
 |(a,_,l,n,i,_)=>(n =(l.length:Int)∧smX l)∧(0≤i∧i≤n)∧0≤a∧a≤4000*i
def vB:TM0→Nat
 |(_,_,_,n,i,_)=>(n - i).toNat
abbrev qM1:Pat:=⟨[(1,.c (.ptr 0 0)),(3,.h I),(4,.h I),(23,.h (.slice (.nm .Strip))),(24,.h I),(25,.h I)],[(0,.dat (.nm .Book))],1⟩
abbrev xM1:List (Lf×Pat):= [(.ext 2,⟨[(1,.c (.ptr 0 0)),(3,.h I),(4,.h I)],[(0,.dat (.nm .Book))],1⟩)]
abbrev TM1:Type:=Int×Int×List Mir.Strip×Int×Int×Mir.Book×Unit
def gT:TM1→Int×Int×Mir.Book×Unit
 |(c,a,l,_,i,b,_)=>(c,a+aM gLn (l.drop i.toNat),b,())
def lB:TM1→Prop
 |(_,a,l,n,i,_)=>(n =(l.length:Int)∧smY l)∧(0≤i∧i≤n)∧0≤a∧a≤4000*i
def vC:TM1→Nat
 |(_,_,_,n,i,_)=>(n - i).toNat
theorem fv {α:Type} {n i:Int} {A:Prop} {R1 R0 R:α} (h1:i<n→A∧R1=R) (h2 :¬ i<n→R0=R) :((decide (i<n)=true→A)∧(decide (i<n)=false→True))∧(bif decide (i<n) then R1 else R0)=R:=by
 by_cases h:i<n
 ·rw [decide_eq_true h]
  exact ⟨⟨fun _=>(h1 h).1,fun z=>Bool.noConfusion z⟩,(h1 h).2⟩
 ·rw [decide_eq_false h]
  exact ⟨⟨fun z=>Bool.noConfusion z,fun _=>trivial⟩,h2 h⟩
noncomputable def lpM0:Lp:=(⟨0,az [] Tryz.f67,(fun _=>none),(aq Tryz.f67 0),qM0,xM0⟩:Lp)
theorem RB (a:Int) (c:Int) (l:List Mir.Box) (n:Int) (i:Int) (b:Mir.Book) (hi:lA (a,c,l,n,i,b,())) :(Go.Mir.stepG lpM0 gS (fun y:Den (tyP lpM0.q)=>lA y∧vB y<vB (a,c,l,n,i,b,())) (a,c,l,n,i,b,())∧Go.Mir.stepE lpM0 gS (a,c,l,n,i,b,())=gS (a,c,l,n,i,b,())):=by
 refine cast (by kernel_rfl) (?_ :((decide (i<n)=true→(0≤i∧i <(↑l.length:Int))∧lA (IntKind.i64.wrap (a +(↑(l.getD i.toNat (dflt (Ty.nm Nm.Box))).3.length:Int)),c,l,n,IntKind.i64.wrap (i+1),b,())∧vB (IntKind.i64.wrap (a +(↑(l.getD i.toNat (dflt (Ty.nm Nm.Box))).3.length:Int)),c,l,n,IntKind.i64.wrap (i+1),b,())<vB (a,c,l,n,i,b,()))∧(decide (i<n)=false→True))∧(cond (decide (i<n)) (gS (IntKind.i64.wrap (a +(↑(l.getD i.toNat (dflt (Ty.nm Nm.Box))).3.length:Int)),c,l,n,IntKind.i64.wrap (i+1),b,())) (a,c,b,()))=gS (a,c,l,n,i,b,()))
 obtain ⟨⟨h1,h1a,h1b⟩,⟨h2,h3⟩,h4,h5⟩:=hi
 have h1:n =(l.length:Int):=h1
 have h1a:l.length≤4000:=h1a
 have h2:0≤i:=h2
 have h3:i≤n:=h3
 have h4:0≤a:=h4
 have h5:a≤4000*i:=h5
 refine fv (fun h=>?_) (fun h=>?_)
 ·have e1:IntKind.i64.wrap (i+1)=i+1:=aL (by omega) (by omega)
  have hd:l.drop i.toNat=l.getD i.toNat (dflt (Ty.nm Nm.Box))::l.drop (i+1).toNat:=aP h2 (by omega) _
  have hm:l.getD i.toNat (dflt (Ty.nm Nm.Box))∈l:=List.mem_of_mem_drop (i:=i.toNat) (by rw [hd];exact List.mem_cons_self)
  have hx:=h1b _ hm
  generalize l.getD i.toNat (dflt (Ty.nm Nm.Box))=x at *
  have e2:IntKind.i64.wrap (a +(x.Symbols.length:Int))=a +(x.Symbols.length:Int):=bf (by omega) (by omega)
  rw [e1,e2]
  refine ⟨⟨⟨h2,by omega⟩,⟨⟨h1,h1a,h1b⟩,⟨?_,?_⟩,?_,?_⟩,?_⟩,?_⟩
  ·show 0≤i+1;omega
  ·show i+1≤n;omega
  ·show 0≤a +(x.Symbols.length:Int);omega
  ·show a +(x.Symbols.length:Int)≤4000 *(i+1);omega
  ·show (n - (i+1)).toNat <(n - i).toNat;omega
  ·show ((a +(x.Symbols.length:Int)+nY (l.drop (i+1).toNat)),c,b,()) =((a+nY (l.drop i.toNat)),c,b,())
   rw [hd]
   show _ =((a +((x.Symbols.length:Int)+nY (l.drop (i+1).toNat))),c,b,())
   rw [Int.add_assoc]
 ·show (a,c,b,()) =((a+nY (l.drop i.toNat)),c,b,())
  rw [aG (l:=l) (by omega)]
  show _ =((a+0),c,b,())
  rw [Int.add_zero]
noncomputable def Ov:LoopSum:=ai lpM0 gS lA
noncomputable def NS:Nat:=rid (aq Tryz.f67 0)
theorem P5:LoopOKp Tryz.prog 0 Tryz.f67.ntmps (aq Tryz.f67 0) (ai lpM0 gS lA):=
 ax lpM0 (an (CtrsOK.nil) _) mixed (fun b hb S hS=>by cases hS) gS lA vB (fun |⟨a,c,l,n,i,b,⟨⟩⟩,hi=>RB a c l n i b hi)
noncomputable def lpM1:Lp:=(⟨0,az [] Tryz.f67,(fun _=>none),(aq Tryz.f67 1),qM1,xM1⟩:Lp)
theorem RC (c:Int) (a:Int) (l:List Mir.Strip) (n:Int) (i:Int) (b:Mir.Book) (hi:lB (c,a,l,n,i,b,())) :(Go.Mir.stepG lpM1 gT (fun y:Den (tyP lpM1.q)=>lB y∧vC y<vC (c,a,l,n,i,b,())) (c,a,l,n,i,b,())∧Go.Mir.stepE lpM1 gT (c,a,l,n,i,b,())=gT (c,a,l,n,i,b,())):=by
 refine cast (by kernel_rfl) (?_ :((decide (i<n)=true→(0≤i∧i <(↑l.length:Int))∧lB (c,IntKind.i64.wrap (a +(↑(l.getD i.toNat (dflt (Ty.nm Nm.Strip))).2.length:Int)),l,n,IntKind.i64.wrap (i+1),b,())∧vC (c,IntKind.i64.wrap (a +(↑(l.getD i.toNat (dflt (Ty.nm Nm.Strip))).2.length:Int)),l,n,IntKind.i64.wrap (i+1),b,())<vC (c,a,l,n,i,b,()))∧(decide (i<n)=false→True))∧(cond (decide (i<n)) (gT (c,IntKind.i64.wrap (a +(↑(l.getD i.toNat (dflt (Ty.nm Nm.Strip))).2.length:Int)),l,n,IntKind.i64.wrap (i+1),b,())) (c,a,b,()))=gT (c,a,l,n,i,b,()))
 obtain ⟨⟨h1,h1a,h1b⟩,⟨h2,h3⟩,h4,h5⟩:=hi
 have h1:n =(l.length:Int):=h1
 have h1a:l.length≤4000:=h1a
 have h2:0≤i:=h2
 have h3:i≤n:=h3
 have h4:0≤a:=h4
 have h5:a≤4000*i:=h5
 refine fv (fun h=>?_) (fun h=>?_)
 ·have e1:IntKind.i64.wrap (i+1)=i+1:=aL (by omega) (by omega)
  have hd:l.drop i.toNat=l.getD i.toNat (dflt (Ty.nm Nm.Strip))::l.drop (i+1).toNat:=aP h2 (by omega) _
  have hm:l.getD i.toNat (dflt (Ty.nm Nm.Strip))∈l:=List.mem_of_mem_drop (i:=i.toNat) (by rw [hd];exact List.mem_cons_self)
  have hx:=h1b _ hm
  generalize l.getD i.toNat (dflt (Ty.nm Nm.Strip))=x at *
  have e2:IntKind.i64.wrap (a +(x.Symbols.length:Int))=a +(x.Symbols.length:Int):=bf (by omega) (by omega)
  rw [e1,e2]
  refine ⟨⟨⟨h2,by omega⟩,⟨⟨h1,h1a,h1b⟩,⟨?_,?_⟩,?_,?_⟩,?_⟩,?_⟩
  ·show 0≤i+1;omega
  ·show i+1≤n;omega
  ·show 0≤a +(x.Symbols.length:Int);omega
  ·show a +(x.Symbols.length:Int)≤4000 *(i+1);omega
  ·show (n - (i+1)).toNat <(n - i).toNat;omega
  ·show (c,(a +(x.Symbols.length:Int)+aM gLn (l.drop (i+1).toNat)),b,()) =(c,(a+aM gLn (l.drop i.toNat)),b,())
   rw [hd]
   show _ =(c,(a +((x.Symbols.length:Int)+aM gLn (l.drop (i+1).toNat))),b,())
   rw [Int.add_assoc]
 ·show (c,a,b,()) =(c,(a+aM gLn (l.drop i.toNat)),b,())
  rw [aG (l:=l) (by omega)]
  show _ =(c,(a+0),b,())
  rw [Int.add_zero]
noncomputable def Ow:LoopSum:=ai lpM1 gT lB
noncomputable def NT:Nat:=rid (aq Tryz.f67 1)
theorem P6:LoopOKp Tryz.prog 0 Tryz.f67.ntmps (aq Tryz.f67 1) (ai lpM1 gT lB):=
 ax lpM1 (an (CtrsOK.nil) _) mixed (fun b hb S hS=>by cases hS) gT lB vC (fun |⟨c,a,l,n,i,b,⟨⟩⟩,hi=>RC c a l n i b hi)
theorem Hw (b:Mir.Book) (hb:smB b) :(evPat (az [] Tryz.f67) (find [(NS,Ov),(NT,Ow)]) Tryz.f67 qBk dT (b,())).sat fun z_=>z_ =(xW (b,())).2:=by
 refine cast (by kernel_rfl) (?_:let r1:Int:=0+nY (List.drop (Int.toNat 0) b.2);let r2:Int:=0+aM gLn (List.drop (Int.toNat 0) b.3);let r3:Int:=if (↑b.3.length:Int) >(↑b.2.length:Int) then (↑b.3.length:Int) else (↑b.2.length:Int);let r4:Int:=if r1>r3 then r1 else r3;let r5:Int:=if r2>r4 then r2 else r4;((cg fun x=>none)∧((↑b.2.length:Int) =(↑b.2.length:Int)∧smX b.2)∧((0:Int)≤0∧0≤(↑b.2.length:Int))∧(0:Int)≤0∧(0:Int)≤(4000:Int)*0)∧((cg fun x=>none)∧((↑b.3.length:Int) =(↑b.3.length:Int)∧smY b.3)∧((0:Int)≤0∧0≤(↑b.3.length:Int))∧(0:Int)≤0∧(0:Int)≤(4000:Int)*0)∧(decide (r5>4000),()) =(gq b,()))
 intro r1 r2 r3 r4 r5
 clear_value (hr1:r1=_) (hr2:r2=_) (hr3:r3=_) (hr4:r4=_) (hr5:r5=_)
 obtain ⟨hx,hy⟩:=hb
 have e1:r1=nY b.Boxes:=by rw [hr1];exact Int.zero_add _
 have e2:r2=aM gLn b.Strips:=by rw [hr2];exact Int.zero_add _
 refine ⟨⟨rfl,⟨rfl,hx⟩,⟨Int.le_refl _,by omega⟩,Int.le_refl _,by decide⟩,⟨rfl,⟨rfl,hy⟩,⟨Int.le_refl _,by omega⟩,Int.le_refl _,by decide⟩,?_⟩
 have:decide (r5>4000)=gq b:=by
  rw [Bool.eq_iff_iff]
  simp only [gq,Bool.or_eq_true,decide_eq_true_eq]
  rw [←e1,←e2,hr5,hr4,hr3]
  split <;> split <;> split <;> omega
 rw [this]
def FG:FuncId×Ctr:=(67,aj KE qBk dT xW)
theorem J3:CtrOK Tryz.prog KE 67 (aj KE qBk dT xW):=by
 refine aO (C:=az [] Tryz.f67) (an (CtrsOK.nil) _) mixed (fn:=Tryz.f67) Tryz.func67 (by kernel_rfl) (by kernel_rfl) (by kernel_rfl) (by kernel_rfl) (by kernel_rfl) (by kernel_rfl) (Λ:=fun x=>find [(NS,Ov),(NT,Ow)]) ?_ ?_
 ·rintro ⟨b,⟨⟩⟩ hw hn
  exact LoopsOKp.at (by kernel_rfl) (.cons (by kernel_rfl) (P5) (.cons (by kernel_rfl) (P6) .nil))
 ·rintro ⟨b,⟨⟩⟩ hw hn
  exact Hw b (hn _ List.mem_cons_self)
noncomputable def lpM2:Lp:=(⟨0,az [] Tryz.f30,(fun _=>none),(aq Tryz.f30 0),qM0,xM0⟩:Lp)
theorem RD (a:Int) (c:Int) (l:List Mir.Box) (n:Int) (i:Int) (b:Mir.Book) (hi:lA (a,c,l,n,i,b,())) :(Go.Mir.stepG lpM2 gS (fun y:Den (tyP lpM2.q)=>lA y∧vB y<vB (a,c,l,n,i,b,())) (a,c,l,n,i,b,())∧Go.Mir.stepE lpM2 gS (a,c,l,n,i,b,())=gS (a,c,l,n,i,b,())):=by
 refine cast (by kernel_rfl) (?_ :((decide (i<n)=true→(0≤i∧i <(↑l.length:Int))∧lA (IntKind.i64.wrap (a +(↑(l.getD i.toNat (dflt (Ty.nm Nm.Box))).3.length:Int)),c,l,n,IntKind.i64.wrap (i+1),b,())∧vB (IntKind.i64.wrap (a +(↑(l.getD i.toNat (dflt (Ty.nm Nm.Box))).3.length:Int)),c,l,n,IntKind.i64.wrap (i+1),b,())<vB (a,c,l,n,i,b,()))∧(decide (i<n)=false→True))∧(cond (decide (i<n)) (gS (IntKind.i64.wrap (a +(↑(l.getD i.toNat (dflt (Ty.nm Nm.Box))).3.length:Int)),c,l,n,IntKind.i64.wrap (i+1),b,())) (a,c,b,()))=gS (a,c,l,n,i,b,()))
 obtain ⟨⟨h1,h1a,h1b⟩,⟨h2,h3⟩,h4,h5⟩:=hi
 have h1:n =(l.length:Int):=h1
 have h1a:l.length≤4000:=h1a
 have h2:0≤i:=h2
 have h3:i≤n:=h3
 have h4:0≤a:=h4
 have h5:a≤4000*i:=h5
 refine fv (fun h=>?_) (fun h=>?_)
 ·have e1:IntKind.i64.wrap (i+1)=i+1:=aL (by omega) (by omega)
  have hd:l.drop i.toNat=l.getD i.toNat (dflt (Ty.nm Nm.Box))::l.drop (i+1).toNat:=aP h2 (by omega) _
  have hm:l.getD i.toNat (dflt (Ty.nm Nm.Box))∈l:=List.mem_of_mem_drop (i:=i.toNat) (by rw [hd];exact List.mem_cons_self)
  have hx:=h1b _ hm
  generalize l.getD i.toNat (dflt (Ty.nm Nm.Box))=x at *
  have e2:IntKind.i64.wrap (a +(x.Symbols.length:Int))=a +(x.Symbols.length:Int):=bf (by omega) (by omega)
  rw [e1,e2]
  refine ⟨⟨⟨h2,by omega⟩,⟨⟨h1,h1a,h1b⟩,⟨?_,?_⟩,?_,?_⟩,?_⟩,?_⟩
  ·show 0≤i+1;omega
  ·show i+1≤n;omega
  ·show 0≤a +(x.Symbols.length:Int);omega
  ·show a +(x.Symbols.length:Int)≤4000 *(i+1);omega
  ·show (n - (i+1)).toNat <(n - i).toNat;omega
  ·show ((a +(x.Symbols.length:Int)+nY (l.drop (i+1).toNat)),c,b,()) =((a+nY (l.drop i.toNat)),c,b,())
   rw [hd]
   show _ =((a +((x.Symbols.length:Int)+nY (l.drop (i+1).toNat))),c,b,())
   rw [Int.add_assoc]
 ·show (a,c,b,()) =((a+nY (l.drop i.toNat)),c,b,())
  rw [aG (l:=l) (by omega)]
  show _ =((a+0),c,b,())
  rw [Int.add_zero]
noncomputable def Ox:LoopSum:=ai lpM2 gS lA
noncomputable def NU:Nat:=rid (aq Tryz.f30 0)
theorem P7:LoopOKp Tryz.prog 0 Tryz.f30.ntmps (aq Tryz.f30 0) (ai lpM2 gS lA):=
 ax lpM2 (an (CtrsOK.nil) _) mixed (fun b hb S hS=>by cases hS) gS lA vB (fun |⟨a,c,l,n,i,b,⟨⟩⟩,hi=>RD a c l n i b hi)
noncomputable def lpM3:Lp:=(⟨0,az [] Tryz.f30,(fun _=>none),(aq Tryz.f30 1),qM1,xM1⟩:Lp)
theorem RE (c:Int) (a:Int) (l:List Mir.Strip) (n:Int) (i:Int) (b:Mir.Book) (hi:lB (c,a,l,n,i,b,())) :(Go.Mir.stepG lpM3 gT (fun y:Den (tyP lpM3.q)=>lB y∧vC y<vC (c,a,l,n,i,b,())) (c,a,l,n,i,b,())∧Go.Mir.stepE lpM3 gT (c,a,l,n,i,b,())=gT (c,a,l,n,i,b,())):=by
 refine cast (by kernel_rfl) (?_ :((decide (i<n)=true→(0≤i∧i <(↑l.length:Int))∧lB (c,IntKind.i64.wrap (a +(↑(l.getD i.toNat (dflt (Ty.nm Nm.Strip))).2.length:Int)),l,n,IntKind.i64.wrap (i+1),b,())∧vC (c,IntKind.i64.wrap (a +(↑(l.getD i.toNat (dflt (Ty.nm Nm.Strip))).2.length:Int)),l,n,IntKind.i64.wrap (i+1),b,())<vC (c,a,l,n,i,b,()))∧(decide (i<n)=false→True))∧(cond (decide (i<n)) (gT (c,IntKind.i64.wrap (a +(↑(l.getD i.toNat (dflt (Ty.nm Nm.Strip))).2.length:Int)),l,n,IntKind.i64.wrap (i+1),b,())) (c,a,b,()))=gT (c,a,l,n,i,b,()))
 obtain ⟨⟨h1,h1a,h1b⟩,⟨h2,h3⟩,h4,h5⟩:=hi
 have h1:n =(l.length:Int):=h1
 have h1a:l.length≤4000:=h1a
 have h2:0≤i:=h2
 have h3:i≤n:=h3
 have h4:0≤a:=h4
 have h5:a≤4000*i:=h5
 refine fv (fun h=>?_) (fun h=>?_)
 ·have e1:IntKind.i64.wrap (i+1)=i+1:=aL (by omega) (by omega)
  have hd:l.drop i.toNat=l.getD i.toNat (dflt (Ty.nm Nm.Strip))::l.drop (i+1).toNat:=aP h2 (by omega) _
  have hm:l.getD i.toNat (dflt (Ty.nm Nm.Strip))∈l:=List.mem_of_mem_drop (i:=i.toNat) (by rw [hd];exact List.mem_cons_self)
  have hx:=h1b _ hm
  generalize l.getD i.toNat (dflt (Ty.nm Nm.Strip))=x at *
  have e2:IntKind.i64.wrap (a +(x.Symbols.length:Int))=a +(x.Symbols.length:Int):=bf (by omega) (by omega)
  rw [e1,e2]
  refine ⟨⟨⟨h2,by omega⟩,⟨⟨h1,h1a,h1b⟩,⟨?_,?_⟩,?_,?_⟩,?_⟩,?_⟩
  ·show 0≤i+1;omega
  ·show i+1≤n;omega
  ·show 0≤a +(x.Symbols.length:Int);omega
  ·show a +(x.Symbols.length:Int)≤4000 *(i+1);omega
  ·show (n - (i+1)).toNat <(n - i).toNat;omega
  ·show (c,(a +(x.Symbols.length:Int)+aM gLn (l.drop (i+1).toNat)),b,()) =(c,(a+aM gLn (l.drop i.toNat)),b,())
   rw [hd]
   show _ =(c,(a +((x.Symbols.length:Int)+aM gLn (l.drop (i+1).toNat))),b,())
   rw [Int.add_assoc]
 ·show (c,a,b,()) =(c,(a+aM gLn (l.drop i.toNat)),b,())
  rw [aG (l:=l) (by omega)]
  show _ =(c,(a+0),b,())
  rw [Int.add_zero]
noncomputable def Oy:LoopSum:=ai lpM3 gT lB
noncomputable def NV:Nat:=rid (aq Tryz.f30 1)
theorem P8:LoopOKp Tryz.prog 0 Tryz.f30.ntmps (aq Tryz.f30 1) (ai lpM3 gT lB):=
 ax lpM3 (an (CtrsOK.nil) _) mixed (fun b hb S hS=>by cases hS) gT lB vC (fun |⟨c,a,l,n,i,b,⟨⟩⟩,hi=>RE c a l n i b hi)
theorem CO (b:Mir.Book) (hb:smB b) :(evPat (az [] Tryz.f30) (find [(NU,Ox),(NV,Oy)]) Tryz.f30 qBk dT (b,())).sat fun z_=>z_ =(xW (b,())).2:=by
 refine cast (by kernel_rfl) (?_:let r1:Int:=0+nY (List.drop (Int.toNat 0) b.2);let r2:Int:=0+aM gLn (List.drop (Int.toNat 0) b.3);let r3:Int:=if (↑b.3.length:Int) >(↑b.2.length:Int) then (↑b.3.length:Int) else (↑b.2.length:Int);let r4:Int:=if r1>r3 then r1 else r3;let r5:Int:=if r2>r4 then r2 else r4;((cg fun x=>none)∧((↑b.2.length:Int) =(↑b.2.length:Int)∧smX b.2)∧((0:Int)≤0∧0≤(↑b.2.length:Int))∧(0:Int)≤0∧(0:Int)≤(4000:Int)*0)∧((cg fun x=>none)∧((↑b.3.length:Int) =(↑b.3.length:Int)∧smY b.3)∧((0:Int)≤0∧0≤(↑b.3.length:Int))∧(0:Int)≤0∧(0:Int)≤(4000:Int)*0)∧(decide (r5>4000),()) =(gq b,()))
 intro r1 r2 r3 r4 r5
 clear_value (hr1:r1=_) (hr2:r2=_) (hr3:r3=_) (hr4:r4=_) (hr5:r5=_)
 obtain ⟨hx,hy⟩:=hb
 have e1:r1=nY b.Boxes:=by rw [hr1];exact Int.zero_add _
 have e2:r2=aM gLn b.Strips:=by rw [hr2];exact Int.zero_add _
 refine ⟨⟨rfl,⟨rfl,hx⟩,⟨Int.le_refl _,by omega⟩,Int.le_refl _,by decide⟩,⟨rfl,⟨rfl,hy⟩,⟨Int.le_refl _,by omega⟩,Int.le_refl _,by decide⟩,?_⟩
 have:decide (r5>4000)=gq b:=by
  rw [Bool.eq_iff_iff]
  simp only [gq,Bool.or_eq_true,decide_eq_true_eq]
  rw [←e1,←e2,hr5,hr4,hr3]
  split <;> split <;> split <;> omega
 rw [this]
def xg:FuncId×Ctr:=(30,aj KE qBk dT xW)
theorem Eg:CtrOK Tryz.prog KE 30 (aj KE qBk dT xW):=by
 refine aO (C:=az [] Tryz.f30) (an (CtrsOK.nil) _) mixed (fn:=Tryz.f30) Tryz.func30 (by kernel_rfl) (by kernel_rfl) (by kernel_rfl) (by kernel_rfl) (by kernel_rfl) (by kernel_rfl) (Λ:=fun x=>find [(NU,Ox),(NV,Oy)]) ?_ ?_
 ·rintro ⟨b,⟨⟩⟩ hw hn
  exact LoopsOKp.at (by kernel_rfl) (.cons (by kernel_rfl) (P7) (.cons (by kernel_rfl) (P8) .nil))
 ·rintro ⟨b,⟨⟩⟩ hw hn
  exact CO b (hn _ List.mem_cons_self)
end
section
open Go Go.Mir
def Ny (t:Int):Int:=if t==2 then 119 else if t==3 then 110 else 0
def NA (w o:Bool):Int:=if w then 87 else if o then 82 else 0
def jc (t c b l:Int) (w o:Bool):boxbook_entry:=⟨Ny t,c,b,l,NA w o⟩
def ofR (t c b l:Int) (w o:Bool):ref21_Symbol:=⟨gE (jc t c b l w o),t,c,b,l,w,o⟩
def E4 (k:Int):Int:=if k==119 then 2 else if k==110 then 3 else 1
def EY (x:boxbook_entry):ref21_Symbol:=ofR (E4 x.kind) x.charge x.byes x.leg (x.mark==87) (x.mark==82)
def cM (r:Rules) (y:Sx):ref21_Symbol:=EY (shE r.Wide r.NoBall y)
def bl (r:Rules):List ref21_Symbol:=symsX.map (cM r)
def aB:List ref21_Symbol→ByteArray→ref21_Symbol×Bool
 | [],_=>(ref21_Symbol.zero,false)
 | x::l,s=>if x.Text.toList==s.toList then (x,true) else aB l s
theorem IC {x:boxbook_entry} (hk:k3 x.kind 119 110) (hm:k3 x.mark 87 82):jc (E4 x.kind) x.charge x.byes x.leg (x.mark==87) (x.mark==82)=x:=by
 obtain ⟨k,c,b,l,m⟩:=x
 have hk:k=0∨k=119∨k=110:=hk
 have hm:m=0∨m=87∨m=82:=hm
 rcases hk with rfl|rfl|rfl <;> rcases hm with rfl|rfl|rfl <;> rfl
theorem K6 :(symsX.all fun y=>(y.1==0 ||(y.1==119||y.1==110))&&(y.2.2.2.2==0 ||(y.2.2.2.2==87||y.2.2.2.2==82)))=true:=by kernel_rfl
theorem uP {y:Sx} (h:y∈symsX):k3 y.1 119 110∧k3 y.2.2.2.2 87 82:=by
 have:=List.all_eq_true.1 K6 y h
 simpa [k3] using this
theorem K7 {r:Rules} {y:Sx} (h:y∈symsX) :(cM r y).Text.data.toList=syL (shE r.Wide r.NoBall y):=by
 obtain ⟨hk,hm⟩:=uP h
 show (gE (jc (E4 (shE r.Wide r.NoBall y).kind) (shE r.Wide r.NoBall y).charge (shE r.Wide r.NoBall y).byes (shE r.Wide r.NoBall y).leg ((shE r.Wide r.NoBall y).mark==87) ((shE r.Wide r.NoBall y).mark==82))).data.toList=_
 rw [IC hk hm,yd hk hm]
theorem Ft {r:Rules} (s:ByteArray) :∀ ys:List Sx,(∀ y∈ys,y∈symsX)→aB (ys.map (cM r)) s=match fdF r.Wide r.NoBall s.data.toList ys with|some y=>(cM r y,true)|none=>(ref21_Symbol.zero,false)
 | [],_=>rfl
 | y::ys,h=>by
  have ht:=K7 (r:=r) (h y List.mem_cons_self)
  have ih:=Ft (r:=r) s ys fun z hz=>h z (List.mem_cons_of_mem _ hz)
  have e :((cM r y).Text.toList==s.toList) =(syL (shE r.Wide r.NoBall y)==s.data.toList):=by
   rw [Bool.eq_iff_iff,bytes_eq_iff,beq_iff_eq,ht]
  show (if ((cM r y).Text.toList==s.toList)=true then (cM r y,true) else aB (ys.map (cM r)) s)=_
  rw [e,ih,fdF]
  cases syL (shE r.Wide r.NoBall y)==s.data.toList <;> rfl
theorem zh (r:Rules) (s:ByteArray):aB (bl r) s=match rdE r s with|some x=>(EY x,true)|none=>(ref21_Symbol.zero,false):=by
 unfold bl rdE
 rw [Ft s symsX fun _ h=>h]
 cases fdF r.Wide r.NoBall s.data.toList symsX <;> rfl
theorem Kp {r:Rules} {s:ByteArray} {x:boxbook_entry} (h:rdE r s=some x):k3 x.kind 119 110∧k3 x.mark 87 82:=by
 unfold rdE at h
 cases hf:fdF r.Wide r.NoBall s.data.toList symsX with
 | none=>rw [hf] at h;cases h
 | some y=>
  rw [hf] at h
  cases h
  exact uP (oV hf).1
def gm (all:List ref21_Symbol) (s:ByteArray):Int:=if (aB all s).1.Typ==1 then 1 else 0
def cd (all:List ref21_Symbol):List ByteArray→Int
 | []=>0
 | s::l=>gm all s+cd all l
def rM (all:List ref21_Symbol) (ov:Int):List Mir.Box→Int
 | []=>0
 | x::l=>(if x.Over==ov then cd all x.Symbols else 0)+rM all ov l
theorem II (r:Rules) (s:ByteArray):gm (bl r) s=wo r s:=by
 unfold gm wo
 rw [zh]
 cases h:rdE r s with
 | none=>rfl
 | some x=>
  obtain ⟨hk,_⟩:=Kp h
  obtain ⟨k,c,b,l,m⟩:=x
  have hk:k=0∨k=119∨k=110:=hk
  rcases hk with rfl|rfl|rfl <;> rfl
theorem wm (r:Rules) :∀ l:List ByteArray,cd (bl r) l=qT r l
 | []=>rfl
 | s::l=>by show gm (bl r) s+cd (bl r) l=wo r s+qT r l;rw [II,wm r l]
theorem zC (r:Rules) (ov:Int) :∀ l:List Mir.Box,rM (bl r) ov l=lI r ov l
 | []=>rfl
 | x::l=>by show (if x.Over==ov then cd (bl r) x.Symbols else 0)+rM (bl r) ov l =(if x.Over==ov then qT r x.Symbols else 0)+lI r ov l;rw [wm,zC r ov l]
theorem wj (all:List ref21_Symbol) :∀ l:List ByteArray,0≤cd all l∧cd all l≤l.length
 | []=>⟨Int.le_refl _,Int.le_refl _⟩
 | s::l=>by
  have ih:=wj all l
  have h:0≤gm all s∧gm all s≤1:=by unfold gm;split <;> decide
  have e:cd all (s::l)=gm all s+cd all l:=rfl
  have el :((s::l).length:Int)=l.length+1:=rfl
  rw [e,el]
  omega
def bE (r:Rules) (s:ByteArray):boxbook_entry:=(rdE r s).getD boxbook_entry.zero
def uo (r:Rules) (l:List ByteArray):Prop:=∀ s∈l,(rdE r s).isSome=true
theorem CF {r:Rules} :∀ {l:List ByteArray},uo r l→gA r l=some (l.map (bE r))
 | [],_=>rfl
 | s::l,h=>by
  have h1:=h s List.mem_cons_self
  have h2:=CF fun z hz=>h z (List.mem_cons_of_mem _ hz)
  obtain ⟨x,hx⟩:=Option.isSome_iff_exists.1 h1
  unfold gA
  rw [hx,h2]
  show some (x::l.map (bE r))=some (bE r s::l.map (bE r))
  have:bE r s=x:=by unfold bE;rw [hx];rfl
  rw [this]
theorem Ha {r:Rules} {s:ByteArray} (h :(rdE r s).isSome=true):aB (bl r) s =(EY (bE r s),true):=by
 obtain ⟨x,hx⟩:=Option.isSome_iff_exists.1 h
 rw [zh,hx]
 show (EY x,true) =(EY (bE r s),true)
 have:bE r s=x:=by unfold bE;rw [hx];rfl
 rw [this]
theorem Pd {r:Rules} {s:ByteArray} (h :(rdE r s).isSome=true):k3 (bE r s).kind 119 110∧k3 (bE r s).mark 87 82:=by
 obtain ⟨x,hx⟩:=Option.isSome_iff_exists.1 h
 have:bE r s=x:=by unfold bE;rw [hx];rfl
 rw [this]
 exact Kp hx
theorem Fm {r:Rules} (hc :(1≤r.Wide∧r.Wide≤5)∧(1≤r.NoBall∧r.NoBall≤5)) {s:ByteArray} (h :(rdE r s).isSome=true):DA (bE r s):=by
 obtain ⟨x,hx⟩:=Option.isSome_iff_exists.1 h
 have:bE r s=x:=by unfold bE;rw [hx];rfl
 rw [this]
 obtain ⟨h1,h2,h3,_⟩:=QL hc hx
 exact ⟨h1,h2,h3⟩
theorem sA {r:Rules} :∀ (l pre:List Mir.Box),bxR r pre l=0→∀ x∈l,uo r x.Symbols∧(1≤x.Bowler∧x.Bowler≤r.Side)
 | [],_,_,x,hx=>by cases hx
 | y::l,pre,h,x,hx=>by
  unfold bxR at h
  have h0:jw r pre y=0:=by
   by_cases hb:jw r pre y=0
   ·exact hb
   ·rw [if_pos (by simpa using hb)] at h;exact absurd h hb
  rw [if_neg (by rw [h0];decide)] at h
  rcases List.mem_cons.1 hx with rfl|hx
  ·unfold jw at h0
   by_cases hw:vc r x=true
   ·rw [if_pos hw] at h0;cases h0
   ·rw [if_neg hw] at h0
    by_cases he:x.Symbols.isEmpty=true
    ·rw [if_pos he] at h0;cases h0
    ·rw [if_neg he] at h0
     by_cases ha :(x.Symbols.any fun s=>(rdE r s).isNone)=true
     ·rw [if_pos ha] at h0;cases h0
     ·refine ⟨fun s hs=>?_,?_⟩
      ·cases hr:rdE r s with
       | some _=>rfl
       | none=>exact absurd (List.any_eq_true.2 ⟨s,hs,by rw [hr];rfl⟩) ha
      ·unfold vc at hw
       simp only [Bool.or_eq_true,decide_eq_true_eq,not_or] at hw
       omega
  ·exact sA l _ h x hx
theorem Be {r:Rules} {b:Mir.Book} (h :∀ x∈b.Boxes,uo r x.Symbols):oO r b=b.Boxes.map fun x=>x.Symbols.map (bE r):=by
 unfold oO
 refine List.map_congr_left fun x hx=>?_
 rw [CF (h x hx)]
 rfl
end
section
open Go Go.Mir Go.RowKit
attribute [local irreducible] Go.Mir.DT.sat Go.Mir.evPat Go.Mir.RT.sat Go.Mir.evFn
abbrev tSy:Ty:= .nm .ref21_Symbol
abbrev tSys:Ty:= .slice tSy
def KJ:Den (tyP qTn)→List Prop×Den (tyP ke):=fun x=>([bg x.1],(bZ x.1,()))
abbrev qOf:Pat:=cn [U8,I,I,I,.bool,.bool]
abbrev MM:Pat:=cn [tSy]
def iJ (w o:Bool):Prop:=(w&&o)=false
def sOf:Den (tyP qOf)→List Prop×Den (tyP MM):=fun x=>([bg x.2.1,bg x.2.2.1,bg x.2.2.2.1,iJ x.2.2.2.2.1 x.2.2.2.2.2.1],(ofR x.1 x.2.1 x.2.2.1 x.2.2.2.1 x.2.2.2.2.1 x.2.2.2.2.2.1,()))
abbrev qFd:Pat:=⟨[(1,.h .str),(4,.c (.ptr 0 0)),(8,.h tSys),(9,.h I),(10,.h I)],[(0,.dat tSy)],1⟩
abbrev xFd:List (Lf×Pat):= [(.ext 0,⟨[(4,.c (.ptr 0 0))],[(0,.dat tSy)],1⟩),(.ret,⟨[(4,.c (.ptr 0 0)),(5,.h .bool)],[(0,.dat tSy)],1⟩)]
abbrev TFd:Type:=ByteArray×List ref21_Symbol×Int×Int×ref21_Symbol×Unit
def J8 (z:ref21_Symbol) (x:ref21_Symbol×Bool):Sum (ref21_Symbol×Unit) (Bool×ref21_Symbol×Unit):=bif x.2 then .inr (true,x.1,()) else .inl (z,())
def kg:TFd→Sum (ref21_Symbol×Unit) (Bool×ref21_Symbol×Unit)
 |(s,l,_,i,z,_)=>J8 z (aB (l.drop i.toNat) s)
def wJ:TFd→Prop
 |(_,l,n,i,_)=>(n =(l.length:Int)∧l.length≤aA)∧0≤i∧i≤n
def JI:TFd→Nat
 |(_,_,n,i,_)=>(n - i).toNat
abbrev MS:Pat:=cn [tSys,.str]
abbrev F9:Pat:=cn [tSy,.bool]
def KO:Den (tyP MS)→List Prop×Den (tyP F9):=fun x=>([x.1.length≤aA],((aB x.1 x.2.1).1,(aB x.1 x.2.1).2,()))
abbrev qVa:Pat:=⟨[(0,.h .str),(3,.h I)],[],0⟩
abbrev xVa:List (Lf×Pat):= [(.ext 0,⟨[],[],0⟩),(.ret,⟨[(2,.h I)],[],0⟩)]
abbrev TVa:Type:=ByteArray×Int×Unit
def xK (v:Int):Sum Unit (Int×Unit):=if v == -1 then .inl () else .inr (v,())
def lF:TVa→Sum Unit (Int×Unit)
 |(s,n,_)=>xK (AN s (12 - n).toNat n)
def wX:TVa→Prop
 |(_,n,_)=>0≤n∧n≤12
def JR:TVa→Nat
 |(_,n,_)=>(12 - n).toNat
abbrev ny:Pat:=cn [I]
def Q3:Den (tyP qS0)→List Prop×Den (tyP ny):=fun x=>([],(fD x.1,()))
def mkO (o:Bool):Int:=if o then 82 else 0
def rl (o:Bool):Int:=if o then 7 else 11
abbrev hpY:List (Nat×PB):= [(0,.dat (.nm .Rules)),(1,.row 2 tSy)]
abbrev tmY:List (Nat×PC):= [(1,.c (.ptr 0 0)),(3,.c (.osl 1 2)),(13,.h (.slice .bool)),(14,.h I),(15,.h I)]
abbrev qY0:Pat:=⟨tmY++[(5,.h .bool),(6,.h I),(7,.h I)],hpY,3⟩
abbrev xY0:List (Lf×Pat):= [(.ext 2,⟨tmY,hpY,3⟩)]
abbrev TY0:Type:=List Bool×Int×Int×Bool×Int×Int×Rules×List ref21_Symbol×Unit
abbrev TY1:Type:=List Bool×Int×Int×Rules×List ref21_Symbol×Unit
def rC:TY0→TY1
 |(l,n,i,o,m,k,r,u,_)=>(l,n,i,r,u ++(upX (mkO o) (m+1 - k).toNat k).map (cM r),())
def w7:TY0→Prop
 |(_,_,i,_,m,k,r,u,_)=>(0≤i∧i≤2)∧(1≤k∧k≤m+1∧m≤11)∧nv r∧(u.length:Int)≤5000+10000*i+7*k
def JU:TY0→Nat
 |(_,_,_,_,m,k,_)=>(m+1 - k).toNat
abbrev qY1:Pat:=⟨tmY,hpY,3⟩
abbrev xY1:List (Lf×Pat):= [(.ext 0,⟨[(3,.c (.osl 1 2))],[(1,.row 2 tSy)],3⟩)]
def oY (o:Bool):List Sx:=oX (mkO o) (rl o).toNat
def pK:TY1→List ref21_Symbol×Unit
 |(l,_,i,r,u,_)=>(u ++((l.drop i.toNat).flatMap oY).map (cM r),())
def w8:TY1→Prop
 |(l,n,i,r,u,_)=>(n =(l.length:Int)∧l.length≤2)∧(0≤i∧i≤n)∧nv r∧(u.length:Int)≤100+10000*i
def JV:TY1→Nat
 |(_,n,i,_)=>(n - i).toNat
abbrev MP:Pat:=cn [.nm .Rules]
abbrev Ga:Pat:=cn [tSys]
def KX:Den (tyP MP)→List Prop×Den (tyP Ga):=fun x=>([nv x.1],(bl x.1,()))
theorem LK (x:ByteArray) :(⟨#[]⟩:ByteArray)++x=x:=by
 apply ByteArray.ext
 rw [ByteArray.data_append]
 simp
theorem Fh {n:Int} (h:0<n):bZ n=fk n:=by
 unfold bZ
 rw [if_neg]
 simp
 omega
theorem zJ {n:Int} (h:bg n):zL n:=⟨h.1,by have:=h.2;omega⟩
theorem Bs {s:ByteArray} :∀ {l:List ref21_Symbol},(aB l s).2=false→aB l s =(ref21_Symbol.zero,false)
 | [],_=>rfl
 | x::l,h=>by
  unfold aB at h ⊢
  split at h
  ·cases h
  ·rename_i hx
   rw [if_neg hx]
   exact Bs h
theorem Gs (o:Int) :∀ (m:Nat) (k:Int),(upX o m k).length=7*m
 | 0,_=>rfl
 | m+1,k=>by
  show (kX o k++upX o m (k+1)).length=_
  rw [List.length_append,Gs o m]
  show 7+7*m=_
  omega
theorem D8 {t c b l:Int} {w o:Bool}:ref21_Symbol.mk (gE (jc t c b l w o)) t c b l w o=ofR t c b l w o:=rfl
theorem S9 (o:Bool) :(mkO o==87)=false:=by cases o <;> rfl
theorem S8 (o:Bool) :(mkO o==82)=o:=by cases o <;> rfl
theorem Gp (r:Rules) (k e b l:Int) (o:Bool):cM r (k,e,b,l,mkO o)=ofR (E4 k) (dH r.Wide r.NoBall k+e) b l false o:=by
 show ofR (E4 k) (dH r.Wide r.NoBall k+e) b l (mkO o==87) (mkO o==82)=_
 rw [S9,S8]
theorem vI (n:Int) (hm:bg n) :(evPat (az [kN] Tryz.f79) (fun _=>none) Tryz.f79 qTn ke (n,())).sat fun z_=>z_ =(KJ (n,())).2:=by
 refine cast (by kernel_rfl) (?_ :((n==0)=true→(ByteArray.mk #[46],()) =(bZ n,()))∧((n==0)=false→zL n∧(fk n,()) =(bZ n,())))
 refine ⟨fun h=>?_,fun h=>⟨zJ hm,?_⟩⟩ <;> unfold bZ <;> rw [h] <;> rfl
def mf:FuncId×Ctr:=(79,aj KE qTn ke KJ)
theorem pB:CtrOK Tryz.prog KE 79 (aj KE qTn ke KJ):=by
 refine aO (C:=az [kN] Tryz.f79) (an (.consU rm rfl .nil) _) mixed (fn:=Tryz.f79) Tryz.func79 (by kernel_rfl) (by kernel_rfl) (by kernel_rfl) (by kernel_rfl) (by kernel_rfl) (by kernel_rfl) (Λ:=fun _ _=>none) ?_ ?_
 ·exact fun _ _ _ _ _ _ _ _ h=>by cases h
 ·rintro ⟨n,⟨⟩⟩ hw hn
  exact vI n (hn _ List.mem_cons_self)
theorem KF (t:Int) (c:Int) (b:Int) (l:Int) (w:Bool) (o:Bool) (hc:bg c) (hb:bg b) (hl:bg l) (hw:iJ w o) :(evPat (az [mf,kN] Tryz.f73) (fun _=>none) Tryz.f73 qOf MM (t,c,b,l,w,o,())).sat fun z_=>z_ =(sOf (t,c,b,l,w,o,())).2:=by
 refine cast (by kernel_rfl) (?_:let r1:Bool:=decide (b>0);let r2:Bool:=decide (l>0);let r3:ByteArray:=ByteArray.mk #[98]++fk b;let r4:ByteArray:=ByteArray.mk #[108]++fk l;let r5:ByteArray:=cond (t==2) (ByteArray.mk #[119]) (cond (t==3) (ByteArray.mk #[110]) (ByteArray.mk #[]));let r6:ByteArray:=r5++bZ c;let r7:ByteArray:=cond r1 (r6++r3) r6;let r8:ByteArray:=cond r2 (r7++r4) r7;let r9:ByteArray:=cond w (r8++ByteArray.mk #[87]) r8;bg c∧r5.size +(bZ c).size≤aA∧((r1=true→zL b∧(ByteArray.mk #[98]).size +(fk b).size≤aA∧r6.size+r3.size≤aA∧True)∧(r1=false→True))∧(true=true→((r2=true→zL l∧(ByteArray.mk #[108]).size +(fk l).size≤aA∧r7.size+r4.size≤aA∧True)∧(r2=false→True))∧(true=true→((w=true→r8.size +(ByteArray.mk #[87]).size≤aA∧True)∧(w=false→True))∧(true=true→((o=true→r9.size +(ByteArray.mk #[82]).size≤aA∧True)∧(o=false→True))∧(true=true→(ref21_Symbol.mk (cond o (r9++ByteArray.mk #[82]) r9) t c b l w o,()) =(ofR t c b l w o,()))))))
 intro r1 r2 r3 r4 r5 r6 r7 r8 r9
 clear_value (hr1:r1=_) (hr2:r2=_) (hr3:r3=_) (hr4:r4=_) (hr5:r5=_) (hr6:r6=_) (hr7:r7=_) (hr8:r8=_) (hr9:r9=_)
 have one :∀ c:UInt8,(ByteArray.mk #[c]).size=1:=fun _=>rfl
 have hL :(1000:Nat)≤aA:=by decide
 have zc:=dP hc
 have zb:=dP hb
 have zl:=dP hl
 have hb0:0≤b:=hb.1
 have hl0:0≤l:=hl.1
 have kb:b>0→bZ b=fk b:=fun h=>Fh h
 have kl:l>0→bZ l=fk l:=fun h=>Fh h
 have z5:r5.size≤1:=by
  rw [hr5]
  cases t==2
  ·cases t==3
   ·exact Nat.zero_le _
   ·exact Nat.le_refl _
  ·exact Nat.le_refl _
 have z6:r6.size≤22:=by rw [hr6,ByteArray.size_append];omega
 have z3:b>0→r3.size≤22:=fun h=>by rw [hr3,ByteArray.size_append,one,←kb h];omega
 have z4:l>0→r4.size≤22:=fun h=>by rw [hr4,ByteArray.size_append,one,←kl h];omega
 have z7:r7.size≤44:=by
  rw [hr7,hr1]
  by_cases h:b>0
  ·rw [decide_eq_true h,cond_true,ByteArray.size_append];have:=z3 h;omega
  ·rw [decide_eq_false h];exact Nat.le_trans z6 (by decide)
 have z8:r8.size≤66:=by
  rw [hr8,hr2]
  by_cases h:l>0
  ·rw [decide_eq_true h,cond_true,ByteArray.size_append];have:=z4 h;omega
  ·rw [decide_eq_false h];exact Nat.le_trans z7 (by decide)
 have z9:r9.size≤67:=by
  rw [hr9]
  cases w
  ·exact Nat.le_trans z8 (by decide)
  ·rw [cond_true,ByteArray.size_append,one];omega
 refine ⟨hc,by omega,⟨fun h=>?_,fun _=>trivial⟩,fun _=>⟨⟨fun h=>?_,fun _=>trivial⟩,fun _=>⟨⟨fun _=>⟨by rw [one];omega,trivial⟩,fun _=>trivial⟩,fun _=>⟨⟨fun _=>⟨by rw [one];omega,trivial⟩,fun _=>trivial⟩,fun _=>?_⟩⟩⟩⟩
 ·have h:b>0:=of_decide_eq_true (hr1▸h)
  have:=z3 h
  exact ⟨zJ hb,by rw [one,←kb h];omega,by omega,trivial⟩
 ·have h:l>0:=of_decide_eq_true (hr2▸h)
  have:=z4 h
  exact ⟨zJ hl,by rw [one,←kl h];omega,by omega,trivial⟩
 ·have e6:r6=sz1 (jc t c b l w o):=by
   rw [hr6,hr5]
   unfold sz1 jc Ny
   simp only
   cases h2:t==2 with
   | true=>simp only [cond_true,if_true];rw [show ((119:Int) != 0)=true from rfl,if_pos rfl,Ir]
   | false=>
    cases h3:t==3 with
    | true=>simp only [cond_true,cond_false,Bool.false_eq_true,if_true,if_false];rw [show ((110:Int) != 0)=true from rfl,if_pos rfl,Iq]
    | false=>simp only [cond_false,Bool.false_eq_true,if_false];rw [show ((0:Int) != 0)=false from rfl,LK];rfl
  have e7:r7=sz2 (jc t c b l w o):=by
   rw [hr7,e6,hr1,hr3]
   unfold sz2
   show _=if decide (b>0)=true then _ ++(⟨#[98]⟩++bZ b) else _
   by_cases h:b>0
   ·rw [decide_eq_true h,if_pos rfl,kb h];rfl
   ·rw [decide_eq_false h];rfl
  have e8:r8=sz3 (jc t c b l w o):=by
   rw [hr8,e7,hr2,hr4]
   unfold sz3
   show _=if decide (l>0)=true then _ ++(⟨#[108]⟩++bZ l) else _
   by_cases h:l>0
   ·rw [decide_eq_true h,if_pos rfl,kl h];rfl
   ·rw [decide_eq_false h];rfl
  have e :(bif o then r9++ByteArray.mk #[82] else r9)=gE (jc t c b l w o):=by
   have hm :(jc t c b l w o).mark=NA w o:=rfl
   rw [hr9,e8,gE,hm]
   cases w <;> cases o
   ·rfl
   ·show _++_=_++chZ 82
    rw [Im]
    rfl
   ·show _++_=_++chZ 87
    rw [Ip]
   ·cases hw
  rw [e]
  rfl
def zA:FuncId×Ctr:=(73,aj KE qOf MM sOf)
theorem zS:CtrOK Tryz.prog KE 73 (aj KE qOf MM sOf):=by
 refine aO (C:=az [mf,kN] Tryz.f73) (an (.consU pB rfl (.consU rm rfl .nil)) _) mixed (fn:=Tryz.f73) Tryz.func73 (by kernel_rfl) (by kernel_rfl) (by kernel_rfl) (by kernel_rfl) (by kernel_rfl) (by kernel_rfl) (Λ:=fun _ _=>none) ?_ ?_
 ·exact fun _ _ _ _ _ _ _ _ h=>by cases h
 ·rintro ⟨t,c,b,l,w,o,⟨⟩⟩ hw hn
  exact KF t c b l w o (hn _ List.mem_cons_self) (hn _ (List.mem_cons_of_mem _ List.mem_cons_self)) (hn _ (List.mem_cons_of_mem _ (List.mem_cons_of_mem _ List.mem_cons_self))) (hn _ (List.mem_cons_of_mem _ (List.mem_cons_of_mem _ (List.mem_cons_of_mem _ List.mem_cons_self))))
noncomputable def lpFd:Lp:=(⟨0,az [] Tryz.f38,(fun _=>none),(aq Tryz.f38 0),qFd,xFd⟩:Lp)
theorem Rt (s:ByteArray) (l:List ref21_Symbol) (n:Int) (i:Int) (z:ref21_Symbol) (hi:wJ (s,l,n,i,z,())) :(Go.Mir.stepG lpFd kg (fun y:Den (tyP lpFd.q)=>wJ y∧JI y<JI (s,l,n,i,z,())) (s,l,n,i,z,())∧Go.Mir.stepE lpFd kg (s,l,n,i,z,())=kg (s,l,n,i,z,())):=by
 refine cast (by kernel_rfl) (?_:let r1:Bool:=(l.getD i.toNat (dflt (Ty.nm Nm.ref21_Symbol))).1.toList==s.toList;((decide (i<n)=true→(0≤i∧i <(↑l.length:Int))∧(r1=true→True)∧(r1=false→wJ (s,l,n,IntKind.i64.wrap (i+1),z,())∧JI (s,l,n,IntKind.i64.wrap (i+1),z,())<JI (s,l,n,i,z,())))∧(decide (i<n)=false→True))∧(cond (decide (i<n)) (cond r1 (Sum.inr (true,l.getD i.toNat (dflt (Ty.nm Nm.ref21_Symbol)),())) (kg (s,l,n,IntKind.i64.wrap (i+1),z,()))) (Sum.inl (z,())))=kg (s,l,n,i,z,()))
 intro r1
 clear_value (hr1:r1=_)
 obtain ⟨⟨h1,h1b⟩,h2,h3⟩:=hi
 have h1:n =(l.length:Int):=h1
 have h1b:l.length≤140737488355328:=h1b
 have h2:0≤i:=h2
 have h3:i≤n:=h3
 refine fv (fun h=>?_) (fun h=>?_)
 ·have e1:IntKind.i64.wrap (i+1)=i+1:=aL (by omega) (by omega)
  have hd:l.drop i.toNat=l.getD i.toNat (dflt (Ty.nm Nm.ref21_Symbol))::l.drop (i+1).toNat:=aP h2 (by omega) _
  generalize l.getD i.toNat (dflt (Ty.nm Nm.ref21_Symbol))=w at *
  rw [e1]
  refine ⟨⟨⟨h2,by omega⟩,fun _=>trivial,fun _=>⟨⟨⟨h1,h1b⟩,?_,?_⟩,?_⟩⟩,?_⟩
  ·show 0≤i+1;omega
  ·show i+1≤n;omega
  ·show (n - (i+1)).toNat <(n - i).toNat;omega
  ·unfold kg
   simp only
   rw [hd,aB,hr1]
   show (bif w.Text.toList==s.toList then _ else _)=_
   cases w.Text.toList==s.toList <;> rfl
 ·unfold kg
  simp only
  rw [aG (l:=l) (by omega)]
  rfl
noncomputable def On:LoopSum:=ai lpFd kg wJ
noncomputable def NN:Nat:=rid (aq Tryz.f38 0)
theorem PY:LoopOKp Tryz.prog 0 Tryz.f38.ntmps (aq Tryz.f38 0) (ai lpFd kg wJ):=
 ax lpFd (an (CtrsOK.nil) _) mixed (fun b hb S hS=>by cases hS) kg wJ JI (fun |⟨s,l,n,i,z,⟨⟩⟩,hi=>Rt s l n i z hi)
theorem ER (l:List ref21_Symbol) (s:ByteArray) (hl:l.length≤aA) :(evPat (az [] Tryz.f38) (find [(NN,On)]) Tryz.f38 MS F9 (l,s,())).sat fun z_=>z_ =(KO (l,s,())).2:=by
 refine cast (by kernel_rfl) (?_:let r1:ref21_Symbol:=ref21_Symbol.mk ByteArray.empty 0 0 0 0 false false;let r2:Bool:=isL (kg (s,l,(↑l.length:Int),0,r1,()));let r3:Bool×ref21_Symbol×PUnit:=jT (dflt (Ty.bool.prod (tSy.prod Ty.unit))) (kg (s,l,(↑l.length:Int),0,r1,()));((cg fun x=>none)∧((↑l.length:Int) =(↑l.length:Int)∧l.length≤aA)∧(0:Int)≤0∧0≤(↑l.length:Int))∧(r2=true→(r1,false,()) =((aB l s).1,(aB l s).2,()))∧(r2=false→(r3.2.1,r3.1,()) =((aB l s).1,(aB l s).2,())))
 intro r1 r2 r3
 clear_value (hr1:r1=_) (hr2:r2=_) (hr3:r3=_)
 have e:kg (s,l,(l.length:Int),0,r1,())=J8 r1 (aB l s):=rfl
 rw [e] at hr2 hr3
 refine ⟨⟨rfl,⟨rfl,hl⟩,Int.le_refl _,by omega⟩,fun h=>?_,fun h=>?_⟩
 ·rw [hr2] at h
  cases hf :(aB l s).2 with
  | true=>unfold J8 at h;rw [hf] at h;cases h
  | false=>rw [Bs hf,hr1];rfl
 ·rw [hr2] at h
  cases hf :(aB l s).2 with
  | true=>rw [hr3];unfold J8;rw [hf];rfl
  | false=>unfold J8 at h;rw [hf] at h;cases h
def dI:FuncId×Ctr:=(38,aj KE MS F9 KO)
theorem fg:CtrOK Tryz.prog KE 38 (aj KE MS F9 KO):=by
 refine aO (C:=az [] Tryz.f38) (an (CtrsOK.nil) _) mixed (fn:=Tryz.f38) Tryz.func38 (by kernel_rfl) (by kernel_rfl) (by kernel_rfl) (by kernel_rfl) (by kernel_rfl) (by kernel_rfl) (Λ:=fun x=>find [(NN,On)]) ?_ ?_
 ·rintro ⟨l,s,⟨⟩⟩ hw hn
  exact LoopsOKp.at (by kernel_rfl) (.cons (by kernel_rfl) (PY) .nil)
 ·rintro ⟨l,s,⟨⟩⟩ hw hn
  exact ER l s (hn _ List.mem_cons_self)
noncomputable def lpVa:Lp:=(⟨0,az [mf] Tryz.f41,(fun _=>none),(aq Tryz.f41 0),qVa,xVa⟩:Lp)
theorem RL (s:ByteArray) (n:Int) (hi:wX (s,n,())) :(Go.Mir.stepG lpVa lF (fun y:Den (tyP lpVa.q)=>wX y∧JR y<JR (s,n,())) (s,n,())∧Go.Mir.stepE lpVa lF (s,n,())=lF (s,n,())):=by
 refine cast (by kernel_rfl) (?_:let r1:Bool:=decide (n≤11);((r1=true→bg n∧(((bZ n).toList==s.toList)=true→True)∧(((bZ n).toList==s.toList)=false→wX (s,IntKind.i64.wrap (n+1),())∧JR (s,IntKind.i64.wrap (n+1),())<JR (s,n,())))∧(r1=false→True))∧(cond r1 (cond ((bZ n).toList==s.toList) (Sum.inr (n,())) (lF (s,IntKind.i64.wrap (n+1),()))) (Sum.inl ()))=lF (s,n,()))
 intro r1
 clear_value (hr1:r1=_)
 obtain ⟨h0,h1⟩:=hi
 have h0:0≤n:=h0
 have h1:n≤12:=h1
 by_cases h:n≤11
 ·have e1:IntKind.i64.wrap (n+1)=n+1:=aL (by omega) (by omega)
  have ek :(12 - n).toNat =(12 - (n+1)).toNat+1:=by omega
  have er:r1=true:=by rw [hr1,decide_eq_true h]
  rw [er,e1]
  refine ⟨⟨fun _=>⟨⟨h0,by omega⟩,fun _=>trivial,fun _=>⟨⟨by show 0≤n+1;omega,by show n+1≤12;omega⟩,by show (12 - (n+1)).toNat <(12 - n).toNat;omega⟩⟩,fun _=>trivial⟩,?_⟩
  unfold lF
  simp only
  rw [ek,AN]
  cases (bZ n).toList==s.toList with
  | true=>
   show Sum.inr (n,())=xK n
   unfold xK
   rw [if_neg (by simp;omega)]
  | false=>rfl
 ·have er:r1=false:=by rw [hr1,decide_eq_false h]
  rw [er]
  refine ⟨⟨fun z=>Bool.noConfusion z,fun _=>trivial⟩,?_⟩
  have:n=12:=by omega
  subst this
  rfl
noncomputable def OE:LoopSum:=ai lpVa lF wX
noncomputable def N1:Nat:=rid (aq Tryz.f41 0)
theorem Qf:LoopOKp Tryz.prog 0 Tryz.f41.ntmps (aq Tryz.f41 0) (ai lpVa lF wX):=
 ax lpVa (an (.consU pB rfl .nil) _) mixed (fun b hb S hS=>by cases hS) lF wX JR (fun |⟨s,n,⟨⟩⟩,hi=>RL s n hi)
theorem CP (s:ByteArray) :(evPat (az [] Tryz.f41) (find [(N1,OE)]) Tryz.f41 qS0 ny (s,())).sat fun z_=>z_ =(Q3 (s,())).2:=by
 refine cast (by kernel_rfl) (?_:let r1:Bool:=isL (lF (s,0,()));((cg fun x=>none)∧(0:Int)≤0∧(0:Int)≤12)∧(r1=true→((-1:Int),()) =(fD s,()))∧(r1=false→jT (dflt (I.prod Ty.unit)) (lF (s,0,())) =(fD s,())))
 intro r1
 clear_value (hr1:r1=_)
 have e:lF (s,0,())=xK (fD s):=rfl
 rw [e] at hr1 ⊢
 refine ⟨⟨rfl,Int.le_refl _,by decide⟩,fun h=>?_,fun h=>?_⟩
 ·rw [hr1] at h
  unfold xK at h
  by_cases hv:fD s = -1
  ·rw [hv]
  ·rw [if_neg (by simpa using hv)] at h;cases h
 ·rw [hr1] at h
  unfold xK at h ⊢
  by_cases hv:fD s = -1
  ·rw [if_pos (by simpa using hv)] at h;cases h
  ·rw [if_neg (by simpa using hv)];rfl
def jW:FuncId×Ctr:=(41,aj KE qS0 ny Q3)
theorem kU:CtrOK Tryz.prog KE 41 (aj KE qS0 ny Q3):=by
 refine aO (C:=az [] Tryz.f41) (an (CtrsOK.nil) _) mixed (fn:=Tryz.f41) Tryz.func41 (by kernel_rfl) (by kernel_rfl) (by kernel_rfl) (by kernel_rfl) (by kernel_rfl) (by kernel_rfl) (Λ:=fun x=>find [(N1,OE)]) ?_ ?_
 ·rintro ⟨s,⟨⟩⟩ hw hn
  exact LoopsOKp.at (by kernel_rfl) (.cons (by kernel_rfl) (Qf) .nil)
 ·rintro ⟨s,⟨⟩⟩ hw hn
  exact CP s
noncomputable def lpY0:Lp:=(⟨0,az [zA] Tryz.f31,(fun _=>none),(bA Tryz.f31 0 0),qY0,xY0⟩:Lp)
theorem RO (l:List Bool) (n:Int) (i:Int) (o:Bool) (m:Int) (k:Int) (r:Rules) (u:List ref21_Symbol) (hi:w7 (l,n,i,o,m,k,r,u,())) :(Go.Mir.stepG lpY0 rC (fun y:Den (tyP lpY0.q)=>w7 y∧JU y<JU (l,n,i,o,m,k,r,u,())) (l,n,i,o,m,k,r,u,())∧Go.Mir.stepE lpY0 rC (l,n,i,o,m,k,r,u,())=rC (l,n,i,o,m,k,r,u,())):=by
 refine cast (by kernel_rfl) (?_:let r1:List ref21_Symbol:= [ref21_Symbol.mk (gE (jc 2 (IntKind.i64.wrap (r.7+k)) 0 0 false o)) 2 (IntKind.i64.wrap (r.7+k)) 0 0 false o];let r2:List ref21_Symbol:= [ref21_Symbol.mk (gE (jc 1 k 0 0 false o)) 1 k 0 0 false o,ref21_Symbol.mk (gE (jc 1 0 k 0 false o)) 1 0 k 0 false o,ref21_Symbol.mk (gE (jc 1 0 0 k false o)) 1 0 0 k false o];let r3:List ref21_Symbol:= [ref21_Symbol.mk (gE (jc 3 (IntKind.i64.wrap (r.8+k)) 0 0 false o)) 3 (IntKind.i64.wrap (r.8+k)) 0 0 false o,ref21_Symbol.mk (gE (jc 3 r.8 k 0 false o)) 3 r.8 k 0 false o,ref21_Symbol.mk (gE (jc 3 r.8 0 k false o)) 3 r.8 0 k false o];let r4:List ref21_Symbol:=u++r2;let r5:List ref21_Symbol:=r4++r1;((decide (k≤m)=true→bg k∧bg 0∧bg 0∧iJ false o∧bg 0∧bg k∧bg 0∧iJ false o∧bg 0∧bg 0∧bg k∧iJ false o∧(u.length+r2.length) *(56:Nat)≤(70368744177664:Nat)∧bg (IntKind.i64.wrap (r.7+k))∧bg 0∧bg 0∧iJ false o∧(r4.length+r1.length) *(56:Nat)≤(70368744177664:Nat)∧bg (IntKind.i64.wrap (r.8+k))∧bg 0∧bg 0∧iJ false o∧bg r.8∧bg k∧bg 0∧iJ false o∧bg r.8∧bg 0∧bg k∧iJ false o∧(r5.length+r3.length) *(56:Nat)≤(70368744177664:Nat)∧w7 (l,n,i,o,m,IntKind.i64.wrap (k+1),r,r5++r3,())∧JU (l,n,i,o,m,IntKind.i64.wrap (k+1),r,r5++r3,())<JU (l,n,i,o,m,k,r,u,()))∧(decide (k≤m)=false→True))∧(cond (decide (k≤m)) (rC (l,n,i,o,m,IntKind.i64.wrap (k+1),r,r5++r3,())) (l,n,i,r,u,()))=rC (l,n,i,o,m,k,r,u,()))
 intro r1 r2 r3 r4 r5
 clear_value (hr1:r1=_) (hr2:r2=_) (hr3:r3=_) (hr4:r4=_) (hr5:r5=_)
 obtain ⟨⟨hi0,hi2⟩,⟨h1,h2,h3⟩,hr,h4⟩:=hi
 have hi0:0≤i:=hi0
 have hi2:i≤2:=hi2
 have h1:1≤k:=h1
 have h2:k≤m+1:=h2
 have h3:m≤11:=h3
 have h4 :(u.length:Int)≤5000+10000*i+7*k:=h4
 obtain ⟨⟨w0,w1⟩,n0,n1⟩:=id hr
 by_cases h:k≤m
 ·have e1:IntKind.i64.wrap (k+1)=k+1:=aL (by omega) (by omega)
  have e7:IntKind.i64.wrap (r.7+k)=r.7+k:=bf (by show _≤r.Wide+k;omega) (by show r.Wide+k≤_;omega)
  have e8:IntKind.i64.wrap (r.8+k)=r.8+k:=bf (by show _≤r.NoBall+k;omega) (by show r.NoBall+k≤_;omega)
  have z0:bg 0:=⟨Int.le_refl _,by decide⟩
  have zk:bg k:=⟨by omega,by omega⟩
  have z7:bg (r.7+k):=⟨by show 0≤r.Wide+k;omega,by show r.Wide+k≤1000000;omega⟩
  have z8:bg (r.8+k):=⟨by show 0≤r.NoBall+k;omega,by show r.NoBall+k≤1000000;omega⟩
  have z9:bg r.8:=⟨by show 0≤r.NoBall;omega,by show r.NoBall≤1000000;omega⟩
  have nb:iJ false o:=rfl
  have l1:r1.length=1:=by rw [hr1];rfl
  have l2:r2.length=3:=by rw [hr2];rfl
  have l3:r3.length=3:=by rw [hr3];rfl
  have l4:r4.length=u.length+3:=by rw [hr4,List.length_append,l2]
  have l5:r5.length=u.length+4:=by rw [hr5,List.length_append,l4,l1]
  have e53:r5++r3=u ++(kX (mkO o) k).map (cM r):=by
   rw [hr5,hr4,hr1,hr2,hr3,e7,e8]
   show _=u++[cM r (0,k,0,0,mkO o),cM r (0,0,k,0,mkO o),cM r (0,0,0,k,mkO o),cM r (119,k,0,0,mkO o),cM r (110,k,0,0,mkO o),cM r (110,0,k,0,mkO o),cM r (110,0,0,k,mkO o)]
   simp only [Gp,D8,List.append_assoc,List.cons_append,List.nil_append]
   show _=u++[ofR 1 (0+k) 0 0 false o,ofR 1 (0+0) k 0 false o,ofR 1 (0+0) 0 k false o,ofR 2 (r.Wide+k) 0 0 false o,ofR 3 (r.NoBall+k) 0 0 false o,ofR 3 (r.NoBall+0) k 0 false o,ofR 3 (r.NoBall+0) 0 k false o]
   simp only [Int.zero_add,Int.add_zero]
  rw [e53,e1,e7,e8,decide_eq_true h]
  have ek :(m+1 - k).toNat =(m+1 - (k+1)).toNat+1:=by omega
  refine ⟨⟨fun _=>⟨zk,z0,z0,nb,z0,zk,z0,nb,z0,z0,zk,nb,by omega,z7,z0,z0,nb,by omega,z8,z0,z0,nb,z9,zk,z0,nb,z9,z0,zk,nb,by omega,⟨⟨hi0,hi2⟩,⟨?_,?_,h3⟩,hr,?_⟩,?_⟩,fun z=>Bool.noConfusion z⟩,?_⟩
  ·show 1≤k+1;omega
  ·show k+1≤m+1;omega
  ·show ((u ++(kX (mkO o) k).map (cM r)).length:Int)≤5000+10000*i+7 *(k+1)
   rw [List.length_append,List.length_map]
   have :(kX (mkO o) k).length=7:=rfl
   omega
  ·show (m+1 - (k+1)).toNat <(m+1 - k).toNat;omega
  ·show (l,n,i,r,(u ++(kX (mkO o) k).map (cM r)) ++(upX (mkO o) (m+1 - (k+1)).toNat (k+1)).map (cM r),()) =(l,n,i,r,u ++(upX (mkO o) (m+1 - k).toNat k).map (cM r),())
   rw [ek,upX,List.map_append,List.append_assoc]
 ·rw [decide_eq_false h]
  refine ⟨⟨fun z=>Bool.noConfusion z,fun _=>trivial⟩,?_⟩
  have :(m+1 - k).toNat=0:=by omega
  show (l,n,i,r,u,()) =(l,n,i,r,u ++(upX (mkO o) (m+1 - k).toNat k).map (cM r),())
  rw [this]
  show _ =(l,n,i,r,u++[],())
  rw [List.append_nil]
noncomputable def T7:LoopSum:=ai lpY0 rC w7
noncomputable def Tv:Nat:=rid (bA Tryz.f31 0 0)
theorem Qi:LoopOKp Tryz.prog 0 Tryz.f31.ntmps (bA Tryz.f31 0 0) (ai lpY0 rC w7):=
 ax lpY0 (an (.consU zS rfl .nil) _) mixed (fun b hb S hS=>by cases hS) rC w7 JU (fun |⟨l,n,i,o,m,k,r,u,⟨⟩⟩,hi=>RO l n i o m k r u hi)
noncomputable def lpY1:Lp:=(⟨0,az [zA] Tryz.f31,(find [(Tv,T7)]),(aq Tryz.f31 0),qY1,xY1⟩:Lp)
theorem RP (l:List Bool) (n:Int) (i:Int) (r:Rules) (u:List ref21_Symbol) (hi:w8 (l,n,i,r,u,())) :(Go.Mir.stepG lpY1 pK (fun y:Den (tyP lpY1.q)=>w8 y∧JV y<JV (l,n,i,r,u,())) (l,n,i,r,u,())∧Go.Mir.stepE lpY1 pK (l,n,i,r,u,())=pK (l,n,i,r,u,())):=by
 refine cast (by kernel_rfl) (?_:let r1:Int:=cond (l.getD i.toNat (dflt Ty.bool)) 7 11;let r2:Int:=r1+1;let r3:List ref21_Symbol:= [ref21_Symbol.mk (gE (jc 1 0 0 0 false (l.getD i.toNat (dflt Ty.bool)))) 1 0 0 0 false (l.getD i.toNat (dflt Ty.bool)),ref21_Symbol.mk (gE (jc 2 r.7 0 0 false (l.getD i.toNat (dflt Ty.bool)))) 2 r.7 0 0 false (l.getD i.toNat (dflt Ty.bool)),ref21_Symbol.mk (gE (jc 3 r.8 0 0 false (l.getD i.toNat (dflt Ty.bool)))) 3 r.8 0 0 false (l.getD i.toNat (dflt Ty.bool))];let r4:List ref21_Symbol:=u++r3;((decide (i<n)=true→(0≤i∧i <(↑l.length:Int))∧bg 0∧bg 0∧bg 0∧iJ false (l.getD i.toNat (dflt Ty.bool))∧bg r.7∧bg 0∧bg 0∧iJ false (l.getD i.toNat (dflt Ty.bool))∧bg r.8∧bg 0∧bg 0∧iJ false (l.getD i.toNat (dflt Ty.bool))∧(u.length+r3.length) *(56:Nat)≤(70368744177664:Nat)∧((cg fun x=>none)∧(0≤i∧i≤2)∧((1:Int)≤1∧1≤r2∧r1≤11)∧nv r∧(↑r4.length:Int)≤(5000:Int)+10000*i +(7:Int)*1)∧w8 (l,n,IntKind.i64.wrap (i+1),r,r4++List.map (cM r) (upX (mkO (l.getD i.toNat (dflt Ty.bool))) (r2 - 1).toNat 1),())∧JV (l,n,IntKind.i64.wrap (i+1),r,r4++List.map (cM r) (upX (mkO (l.getD i.toNat (dflt Ty.bool))) (r2 - 1).toNat 1),())<JV (l,n,i,r,u,()))∧(decide (i<n)=false→True))∧(cond (decide (i<n)) (pK (l,n,IntKind.i64.wrap (i+1),r,r4++List.map (cM r) (upX (mkO (l.getD i.toNat (dflt Ty.bool))) (r2 - 1).toNat 1),())) (u,()))=pK (l,n,i,r,u,()))
 intro r1 r2 r3 r4
 clear_value (hr1:r1=_) (hr2:r2=_) (hr3:r3=_) (hr4:r4=_)
 obtain ⟨⟨h1,h1b⟩,⟨h2,h3⟩,hr,h4⟩:=hi
 have h1:n =(l.length:Int):=h1
 have h1b:l.length≤2:=h1b
 have h2:0≤i:=h2
 have h3:i≤n:=h3
 have h4 :(u.length:Int)≤100+10000*i:=h4
 obtain ⟨⟨w0,w1⟩,n0,n1⟩:=id hr
 refine fv (fun h=>?_) (fun h=>?_)
 ·have e1:IntKind.i64.wrap (i+1)=i+1:=aL (by omega) (by omega)
  have hd:l.drop i.toNat=l.getD i.toNat (dflt Ty.bool)::l.drop (i+1).toNat:=aP h2 (by omega) _
  generalize l.getD i.toNat (dflt Ty.bool)=o at *
  have z0:bg 0:=⟨Int.le_refl _,by decide⟩
  have z7:bg r.7:=⟨by show 0≤r.Wide;omega,by show r.Wide≤1000000;omega⟩
  have z8:bg r.8:=⟨by show 0≤r.NoBall;omega,by show r.NoBall≤1000000;omega⟩
  have nb:iJ false o:=rfl
  have em:r1=rl o:=by rw [hr1];cases o <;> rfl
  have hm:rl o=7∨rl o=11:=by cases o <;> simp [rl]
  have e2 :(r2 - 1).toNat =(rl o).toNat:=by rw [hr2,em];congr 1;omega
  have l3:r3.length=3:=by rw [hr3];rfl
  have l4:r4.length=u.length+3:=by rw [hr4,List.length_append,l3]
  have e4:r4 ++(upX (mkO o) (rl o).toNat 1).map (cM r)=u ++(oY o).map (cM r):=by
   rw [hr4,hr3]
   unfold oY oX
   rw [List.map_append]
   show (u++_)++_=u ++([cM r (0,0,0,0,mkO o),cM r (119,0,0,0,mkO o),cM r (110,0,0,0,mkO o)]++_)
   simp only [Gp,D8,List.append_assoc,List.cons_append,List.nil_append]
   show _=u ++(ofR 1 (0+0) 0 0 false o::ofR 2 (r.Wide+0) 0 0 false o::ofR 3 (r.NoBall+0) 0 0 false o::_)
   simp only [Int.add_zero]
  have ul:=Gs (mkO o) (rl o).toNat 1
  rw [e2,e4,e1]
  refine ⟨⟨⟨h2,by omega⟩,z0,z0,z0,nb,z7,z0,z0,nb,z8,z0,z0,nb,by omega,⟨rfl,⟨h2,by omega⟩,⟨Int.le_refl _,by rw [hr2];omega,by omega⟩,hr,by omega⟩,⟨⟨h1,h1b⟩,⟨?_,?_⟩,hr,?_⟩,?_⟩,?_⟩
  ·show 0≤i+1;omega
  ·show i+1≤n;omega
  ·show ((u ++(oY o).map (cM r)).length:Int)≤100+10000 *(i+1)
   rw [←e4,List.length_append,List.length_map,ul]
   omega
  ·show (n - (i+1)).toNat <(n - i).toNat;omega
  ·show ((u ++(oY o).map (cM r)) ++((l.drop (i+1).toNat).flatMap oY).map (cM r),()) =(u ++((l.drop i.toNat).flatMap oY).map (cM r),())
   rw [hd,List.flatMap_cons,List.map_append,List.append_assoc]
 ·unfold pK
  simp only
  rw [aG (l:=l) (by omega)]
  show _ =(u++[],())
  rw [List.append_nil]
noncomputable def OI:LoopSum:=ai lpY1 pK w8
noncomputable def N4:Nat:=rid (aq Tryz.f31 0)
theorem Qj:LoopOKp Tryz.prog 0 Tryz.f31.ntmps (aq Tryz.f31 0) (ai lpY1 pK w8):=
 ax lpY1 (an (.consU zS rfl .nil) _) mixed (LoopsOKp.cons (by kernel_rfl) Qi .nil) pK w8 JV (fun |⟨l,n,i,r,u,⟨⟩⟩,hi=>RP l n i r u hi)
theorem vH (r:Rules) (hr:nv r) :(evPat (az [zA] Tryz.f31) (find [(N4,OI)]) Tryz.f31 MP Ga (r,())).sat fun z_=>z_ =(KX (r,())).2:=by
 refine cast (by kernel_rfl) (?_:let r1:Int:=(↑[false,true].length:Int);let r2:List ref21_Symbol:= [ref21_Symbol.mk (gE (jc 1 0 0 0 true false)) 1 0 0 0 true false,ref21_Symbol.mk (gE (jc 2 r.7 0 0 true false)) 2 r.7 0 0 true false];bg 0∧bg 0∧bg 0∧iJ true false∧bg r.7∧bg 0∧bg 0∧iJ true false∧((cg fun x=>none)∧(r1 =(↑[false,true].length:Int)∧ [false,true].length≤(2:Nat))∧((0:Int)≤0∧0≤r1)∧nv r∧(↑r2.length:Int)≤(100:Int) +(10000:Int)*0)∧(r2++List.map (cM r) (List.flatMap oY (List.drop (Int.toNat 0) [false,true])),()) =(bl r,()))
 intro r1 r2
 clear_value (hr1:r1=_) (hr2:r2=_)
 have z0:bg 0:=⟨Int.le_refl _,by decide⟩
 have z7:bg r.7:=⟨by have:=hr.1.1;show 0≤r.Wide;omega,by have:=hr.1.2;show r.Wide≤1000000;omega⟩
 have l2:r2.length=2:=by rw [hr2];rfl
 refine ⟨z0,z0,z0,rfl,z7,z0,z0,rfl,⟨rfl,⟨hr1,by decide⟩,⟨Int.le_refl _,by rw [hr1];decide⟩,hr,by rw [l2];decide⟩,?_⟩
 have e2:r2=[cM r (0,0,0,0,87),cM r (119,0,0,0,87)]:=by
  rw [hr2]
  show _=[ofR 1 (0+0) 0 0 true false,ofR 2 (r.Wide+0) 0 0 true false]
  simp only [D8,Int.add_zero]
 rw [e2]
 show (_ ++(List.flatMap oY [false,true]).map (cM r),()) =(bl r,())
 have e:List.flatMap oY [false,true]=oX 0 11++oX 82 7:=by
  rw [List.flatMap_cons,List.flatMap_cons,List.flatMap_nil,List.append_nil]
  rfl
 rw [e]
 rfl
def rk:FuncId×Ctr:=(31,aj KE MP Ga KX)
theorem zQ:CtrOK Tryz.prog KE 31 (aj KE MP Ga KX):=by
 refine aO (C:=az [zA] Tryz.f31) (an (.consU zS rfl .nil) _) mixed (fn:=Tryz.f31) Tryz.func31 (by kernel_rfl) (by kernel_rfl) (by kernel_rfl) (by kernel_rfl) (by kernel_rfl) (by kernel_rfl) (Λ:=fun x=>find [(N4,OI)]) ?_ ?_
 ·rintro ⟨r,⟨⟩⟩ hw hn
  exact LoopsOKp.at (by kernel_rfl) (.cons (by kernel_rfl) (Qj) .nil)
 ·rintro ⟨r,⟨⟩⟩ hw hn
  exact vH r (hn _ List.mem_cons_self)
abbrev tEs:Ty:= .slice tEn
abbrev tEss:Ty:= .slice tEs
def rdG (r:Rules):Prop:=nv r∧(0≤r.Balls∧r.Balls≤1000)∧(1≤r.Side∧r.Side≤1000)
abbrev hpC:List (Nat×PB):= [(0,.dat (.nm .Rules)),(1,.dat (.nm .Book)),(2,.row 3 tEs)]
abbrev L1:List (Nat×PB):= [(0,.dat (.nm .Rules)),(1,.dat (.nm .Book)),(2,.row 3 tEs),(4,.dat (.nm .Box)),(5,.row 6 tEn)]
abbrev tmC:List (Nat×PC):= [(2,.c (.ptr 0 0)),(3,.c (.ptr 1 0)),(6,.c (.osl 2 3)),(7,.h I)]
abbrev Lc:List (Nat×PC):= [(18,.h (.slice (.nm .Box))),(19,.h I),(20,.h I)]
abbrev Na:List (Nat×PC):= [(8,.h I),(9,.c (.ptr 4 0)),(10,.c (.osl 5 6))]
abbrev Ui:Lf×Pat:=(.ret,⟨[(4,.c .nilsl),(5,.h I)],[],0⟩)
abbrev qC0:Pat:=⟨tmC++Lc++Na++[(36,.h (.slice .str)),(37,.h I),(38,.h I)],L1,7⟩
abbrev xC0:List (Lf×Pat):= [(.ext 2,⟨tmC++Lc++Na,L1,7⟩),Ui]
abbrev TC0:Type:=Int×List Mir.Box×Int×Int×Int×List ByteArray×Int×Int×Rules×Mir.Book×List (List boxbook_entry)×Mir.Box×List boxbook_entry×Unit
abbrev TCx:Type:=Int×List Mir.Box×Int×Int×Int×Rules×Mir.Book×List (List boxbook_entry)×Mir.Box×List boxbook_entry×Unit
def fy:TC0→Sum TCx (Int×Unit)
 |(g,l,n,i,k,s,_,j,r,b,o,x,y,_)=>match gA r (s.drop j.toNat) with
  | some ys=> .inl (g,l,n,i,k,r,b,o,x,y++ys,())
  | none=> .inr (4,())
def wC:TC0→Prop
 |(_,_,_,_,_,s,m,j,r,_,_,_,y,_)=>(m =(s.length:Int)∧s.length≤4000)∧(0≤j∧j≤m)∧rdG r∧(y.length:Int)≤j
def JB:TC0→Nat
 |(_,_,_,_,_,_,m,j,_)=>(m - j).toNat
abbrev qC1:Pat:=⟨tmC++Lc++Na++[(116,.c (.osl 5 6)),(117,.h I),(118,.h I)],L1,7⟩
abbrev xC1:List (Lf×Pat):= [(.ext 5,⟨tmC++Lc++Na,L1,7⟩)]
abbrev TC1:Type:=Int×List Mir.Box×Int×Int×Int×Int×Int×Rules×Mir.Book×List (List boxbook_entry)×Mir.Box×List boxbook_entry×Unit
def pG:TC1→TCx
 |(g,l,n,i,k,_,j,r,b,o,x,y,_)=>(g+cH (y.drop j.toNat),l,n,i,k,r,b,o,x,y,())
def wD:TC1→Prop
 |(g,_,_,_,_,m,j,_,_,_,_,y,_)=>(m =(y.length:Int)∧y.length≤4000)∧(0≤j∧j≤m)∧0≤g∧g≤1000+j
def JC:TC1→Nat
 |(_,_,_,_,_,m,j,_)=>(m - j).toNat
abbrev qC2:Pat:=⟨tmC++Lc,hpC,4⟩
abbrev xC2:List (Lf×Pat):= [(.ext 0,⟨[(6,.c (.osl 2 3))],[(2,.row 3 tEs)],4⟩),Ui]
abbrev TC2:Type:=Int×List Mir.Box×Int×Int×Rules×Mir.Book×List (List boxbook_entry)×Unit
def qI (l:List Mir.Box) (i:Int):Option (Int×Int):=if i==0 then none else some ((l.getD (i - 1).toNat Box.zero).Over,(l.getD (i - 1).toNat Box.zero).Bowler)
def Cp (z:Sum Int (List (List boxbook_entry))):Sum (List (List boxbook_entry)×Unit) (Int×Unit):=match z with
 | .inl e=> .inr (e,())
 | .inr o=> .inl (o,())
def gD:TC2→Sum (List (List boxbook_entry)×Unit) (Int×Unit)
 |(g,l,_,i,r,_,o,_)=>Cp (bxP r (l.drop i.toNat) (qI l i) g o)
def tu:TC2→Prop
 |(g,l,n,i,r,b,o,_)=>(n =(l.length:Int)∧smX l)∧(0≤i∧i≤n)∧(rdG r∧b.Boxes=l)∧(0≤g∧g≤1000)∧(o.length:Int)≤i
def D3:TC2→Nat
 |(_,_,n,i,_)=>(n - i).toNat
abbrev qRB:Pat:=cn [.nm .Rules,.nm .Book]
abbrev CB:Pat:=cn [tEss,I]
def fC (z:Sum Int (List (List boxbook_entry))):List (List boxbook_entry)×Int×Unit:=match z with
 | .inl e=>([],e,())
 | .inr o=>(o,0,())
def QT:Den (tyP qRB)→List Prop×Den (tyP CB):=fun x=>([rdG x.1,smX x.2.1.Boxes],fC (bxP x.1 x.2.1.Boxes none 0 []))
theorem Kq {r:Rules} (hr:nv r) (s:ByteArray):okL r.Wide r.NoBall s.data.toList =(rdE r s).isSome∧∀ x,rdE r s=some x→rdL s.data.toList=x:=by
 obtain ⟨h1,h2⟩:=xT hr.1 hr.2 s.data.toList
 unfold rdE
 cases hf:fdF r.Wide r.NoBall s.data.toList symsX with
 | none=>rw [h1,hf];exact ⟨rfl,fun x h=>by cases h⟩
 | some y=>
  rw [h1,hf]
  refine ⟨rfl,fun x h=>?_⟩
  cases h
  exact h2 _ hf
theorem Bo :∀ l:List boxbook_entry,0≤cH l∧cH l≤(l.length:Int)
 | []=>⟨Int.le_refl _,Int.le_refl _⟩
 | x::l=>by
  have ih:=Bo l
  have h:0≤gP x∧gP x≤1:=by unfold gP;split <;> decide
  have e:cH (x::l)=gP x+cH l:=rfl
  have el :((x::l).length:Int)=l.length+1:=rfl
  rw [e,el]
  omega
theorem CE {r:Rules} :∀ {l:List ByteArray} {ys:List boxbook_entry},gA r l=some ys→ys.length=l.length
 | [],ys,h=>by cases h;rfl
 | s::l,ys,h=>by
  unfold gA at h
  cases hs:rdE r s with
  | none=>rw [hs] at h;cases h
  | some x=>
   rw [hs] at h
   cases hl:gA r l with
   | none=>rw [hl] at h;cases h
   | some zs=>
    rw [hl] at h
    cases h
    rw [List.length_cons,List.length_cons,CE hl]
noncomputable def lpC0:Lp:=(⟨0,az [FH] Tryz.f68,(fun _=>none),(bA Tryz.f68 0 0),qC0,xC0⟩:Lp)
theorem Ri (g:Int) (l:List Mir.Box) (n:Int) (i:Int) (k:Int) (s:List ByteArray) (m:Int) (j:Int) (r:Rules) (b:Mir.Book) (o:List (List boxbook_entry)) (x:Mir.Box) (z:List boxbook_entry) (hi:wC (g,l,n,i,k,s,m,j,r,b,o,x,z,())) :(Go.Mir.stepG lpC0 fy (fun y:Den (tyP lpC0.q)=>wC y∧JB y<JB (g,l,n,i,k,s,m,j,r,b,o,x,z,())) (g,l,n,i,k,s,m,j,r,b,o,x,z,())∧Go.Mir.stepE lpC0 fy (g,l,n,i,k,s,m,j,r,b,o,x,z,())=fy (g,l,n,i,k,s,m,j,r,b,o,x,z,())):=by
 refine cast (by kernel_rfl) (?_:let r1:Bool:=!okL r.7 r.8 (s.getD j.toNat (dflt Ty.str)).1.1;let r2:List boxbook_entry:= [boxbook_entry.mk (rkK (s.getD j.toNat (dflt Ty.str)).1.1) (dgB (rkR (s.getD j.toNat (dflt Ty.str)).1.1)).1 (rbB (dgB (rkR (s.getD j.toNat (dflt Ty.str)).1.1)).2) (rbL (dgB (rkR (s.getD j.toNat (dflt Ty.str)).1.1)).2) (rmM (rbR (dgB (rkR (s.getD j.toNat (dflt Ty.str)).1.1)).2))];((decide (j<m)=true→(0≤j∧j <(↑s.length:Int))∧nv r∧(r1=true→True)∧(r1=false→(z.length+r2.length) *(40:Nat)≤(70368744177664:Nat)∧wC (g,l,n,i,k,s,m,IntKind.i64.wrap (j+1),r,b,o,x,z++r2,())∧JB (g,l,n,i,k,s,m,IntKind.i64.wrap (j+1),r,b,o,x,z++r2,())<JB (g,l,n,i,k,s,m,j,r,b,o,x,z,())))∧(decide (j<m)=false→True))∧(cond (decide (j<m)) (cond r1 (Sum.inr (4,())) (fy (g,l,n,i,k,s,m,IntKind.i64.wrap (j+1),r,b,o,x,z++r2,()))) (Sum.inl (g,l,n,i,k,r,b,o,x,z,())))=fy (g,l,n,i,k,s,m,j,r,b,o,x,z,()))
 intro r1 r2
 clear_value (hr1:r1=_) (hr2:r2=_)
 obtain ⟨⟨h1,h1b⟩,⟨h2,h3⟩,hr,h4⟩:=hi
 have h1:m =(s.length:Int):=h1
 have h1b:s.length≤4000:=h1b
 have h2:0≤j:=h2
 have h3:j≤m:=h3
 have h4 :(z.length:Int)≤j:=h4
 have hw:nv r:=hr.1
 refine fv (fun h=>?_) (fun h=>?_)
 ·have e1:IntKind.i64.wrap (j+1)=j+1:=aL (by omega) (by omega)
  have hd:s.drop j.toNat=s.getD j.toNat (dflt Ty.str)::s.drop (j+1).toNat:=aP h2 (by omega) _
  generalize s.getD j.toNat (dflt Ty.str)=w at *
  obtain ⟨q1,q2⟩:=Kq hw w
  have er:r1=!(rdE r w).isSome:=by rw [hr1,←q1]
  have e2:r2=[rdL w.data.toList]:=hr2
  cases hx:rdE r w with
  | none=>
   have e:r1=true:=by rw [er,hx];rfl
   rw [e]
   refine ⟨⟨⟨h2,by omega⟩,hw,fun _=>trivial,fun z=>Bool.noConfusion z⟩,?_⟩
   show Sum.inr (4,())=fy (g,l,n,i,k,s,m,j,r,b,o,x,z,())
   unfold fy
   simp only
   rw [hd,gA,hx]
  | some v=>
   have e:r1=false:=by rw [er,hx];rfl
   rw [q2 v hx] at e2
   rw [e,e1,e2]
   have key:fy (g,l,n,i,k,s,m,j+1,r,b,o,x,z++[v],())=fy (g,l,n,i,k,s,m,j,r,b,o,x,z,()):=by
    unfold fy
    simp only
    rw [hd,gA,hx]
    simp only
    cases gA r (s.drop (j+1).toNat) with
    | none=>rfl
    | some ys=>
     show Sum.inl _=Sum.inl _
     rw [List.append_assoc]
     rfl
   refine ⟨⟨⟨h2,by omega⟩,hw,fun z=>Bool.noConfusion z,fun _=>⟨?_,⟨⟨h1,h1b⟩,⟨?_,?_⟩,hr,?_⟩,?_⟩⟩,key⟩
   ·have:[v].length=1:=rfl
    omega
   ·show 0≤j+1;omega
   ·show j+1≤m;omega
   ·show ((z++[v]).length:Int)≤j+1
    rw [List.length_append]
    have:[v].length=1:=rfl
    omega
   ·show (m - (j+1)).toNat <(m - j).toNat;omega
 ·show Sum.inl (g,l,n,i,k,r,b,o,x,z,())=fy (g,l,n,i,k,s,m,j,r,b,o,x,z,())
  unfold fy
  simp only
  rw [aG (l:=s) (by omega)]
  show _=Sum.inl (g,l,n,i,k,r,b,o,x,z++[],())
  rw [List.append_nil]
noncomputable def TU:LoopSum:=ai lpC0 fy wC
noncomputable def Tm:Nat:=rid (bA Tryz.f68 0 0)
theorem PP:LoopOKp Tryz.prog 0 Tryz.f68.ntmps (bA Tryz.f68 0 0) (ai lpC0 fy wC):=
 ax lpC0 (an (.consU Ci rfl .nil) _) mixed (fun b hb S hS=>by cases hS) fy wC JB (fun |⟨g,l,n,i,k,s,m,j,r,b,o,x,z,⟨⟩⟩,hi=>Ri g l n i k s m j r b o x z hi)
noncomputable def lpC1:Lp:=(⟨0,az [] Tryz.f68,(fun _=>none),(bA Tryz.f68 0 1),qC1,xC1⟩:Lp)
theorem Rj (g:Int) (l:List Mir.Box) (n:Int) (i:Int) (k:Int) (m:Int) (j:Int) (r:Rules) (b:Mir.Book) (o:List (List boxbook_entry)) (x:Mir.Box) (z:List boxbook_entry) (hi:wD (g,l,n,i,k,m,j,r,b,o,x,z,())) :(Go.Mir.stepG lpC1 pG (fun y:Den (tyP lpC1.q)=>wD y∧JC y<JC (g,l,n,i,k,m,j,r,b,o,x,z,())) (g,l,n,i,k,m,j,r,b,o,x,z,())∧Go.Mir.stepE lpC1 pG (g,l,n,i,k,m,j,r,b,o,x,z,())=pG (g,l,n,i,k,m,j,r,b,o,x,z,())):=by
 refine cast (by kernel_rfl) (?_:let r1:Bool:=(z.getD j.toNat (dflt (Ty.nm Nm.boxbook_entry))).1==0;let r2:Int×List Mir.Box×Int×Int×Int×Rules×Mir.Book×List (List boxbook_entry)×Box×List boxbook_entry×PUnit:=dflt (I.prod ((Ty.nm Nm.Box).slice.prod (I.prod (I.prod (I.prod ((Ty.nm Nm.Rules).prod ((Ty.nm Nm.Book).prod (tEs.slice.prod ((Ty.nm Nm.Box).prod (tEn.slice.prod Ty.unit))))))))));((decide (j<m)=true→((0≤j∧j <(↑z.length:Int))∧(r1=true→True)∧(r1=false→True))∧(true=true→wD (cond r1 (IntKind.i64.wrap (g+1)) g,l,n,i,k,m,IntKind.i64.wrap (j+1),r,b,o,x,z,())∧JC (cond r1 (IntKind.i64.wrap (g+1)) g,l,n,i,k,m,IntKind.i64.wrap (j+1),r,b,o,x,z,())<JC (g,l,n,i,k,m,j,r,b,o,x,z,())))∧(decide (j<m)=false→True))∧(cond (decide (j<m)) (cond (true&&true) (pG (cond r1 (IntKind.i64.wrap (g+1)) g,l,n,i,k,m,IntKind.i64.wrap (j+1),r,b,o,x,z,())) (cond true (pG (cond r1 (IntKind.i64.wrap (g+1)) g,l,n,i,k,m,IntKind.i64.wrap (j+1),r,b,o,x,z,())) (cond r1 r2 r2))) (g,l,n,i,k,r,b,o,x,z,()))=pG (g,l,n,i,k,m,j,r,b,o,x,z,()))
 intro r1 r2
 clear_value (hr1:r1=_) (hr2:r2=_)
 obtain ⟨⟨h1,h1b⟩,⟨h2,h3⟩,h4,h5⟩:=hi
 have h1:m =(z.length:Int):=h1
 have h1b:z.length≤4000:=h1b
 have h2:0≤j:=h2
 have h3:j≤m:=h3
 have h4:0≤g:=h4
 have h5:g≤1000+j:=h5
 refine fv (fun h=>?_) (fun h=>?_)
 ·have e1:IntKind.i64.wrap (j+1)=j+1:=aL (by omega) (by omega)
  have hd:z.drop j.toNat=z.getD j.toNat (dflt (Ty.nm Nm.boxbook_entry))::z.drop (j+1).toNat:=aP h2 (by omega) _
  generalize z.getD j.toNat (dflt (Ty.nm Nm.boxbook_entry))=v at *
  have e2 :(bif r1 then IntKind.i64.wrap (g+1) else g)=g+gP v:=by
   rw [hr1]
   unfold gP
   cases v.kind==0 with
   | true=>exact bf (by omega) (by omega)
   | false=>show g=g+0;omega
  have hf:0≤gP v∧gP v≤1:=by unfold gP;split <;> decide
  rw [e1,e2]
  refine ⟨⟨⟨⟨h2,by omega⟩,fun _=>trivial,fun _=>trivial⟩,fun _=>⟨⟨⟨h1,h1b⟩,⟨?_,?_⟩,?_,?_⟩,?_⟩⟩,?_⟩
  ·show 0≤j+1;omega
  ·show j+1≤m;omega
  ·show 0≤g+gP v;omega
  ·show g+gP v≤1000 +(j+1);omega
  ·show (m - (j+1)).toNat <(m - j).toNat;omega
  ·show (g+gP v+cH (z.drop (j+1).toNat),l,n,i,k,r,b,o,x,z,()) =(g+cH (z.drop j.toNat),l,n,i,k,r,b,o,x,z,())
   rw [hd]
   show _ =(g +(gP v+cH (z.drop (j+1).toNat)),l,n,i,k,r,b,o,x,z,())
   rw [Int.add_assoc]
 ·show (g,l,n,i,k,r,b,o,x,z,()) =(g+cH (z.drop j.toNat),l,n,i,k,r,b,o,x,z,())
  rw [aG (l:=z) (by omega)]
  show _ =(g+0,l,n,i,k,r,b,o,x,z,())
  rw [Int.add_zero]
noncomputable def TV:LoopSum:=ai lpC1 pG wD
noncomputable def Tn:Nat:=rid (bA Tryz.f68 0 1)
theorem PQ:LoopOKp Tryz.prog 0 Tryz.f68.ntmps (bA Tryz.f68 0 1) (ai lpC1 pG wD):=
 ax lpC1 (an (CtrsOK.nil) _) mixed (fun b hb S hS=>by cases hS) pG wD JC (fun |⟨g,l,n,i,k,m,j,r,b,o,x,z,⟨⟩⟩,hi=>Rj g l n i k m j r b o x z hi)
noncomputable def lpC2:Lp:=(⟨0,az [FH] Tryz.f68,(find [(Tm,TU),(Tn,TV)]),(aq Tryz.f68 0),qC2,xC2⟩:Lp)
theorem Rk (g:Int) (l:List Mir.Box) (n:Int) (i:Int) (r:Rules) (b:Mir.Book) (o:List (List boxbook_entry)) (hi:tu (g,l,n,i,r,b,o,())) :(Go.Mir.stepG lpC2 gD (fun y:Den (tyP lpC2.q)=>tu y∧D3 y<D3 (g,l,n,i,r,b,o,())) (g,l,n,i,r,b,o,())∧Go.Mir.stepE lpC2 gD (g,l,n,i,r,b,o,())=gD (g,l,n,i,r,b,o,())):=by
 refine cast (by kernel_rfl) (?_:let r1:Int:=(↑(l.getD i.toNat (dflt (Ty.nm Nm.Box))).3.length:Int);let r2:Bool:=cond (decide ((l.getD i.toNat (dflt (Ty.nm Nm.Box))).2<1)) true (decide ((l.getD i.toNat (dflt (Ty.nm Nm.Box))).2>r.2));let r3:Bool:=isL (fy (g,l,n,i,i,(l.getD i.toNat (dflt (Ty.nm Nm.Box))).3,r1,0,r,b,o,l.getD i.toNat (dflt (Ty.nm Nm.Box)),[],()));let r4:Int×List Mir.Box×Int×Int×Int×Rules×Mir.Book×List (List boxbook_entry)×Box×List boxbook_entry×PUnit:=oc (dflt (I.prod ((Ty.nm Nm.Box).slice.prod (I.prod (I.prod (I.prod ((Ty.nm Nm.Rules).prod ((Ty.nm Nm.Book).prod (tEs.slice.prod ((Ty.nm Nm.Box).prod (tEn.slice.prod Ty.unit))))))))))) (fy (g,l,n,i,i,(l.getD i.toNat (dflt (Ty.nm Nm.Box))).3,r1,0,r,b,o,l.getD i.toNat (dflt (Ty.nm Nm.Box)),[],()));let r5:Bool:=r4.2.2.2.2.1==0;let r6:Int:=(↑r4.2.2.2.2.2.2.2.2.2.1.length:Int);let r7:Int:=IntKind.i64.wrap (r4.2.2.2.2.1 - 1);let r8:List (List boxbook_entry):= [r4.2.2.2.2.2.2.2.2.2.1];let r9:Bool:=r6==0;let r10:Box:=r4.2.2.2.2.2.2.1.2.getD r7.toNat (dflt (Ty.nm Nm.Box));let r11:Bool:=cond r5 (r4.2.2.2.2.2.2.2.2.1.1==0) false;let r12:Bool:=r4.2.2.2.2.2.2.2.2.1.1==r10.1;let r13:Bool:=r4.2.2.2.2.2.2.2.2.1.2 != r10.2;let r14:Bool:=r4.2.2.2.2.2.2.2.2.1.1==IntKind.i64.wrap (r10.1+1);let r15:Bool:=cond r14 (r4.1==r4.2.2.2.2.2.1.5) false;let r16:Bool:=cond r12 (cond r13 (decide (r4.1<r4.2.2.2.2.2.1.5)) false) false;let r17:Int:=cond r11 r4.1 (cond r16 r4.1 0);let r18:Int:=r17+cH (List.drop (Int.toNat 0) r4.2.2.2.2.2.2.2.2.2.1);let r19:Bool:=cond r11 true (cond r5 false (true&&cond r16 true (true&&r15)));let r20:Bool:=decide (r18>r4.2.2.2.2.2.1.5);((decide (i<n)=true→(0≤i∧i <(↑l.length:Int))∧(r2=true→True)∧(r2=false→((cg fun x=>none)∧(r1 =(↑(l.getD i.toNat (dflt (Ty.nm Nm.Box))).3.length:Int)∧(l.getD i.toNat (dflt (Ty.nm Nm.Box))).3.length≤(4000:Nat))∧((0:Int)≤0∧0≤r1)∧rdG r∧(↑(0:Nat):Int)≤0)∧(r3=true→(r9=true→True)∧(r9=false→(r19=true→((r11=true→True)∧(r11=false→(r5=true→False)∧(r5=false→((0≤r7∧r7 <(↑r4.2.2.2.2.2.2.1.2.length:Int))∧(r12=true→(0≤r7∧r7 <(↑r4.2.2.2.2.2.2.1.2.length:Int))∧(r13=true→True)∧(r13=false→True))∧(r12=false→True))∧(true=true→(r16=true→True)∧(r16=false→((0≤r7∧r7 <(↑r4.2.2.2.2.2.2.1.2.length:Int))∧(r14=true→True)∧(r14=false→True))∧(true=true→(r15=true→True)∧(r15=false→False)))))))∧((cg fun x=>none)∧(r6 =(↑r4.2.2.2.2.2.2.2.2.2.1.length:Int)∧r4.2.2.2.2.2.2.2.2.2.1.length≤(4000:Nat))∧((0:Int)≤0∧0≤r6)∧0≤r17∧r17≤(1000:Int)+0)∧(r20=true→True)∧(r20=false→(r4.2.2.2.2.2.2.2.1.length+r8.length) *(24:Nat)≤(70368744177664:Nat)∧tu (r18,r4.2.1,r4.2.2.1,IntKind.i64.wrap (r4.2.2.2.1+1),r4.2.2.2.2.2.1,r4.2.2.2.2.2.2.1,r4.2.2.2.2.2.2.2.1++r8,())∧D3 (r18,r4.2.1,r4.2.2.1,IntKind.i64.wrap (r4.2.2.2.1+1),r4.2.2.2.2.2.1,r4.2.2.2.2.2.2.1,r4.2.2.2.2.2.2.2.1++r8,())<D3 (g,l,n,i,r,b,o,())))∧(r19=false→(r11=true→True)∧(r11=false→(r5=true→True)∧(r5=false→((0≤r7∧r7 <(↑r4.2.2.2.2.2.2.1.2.length:Int))∧(r12=true→(0≤r7∧r7 <(↑r4.2.2.2.2.2.2.1.2.length:Int))∧(r13=true→True)∧(r13=false→True))∧(r12=false→True))∧(true=true→(r16=true→True)∧(r16=false→((0≤r7∧r7 <(↑r4.2.2.2.2.2.2.1.2.length:Int))∧(r14=true→True)∧(r14=false→True))∧(true=true→(r15=true→True)∧(r15=false→True)))))))))∧(r3=false→True)))∧(decide (i<n)=false→True))∧(cond (decide (i<n)) (cond r2 (Sum.inr (2,())) (cond r3 (cond r9 (Sum.inr (4,())) (cond (true&&(false&&(true&&true&&true&&(true&&(true&&true&&(true&&false)))))) (cond r20 (Sum.inr (9,())) (gD (r18,r4.2.1,r4.2.2.1,IntKind.i64.wrap (r4.2.2.2.1+1),r4.2.2.2.2.2.1,r4.2.2.2.2.2.2.1,r4.2.2.2.2.2.2.2.1++r8,()))) (cond r19 (cond r20 (Sum.inr (9,())) (gD (r18,r4.2.1,r4.2.2.1,IntKind.i64.wrap (r4.2.2.2.1+1),r4.2.2.2.2.2.1,r4.2.2.2.2.2.2.1,r4.2.2.2.2.2.2.2.1++r8,()))) (cond r11 (Sum.inl (dflt (tEs.slice.prod Ty.unit))) (cond r5 (Sum.inr (8,())) (cond (true&&true&&true) (cond r16 (Sum.inl (dflt (tEs.slice.prod Ty.unit))) (cond (true&&true) (cond r15 (Sum.inl (dflt (tEs.slice.prod Ty.unit))) (Sum.inr (8,()))) (cond true (cond r15 (Sum.inl (dflt (tEs.slice.prod Ty.unit))) (Sum.inr (8,()))) (cond r14 (Sum.inl (dflt (tEs.slice.prod Ty.unit))) (Sum.inl (dflt (tEs.slice.prod Ty.unit))))))) (cond true (cond r16 (Sum.inl (dflt (tEs.slice.prod Ty.unit))) (cond (true&&true) (cond r15 (Sum.inl (dflt (tEs.slice.prod Ty.unit))) (Sum.inr (8,()))) (cond true (cond r15 (Sum.inl (dflt (tEs.slice.prod Ty.unit))) (Sum.inr (8,()))) (cond r14 (Sum.inl (dflt (tEs.slice.prod Ty.unit))) (Sum.inl (dflt (tEs.slice.prod Ty.unit))))))) (cond r12 (cond r13 (Sum.inl (dflt (tEs.slice.prod Ty.unit))) (Sum.inl (dflt (tEs.slice.prod Ty.unit)))) (Sum.inl (dflt (tEs.slice.prod Ty.unit))))))))))) (Sum.inr (jT (dflt (I.prod Ty.unit)) (fy (g,l,n,i,i,(l.getD i.toNat (dflt (Ty.nm Nm.Box))).3,r1,0,r,b,o,l.getD i.toNat (dflt (Ty.nm Nm.Box)),[],())))))) (Sum.inl (o,())))=gD (g,l,n,i,r,b,o,()))
 intro r1 r2 r3 r4 r5 r6 r7 r8 r9 r10 r11 r12 r13 r14 r15 r16 r17 r18 r19 r20
 clear_value (hr1:r1=_) (hr2:r2=_) (hr3:r3=_) (hr4:r4=_) (hr5:r5=_) (hr6:r6=_) (hr7:r7=_) (hr8:r8=_) (hr9:r9=_) (hr10:r10=_) (hr11:r11=_) (hr12:r12=_) (hr13:r13=_) (hr14:r14=_) (hr15:r15=_) (hr16:r16=_) (hr17:r17=_) (hr18:r18=_) (hr19:r19=_) (hr20:r20=_)
 obtain ⟨⟨h1,h1a,h1b⟩,⟨h2,h3⟩,⟨hr,hbl⟩,⟨h4,h4b⟩,h5⟩:=hi
 have h1:n =(l.length:Int):=h1
 have h1a:l.length≤4000:=h1a
 have h2:0≤i:=h2
 have h3:i≤n:=h3
 have h4:0≤g:=h4
 have h4b:g≤1000:=h4b
 have h5 :(o.length:Int)≤i:=h5
 have hbl:b.Boxes=l:=hbl
 refine fv (fun h=>?_) (fun h=>?_)
 ·have e1:IntKind.i64.wrap (i+1)=i+1:=aL (by omega) (by omega)
  have hd:l.drop i.toNat=l.getD i.toNat (dflt (Ty.nm Nm.Box))::l.drop (i+1).toNat:=aP h2 (by omega) _
  have hm:l.getD i.toNat (dflt (Ty.nm Nm.Box))∈l:=List.mem_of_mem_drop (i:=i.toNat) (by rw [hd];exact List.mem_cons_self)
  have hpn:qI l (i+1)=some ((l.getD i.toNat (dflt (Ty.nm Nm.Box))).Over,(l.getD i.toNat (dflt (Ty.nm Nm.Box))).Bowler):=by
   unfold qI
   rw [if_neg (by simp;omega),show (i+1 - 1)=i by omega]
   rfl
  have hx:=h1b _ hm
  generalize l.getD i.toNat (dflt (Ty.nm Nm.Box))=x at *
  have hw:r2=vc r x:=by
   rw [hr2]
   unfold vc
   cases decide (x.Bowler<1) <;> rfl
  have key:gD (g,l,n,i,r,b,o,())=bif r2 then .inr (2,()) else match gA r x.Symbols with
    | none=> .inr (4,())
    | some ys=>bif ys.isEmpty then .inr (4,()) else match rD r (qI l i) g x with
     | none=> .inr (8,())
     | some g1=>bif decide (g1+cH ys>r.Balls) then .inr (9,()) else gD (g1+cH ys,l,n,i+1,r,b,o++[ys],()):=by
   show Cp (bxP r (l.drop i.toNat) (qI l i) g o)=_
   rw [hd,bxP,hw]
   cases vc r x with
   | true=>rfl
   | false=>
    simp only [cond_false,Bool.false_eq_true,if_false]
    cases gA r x.Symbols with
    | none=>rfl
    | some ys=>
     simp only
     cases ys.isEmpty with
     | true=>rfl
     | false=>
      simp only [cond_false,Bool.false_eq_true,if_false]
      cases rD r (qI l i) g x with
      | none=>rfl
      | some g1=>
       simp only
       cases decide (g1+cH ys>r.Balls) with
       | true=>rfl
       | false=>
        simp only [cond_false,Bool.false_eq_true,if_false]
        show _=Cp (bxP r (l.drop (i+1).toNat) (qI l (i+1)) (g1+cH ys) (o++[ys]))
        rw [hpn]
  have e0:fy (g,l,n,i,i,x.3,r1,0,r,b,o,x,[],())=match gA r x.Symbols with
    | some ys=> .inl (g,l,n,i,i,r,b,o,x,ys,())
    | none=> .inr (4,()):=rfl
  rw [e0] at hr3 hr4 ⊢
  cases hy:gA r x.Symbols with
  | none=>
   rw [hy] at hr3 key
   have e3:r3=false:=hr3
   rw [e3,key]
   refine ⟨⟨⟨h2,by omega⟩,fun _=>trivial,fun _=>⟨⟨rfl,⟨hr1,hx⟩,⟨Int.le_refl _,by omega⟩,hr,Int.le_refl _⟩,fun z=>Bool.noConfusion z,fun _=>trivial⟩⟩,rfl⟩
  | some ys=>
   rw [hy] at hr3 hr4 key
   have e3:r3=true:=hr3
   have e4:r4 =(g,l,n,i,i,r,b,o,x,ys,()):=hr4
   subst e4
   clear hr4
   dsimp only at *
   have hl:=CE hy
   have e9:r9=ys.isEmpty:=by
    rw [hr9,hr6]
    cases ys with
    | nil=>rfl
    | cons y ys=>
     show (((y::ys).length:Int)==0)=false
     rw [List.length_cons]
     simp
     omega
   have e18:r18=r17+cH ys:=hr18
   have hfb:=Bo ys
   have e7:r5=false→r7=i - 1∧0≤r7∧r7 <(b.Boxes.length:Int):=fun h5=>by
    rw [hr5] at h5
    have h5:i≠0:=by simpa using h5
    have:r7=i - 1:=by rw [hr7];exact bf (by omega) (by omega)
    rw [hbl]
    exact ⟨this,by omega,by omega⟩
   have hst:rD r (qI l i) g x=bif r19 then some r17 else none:=by
    cases h5:r5 with
    | true=>
     have h0:i=0:=by rw [hr5] at h5;simpa using h5
     have ep:qI l i=none:=by unfold qI;rw [if_pos (by simpa using h0)]
     rw [ep,hr19,hr17,hr11,h5]
     show (if x.Over==0 then some g else none)=_
     cases hov:x.Over==0 <;> rfl
    | false=>
     obtain ⟨q1,q2,q3⟩:=e7 h5
     have h0:i≠0:=by rw [hr5] at h5;simpa using h5
     have ep:qI l i=some (r10.Over,r10.Bowler):=by
      unfold qI
      rw [if_neg (by simpa using h0),hr10,q1,hbl]
      rfl
     rw [ep,hr19,hr17,hr11,h5,hr16,hr15,hr14,hr13,hr12]
     show (if x.Over==r10.Over&&(x.Bowler != r10.Bowler&&decide (g<r.Balls)) then some g else if x.Over==W (r10.Over+1)&&g==r.Balls then some 0 else none)=_
     cases x.Over==r10.Over <;> cases x.Bowler != r10.Bowler <;> cases decide (g<r.Balls) <;> cases hz:x.Over==IntKind.i64.wrap (r10.Over+1) <;> cases g==r.Balls <;>(show (if (_:Bool)&&_ then _ else _)=_) <;> rfl
   rw [hst] at key
   have e17:0≤r17∧r17≤1000:=by
    rw [hr17]
    cases r11 <;> cases r16 <;>(first|exact ⟨h4,h4b⟩|exact ⟨Int.le_refl 0,show (0:Int)≤1000 by decide⟩)
   have F2:r19=true→r11=false→r5=true→False:=fun a b' c=>by rw [hr19,b',c] at a;cases a
   have F3:r19=true→r11=false→r5=false→r16=false→r15=false→False:=fun a b' c d e=>by rw [hr19,b',c,d,e] at a;cases a
   have hnx:r20=false→(o.length+r8.length)*24≤70368744177664∧tu (r18,l,n,i+1,r,b,o++r8,())∧D3 (r18,l,n,i+1,r,b,o++r8,())<D3 (g,l,n,i,r,b,o,()):=fun h20=>by
    have l8:r8.length=1:=by rw [hr8];rfl
    have hb8:r.Balls≤1000:=hr.2.1.2
    have h20 :¬ r18>r.Balls:=by rw [hr20] at h20;exact of_decide_eq_false h20
    refine ⟨by omega,⟨⟨h1,h1a,h1b⟩,⟨?_,?_⟩,⟨hr,hbl⟩,⟨?_,?_⟩,?_⟩,?_⟩
    ·show 0≤i+1;omega
    ·show i+1≤n;omega
    ·show 0≤r18;omega
    ·show r18≤1000;omega
    ·show ((o++r8).length:Int)≤i+1
     rw [List.length_append];omega
    ·show (n - (i+1)).toNat <(n - i).toNat;omega
   rw [e3,key,e1]
   refine ⟨⟨⟨h2,by omega⟩,fun _=>trivial,fun _=>⟨⟨rfl,⟨hr1,hx⟩,⟨Int.le_refl _,by omega⟩,hr,Int.le_refl _⟩,fun _=>⟨fun _=>trivial,fun _=>⟨fun a=>⟨⟨fun _=>trivial,fun b'=>⟨fun c=>F2 a b' c,fun c=>⟨⟨(e7 c).2,fun _=>⟨(e7 c).2,fun _=>trivial,fun _=>trivial⟩,fun _=>trivial⟩,fun _=>⟨fun _=>trivial,fun d=>⟨⟨(e7 c).2,fun _=>trivial,fun _=>trivial⟩,fun _=>⟨fun _=>trivial,fun e=>F3 a b' c d e⟩⟩⟩⟩⟩⟩,⟨rfl,⟨hr6,by omega⟩,⟨Int.le_refl _,by omega⟩,e17.1,by omega⟩,fun _=>trivial,hnx⟩,fun _=>⟨fun _=>trivial,fun _=>⟨fun _=>trivial,fun c=>⟨⟨(e7 c).2,fun _=>⟨(e7 c).2,fun _=>trivial,fun _=>trivial⟩,fun _=>trivial⟩,fun _=>⟨fun _=>trivial,fun _=>⟨⟨(e7 c).2,fun _=>trivial,fun _=>trivial⟩,fun _=>⟨fun _=>trivial,fun _=>trivial⟩⟩⟩⟩⟩⟩⟩⟩,fun z=>Bool.noConfusion z⟩⟩,?_⟩
   rw [←e9]
   cases r2 with
   | true=>rfl
   | false=>
    cases r9 with
    | true=>rfl
    | false=>
     cases h19:r19 with
     | true=>
      show (bif r20 then Sum.inr (9,()) else gD (r18,l,n,i+1,r,b,o++r8,())) =(bif decide (r17+cH ys>r.Balls) then Sum.inr (9,()) else gD (r17+cH ys,l,n,i+1,r,b,o++[ys],()))
      rw [hr20,hr8,e18]
     | false=>
      rw [h19] at hr19
      cases h11:r11 with
      | true=>rw [h11] at hr19;cases hr19
      | false=>
       cases h5:r5 with
       | true=>rfl
       | false=>
        cases h16:r16 with
        | true=>rw [h11,h5,h16] at hr19;cases hr19
        | false=>
         cases h15:r15 with
         | true=>rw [h11,h5,h16,h15] at hr19;cases hr19
         | false=>rfl
 ·show Sum.inl (o,())=Cp (bxP r (l.drop i.toNat) (qI l i) g o)
  rw [aG (l:=l) (by omega)]
  rfl
noncomputable def Oh:LoopSum:=ai lpC2 gD tu
noncomputable def NH:Nat:=rid (aq Tryz.f68 0)
theorem PR:LoopOKp Tryz.prog 0 Tryz.f68.ntmps (aq Tryz.f68 0) (ai lpC2 gD tu):=
 ax lpC2 (an (.consU Ci rfl .nil) _) mixed (LoopsOKp.cons (by kernel_rfl) PP (.cons (by kernel_rfl) PQ .nil)) gD tu D3 (fun |⟨g,l,n,i,r,b,o,⟨⟩⟩,hi=>Rk g l n i r b o hi)
theorem Al (r:Rules) (b:Mir.Book) (hr:rdG r) (hb:smX b.Boxes) :(evPat (az [] Tryz.f68) (find [(NH,Oh)]) Tryz.f68 qRB CB (r,b,())).sat fun z_=>z_ =(QT (r,b,())).2:=by
 refine cast (by kernel_rfl) (?_:let r1:List (List boxbook_entry)×Int×Unit:=fC (bxP r b.2 none 0 []);let r2:Bool:=isL (gD (0,b.2,(↑b.2.length:Int),0,r,b,[],()));((cg fun x=>none)∧((↑b.2.length:Int) =(↑b.2.length:Int)∧smX b.2)∧((0:Int)≤0∧0≤(↑b.2.length:Int))∧(rdG r∧b.2=b.2)∧((0:Int)≤0∧(0:Int)≤1000)∧(↑(0:Nat):Int)≤0)∧(r2=true→((oc (dflt (tEs.slice.prod Ty.unit)) (gD (0,b.2,(↑b.2.length:Int),0,r,b,[],()))).1,0,())=r1)∧(r2=false→([],jT (dflt (I.prod Ty.unit)) (gD (0,b.2,(↑b.2.length:Int),0,r,b,[],())))=r1))
 intro r1 r2
 clear_value (hr1:r1=_) (hr2:r2=_)
 have e:gD (0,b.Boxes,(b.Boxes.length:Int),0,r,b,[],())=Cp (bxP r b.Boxes none 0 []):=rfl
 have h2:r2=isL (Cp (bxP r b.Boxes none 0 [])):=by rw [hr2,←e]
 have h1:r1=fC (bxP r b.Boxes none 0 []):=hr1
 refine ⟨⟨rfl,⟨rfl,hb⟩,⟨Int.le_refl _,by omega⟩,⟨hr,rfl⟩,⟨Int.le_refl _,by decide⟩,Int.le_refl _⟩,fun h=>?_,fun h=>?_⟩
 ·rw [h1]
  rw [h2] at h
  show ((oc _ (Cp (bxP r b.Boxes none 0 []))).1,(0:Int),())=_
  cases hb:bxP r b.Boxes none 0 [] with
  | inl e=>rw [hb] at h;cases h
  | inr o=>rfl
 ·rw [h1]
  rw [h2] at h
  show ([],jT _ (Cp (bxP r b.Boxes none 0 [])))=_
  cases hb:bxP r b.Boxes none 0 [] with
  | inl e=>rfl
  | inr o=>rw [hb] at h;cases h
def tA:FuncId×Ctr:=(68,aj KE qRB CB QT)
theorem Cb:CtrOK Tryz.prog KE 68 (aj KE qRB CB QT):=by
 refine aO (C:=az [] Tryz.f68) (an (CtrsOK.nil) _) mixed (fn:=Tryz.f68) Tryz.func68 (by kernel_rfl) (by kernel_rfl) (by kernel_rfl) (by kernel_rfl) (by kernel_rfl) (by kernel_rfl) (Λ:=fun x=>find [(NH,Oh)]) ?_ ?_
 ·rintro ⟨r,b,⟨⟩⟩ hw hn
  exact LoopsOKp.at (by kernel_rfl) (.cons (by kernel_rfl) (PR) .nil)
 ·rintro ⟨r,b,⟨⟩⟩ hw hn
  exact Al r b (hn _ List.mem_cons_self) (hn _ (List.mem_cons_of_mem _ List.mem_cons_self))
end
section
open Go Go.Mir
attribute [local irreducible] Go.Mir.RT.sat Go.Mir.evFn Go.Mir.stepObl
theorem TA :(evFn (Dt [] Tryz.f177) (fun _=>none) Tryz.f177 (dy MC ())).sat fun v' rows=>leV v' (AA ()).v∧rows =(AA ()).rows:=by
 refine cast (by kernel_rfl) (?_ :(nat_lit 0=nat_lit 0∧nat_lit 0=nat_lit 0)∧ [RowD.mk (Ty.nm Nm.dismissal_way) [dismissal_way.mk 0 (ByteArray.mk #[78,79,84,79,85,84]) false false false false false,dismissal_way.mk 1 (ByteArray.mk #[66,79,87,76,69,68]) true false false false false,dismissal_way.mk 2 (ByteArray.mk #[67,65,85,71,72,84]) true false false true false,dismissal_way.mk 3 (ByteArray.mk #[76,66,87]) true false false false false,dismissal_way.mk 4 (ByteArray.mk #[83,84,85,77,80,69,68]) true true false true false,dismissal_way.mk 5 (ByteArray.mk #[72,73,84,87,73,67,75,69,84]) true true false false false,dismissal_way.mk 6 (ByteArray.mk #[82,85,78,79,85,84]) true true true true true,dismissal_way.mk 7 (ByteArray.mk #[72,73,84,84,87,73,67,69]) true false true false false,dismissal_way.mk 8 (ByteArray.mk #[79,66,83,84,82,85,67,84,73,78,71]) true true true false true,dismissal_way.mk 9 (ByteArray.mk #[84,73,77,69,68,79,85,84]) false false false false false,dismissal_way.mk 10 (ByteArray.mk #[82,69,84,73,82,69,68]) false false false false false]]=[RowD.mk (Ty.nm Nm.dismissal_way) wtab])
 exact ⟨⟨rfl,rfl⟩,by kernel_rfl⟩
theorem Td:CtrOK Tryz.prog KK 177 (aK KK MC AA):=by
 refine fx (C:=Dt [] Tryz.f177) (Fg CtrsOK.nil _) mixed (fn:=Tryz.f177) Tryz.func177 (by kernel_rfl) (by kernel_rfl) (by kernel_rfl) (Λ:=fun _ _=>none) ?_ ?_ ?_
 ·exact fun _ _ _ _ _ _ _ _ h=>by cases h
 ·rintro ⟨⟩
  exact of_decide_eq_true (by kernel_rfl)
 ·rintro ⟨⟩ _ _
  exact TA
theorem U9:wtab.length=11:=rfl
theorem Fs {α:Type} (p:α→Bool) :∀ (xs:List α) (i:Nat) (x:α),xs[i]?=some x→p x=true→(∀ y∈xs.take i,p y=false)→xs.find? p=some x
 | [],_,_,h,_,_=>by simp at h
 | y::xs,0,x,h,hp,_=>by simp at h;subst h;simp [hp]
 | y::xs,i+1,x,h,hp,hn=>by
  have h0:p y=false:=hn y (by simp)
  rw [List.find?_cons_of_neg (by simp [h0])]
  exact Fs p xs i x (by simpa using h) hp (fun z hz=>hn z (by simp [hz]))
theorem LY {α:Type} {xs:List α} {i:Nat} (z:α) (h:i<xs.length):xs[i]?=some (xs.getD i z):=by
 rw [List.getD_eq_getElem?_getD,List.getElem?_eq_getElem h];rfl
theorem Q7 (h:Int) (i:Nat) (hi:FC h i) :(stepObl (J57 h) (FC h) (fun i=>11 - i) i (T57 h) (bs (Dt [k61] Tryz.f143) (fun _=>none) (aq Tryz.f143 0) (J57 h i)) (L57 i)).1:=by
 refine cast (by kernel_rfl) (?_ :(decide ((↑i:Int) <(↑wtab.length:Int))=true→(0≤(↑i:Int)∧(↑i:Int) <(↑wtab.length:Int))∧(((wtab.getD (↑i:Int).toNat (dflt (Ty.nm Nm.dismissal_way))).1==h)=true→(wtab.any fun w=>w.1==h)=true∧(True∧True)∧((wtab.getD (↑i:Int).toNat (dflt (Ty.nm Nm.dismissal_way))).1 =(ofW h).1∧(wtab.getD (↑i:Int).toNat (dflt (Ty.nm Nm.dismissal_way))).2 =(ofW h).2∧(wtab.getD (↑i:Int).toNat (dflt (Ty.nm Nm.dismissal_way))).3 =(ofW h).3∧(wtab.getD (↑i:Int).toNat (dflt (Ty.nm Nm.dismissal_way))).4 =(ofW h).4∧(wtab.getD (↑i:Int).toNat (dflt (Ty.nm Nm.dismissal_way))).5 =(ofW h).5∧(wtab.getD (↑i:Int).toNat (dflt (Ty.nm Nm.dismissal_way))).6 =(ofW h).6∧(wtab.getD (↑i:Int).toNat (dflt (Ty.nm Nm.dismissal_way))).7 =(ofW h).7∧True)∧True)∧(((wtab.getD (↑i:Int).toNat (dflt (Ty.nm Nm.dismissal_way))).1==h)=false→FC h (i +(1:Nat))∧(11:Nat) - (i +(1:Nat)) <(11:Nat) - i∧(h=h∧True∧True∧(↑wtab.length:Int) =(↑wtab.length:Int)∧IntKind.i64.wrap ((↑i:Int)+1) =(↑(i +(1:Nat)):Int)∧True)∧RowD.mk (Ty.nm Nm.dismissal_way) wtab=RowD.mk (Ty.nm Nm.dismissal_way) wtab∧((0:Int)=0∧ByteArray.empty=ByteArray.empty∧false=false∧false=false∧false=false∧false=false∧false=false∧True)∧True))∧(decide ((↑i:Int) <(↑wtab.length:Int))=false→(wtab.any fun w=>w.1==h)=false∧(True∧True)∧((0:Int)=0∧ByteArray.empty=ByteArray.empty∧false=false∧false=false∧false=false∧false=false∧false=false∧True)∧True))
 have e :(i:Int).toNat=i:=by simp
 rw [e]
 generalize hw:wtab.getD i (dflt (Ty.nm Nm.dismissal_way))=w
 refine ⟨fun h1=>?_,fun h1=>?_⟩
 ·have h1:i<wtab.length:=by simpa using h1
  have h3:wtab[i]?=some w:=by rw [←hw];exact LY _ h1
  refine ⟨⟨by omega,by omega⟩,fun h2=>?_,fun h2=>?_⟩
  ·have h4:ofW h=w:=by
    unfold ofW
    rw [Fs (fun w=>w.how==h) wtab i w h3 h2 hi.2];rfl
   have h5 :(wtab.any fun w=>w.1==h)=true:=List.any_eq_true.2 ⟨w,List.mem_of_getElem? h3,h2⟩
   rw [h4]
   exact ⟨h5,⟨trivial,trivial⟩,⟨rfl,rfl,rfl,rfl,rfl,rfl,rfl,trivial⟩,trivial⟩
  ·rw [U9] at h1
   refine ⟨⟨by omega,fun y hy=>?_⟩,by omega,⟨rfl,trivial,trivial,rfl,?_,trivial⟩,rfl,⟨rfl,rfl,rfl,rfl,rfl,rfl,rfl,trivial⟩,trivial⟩
   ·rw [List.take_add_one,h3] at hy
    rcases List.mem_append.1 hy with hy|hy
    ·exact hi.2 y hy
    ·simp at hy;subst hy;exact h2
   ·rw [aL (by omega) (by omega)];omega
 ·have h1:wtab.length≤i:=by simpa using h1
  refine ⟨?_,⟨trivial,trivial⟩,⟨rfl,rfl,rfl,rfl,rfl,rfl,rfl,trivial⟩,trivial⟩
  rw [List.any_eq_false]
  intro x hx
  have:=hi.2 x (by rw [List.take_of_length_le h1];exact hx)
  simpa using this
theorem Mc (h:Int):LoopsOK Tryz.prog Tryz.f143.ntmps [aq Tryz.f143 0] (Λ57 h):=
 .cons (L:=eE ⟨[],[],16⟩ (J57 h 0) (T57 h)) (by kernel_rfl) (pj (Fg (.cons Td .nil) _) mixed (J57 h) (fun _=>rfl) (FC h) (fun i=>11 - i) (fun _ _=>none) (fun _ _ _ _ _ h=>by cases h) (T57 h) [] [] 0 ⟨Nat.zero_le _,by simp⟩ L57 (Q7 h)) .nil
theorem Tz (h:Int) :(evFn (Dt [k61] Tryz.f143) (Λ57 h) Tryz.f143 (dy Cz (h,()))).sat fun v' rows=>leV v' (Az (h,())).v∧rows =(Az (h,())).rows:=by
 refine cast (by kernel_rfl) (?_ :((cg fun x=>none)∧(h=h∧True∧True∧(↑wtab.length:Int) =(↑wtab.length:Int)∧0 =(↑(0:Nat):Int)∧True)∧RowD.mk (Ty.nm Nm.dismissal_way) wtab=RowD.mk (Ty.nm Nm.dismissal_way) wtab∧((0:Int)=0∧ByteArray.empty=ByteArray.empty∧false=false∧false=false∧false=false∧false=false∧false=false∧True)∧True)∧((wtab.any fun w=>w.1==h)=true→((ofW h).1 =(ofW h).1∧(ofW h).2 =(ofW h).2∧(ofW h).3 =(ofW h).3∧(ofW h).4 =(ofW h).4∧(ofW h).5 =(ofW h).5∧(ofW h).6 =(ofW h).6∧(ofW h).7 =(ofW h).7∧True)∧([]:List RowD)=[])∧((wtab.any fun w=>w.1==h)=false→(0 =(ofW h).1∧ByteArray.empty =(ofW h).2∧false =(ofW h).3∧false =(ofW h).4∧false =(ofW h).5∧false =(ofW h).6∧false =(ofW h).7∧True)∧([]:List RowD)=[]))
 refine ⟨⟨rfl,⟨rfl,trivial,trivial,rfl,rfl,trivial⟩,rfl,⟨rfl,rfl,rfl,rfl,rfl,rfl,rfl,trivial⟩,trivial⟩,fun _=>⟨⟨rfl,rfl,rfl,rfl,rfl,rfl,rfl,trivial⟩,rfl⟩,fun h1=>?_⟩
 have h2:ofW h=dismissal_way.zero:=by
  unfold ofW
  rw [List.find?_eq_none.2]
  ·rfl
  ·intro x hx hp
   have:=(List.any_eq_false.1 h1) x hx
   exact this hp
 rw [h2]
 exact ⟨⟨rfl,rfl,rfl,rfl,rfl,rfl,rfl,trivial⟩,rfl⟩
theorem UW:CtrOK Tryz.prog KK 143 (aK KK Cz Az):=by
 refine fx (C:=Dt [k61] Tryz.f143) (Fg (.cons Td .nil) _) mixed (fn:=Tryz.f143) Tryz.func143 (by kernel_rfl) (by kernel_rfl) (by kernel_rfl) (Λ:=fun x=>Λ57 x.1) ?_ ?_ ?_
 ·rintro ⟨h,⟨⟩⟩ _ _
  exact LoopsOK.at (by kernel_rfl) (Mc h)
 ·rintro ⟨h,⟨⟩⟩
  exact of_decide_eq_true (by kernel_rfl)
 ·rintro ⟨h,⟨⟩⟩ _ _
  exact Tz h
theorem Tw (h:Int) :(evFn (Dt [k57] Tryz.f120) (fun _=>none) Tryz.f120 (dy Cz (h,()))).sat fun v' rows=>leV v' (Ay (h,())).v∧rows =(Ay (h,())).rows:=by
 refine cast (by kernel_rfl) (?_ :(ofW h).2 =(ofW h).2∧([]:List RowD)=[])
 exact ⟨rfl,rfl⟩
theorem UU:CtrOK Tryz.prog KK 120 (aK KK Cz Ay):=by
 refine fx (C:=Dt [k57] Tryz.f120) (Fg (.cons UW .nil) _) mixed (fn:=Tryz.f120) Tryz.func120 (by kernel_rfl) (by kernel_rfl) (by kernel_rfl) (Λ:=fun _ _=>none) ?_ ?_ ?_
 ·exact fun _ _ _ _ _ _ _ _ h=>by cases h
 ·rintro ⟨h,⟨⟩⟩
  exact of_decide_eq_true (by kernel_rfl)
 ·rintro ⟨h,⟨⟩⟩ _ _
  exact Tw h
end
section
open Go Go.Mir Go.RowKit
attribute [local irreducible] Go.Mir.DT.sat Go.Mir.evPat Go.Mir.RT.sat Go.Mir.evFn
def ntabV:List ByteArray:=wtab.map dismissal_way.name
abbrev q0V:Pat:=cn []
abbrev MK:Pat:=⟨[(0,.c (.osl 0 1))],[(0,.row 1 .str)],2⟩
def sNt:Den (tyP q0V)→List Prop×Den (tyP MK):=fun _=>([],(ntabV,()))
abbrev qHw:Pat:=cn [U8]
abbrev MF:Pat:=cn [.str]
def B3 (h:Int):ByteArray:=(ofW h).name
def EU:Den (tyP qHw)→List Prop×Den (tyP MF):=fun x=>([],(B3 x.1,()))
theorem Ug {n:Int} (h:wfD (.int .u8) n):0≤n∧n≤255:=by
 obtain ⟨S,w,cs,h⟩:=h
 cases h with|int h=>exact ⟨by have:=h.1;simpa [IntKind.min,IntKind.max,IntKind.signed,IntKind.bits] using this,by have:=h.2;simpa [IntKind.min,IntKind.max,IntKind.signed,IntKind.bits] using this⟩
theorem TC :(evPat (az [] Tryz.f123) (fun _=>none) Tryz.f123 q0V MK ()).sat fun z_=>z_ =(sNt ()).2:=by
 refine cast (by kernel_rfl) (?_ :([ByteArray.mk #[78,79,84,79,85,84],ByteArray.mk #[66,79,87,76,69,68],ByteArray.mk #[67,65,85,71,72,84],ByteArray.mk #[76,66,87],ByteArray.mk #[83,84,85,77,80,69,68],ByteArray.mk #[72,73,84,87,73,67,75,69,84],ByteArray.mk #[82,85,78,79,85,84],ByteArray.mk #[72,73,84,84,87,73,67,69],ByteArray.mk #[79,66,83,84,82,85,67,84,73,78,71],ByteArray.mk #[84,73,77,69,68,79,85,84],ByteArray.mk #[82,69,84,73,82,69,68]],()) =(ntabV,()))
 rfl
def k64:FuncId×Ctr:=(123,aj KE q0V MK sNt)
theorem UX:CtrOK Tryz.prog KE 123 (aj KE q0V MK sNt):=by
 refine aO (C:=az [] Tryz.f123) (an (CtrsOK.nil) _) mixed (fn:=Tryz.f123) Tryz.func123 (by kernel_rfl) (by kernel_rfl) (by kernel_rfl) (by kernel_rfl) (by kernel_rfl) (by kernel_rfl) (Λ:=fun _ _=>none) ?_ ?_
 ·exact fun _ _ _ _ _ _ _ _ h=>by cases h
 ·rintro ⟨⟩ hw hn
  exact TC
theorem Tx (h:Int) (h0:0≤h) :(evPat (az [k64] Tryz.f75) (fun _=>none) Tryz.f75 qHw MF (h,())).sat fun z_=>z_ =(EU (h,())).2:=by
 refine cast (by kernel_rfl) (?_:let r1:Bool:=decide (h>10);(r1=true→(ByteArray.mk #[],()) =(B3 h,()))∧(r1=false→(0≤h∧h <(↑ntabV.length:Int))∧(ntabV.getD h.toNat (dflt Ty.str),()) =(B3 h,())))
 intro r1
 clear_value (hr1:r1=_)
 refine ⟨fun h1=>?_,fun h1=>?_⟩
 ·have h1:h>10:=of_decide_eq_true (hr1▸h1)
  have:wtab.find? (fun w=>w.how==h)=none:=by
   rw [List.find?_eq_none]
   intro x hx
   simp only [wtab,List.mem_cons,List.not_mem_nil,or_false] at hx
   rcases hx with rfl|rfl|rfl|rfl|rfl|rfl|rfl|rfl|rfl|rfl|rfl <;> simp <;> omega
  unfold B3 ofW
  rw [this]
  rfl
 ·have h1 :¬ h>10:=of_decide_eq_false (hr1▸h1)
  have hl:ntabV.length=11:=rfl
  refine ⟨⟨h0,by omega⟩,?_⟩
  have:h=0∨h=1∨h=2∨h=3∨h=4∨h=5∨h=6∨h=7∨h=8∨h=9∨h=10:=by omega
  rcases this with rfl|rfl|rfl|rfl|rfl|rfl|rfl|rfl|rfl|rfl|rfl <;> rfl
def k26:FuncId×Ctr:=(75,aj KE qHw MF EU)
theorem UV:CtrOK Tryz.prog KE 75 (aj KE qHw MF EU):=by
 refine aO (C:=az [k64] Tryz.f75) (an (.consU UX rfl .nil) _) mixed (fn:=Tryz.f75) Tryz.func75 (by kernel_rfl) (by kernel_rfl) (by kernel_rfl) (by kernel_rfl) (by kernel_rfl) (by kernel_rfl) (Λ:=fun _ _=>none) ?_ ?_
 ·exact fun _ _ _ _ _ _ _ _ h=>by cases h
 ·rintro ⟨h,⟨⟩⟩ hw hn
  exact Tx h (Ug (gO hw)).1
abbrev tSt:Ty:= .nm .Strip
abbrev tSts:Ty:= .slice tSt
abbrev DR:List (Nat×PB):= [(0,.dat tSt)]
def bt (y x:Mir.Strip):Bool:=x.Player==y.Player
abbrev MQ:Pat:=⟨[(0,.h tSt),(1,.c (.ptr 0 0))],DR,1⟩
abbrev rA:Pat:=⟨[(0,.h .bool)],DR,1⟩
def Q2:Den (tyP MQ)→List Prop×Den (tyP rA):=fun x=>([],(bt x.2.1 x.1,x.2.1,()))
def fdI {α:Type} (p:α→Bool):List α→Int→Option Int
 | [],_=>none
 | x::r,i=>if p x then some i else fdI p r (i+1)
abbrev qIS (f:Nat):Pat:=⟨[(0,.h tSts),(1,.c (.fn f [.ptr 0 0])),(7,.h I),(8,.h I)],DR,1⟩
abbrev xIS:List (Lf×Pat):= [(.ret,⟨[(4,.h I)],DR,1⟩),(.ext 0,⟨[],DR,1⟩)]
abbrev TIS:Type:=List Mir.Strip×Int×Int×Mir.Strip×Unit
def wM (x:TIS):Prop:=x.2.1=x.1.length∧0≤x.2.2.1∧x.2.2.1≤x.2.1∧x.1.length≤aA
def Hh (x:TIS):Nat:=(x.2.1 - x.2.2.1).toNat
def SY (m:Mir.Strip):Option Int→Sum (Int×Mir.Strip×Unit) (Mir.Strip×Unit)
 | some k=> .inl (k,m,())
 | none=> .inr (m,())
def jm (x:TIS):Sum (Int×Mir.Strip×Unit) (Mir.Strip×Unit):=SY x.2.2.2.1 (fdI (bt x.2.2.2.1) (x.1.drop x.2.2.1.toNat) x.2.2.1)
abbrev qIF (f:Nat):Pat:=⟨[(0,.h tSts),(1,.c (.fn f [.ptr 0 0]))],DR,1⟩
abbrev MH:Pat:=⟨[(0,.h I)],DR,1⟩
def Q0 (f:Nat):Den (tyP (qIF f))→List Prop×Den (tyP MH):=fun x=>([],(vE (fdI (bt x.2.1) x.1 0),x.2.1,()))
def QR (f:Nat):Den (tyP (qIF f))→List Prop×Den (tyP rA):=fun x=>([],(x.1.any (bt x.2.1),x.2.1,()))
abbrev hpD:List (Nat×PB):= [(0,.dat (.nm .Rules)),(1,.dat (.nm .Book))]
abbrev SQ:List (Nat×PB):= [(0,.dat (.nm .Rules)),(1,.dat (.nm .Book)),(2,.dat tSt)]
abbrev tmD:List (Nat×PC):= [(2,.c (.ptr 0 0)),(3,.c (.ptr 1 0))]
abbrev R5:List (Nat×PC):= [(12,.h tSts),(13,.h I),(14,.h I)]
abbrev Uj:Lf×Pat:=(.ret,⟨[(4,.h I)],[],0⟩)
abbrev qD0:Pat:=⟨tmD++R5++[(6,.c (.ptr 2 0)),(36,.h (.slice .str)),(37,.h I),(38,.h I)],SQ,3⟩
abbrev xD0:List (Lf×Pat):= [(.ext 2,⟨tmD++R5++[(6,.c (.ptr 2 0))],SQ,3⟩),Uj]
abbrev TD0:Type:=List Mir.Strip×Int×Int×List ByteArray×Int×Int×Rules×Mir.Book×Mir.Strip×Unit
abbrev TDx:Type:=List Mir.Strip×Int×Int×Rules×Mir.Book×Mir.Strip×Unit
def jl:TD0→Sum TDx (Int×Unit)
 |(l,n,i,s,_,j,r,b,x,_)=>if (s.drop j.toNat).any (fun w=>!(bF w).2) then .inr (4,()) else .inl (l,n,i,r,b,x,())
def wF:TD0→Prop
 |(_,_,_,s,m,j,_)=>(m =(s.length:Int)∧s.length≤4000)∧(0≤j∧j≤m)
def JE:TD0→Nat
 |(_,_,_,_,m,j,_)=>(m - j).toNat
abbrev qD1:Pat:=⟨tmD++R5,hpD,2⟩
abbrev xD1:List (Lf×Pat):= [(.ext 0,⟨[],[],0⟩),Uj]
abbrev TD1:Type:=List Mir.Strip×Int×Int×Rules×Mir.Book×Unit
def zW (e:Int):Sum Unit (Int×Unit):=if e==0 then .inl () else .inr (e,())
def iR:TD1→Sum Unit (Int×Unit)
 |(l,_,i,r,_,_)=>zW (aD r (l.take i.toNat) (l.drop i.toNat))
def tv:TD1→Prop
 |(l,n,i,_,b,_)=>(n =(l.length:Int)∧smY l)∧(0≤i∧i≤n)∧b.Strips=l
def D4:TD1→Nat
 |(_,n,i,_)=>(n - i).toNat
abbrev rP:Pat:=cn [I]
def QV:Den (tyP qRB)→List Prop×Den (tyP rP):=fun x=>([smY x.2.1.Strips],(aD x.1 [] x.2.1.Strips,()))
theorem Bp {α:Type} {p:α→Bool} :∀ {l:List α} {i:Int},(fdI p l i).isSome=l.any p
 | [],_=>rfl
 | x::r,i=>by
  simp only [fdI,List.any_cons]
  cases hp:p x with
  | true=>simp
  | false=>simpa using Bp
theorem IJ {α:Type} {p:α→Bool} :∀ {l:List α} {i k:Int},fdI p l i=some k→i≤k
 | [],_,_,h=>by simp [fdI] at h
 | x::r,i,k,h=>by
  simp only [fdI] at h
  split at h
  ·cases h;exact Int.le_refl _
  ·have:=IJ h;omega
theorem ux (x:Mir.Strip) (y:Mir.Strip) :(evPat (az [] Tryz.f119) (fun _=>none) Tryz.f119 MQ rA (x,y,())).sat fun z_=>z_ =(Q2 (x,y,())).2:=by
 refine cast (by kernel_rfl) (?_ :(x.1==y.1,y,()) =(bt y x,y,()))
 rfl
def kM:FuncId×Ctr:=(119,aj KE MQ rA Q2)
theorem nG:CtrOK Tryz.prog KE 119 (aj KE MQ rA Q2):=by
 refine aO (C:=az [] Tryz.f119) (an (CtrsOK.nil) _) mixed (fn:=Tryz.f119) Tryz.func119 (by kernel_rfl) (by kernel_rfl) (by kernel_rfl) (by kernel_rfl) (by kernel_rfl) (by kernel_rfl) (Λ:=fun _ _=>none) ?_ ?_
 ·exact fun _ _ _ _ _ _ _ _ h=>by cases h
 ·rintro ⟨x,y,⟨⟩⟩ hw hn
  exact ux x y
noncomputable def lpISl:Lp:=(⟨1,az [kM] Tryz.f90,(fun _=>none),(aq Tryz.f90 0),(qIS 119),xIS⟩:Lp)
theorem M3 (xs:List Mir.Strip) (n:Int) (i:Int) (m:Mir.Strip) (hi:wM (xs,n,i,m,())) :(Go.Mir.stepG lpISl jm (fun y:Den (tyP lpISl.q)=>wM y∧Hh y<Hh (xs,n,i,m,())) (xs,n,i,m,())∧Go.Mir.stepE lpISl jm (xs,n,i,m,())=jm (xs,n,i,m,())):=by
 refine cast (by kernel_rfl) (?_ :((decide (i<n)=true→(0≤i∧i <(↑xs.length:Int))∧(bt m (xs.getD i.toNat (dflt (Ty.nm Nm.Strip)))=true→True)∧(bt m (xs.getD i.toNat (dflt (Ty.nm Nm.Strip)))=false→wM (xs,n,IntKind.i64.wrap (i+1),m,())∧Hh (xs,n,IntKind.i64.wrap (i+1),m,())<Hh (xs,n,i,m,())))∧(decide (i<n)=false→True))∧(cond (decide (i<n)) (cond (bt m (xs.getD i.toNat (dflt (Ty.nm Nm.Strip)))) (Sum.inl (i,m,())) (jm (xs,n,IntKind.i64.wrap (i+1),m,()))) (Sum.inr (m,())))=jm (xs,n,i,m,()))
 obtain ⟨h1,h2,h3,h4⟩:=hi
 simp only at h1 h2 h3 h4
 have h5 :(xs.length:Int)≤140737488355328:=by have:xs.length≤140737488355328:=h4;omega
 refine fv (fun h=>?_) (fun h=>?_)
 ·rw [bf (n:=i+1) (by omega) (by omega)]
  have e:xs.drop i.toNat=xs.getD i.toNat (dflt (Ty.nm Nm.Strip))::xs.drop (i+1).toNat:=aP h2 (by omega) _
  generalize xs.getD i.toNat (dflt (Ty.nm Nm.Strip))=v at e ⊢
  refine ⟨⟨⟨h2,by omega⟩,fun _=>trivial,fun _=>⟨⟨h1,by simp only;omega,by simp only;omega,h4⟩,by simp only [Hh];omega⟩⟩,?_⟩
  simp only [jm,e,fdI]
  cases bt m v <;> rfl
 ·simp only [jm]
  rw [aG (l:=xs) (by omega)]
  rfl
noncomputable def K5:LoopSum:=ai lpISl jm wM
noncomputable def Kv:Nat:=rid (aq Tryz.f90 0)
theorem Ma:LoopOKp Tryz.prog 1 Tryz.f90.ntmps (aq Tryz.f90 0) (ai lpISl jm wM):=
 ax lpISl (an (.consU nG rfl .nil) _) mixed (fun b hb S hS=>by cases hS) jm wM Hh (fun |⟨xs,n,i,m,⟨⟩⟩,hi=>M3 xs n i m hi)
theorem KC (xs:List Mir.Strip) (m:Mir.Strip) (hx:xs.length≤aA) :(evPat (az [kM] Tryz.f90) (find [(Kv,K5)]) Tryz.f90 (qIF 119) MH (xs,m,())).sat fun z_=>z_ =((Q0 119) (xs,m,())).2:=by
 refine cast (by kernel_rfl) (?_:let r1:Bool:=isL (jm (xs,(↑xs.length:Int),0,m,()));((cg fun x=>none)∧(↑xs.length:Int) =(↑xs.length:Int)∧(0:Int)≤0∧0≤(↑xs.length:Int)∧xs.length≤aA)∧(r1=true→oc (dflt (I.prod (tSt.prod Ty.unit))) (jm (xs,(↑xs.length:Int),0,m,())) =(vE (fdI (bt m) xs 0),m,()))∧(r1=false→((-1:Int),jT (dflt (tSt.prod Ty.unit)) (jm (xs,(↑xs.length:Int),0,m,()))) =(vE (fdI (bt m) xs 0),m,())))
 intro r1
 clear_value (hr1:r1=_)
 have e:jm (xs,(xs.length:Int),0,m,())=SY m (fdI (bt m) xs 0):=rfl
 rw [e] at hr1 ⊢
 refine ⟨⟨rfl,rfl,Int.le_refl _,by omega,hx⟩,fun h=>?_,fun h=>?_⟩ <;> cases hf:fdI (bt m) xs 0 <;> rw [hr1,hf] at h <;> first|rfl|cases h
def Je:FuncId×Ctr:=(90,aj KE (qIF 119) MH (Q0 119))
theorem Ms:CtrOK Tryz.prog KE 90 (aj KE (qIF 119) MH (Q0 119)):=by
 refine aO (C:=az [kM] Tryz.f90) (an (.consU nG rfl .nil) _) mixed (fn:=Tryz.f90) Tryz.func90 (by kernel_rfl) (by kernel_rfl) (by kernel_rfl) (by kernel_rfl) (by kernel_rfl) (by kernel_rfl) (Λ:=fun x=>find [(Kv,K5)]) ?_ ?_
 ·rintro ⟨xs,m,⟨⟩⟩ hw hn
  exact LoopsOKp.at (by kernel_rfl) (.cons (by kernel_rfl) (Ma) .nil)
 ·rintro ⟨xs,m,⟨⟩⟩ hw hn
  exact KC xs m (vb (gO hw))
theorem Kz (xs:List Mir.Strip) (m:Mir.Strip) :(evPat (az [Je] Tryz.f118) (fun _=>none) Tryz.f118 (qIF 119) rA (xs,m,())).sat fun z_=>z_ =((QR 119) (xs,m,())).2:=by
 refine cast (by kernel_rfl) (?_ :(decide (vE (fdI (bt m) xs 0)≥0),m,()) =(xs.any (bt m),m,()))
 have e:=Bp (p:=bt m) (l:=xs) (i:=0)
 rw [←e]
 cases hf:fdI (bt m) xs 0 with
 | none=>rfl
 | some k=>
  have:=IJ hf
  simp [this,vE]
def Pz:FuncId×Ctr:=(118,aj KE (qIF 119) rA (QR 119))
theorem Mq:CtrOK Tryz.prog KE 118 (aj KE (qIF 119) rA (QR 119)):=by
 refine aO (C:=az [Je] Tryz.f118) (an (.consU Ms rfl .nil) _) mixed (fn:=Tryz.f118) Tryz.func118 (by kernel_rfl) (by kernel_rfl) (by kernel_rfl) (by kernel_rfl) (by kernel_rfl) (by kernel_rfl) (Λ:=fun _ _=>none) ?_ ?_
 ·exact fun _ _ _ _ _ _ _ _ h=>by cases h
 ·rintro ⟨xs,m,⟨⟩⟩ hw hn
  exact Kz xs m
noncomputable def lpD0:Lp:=(⟨0,az [pf] Tryz.f69,(fun _=>none),(bA Tryz.f69 0 0),qD0,xD0⟩:Lp)
theorem Ro (l:List Mir.Strip) (n:Int) (i:Int) (s:List ByteArray) (m:Int) (j:Int) (r:Rules) (b:Mir.Book) (x:Mir.Strip) (hi:wF (l,n,i,s,m,j,r,b,x,())) :(Go.Mir.stepG lpD0 jl (fun y:Den (tyP lpD0.q)=>wF y∧JE y<JE (l,n,i,s,m,j,r,b,x,())) (l,n,i,s,m,j,r,b,x,())∧Go.Mir.stepE lpD0 jl (l,n,i,s,m,j,r,b,x,())=jl (l,n,i,s,m,j,r,b,x,())):=by
 refine cast (by kernel_rfl) (?_ :((decide (j<m)=true→(0≤j∧j <(↑s.length:Int))∧((!(bF (s.getD j.toNat (dflt Ty.str))).2)=true→True)∧((!(bF (s.getD j.toNat (dflt Ty.str))).2)=false→wF (l,n,i,s,m,IntKind.i64.wrap (j+1),r,b,x,())∧JE (l,n,i,s,m,IntKind.i64.wrap (j+1),r,b,x,())<JE (l,n,i,s,m,j,r,b,x,())))∧(decide (j<m)=false→True))∧(cond (decide (j<m)) (cond (!(bF (s.getD j.toNat (dflt Ty.str))).2) (Sum.inr (4,())) (jl (l,n,i,s,m,IntKind.i64.wrap (j+1),r,b,x,()))) (Sum.inl (l,n,i,r,b,x,())))=jl (l,n,i,s,m,j,r,b,x,()))
 obtain ⟨⟨h1,h1b⟩,h2,h3⟩:=hi
 have h1:m =(s.length:Int):=h1
 have h1b:s.length≤4000:=h1b
 have h2:0≤j:=h2
 have h3:j≤m:=h3
 refine fv (fun h=>?_) (fun h=>?_)
 ·have e1:IntKind.i64.wrap (j+1)=j+1:=aL (by omega) (by omega)
  have hd:s.drop j.toNat=s.getD j.toNat (dflt Ty.str)::s.drop (j+1).toNat:=aP h2 (by omega) _
  generalize s.getD j.toNat (dflt Ty.str)=w at *
  rw [e1]
  refine ⟨⟨⟨h2,by omega⟩,fun _=>trivial,fun _=>⟨⟨⟨h1,h1b⟩,?_,?_⟩,?_⟩⟩,?_⟩
  ·show 0≤j+1;omega
  ·show j+1≤m;omega
  ·show (m - (j+1)).toNat <(m - j).toNat;omega
  ·unfold jl
   simp only
   rw [hd,List.any_cons]
   cases (bF w).2 <;> rfl
 ·unfold jl
  simp only
  rw [aG (l:=s) (by omega)]
  rfl
noncomputable def TW:LoopSum:=ai lpD0 jl wF
noncomputable def Tp:Nat:=rid (bA Tryz.f69 0 0)
theorem PT:LoopOKp Tryz.prog 0 Tryz.f69.ntmps (bA Tryz.f69 0 0) (ai lpD0 jl wF):=
 ax lpD0 (an (.consU na rfl .nil) _) mixed (fun b hb S hS=>by cases hS) jl wF JE (fun |⟨l,n,i,s,m,j,r,b,x,⟨⟩⟩,hi=>Ro l n i s m j r b x hi)
noncomputable def lpD1:Lp:=(⟨0,az [pf,Pz,k25,PA] Tryz.f69,(find [(Tp,TW)]),(aq Tryz.f69 0),qD1,xD1⟩:Lp)
theorem Rp (l:List Mir.Strip) (n:Int) (i:Int) (r:Rules) (b:Mir.Book) (hi:tv (l,n,i,r,b,())) :(Go.Mir.stepG lpD1 iR (fun y:Den (tyP lpD1.q)=>tv y∧D4 y<D4 (l,n,i,r,b,())) (l,n,i,r,b,())∧Go.Mir.stepE lpD1 iR (l,n,i,r,b,())=iR (l,n,i,r,b,())):=by
 refine cast (by kernel_rfl) (?_:let r1:Int:=(↑(l.getD i.toNat (dflt (Ty.nm Nm.Strip))).2.length:Int);let r2:Bool:=(List.drop (Int.toNat 0) (List.take i.toNat b.3)).any (bt (l.getD i.toNat (dflt (Ty.nm Nm.Strip))));let r3:Bool:=cond (decide ((l.getD i.toNat (dflt (Ty.nm Nm.Strip))).1<1)) true (decide ((l.getD i.toNat (dflt (Ty.nm Nm.Strip))).1>r.2));let r4:Bool:=isL (jl (l,n,i,(l.getD i.toNat (dflt (Ty.nm Nm.Strip))).2,r1,0,r,b,l.getD i.toNat (dflt (Ty.nm Nm.Strip)),()));let r5:List Mir.Strip×Int×Int×Rules×Mir.Book×Mir.Strip×PUnit:=oc (dflt (tSts.prod (I.prod (I.prod ((Ty.nm Nm.Rules).prod ((Ty.nm Nm.Book).prod (tSt.prod Ty.unit))))))) (jl (l,n,i,(l.getD i.toNat (dflt (Ty.nm Nm.Strip))).2,r1,0,r,b,l.getD i.toNat (dflt (Ty.nm Nm.Strip)),()));let r6:Bool:=cY r5.2.2.2.2.2.1.3;let r7:Bool:=(ofW r5.2.2.2.2.2.1.3).2.toList ==(ByteArray.mk #[]).toList;let r8:Bool:=cond r6 (cond (decide (r5.2.2.2.2.2.1.4<1)) true (decide (r5.2.2.2.2.2.1.4>r5.2.2.2.1.2))) false;let r9:Bool:=cond r8 r8 (cond (!r6) (r5.2.2.2.2.2.1.4 != 0) false);((decide (i<n)=true→(0≤i∧i <(↑l.length:Int))∧(r3=true→True)∧(r3=false→((0:Int)≤0∧0≤i∧i≤(↑b.3.length:Int))∧(r2=true→True)∧(r2=false→((cg fun x=>none)∧(r1 =(↑(l.getD i.toNat (dflt (Ty.nm Nm.Strip))).2.length:Int)∧(l.getD i.toNat (dflt (Ty.nm Nm.Strip))).2.length≤(4000:Nat))∧(0:Int)≤0∧0≤r1)∧(r4=true→(r7=true→True)∧(r7=false→(r9=true→True)∧(r9=false→tv (r5.1,r5.2.1,IntKind.i64.wrap (r5.2.2.1+1),r5.2.2.2.1,r5.2.2.2.2.1,())∧D4 (r5.1,r5.2.1,IntKind.i64.wrap (r5.2.2.1+1),r5.2.2.2.1,r5.2.2.2.2.1,())<D4 (l,n,i,r,b,()))))∧(r4=false→True))))∧(decide (i<n)=false→True))∧(cond (decide (i<n)) (cond r3 (Sum.inr (2,())) (cond r2 (Sum.inr (7,())) (cond r4 (cond r7 (Sum.inr (3,())) (cond r9 (Sum.inr (1,())) (iR (r5.1,r5.2.1,IntKind.i64.wrap (r5.2.2.1+1),r5.2.2.2.1,r5.2.2.2.2.1,())))) (Sum.inr (jT (dflt (I.prod Ty.unit)) (jl (l,n,i,(l.getD i.toNat (dflt (Ty.nm Nm.Strip))).2,r1,0,r,b,l.getD i.toNat (dflt (Ty.nm Nm.Strip)),()))))))) (Sum.inl ()))=iR (l,n,i,r,b,()))
 intro r1 r2 r3 r4 r5 r6 r7 r8 r9
 clear_value (hr1:r1=_) (hr2:r2=_) (hr3:r3=_) (hr4:r4=_) (hr5:r5=_) (hr6:r6=_) (hr7:r7=_) (hr8:r8=_) (hr9:r9=_)
 obtain ⟨⟨h1,h1a,h1b⟩,⟨h2,h3⟩,hbl⟩:=hi
 have h1:n =(l.length:Int):=h1
 have h1a:l.length≤4000:=h1a
 have h2:0≤i:=h2
 have h3:i≤n:=h3
 have hbl:b.Strips=l:=hbl
 refine fv (fun h=>?_) (fun h=>?_)
 ·have e1:IntKind.i64.wrap (i+1)=i+1:=aL (by omega) (by omega)
  have hd:l.drop i.toNat=l.getD i.toNat (dflt (Ty.nm Nm.Strip))::l.drop (i+1).toNat:=aP h2 (by omega) _
  have ht:l.take (i+1).toNat=l.take i.toNat++[l.getD i.toNat (dflt (Ty.nm Nm.Strip))]:=pP h2 (by omega) _
  have hm:l.getD i.toNat (dflt (Ty.nm Nm.Strip))∈l:=List.mem_of_mem_drop (i:=i.toNat) (by rw [hd];exact List.mem_cons_self)
  have hx:=h1b _ hm
  generalize l.getD i.toNat (dflt (Ty.nm Nm.Strip))=x at *
  have e0:jl (l,n,i,x.2,r1,0,r,b,x,())=if x.Symbols.any (fun w=>!(bF w).2) then .inr (4,()) else .inl (l,n,i,r,b,x,()):=rfl
  rw [e0] at hr4 hr5 ⊢
  have h20:r2 =(l.take i.toNat).any (bt x):=by rw [hr2,hbl];rfl
  have e5:x.Symbols.any (fun w=>!(bF w).2)=false→r5 =(l,n,i,r,b,x,()):=fun hz=>by rw [hr5,hz];rfl
  have e4:r4=!x.Symbols.any (fun w=>!(bF w).2):=by
   rw [hr4]
   cases x.Symbols.any (fun w=>!(bF w).2) <;> rfl
  have key:iR (l,n,i,r,b,())=bif r3 then .inr (2,()) else bif r2 then .inr (7,()) else bif r4 then (bif om x.How then .inr (3,()) else bif (cY x.How&&(decide (x.Bowler<1)||decide (x.Bowler>r.Side))||!cY x.How&&x.Bowler != 0) then .inr (1,()) else iR (l,n,i+1,r,b,())) else .inr (4,()):=by
   have e3:r3 =(decide (x.Player<1)||decide (x.Player>r.Side)):=by rw [hr3];cases decide (x.Player<1) <;> rfl
   show zW (aD r (l.take i.toNat) (l.drop i.toNat))=_
   rw [hd,aD]
   have e6:iR (l,n,i+1,r,b,())=zW (aD r (l.take i.toNat++[x]) (l.drop (i+1).toNat)):=by
    show zW (aD r (l.take (i+1).toNat) (l.drop (i+1).toNat))=_
    rw [ht]
   rw [e6,e3,h20,e4]
   have es:bQ r (l.take i.toNat) x=bif (decide (x.Player<1)||decide (x.Player>r.Side)) then 2 else bif (l.take i.toNat).any (bt x) then 7 else bif x.Symbols.any (fun s=>!(bF s).2) then 4 else bif om x.How then 3 else bif (cY x.How&&(decide (x.Bowler<1)||decide (x.Bowler>r.Side))||!cY x.How&&x.Bowler != 0) then 1 else 0:=by
    have cf :∀ (c:Bool) (a b:Int),(if c then a else b)=bif c then a else b:=fun c a b=>by cases c <;> rfl
    unfold bQ
    rw [cf,cf,cf,cf,cf]
    rfl
   rw [es]
   cases (decide (x.Player<1)||decide (x.Player>r.Side)) with
   | true=>rfl
   | false=>
    cases (l.take i.toNat).any (bt x) with
    | true=>rfl
    | false=>
     cases x.Symbols.any (fun w=>!(bF w).2) with
     | true=>rfl
     | false=>
      cases om x.How with
      | true=>rfl
      | false=>cases (cY x.How&&(decide (x.Bowler<1)||decide (x.Bowler>r.Side))||!cY x.How&&x.Bowler != 0) <;> rfl
  rw [key]
  have hm1:D4 (l,n,i+1,r,b,())<D4 (l,n,i,r,b,()):=by show (n - (i+1)).toNat <(n - i).toNat;omega
  have hi1:tv (l,n,i+1,r,b,()):=⟨⟨h1,h1a,h1b⟩,⟨by show 0≤i+1;omega,by show i+1≤n;omega⟩,hbl⟩
  cases hz:x.Symbols.any (fun w=>!(bF w).2) with
  | true=>
   have e4:r4=false:=by rw [e4,hz];rfl
   rw [e4]
   refine ⟨⟨⟨h2,by omega⟩,fun _=>trivial,fun _=>⟨⟨Int.le_refl _,h2,by rw [hbl];omega⟩,fun _=>trivial,fun _=>⟨⟨rfl,⟨hr1,hx⟩,Int.le_refl _,by omega⟩,fun z=>Bool.noConfusion z,fun _=>trivial⟩⟩⟩,rfl⟩
  | false=>
   have e4:r4=true:=by rw [e4,hz];rfl
   have e5:=e5 hz
   subst e5
   clear hr5
   dsimp only at *
   have e7:r7=om x.How:=hr7
   have e9:r9 =(cY x.How&&(decide (x.Bowler<1)||decide (x.Bowler>r.Side))||!cY x.How&&x.Bowler != 0):=by
    rw [hr9,hr8,hr6]
    cases cY x.How <;> cases decide (x.Bowler<1) <;> cases decide (x.Bowler>r.Side) <;> cases x.Bowler != 0 <;> rfl
   rw [e4,←e7,←e9,e1]
   refine ⟨⟨⟨h2,by omega⟩,fun _=>trivial,fun _=>⟨⟨Int.le_refl _,h2,by rw [hbl];omega⟩,fun _=>trivial,fun _=>⟨⟨rfl,⟨hr1,hx⟩,Int.le_refl _,by omega⟩,fun _=>⟨fun _=>trivial,fun _=>⟨fun _=>trivial,fun _=>⟨hi1,hm1⟩⟩⟩,fun z=>Bool.noConfusion z⟩⟩⟩,rfl⟩
 ·unfold iR
  simp only
  rw [aG (l:=l) (by omega)]
  rfl
noncomputable def Oj:LoopSum:=ai lpD1 iR tv
noncomputable def NJ:Nat:=rid (aq Tryz.f69 0)
theorem PU:LoopOKp Tryz.prog 0 Tryz.f69.ntmps (aq Tryz.f69 0) (ai lpD1 iR tv):=
 ax lpD1 (an (.consU na rfl (.consU Mq rfl (.consU UU rfl (.consU Mw rfl .nil)))) _) mixed (LoopsOKp.cons (by kernel_rfl) PT .nil) iR tv D4 (fun |⟨l,n,i,r,b,⟨⟩⟩,hi=>Rp l n i r b hi)
theorem vG (r:Rules) (b:Mir.Book) (hb:smY b.Strips) :(evPat (az [] Tryz.f69) (find [(NJ,Oj)]) Tryz.f69 qRB rP (r,b,())).sat fun z_=>z_ =(QV (r,b,())).2:=by
 refine cast (by kernel_rfl) (?_:let r1:Bool:=isL (iR (b.3,(↑b.3.length:Int),0,r,b,()));((cg fun x=>none)∧((↑b.3.length:Int) =(↑b.3.length:Int)∧smY b.3)∧((0:Int)≤0∧0≤(↑b.3.length:Int))∧b.3=b.3)∧(r1=true→(0,()) =(aD r [] b.3,()))∧(r1=false→jT (dflt (I.prod Ty.unit)) (iR (b.3,(↑b.3.length:Int),0,r,b,())) =(aD r [] b.3,())))
 intro r1
 clear_value (hr1:r1=_)
 have e:iR (b.Strips,(b.Strips.length:Int),0,r,b,())=zW (aD r [] b.Strips):=rfl
 have h1:r1=isL (zW (aD r [] b.Strips)):=by rw [hr1,←e]
 refine ⟨⟨rfl,⟨rfl,hb⟩,⟨Int.le_refl _,by omega⟩,rfl⟩,fun h=>?_,fun h=>?_⟩
 ·rw [h1] at h
  unfold zW at h
  by_cases hz:aD r [] b.Strips=0
  ·rw [hz]
  ·rw [if_neg (by simpa using hz)] at h;cases h
 ·rw [h1] at h
  show jT _ (zW (aD r [] b.Strips))=_
  unfold zW at h ⊢
  by_cases hz:aD r [] b.Strips=0
  ·rw [if_pos (by simpa using hz)] at h;cases h
  ·rw [if_neg (by simpa using hz)]
   rfl
def rj:FuncId×Ctr:=(69,aj KE qRB rP QV)
theorem zP:CtrOK Tryz.prog KE 69 (aj KE qRB rP QV):=by
 refine aO (C:=az [] Tryz.f69) (an (CtrsOK.nil) _) mixed (fn:=Tryz.f69) Tryz.func69 (by kernel_rfl) (by kernel_rfl) (by kernel_rfl) (by kernel_rfl) (by kernel_rfl) (by kernel_rfl) (Λ:=fun x=>find [(NJ,Oj)]) ?_ ?_
 ·rintro ⟨r,b,⟨⟩⟩ hw hn
  exact LoopsOKp.at (by kernel_rfl) (.cons (by kernel_rfl) (PU) .nil)
 ·rintro ⟨r,b,⟨⟩⟩ hw hn
  exact vG r b (hn _ List.mem_cons_self)
abbrev tBxs:Ty:= .slice (.nm .Box)
abbrev tmL:List (Nat×PC):= [(0,.h tSys),(1,.h tBxs),(2,.h I),(7,.h I),(17,.h tBxs),(18,.h I),(19,.h I)]
abbrev qL0:Pat:=⟨tmL++[(32,.h (.slice .str)),(33,.h I),(34,.h I)],[],0⟩
abbrev xL0:List (Lf×Pat):= [(.ext 2,⟨tmL,[],0⟩)]
abbrev TL1:Type:=List ref21_Symbol×List Mir.Box×Int×Int×List Mir.Box×Int×Int×Unit
abbrev TL0:Type:=List ref21_Symbol×List Mir.Box×Int×Int×List Mir.Box×Int×Int×List ByteArray×Int×Int×Unit
def pH:TL0→TL1
 |(a,l,c,g,xs,n,j,s,_,k,_)=>(a,l,c,g+cd a (s.drop k.toNat),xs,n,j,())
def wO:TL0→Prop
 |(a,_,_,g,_,_,j,s,m,k,_)=>(m =(s.length:Int)∧s.length≤4000)∧(0≤k∧k≤m)∧(0≤j∧j≤4000)∧(0≤g∧g≤4000*j+k)∧a.length≤aA
def JM:TL0→Nat
 |(_,_,_,_,_,_,_,_,m,k,_)=>(m - k).toNat
abbrev qL1:Pat:=⟨tmL,[],0⟩
abbrev xL1:List (Lf×Pat):= [(.ext 0,⟨[(7,.h I)],[],0⟩)]
def ovB (l:List Mir.Box) (c:Int):Int:=(l.getD c.toNat Box.zero).Over
def lE:TL1→Int×Unit
 |(a,l,c,g,xs,_,j,_)=>(g+rM a (ovB l c) (xs.drop j.toNat),())
def ri:TL1→Prop
 |(a,l,c,g,xs,n,j,_)=>(n =(xs.length:Int)∧smX xs)∧(0≤j∧j≤n)∧(0≤c∧c <(l.length:Int))∧(0≤g∧g≤4000*j)∧a.length≤aA
def zK:TL1→Nat
 |(_,_,_,_,_,n,j,_)=>(n - j).toNat
abbrev MR:Pat:=cn [tSys,tBxs,I]
def inL (c:Int) (n:Nat):Prop:=0≤c∧c <(n:Int)
def lgF (a:List ref21_Symbol) (l:List Mir.Box) (c:Int):Int:=rM a (ovB l c) (l.take (c+1).toNat)
def KP:Den (tyP MR)→List Prop×Den (tyP ny):=fun x=>([x.1.length≤aA,smX x.2.1,inL x.2.2.1 x.2.1.length],(lgF x.1 x.2.1 x.2.2.1,()))
abbrev hpX:List (Nat×PB):= [(0,.dat (.nm .Rules)),(1,.dat (.nm .Box))]
abbrev tmX:List (Nat×PC):= [(1,.h tSys),(2,.h tBxs),(3,.h I),(4,.c (.ptr 0 0)),(9,.c (.ptr 1 0))]
abbrev Va:Lf×Pat:=(.ret,⟨[(8,.h I)],[],0⟩)
abbrev qX0:Pat:=⟨tmX++[(34,.h (.slice .str)),(35,.h I),(36,.h I)],hpX,2⟩
abbrev xX0:List (Lf×Pat):= [(.ext 0,⟨tmX,hpX,2⟩),Va]
abbrev TX0:Type:=List ref21_Symbol×List Mir.Box×Int×List ByteArray×Int×Int×Rules×Mir.Box×Unit
abbrev Uw:Type:=List ref21_Symbol×List Mir.Box×Int×Rules×Mir.Box×Unit
def jq:TX0→Sum Uw (Int×Unit)
 |(a,l,c,s,_,k,r,x,_)=>if (s.drop k.toNat).all (fun w=>(aB a w).2) then .inl (a,l,c,r,x,()) else .inr (4,())
def wZ:TX0→Prop
 |(a,_,_,s,m,k,_)=>(m =(s.length:Int)∧s.length≤4000)∧(0≤k∧k≤m)∧a.length≤aA
def JT:TX0→Nat
 |(_,_,_,_,m,k,_)=>(m - k).toNat
abbrev Gb:Pat:=cn [.nm .Rules,tSys,tBxs,I]
def isS (r:Rules) (a:List ref21_Symbol):Prop:=a=bl r
def atB (l:List Mir.Box) (c:Int):Mir.Box:=l.getD c.toNat Box.zero
def KI:Den (tyP Gb)→List Prop×Den (tyP ny):=fun x=>([isS x.1 x.2.1,rdG x.1,smX x.2.2.1,inL x.2.2.2.1 x.2.2.1.length],(jw x.1 (x.2.2.1.take x.2.2.2.1.toNat) (atB x.2.2.1 x.2.2.2.1),()))
abbrev hpZ:List (Nat×PB):= [(0,.dat (.nm .Rules)),(1,.dat tSt)]
abbrev tmZ:List (Nat×PC):= [(3,.c (.ptr 0 0)),(7,.c (.ptr 1 0))]
abbrev Ul:Lf×Pat:=(.ret,⟨[(6,.h I)],[],0⟩)
abbrev qZ0:Pat:=⟨tmZ++[(29,.h tSts),(30,.h I),(31,.h I)],hpZ,2⟩
abbrev xZ0:List (Lf×Pat):= [(.ext 0,⟨tmZ,hpZ,2⟩),Ul]
abbrev TZ0:Type:=List Mir.Strip×Int×Int×Rules×Mir.Strip×Unit
def jr:TZ0→Sum (Rules×Mir.Strip×Unit) (Int×Unit)
 |(l,_,i,r,x,_)=>if (l.drop i.toNat).any (bt x) then .inr (7,()) else .inl (r,x,())
def w9:TZ0→Prop
 |(l,n,i,_)=>(n =(l.length:Int)∧l.length≤4000)∧0≤i∧i≤n
def JW:TZ0→Nat
 |(_,n,i,_)=>(n - i).toNat
abbrev qZ1:Pat:=⟨tmZ++[(42,.h (.slice .str)),(43,.h I),(44,.h I)],hpZ,2⟩
abbrev xZ1:List (Lf×Pat):= [(.ext 2,⟨tmZ,hpZ,2⟩),Ul]
abbrev TZ1:Type:=List ByteArray×Int×Int×Rules×Mir.Strip×Unit
def jt:TZ1→Sum (Rules×Mir.Strip×Unit) (Int×Unit)
 |(s,_,j,r,x,_)=>if (s.drop j.toNat).any (fun w=>decide (fD w<0)) then .inr (4,()) else .inl (r,x,())
def xa:TZ1→Prop
 |(s,m,j,_)=>(m =(s.length:Int)∧s.length≤4000)∧0≤j∧j≤m
def JX:TZ1→Nat
 |(_,m,j,_)=>(m - j).toNat
abbrev MO:Pat:=cn [.nm .Rules,tSts,I]
def atS (l:List Mir.Strip) (c:Int):Mir.Strip:=l.getD c.toNat Strip.zero
def Av:Den (tyP MO)→List Prop×Den (tyP ny):=fun x=>([smY x.2.1,inL x.2.2.1 x.2.1.length],(bQ x.1 (x.2.1.take x.2.2.1.toNat) (atS x.2.1 x.2.2.1),()))
theorem C1 (r:Rules) :(bl r).length≤aA:=by
 have h1:symsX.length=134:=by kernel_rfl
 have h2 :(1000:Nat)≤aA:=by decide
 unfold bl
 rw [List.length_map,h1]
 omega
noncomputable def lpL0:Lp:=(⟨0,az [dI] Tryz.f74,(fun _=>none),(bA Tryz.f74 0 0),qL0,xL0⟩:Lp)
theorem Ry (a:List ref21_Symbol) (l:List Mir.Box) (c:Int) (g:Int) (xs:List Mir.Box) (n:Int) (j:Int) (s:List ByteArray) (m:Int) (k:Int) (hi:wO (a,l,c,g,xs,n,j,s,m,k,())) :(Go.Mir.stepG lpL0 pH (fun y:Den (tyP lpL0.q)=>wO y∧JM y<JM (a,l,c,g,xs,n,j,s,m,k,())) (a,l,c,g,xs,n,j,s,m,k,())∧Go.Mir.stepE lpL0 pH (a,l,c,g,xs,n,j,s,m,k,())=pH (a,l,c,g,xs,n,j,s,m,k,())):=by
 refine cast (by kernel_rfl) (?_:let r1:List ref21_Symbol×List Mir.Box×Int×Int×List Mir.Box×Int×Int×PUnit:=dflt (tSys.prod (tBxs.prod (I.prod (I.prod (tBxs.prod (I.prod (I.prod Ty.unit)))))));let r2:Bool:=(aB a (s.getD k.toNat (dflt Ty.str))).1.2==1;((decide (k<m)=true→((0≤k∧k <(↑s.length:Int))∧a.length≤aA∧(r2=true→True)∧(r2=false→True))∧(true=true→wO (a,l,c,cond r2 (IntKind.i64.wrap (g+1)) g,xs,n,j,s,m,IntKind.i64.wrap (k+1),())∧JM (a,l,c,cond r2 (IntKind.i64.wrap (g+1)) g,xs,n,j,s,m,IntKind.i64.wrap (k+1),())<JM (a,l,c,g,xs,n,j,s,m,k,())))∧(decide (k<m)=false→True))∧(cond (decide (k<m)) (cond (true&&true) (pH (a,l,c,cond r2 (IntKind.i64.wrap (g+1)) g,xs,n,j,s,m,IntKind.i64.wrap (k+1),())) (cond true (pH (a,l,c,cond r2 (IntKind.i64.wrap (g+1)) g,xs,n,j,s,m,IntKind.i64.wrap (k+1),())) (cond r2 r1 r1))) (a,l,c,g,xs,n,j,()))=pH (a,l,c,g,xs,n,j,s,m,k,()))
 intro r1 r2
 clear_value (hr1:r1=_) (hr2:r2=_)
 obtain ⟨⟨h1,h1b⟩,⟨h2,h3⟩,⟨hj0,hj4⟩,⟨g0,g1⟩,ha⟩:=hi
 have h1:m =(s.length:Int):=h1
 have h1b:s.length≤4000:=h1b
 have h2:0≤k:=h2
 have h3:k≤m:=h3
 have hj0:0≤j:=hj0
 have hj4:j≤4000:=hj4
 have g0:0≤g:=g0
 have g1:g≤4000*j+k:=g1
 refine fv (fun h=>?_) (fun h=>?_)
 ·have e1:IntKind.i64.wrap (k+1)=k+1:=aL (by omega) (by omega)
  have hd:s.drop k.toNat=s.getD k.toNat (dflt Ty.str)::s.drop (k+1).toNat:=aP h2 (by omega) _
  generalize s.getD k.toNat (dflt Ty.str)=w at *
  have e2 :(bif r2 then IntKind.i64.wrap (g+1) else g)=g+gm a w:=by
   rw [hr2]
   unfold gm
   show (bif (aB a w).1.Typ==1 then _ else _)=_
   cases (aB a w).1.Typ==1 with
   | true=>exact bf (by omega) (by omega)
   | false=>show g=g+0;omega
  have hf:0≤gm a w∧gm a w≤1:=by unfold gm;split <;> decide
  rw [e1,e2]
  refine ⟨⟨⟨⟨h2,by omega⟩,ha,fun _=>trivial,fun _=>trivial⟩,fun _=>⟨⟨⟨h1,h1b⟩,⟨?_,?_⟩,⟨hj0,hj4⟩,⟨?_,?_⟩,ha⟩,?_⟩⟩,?_⟩
  ·show 0≤k+1;omega
  ·show k+1≤m;omega
  ·show 0≤g+gm a w;omega
  ·show g+gm a w≤4000*j +(k+1);omega
  ·show (m - (k+1)).toNat <(m - k).toNat;omega
  ·show (a,l,c,g+gm a w+cd a (s.drop (k+1).toNat),xs,n,j,()) =(a,l,c,g+cd a (s.drop k.toNat),xs,n,j,())
   rw [hd]
   show _ =(a,l,c,g +(gm a w+cd a (s.drop (k+1).toNat)),xs,n,j,())
   rw [Int.add_assoc]
 ·show (a,l,c,g,xs,n,j,()) =(a,l,c,g+cd a (s.drop k.toNat),xs,n,j,())
  rw [aG (l:=s) (by omega)]
  show _ =(a,l,c,g+0,xs,n,j,())
  rw [Int.add_zero]
noncomputable def TZ:LoopSum:=ai lpL0 pH wO
noncomputable def Tt:Nat:=rid (bA Tryz.f74 0 0)
theorem P2:LoopOKp Tryz.prog 0 Tryz.f74.ntmps (bA Tryz.f74 0 0) (ai lpL0 pH wO):=
 ax lpL0 (an (.consU fg rfl .nil) _) mixed (fun b hb S hS=>by cases hS) pH wO JM (fun |⟨a,l,c,g,xs,n,j,s,m,k,⟨⟩⟩,hi=>Ry a l c g xs n j s m k hi)
noncomputable def lpL1:Lp:=(⟨0,az [dI] Tryz.f74,(find [(Tt,TZ)]),(aq Tryz.f74 0),qL1,xL1⟩:Lp)
theorem Rz (a:List ref21_Symbol) (l:List Mir.Box) (c:Int) (g:Int) (xs:List Mir.Box) (n:Int) (j:Int) (hi:ri (a,l,c,g,xs,n,j,())) :(Go.Mir.stepG lpL1 lE (fun y:Den (tyP lpL1.q)=>ri y∧zK y<zK (a,l,c,g,xs,n,j,())) (a,l,c,g,xs,n,j,())∧Go.Mir.stepE lpL1 lE (a,l,c,g,xs,n,j,())=lE (a,l,c,g,xs,n,j,())):=by
 refine cast (by kernel_rfl) (?_:let r1:Int:=(↑(xs.getD j.toNat (dflt (Ty.nm Nm.Box))).3.length:Int);let r2:Bool:=(xs.getD j.toNat (dflt (Ty.nm Nm.Box))).1 !=(l.getD c.toNat (dflt (Ty.nm Nm.Box))).1;((decide (j<n)=true→(0≤j∧j <(↑xs.length:Int))∧(0≤c∧c <(↑l.length:Int))∧(r2=true→ri (a,l,c,g,xs,n,IntKind.i64.wrap (j+1),())∧zK (a,l,c,g,xs,n,IntKind.i64.wrap (j+1),())<zK (a,l,c,g,xs,n,j,()))∧(r2=false→((cg fun x=>none)∧(r1 =(↑(xs.getD j.toNat (dflt (Ty.nm Nm.Box))).3.length:Int)∧(xs.getD j.toNat (dflt (Ty.nm Nm.Box))).3.length≤(4000:Nat))∧((0:Int)≤0∧0≤r1)∧(0≤j∧j≤4000)∧(0≤g∧g≤4000*j+0)∧a.length≤aA)∧ri (a,l,c,g+cd a (List.drop (Int.toNat 0) (xs.getD j.toNat (dflt (Ty.nm Nm.Box))).3),xs,n,IntKind.i64.wrap (j+1),())∧zK (a,l,c,g+cd a (List.drop (Int.toNat 0) (xs.getD j.toNat (dflt (Ty.nm Nm.Box))).3),xs,n,IntKind.i64.wrap (j+1),())<zK (a,l,c,g,xs,n,j,())))∧(decide (j<n)=false→True))∧(cond (decide (j<n)) (cond r2 (lE (a,l,c,g,xs,n,IntKind.i64.wrap (j+1),())) (lE (a,l,c,g+cd a (List.drop (Int.toNat 0) (xs.getD j.toNat (dflt (Ty.nm Nm.Box))).3),xs,n,IntKind.i64.wrap (j+1),()))) (g,()))=lE (a,l,c,g,xs,n,j,()))
 intro r1 r2
 clear_value (hr1:r1=_) (hr2:r2=_)
 obtain ⟨⟨h1,h1a,h1b⟩,⟨h2,h3⟩,⟨hc0,hc1⟩,⟨g0,g1⟩,ha⟩:=hi
 have h1:n =(xs.length:Int):=h1
 have h1a:xs.length≤4000:=h1a
 have h2:0≤j:=h2
 have h3:j≤n:=h3
 have g0:0≤g:=g0
 have g1:g≤4000*j:=g1
 refine fv (fun h=>?_) (fun h=>?_)
 ·have e1:IntKind.i64.wrap (j+1)=j+1:=aL (by omega) (by omega)
  have hd:xs.drop j.toNat=xs.getD j.toNat (dflt (Ty.nm Nm.Box))::xs.drop (j+1).toNat:=aP h2 (by omega) _
  have hm:xs.getD j.toNat (dflt (Ty.nm Nm.Box))∈xs:=List.mem_of_mem_drop (i:=j.toNat) (by rw [hd];exact List.mem_cons_self)
  have hx:=h1b _ hm
  generalize xs.getD j.toNat (dflt (Ty.nm Nm.Box))=w at *
  have hf:=wj a w.Symbols
  have er:r2 =(w.Over != ovB l c):=hr2
  have key:lE (a,l,c,g,xs,n,j,())=bif r2 then lE (a,l,c,g,xs,n,j+1,()) else lE (a,l,c,g+cd a w.Symbols,xs,n,j+1,()):=by
   show (g+rM a (ovB l c) (xs.drop j.toNat),())=bif r2 then (g+rM a (ovB l c) (xs.drop (j+1).toNat),()) else (g+cd a w.Symbols+rM a (ovB l c) (xs.drop (j+1).toNat),())
   rw [hd,rM,er,bne]
   cases w.Over==ovB l c with
   | true=>show (g +(cd a w.Symbols+_),())=_;rw [←Int.add_assoc];rfl
   | false=>show (g +(0+_),())=_;rw [Int.zero_add];rfl
  rw [e1,key]
  have hmu :∀ v,zK (a,l,c,v,xs,n,j+1,())<zK (a,l,c,g,xs,n,j,()):=fun v=>by show (n - (j+1)).toNat <(n - j).toNat;omega
  have hin :∀ v,0≤v→v≤4000 *(j+1)→ri (a,l,c,v,xs,n,j+1,()):=fun v a b=>⟨⟨h1,h1a,h1b⟩,⟨by show 0≤j+1;omega,by show j+1≤n;omega⟩,⟨hc0,hc1⟩,⟨a,b⟩,ha⟩
  refine ⟨⟨⟨h2,by omega⟩,⟨hc0,hc1⟩,fun _=>⟨hin _ g0 (by omega),hmu _⟩,fun _=>⟨⟨rfl,⟨hr1,hx⟩,⟨Int.le_refl _,by omega⟩,⟨h2,by omega⟩,⟨g0,by omega⟩,ha⟩,hin _ (by show 0≤g+cd a w.Symbols;omega) (by show g+cd a w.Symbols≤_;omega),hmu _⟩⟩,rfl⟩
 ·show (g,()) =(g+rM a (ovB l c) (xs.drop j.toNat),())
  rw [aG (l:=xs) (by omega)]
  show _ =(g+0,())
  rw [Int.add_zero]
noncomputable def Ot:LoopSum:=ai lpL1 lE ri
noncomputable def NQ:Nat:=rid (aq Tryz.f74 0)
theorem P3:LoopOKp Tryz.prog 0 Tryz.f74.ntmps (aq Tryz.f74 0) (ai lpL1 lE ri):=
 ax lpL1 (an (.consU fg rfl .nil) _) mixed (LoopsOKp.cons (by kernel_rfl) P2 .nil) lE ri zK (fun |⟨a,l,c,g,xs,n,j,⟨⟩⟩,hi=>Rz a l c g xs n j hi)
theorem CU (a:List ref21_Symbol) (l:List Mir.Box) (c:Int) (ha:a.length≤aA) (hl:smX l) (hc:inL c l.length) :(evPat (az [dI] Tryz.f74) (find [(NQ,Ot)]) Tryz.f74 MR ny (a,l,c,())).sat fun z_=>z_ =(KP (a,l,c,())).2:=by
 refine cast (by kernel_rfl) (?_:let r1:Int:=IntKind.i64.wrap (c+1);let r2:List Mir.Box:=List.drop (Int.toNat 0) (List.take r1.toNat l);let r3:Int:=(↑r2.length:Int);((0:Int)≤0∧0≤r1∧r1≤(↑l.length:Int))∧((cg fun x=>none)∧(r3 =(↑r2.length:Int)∧smX r2)∧((0:Int)≤0∧0≤r3)∧(0≤c∧c <(↑l.length:Int))∧((0:Int)≤0∧(0:Int)≤(4000:Int)*0)∧a.length≤aA)∧(0+rM a (ovB l c) (List.drop (Int.toNat 0) r2),()) =(lgF a l c,()))
 intro r1 r2 r3
 clear_value (hr1:r1=_) (hr2:r2=_) (hr3:r3=_)
 obtain ⟨c0,c1⟩:=id hc
 have hl4:=hl.1
 have e1:r1=c+1:=by rw [hr1];exact bf (by omega) (by omega)
 have e2:r2=l.take (c+1).toNat:=by rw [hr2,e1];rfl
 refine ⟨⟨Int.le_refl _,by omega,by omega⟩,⟨rfl,⟨hr3,?_,fun x hx=>?_⟩,⟨Int.le_refl _,by omega⟩,hc,⟨Int.le_refl _,by decide⟩,ha⟩,?_⟩
 ·rw [e2,List.length_take];omega
 ·rw [e2] at hx
  exact hl.2 x (List.mem_of_mem_take hx)
 ·rw [e2]
  show (0+rM a (ovB l c) (l.take (c+1).toNat),())=_
  rw [Int.zero_add]
  rfl
def xj:FuncId×Ctr:=(74,aj KE MR ny KP)
theorem Ej:CtrOK Tryz.prog KE 74 (aj KE MR ny KP):=by
 refine aO (C:=az [dI] Tryz.f74) (an (.consU fg rfl .nil) _) mixed (fn:=Tryz.f74) Tryz.func74 (by kernel_rfl) (by kernel_rfl) (by kernel_rfl) (by kernel_rfl) (by kernel_rfl) (by kernel_rfl) (Λ:=fun x=>find [(NQ,Ot)]) ?_ ?_
 ·rintro ⟨a,l,c,⟨⟩⟩ hw hn
  exact LoopsOKp.at (by kernel_rfl) (.cons (by kernel_rfl) (P3) .nil)
 ·rintro ⟨a,l,c,⟨⟩⟩ hw hn
  exact CU a l c (hn _ List.mem_cons_self) (hn _ (List.mem_cons_of_mem _ List.mem_cons_self)) (hn _ (List.mem_cons_of_mem _ (List.mem_cons_of_mem _ List.mem_cons_self)))
noncomputable def lpX0:Lp:=(⟨0,az [dI] Tryz.f32,(fun _=>none),(aq Tryz.f32 0),qX0,xX0⟩:Lp)
theorem RN (a:List ref21_Symbol) (l:List Mir.Box) (c:Int) (s:List ByteArray) (m:Int) (k:Int) (r:Rules) (x:Mir.Box) (hi:wZ (a,l,c,s,m,k,r,x,())) :(Go.Mir.stepG lpX0 jq (fun y:Den (tyP lpX0.q)=>wZ y∧JT y<JT (a,l,c,s,m,k,r,x,())) (a,l,c,s,m,k,r,x,())∧Go.Mir.stepE lpX0 jq (a,l,c,s,m,k,r,x,())=jq (a,l,c,s,m,k,r,x,())):=by
 refine cast (by kernel_rfl) (?_ :((decide (k<m)=true→(0≤k∧k <(↑s.length:Int))∧a.length≤aA∧((!(aB a (s.getD k.toNat (dflt Ty.str))).2)=true→True)∧((!(aB a (s.getD k.toNat (dflt Ty.str))).2)=false→wZ (a,l,c,s,m,IntKind.i64.wrap (k+1),r,x,())∧JT (a,l,c,s,m,IntKind.i64.wrap (k+1),r,x,())<JT (a,l,c,s,m,k,r,x,())))∧(decide (k<m)=false→True))∧(cond (decide (k<m)) (cond (!(aB a (s.getD k.toNat (dflt Ty.str))).2) (Sum.inr (4,())) (jq (a,l,c,s,m,IntKind.i64.wrap (k+1),r,x,()))) (Sum.inl (a,l,c,r,x,())))=jq (a,l,c,s,m,k,r,x,()))
 obtain ⟨⟨h1,h1b⟩,⟨h2,h3⟩,ha⟩:=hi
 have h1:m =(s.length:Int):=h1
 have h1b:s.length≤4000:=h1b
 have h2:0≤k:=h2
 have h3:k≤m:=h3
 refine fv (fun h=>?_) (fun h=>?_)
 ·have e1:IntKind.i64.wrap (k+1)=k+1:=aL (by omega) (by omega)
  have hd:s.drop k.toNat=s.getD k.toNat (dflt Ty.str)::s.drop (k+1).toNat:=aP h2 (by omega) _
  generalize s.getD k.toNat (dflt Ty.str)=w at *
  rw [e1]
  refine ⟨⟨⟨h2,by omega⟩,ha,fun _=>trivial,fun _=>⟨⟨⟨h1,h1b⟩,⟨?_,?_⟩,ha⟩,?_⟩⟩,?_⟩
  ·show 0≤k+1;omega
  ·show k+1≤m;omega
  ·show (m - (k+1)).toNat <(m - k).toNat;omega
  ·unfold jq
   simp only
   rw [hd,List.all_cons]
   cases (aB a w).2 <;> rfl
 ·unfold jq
  simp only
  rw [aG (l:=s) (by omega)]
  rfl
noncomputable def OH:LoopSum:=ai lpX0 jq wZ
noncomputable def N3:Nat:=rid (aq Tryz.f32 0)
theorem Qh:LoopOKp Tryz.prog 0 Tryz.f32.ntmps (aq Tryz.f32 0) (ai lpX0 jq wZ):=
 ax lpX0 (an (.consU fg rfl .nil) _) mixed (fun b hb S hS=>by cases hS) jq wZ JT (fun |⟨a,l,c,s,m,k,r,x,⟨⟩⟩,hi=>RN a l c s m k r x hi)
theorem Hz (r:Rules) (a:List ref21_Symbol) (l:List Mir.Box) (c:Int) (ha:isS r a) (hr:rdG r) (hl:smX l) (hc:inL c l.length) :(evPat (az [dI,xj] Tryz.f32) (find [(N3,OH)]) Tryz.f32 Gb ny (r,a,l,c,())).sat fun z_=>z_ =(KI (r,a,l,c,())).2:=by
 refine cast (by kernel_rfl) (?_:let r1:Int:=(↑(l.getD c.toNat (dflt (Ty.nm Nm.Box))).3.length:Int);let r2:Bool:=r1==0;let r3:Bool:=cond (decide ((l.getD c.toNat (dflt (Ty.nm Nm.Box))).2<1)) true (decide ((l.getD c.toNat (dflt (Ty.nm Nm.Box))).2>r.2));let r4:Bool:=isL (jq (a,l,c,(l.getD c.toNat (dflt (Ty.nm Nm.Box))).3,r1,0,r,l.getD c.toNat (dflt (Ty.nm Nm.Box)),()));let r5:List ref21_Symbol×List Mir.Box×Int×Rules×Mir.Box×PUnit:=oc (dflt (tSys.prod (tBxs.prod (I.prod ((Ty.nm Nm.Rules).prod ((Ty.nm Nm.Box).prod Ty.unit)))))) (jq (a,l,c,(l.getD c.toNat (dflt (Ty.nm Nm.Box))).3,r1,0,r,l.getD c.toNat (dflt (Ty.nm Nm.Box)),()));let r6:Int:=IntKind.i64.wrap (r5.2.2.1 - 1);let r7:Bool:=decide (r5.2.2.1>0);let r8:Box:=r5.2.1.getD r6.toNat (dflt (Ty.nm Nm.Box));let r9:Int:=lgF r5.1 r5.2.1 r5.2.2.1;let r10:Bool:=r5.2.2.2.2.1.2==r8.2;let r11:Bool:=lgF r5.1 r5.2.1 r6==r5.2.2.2.1.5;let r12:Bool:=decide (r9>r5.2.2.2.1.5);let r13:Bool:=r5.2.2.2.2.1.1 != cond r7 (cond r11 (IntKind.i64.wrap (r8.1+1)) r8.1) 0;(0≤c∧c <(↑l.length:Int))∧(r3=true→(2,()) =(jw r (List.take c.toNat l) (atB l c),()))∧(r3=false→(r2=true→(4,()) =(jw r (List.take c.toNat l) (atB l c),()))∧(r2=false→((cg fun x=>none)∧(r1 =(↑(l.getD c.toNat (dflt (Ty.nm Nm.Box))).3.length:Int)∧(l.getD c.toNat (dflt (Ty.nm Nm.Box))).3.length≤(4000:Nat))∧((0:Int)≤0∧0≤r1)∧a.length≤aA)∧(r4=true→((r7=true→(0≤r6∧r6 <(↑r5.2.1.length:Int))∧r5.1.length≤aA∧smX r5.2.1∧inL r6 r5.2.1.length∧(r11=true→True)∧(r11=false→(0≤r6∧r6 <(↑r5.2.1.length:Int))∧(r10=true→(8,()) =(jw r (List.take c.toNat l) (atB l c),()))∧(r10=false→True)))∧(r7=false→True))∧((cond r7 (cond r11 true (!r10)) true)=true→(r13=true→(8,()) =(jw r (List.take c.toNat l) (atB l c),()))∧(r13=false→r5.1.length≤aA∧smX r5.2.1∧inL r5.2.2.1 r5.2.1.length∧(r12=true→(9,()) =(jw r (List.take c.toNat l) (atB l c),()))∧(r12=false→(0,()) =(jw r (List.take c.toNat l) (atB l c),())))))∧(r4=false→jT (dflt (I.prod Ty.unit)) (jq (a,l,c,(l.getD c.toNat (dflt (Ty.nm Nm.Box))).3,r1,0,r,l.getD c.toNat (dflt (Ty.nm Nm.Box)),())) =(jw r (List.take c.toNat l) (atB l c),())))))
 intro r1 r2 r3 r4 r5 r6 r7 r8 r9 r10 r11 r12 r13
 clear_value (hr1:r1=_) (hr2:r2=_) (hr3:r3=_) (hr4:r4=_) (hr5:r5=_) (hr6:r6=_) (hr7:r7=_) (hr8:r8=_) (hr9:r9=_) (hr10:r10=_) (hr11:r11=_) (hr12:r12=_) (hr13:r13=_)
 subst ha
 obtain ⟨c0,c1⟩:=id hc
 have hl4:=hl.1
 have hal:=C1 r
 have hx:l.getD c.toNat (dflt (Ty.nm Nm.Box))=atB l c:=rfl
 have hm:atB l c∈l:=by
  unfold atB
  rw [List.getD_eq_getElem?_getD,List.getElem?_eq_getElem (by omega)]
  exact List.getElem_mem _
 have hs4:=hl.2 _ hm
 have ht:l.take (c+1).toNat=l.take c.toNat++[atB l c]:=pP c0 (by omega) _
 have e9:lgF (bl r) l c=lI r (atB l c).Over (l.take c.toNat++[atB l c]):=by
  unfold lgF
  rw [zC,ht]
  rfl
 rw [hx] at hr1 hr3 hr4 hr5 ⊢
 generalize hxx:atB l c=x at *
 have e0:jq (bl r,l,c,x.3,r1,0,r,x,())=if x.Symbols.all (fun w=>(aB (bl r) w).2) then .inl (bl r,l,c,r,x,()) else .inr (4,()):=rfl
 rw [e0] at hr4 hr5 ⊢
 have ef:x.Symbols.all (fun w=>(aB (bl r) w).2)=!x.Symbols.any (fun s=>(rdE r s).isNone):=by
  rw [List.all_eq_not_any_not]
  congr 2
  funext w
  rw [zh]
  cases rdE r w <;> rfl
 have e3:r3=vc r x:=by
  rw [hr3]
  unfold vc
  cases decide (x.Bowler<1) <;> rfl
 have e2:r2=x.Symbols.isEmpty:=by
  rw [hr2,hr1]
  cases x.Symbols with
  | nil=>rfl
  | cons w l=>
   show (((w::l).length:Int)==0)=false
   rw [List.length_cons]
   simp
   omega
 have key:jw r (l.take c.toNat) x=bif r3 then 2 else bif r2 then 4 else bif x.Symbols.any (fun s=>(rdE r s).isNone) then 4 else Er r (l.take c.toNat) x:=by
  rw [e3,e2]
  unfold jw
  cases vc r x <;> cases x.Symbols.isEmpty <;> cases x.Symbols.any (fun s=>(rdE r s).isNone) <;> rfl
 rw [key]
 refine ⟨⟨c0,c1⟩,fun h3=>by rw [h3];rfl,fun h3=>⟨fun h2=>by rw [h3,h2];rfl,fun h2=>⟨⟨rfl,⟨hr1,hs4⟩,⟨Int.le_refl _,by omega⟩,hal⟩,fun h4=>?_,fun h4=>?_⟩⟩⟩
 ·cases hA:x.Symbols.all (fun w=>(aB (bl r) w).2) with
  | false=>rw [hr4,hA] at h4;cases h4
  | true=>
   rw [hA] at ef hr5
   have hN:x.Symbols.any (fun s=>(rdE r s).isNone)=false:=by
    cases hB:x.Symbols.any (fun s=>(rdE r s).isNone) with
    | false=>rfl
    | true=>rw [hB] at ef;cases ef
   have e5:r5 =(bl r,l,c,r,x,()):=hr5
   subst e5
   clear hr5
   dsimp only at *
   rw [h3,h2,hN]
   simp only [cond_false]
   have e6:c>0→r6=c - 1∧0≤r6∧r6 <(l.length:Int):=fun h=>by
    have:r6=c - 1:=by rw [hr6];exact bf (by omega) (by omega)
    exact ⟨this,by omega,by omega⟩
   have e12:r12=decide (lI r x.Over (l.take c.toNat++[x])>r.Balls):=by rw [hr12,hr9,e9]
   have eo:Er r (l.take c.toNat) x=bif (r7&&(!r11&&r10)) then 8 else bif r13 then 8 else bif r12 then 9 else 0:=by
    have elim:BX r (l.take c.toNat) x=bif r12 then 9 else 0:=by
     unfold BX
     rw [e12]
     cases decide (lI r x.Over (l.take c.toNat++[x])>r.Balls) <;> rfl
    by_cases h:c>0
    ·obtain ⟨q1,q2,q3⟩:=e6 h
     have e7:r7=true:=by rw [hr7,decide_eq_true h]
     have tl:l.take c.toNat=l.take (c - 1).toNat++[r8]:=by
      have:=pP (l:=l) (i:=c - 1) (by omega) (by omega) (dflt (Ty.nm Nm.Box))
      rw [show c - 1+1=c by omega] at this
      rw [this,hr8,q1]
     have eg :(l.take c.toNat).getLast?=some r8:=by rw [tl];exact BN _ _
     have e11:r11 =(lI r r8.Over (l.take c.toNat)==r.Balls):=by
      rw [hr11]
      unfold lgF
      rw [zC,q1,show c - 1+1=c by omega]
      have:ovB l (c - 1)=r8.Over:=by rw [hr8,q1];rfl
      rw [this]
     unfold Er
     rw [eg]
     simp only
     rw [←e11,elim,e7]
     rw [e7] at hr13
     cases h11:r11 with
     | true=>
      rw [h11] at hr13
      have hr13:r13 =(x.Over != W (r8.Over+1)):=hr13
      rw [←hr13]
      cases r13 <;> rfl
     | false=>
      rw [h11] at hr13
      have hr13:r13 =(x.Over != r8.Over):=hr13
      have hr10:r10 =(x.Bowler==r8.Bowler):=hr10
      rw [←hr13,←hr10]
      cases r10 <;> cases r13 <;> rfl
    ·have hc0:c=0:=by omega
     have e7:r7=false:=by rw [hr7,decide_eq_false h]
     have en :(l.take c.toNat).getLast?=none:=by rw [hc0];rfl
     unfold Er
     rw [en]
     simp only
     rw [elim,e7]
     rw [e7] at hr13
     have hr13:r13 =(x.Over != 0):=hr13
     rw [←hr13]
     cases r13 <;> rfl
   rw [eo]
   refine ⟨⟨fun h7=>?_,fun _=>trivial⟩,fun hb=>⟨fun h13=>?_,fun h13=>⟨hal,hl,hc,fun h12=>?_,fun h12=>?_⟩⟩⟩
   ·obtain ⟨q1,q2,q3⟩:=e6 (of_decide_eq_true (hr7▸h7))
    refine ⟨⟨q2,q3⟩,hal,hl,⟨q2,q3⟩,fun _=>trivial,fun h11=>⟨⟨q2,q3⟩,fun h10=>?_,fun _=>trivial⟩⟩
    rw [h7,h11,h10]
    rfl
   ·rw [h13]
    cases r7&&(!r11&&r10) <;> rfl
   ·have :(r7&&(!r11&&r10))=false:=by revert hb;cases r7 <;> cases r11 <;> cases r10 <;> intro hb <;> first|rfl|cases hb
    rw [this,h13,h12]
    rfl
   ·have :(r7&&(!r11&&r10))=false:=by revert hb;cases r7 <;> cases r11 <;> cases r10 <;> intro hb <;> first|rfl|cases hb
    rw [this,h13,h12]
    rfl
 ·cases hA:x.Symbols.all (fun w=>(aB (bl r) w).2) with
  | true=>rw [hr4,hA] at h4;cases h4
  | false=>
   rw [hA] at ef
   have hN:x.Symbols.any (fun s=>(rdE r s).isNone)=true:=by
    cases hB:x.Symbols.any (fun s=>(rdE r s).isNone) with
    | true=>rfl
    | false=>rw [hB] at ef;cases ef
   rw [h3,h2,hN]
   rfl
def L5:FuncId×Ctr:=(32,aj KE Gb ny KI)
theorem J4:CtrOK Tryz.prog KE 32 (aj KE Gb ny KI):=by
 refine aO (C:=az [dI,xj] Tryz.f32) (an (.consU fg rfl (.consU Ej rfl .nil)) _) mixed (fn:=Tryz.f32) Tryz.func32 (by kernel_rfl) (by kernel_rfl) (by kernel_rfl) (by kernel_rfl) (by kernel_rfl) (by kernel_rfl) (Λ:=fun x=>find [(N3,OH)]) ?_ ?_
 ·rintro ⟨r,a,l,c,⟨⟩⟩ hw hn
  exact LoopsOKp.at (by kernel_rfl) (.cons (by kernel_rfl) (Qh) .nil)
 ·rintro ⟨r,a,l,c,⟨⟩⟩ hw hn
  exact Hz r a l c (hn _ List.mem_cons_self) (hn _ (List.mem_cons_of_mem _ List.mem_cons_self)) (hn _ (List.mem_cons_of_mem _ (List.mem_cons_of_mem _ List.mem_cons_self))) (hn _ (List.mem_cons_of_mem _ (List.mem_cons_of_mem _ (List.mem_cons_of_mem _ List.mem_cons_self))))
noncomputable def lpZ0:Lp:=(⟨0,az [] Tryz.f33,(fun _=>none),(aq Tryz.f33 0),qZ0,xZ0⟩:Lp)
theorem RQ (l:List Mir.Strip) (n:Int) (i:Int) (r:Rules) (x:Mir.Strip) (hi:w9 (l,n,i,r,x,())) :(Go.Mir.stepG lpZ0 jr (fun y:Den (tyP lpZ0.q)=>w9 y∧JW y<JW (l,n,i,r,x,())) (l,n,i,r,x,())∧Go.Mir.stepE lpZ0 jr (l,n,i,r,x,())=jr (l,n,i,r,x,())):=by
 refine cast (by kernel_rfl) (?_:let r1:Bool:=(l.getD i.toNat (dflt (Ty.nm Nm.Strip))).1==x.1;((decide (i<n)=true→(0≤i∧i <(↑l.length:Int))∧(r1=true→True)∧(r1=false→w9 (l,n,IntKind.i64.wrap (i+1),r,x,())∧JW (l,n,IntKind.i64.wrap (i+1),r,x,())<JW (l,n,i,r,x,())))∧(decide (i<n)=false→True))∧(cond (decide (i<n)) (cond r1 (Sum.inr (7,())) (jr (l,n,IntKind.i64.wrap (i+1),r,x,()))) (Sum.inl (r,x,())))=jr (l,n,i,r,x,()))
 intro r1
 clear_value (hr1:r1=_)
 obtain ⟨⟨h1,h1b⟩,h2,h3⟩:=hi
 have h1:n =(l.length:Int):=h1
 have h1b:l.length≤4000:=h1b
 have h2:0≤i:=h2
 have h3:i≤n:=h3
 refine fv (fun h=>?_) (fun h=>?_)
 ·have e1:IntKind.i64.wrap (i+1)=i+1:=aL (by omega) (by omega)
  have hd:l.drop i.toNat=l.getD i.toNat (dflt (Ty.nm Nm.Strip))::l.drop (i+1).toNat:=aP h2 (by omega) _
  generalize l.getD i.toNat (dflt (Ty.nm Nm.Strip))=w at *
  rw [e1]
  refine ⟨⟨⟨h2,by omega⟩,fun _=>trivial,fun _=>⟨⟨⟨h1,h1b⟩,?_,?_⟩,?_⟩⟩,?_⟩
  ·show 0≤i+1;omega
  ·show i+1≤n;omega
  ·show (n - (i+1)).toNat <(n - i).toNat;omega
  ·unfold jr
   simp only
   rw [hd,List.any_cons,hr1]
   show (bif bt x w then _ else _)=_
   cases bt x w <;> rfl
 ·unfold jr
  simp only
  rw [aG (l:=l) (by omega)]
  rfl
noncomputable def OJ:LoopSum:=ai lpZ0 jr w9
noncomputable def N5:Nat:=rid (aq Tryz.f33 0)
theorem Qk:LoopOKp Tryz.prog 0 Tryz.f33.ntmps (aq Tryz.f33 0) (ai lpZ0 jr w9):=
 ax lpZ0 (an (CtrsOK.nil) _) mixed (fun b hb S hS=>by cases hS) jr w9 JW (fun |⟨l,n,i,r,x,⟨⟩⟩,hi=>RQ l n i r x hi)
noncomputable def lpZ1:Lp:=(⟨0,az [jW] Tryz.f33,(fun _=>none),(aq Tryz.f33 1),qZ1,xZ1⟩:Lp)
theorem RU (s:List ByteArray) (m:Int) (j:Int) (r:Rules) (x:Mir.Strip) (hi:xa (s,m,j,r,x,())) :(Go.Mir.stepG lpZ1 jt (fun y:Den (tyP lpZ1.q)=>xa y∧JX y<JX (s,m,j,r,x,())) (s,m,j,r,x,())∧Go.Mir.stepE lpZ1 jt (s,m,j,r,x,())=jt (s,m,j,r,x,())):=by
 refine cast (by kernel_rfl) (?_:let r1:Bool:=decide (fD (s.getD j.toNat (dflt Ty.str))<0);((decide (j<m)=true→(0≤j∧j <(↑s.length:Int))∧(r1=true→True)∧(r1=false→xa (s,m,IntKind.i64.wrap (j+1),r,x,())∧JX (s,m,IntKind.i64.wrap (j+1),r,x,())<JX (s,m,j,r,x,())))∧(decide (j<m)=false→True))∧(cond (decide (j<m)) (cond r1 (Sum.inr (4,())) (jt (s,m,IntKind.i64.wrap (j+1),r,x,()))) (Sum.inl (r,x,())))=jt (s,m,j,r,x,()))
 intro r1
 clear_value (hr1:r1=_)
 obtain ⟨⟨h1,h1b⟩,h2,h3⟩:=hi
 have h1:m =(s.length:Int):=h1
 have h1b:s.length≤4000:=h1b
 have h2:0≤j:=h2
 have h3:j≤m:=h3
 refine fv (fun h=>?_) (fun h=>?_)
 ·have e1:IntKind.i64.wrap (j+1)=j+1:=aL (by omega) (by omega)
  have hd:s.drop j.toNat=s.getD j.toNat (dflt Ty.str)::s.drop (j+1).toNat:=aP h2 (by omega) _
  generalize s.getD j.toNat (dflt Ty.str)=w at *
  rw [e1]
  refine ⟨⟨⟨h2,by omega⟩,fun _=>trivial,fun _=>⟨⟨⟨h1,h1b⟩,?_,?_⟩,?_⟩⟩,?_⟩
  ·show 0≤j+1;omega
  ·show j+1≤m;omega
  ·show (m - (j+1)).toNat <(m - j).toNat;omega
  ·unfold jt
   simp only
   rw [hd,List.any_cons,hr1]
   cases decide (fD w<0) <;> rfl
 ·unfold jt
  simp only
  rw [aG (l:=s) (by omega)]
  rfl
noncomputable def OK:LoopSum:=ai lpZ1 jt xa
noncomputable def N6:Nat:=rid (aq Tryz.f33 1)
theorem Ql:LoopOKp Tryz.prog 0 Tryz.f33.ntmps (aq Tryz.f33 1) (ai lpZ1 jt xa):=
 ax lpZ1 (an (.consU kU rfl .nil) _) mixed (fun b hb S hS=>by cases hS) jt xa JX (fun |⟨s,m,j,r,x,⟨⟩⟩,hi=>RU s m j r x hi)
theorem vJ (r:Rules) (l:List Mir.Strip) (c:Int) (hl:smY l) (hc:inL c l.length) :(evPat (az [jW,k26,Jj] Tryz.f33) (find [(N5,OJ),(N6,OK)]) Tryz.f33 MO ny (r,l,c,())).sat fun z_=>z_ =(Av (r,l,c,())).2:=by
 refine cast (by kernel_rfl) (?_:let r1:List Mir.Strip:=List.drop (Int.toNat 0) (List.take c.toNat l);let r2:Int:=(↑r1.length:Int);let r3:Bool:=cond (decide ((l.getD c.toNat (dflt (Ty.nm Nm.Strip))).1<1)) true (decide ((l.getD c.toNat (dflt (Ty.nm Nm.Strip))).1>r.2));let r4:Bool:=isL (jr (r1,r2,0,r,l.getD c.toNat (dflt (Ty.nm Nm.Strip)),()));let r5:Rules×Mir.Strip×PUnit:=oc (dflt ((Ty.nm Nm.Rules).prod (tSt.prod Ty.unit))) (jr (r1,r2,0,r,l.getD c.toNat (dflt (Ty.nm Nm.Strip)),()));let r6:Int:=(↑r5.2.1.2.length:Int);let r7:Bool:=isL (jt (r5.2.1.2,r6,0,r5));let r8:Rules×Mir.Strip×PUnit:=oc (dflt ((Ty.nm Nm.Rules).prod (tSt.prod Ty.unit))) (jt (r5.2.1.2,r6,0,r5));let r9:Bool:=cY r8.2.1.3;let r10:Bool:=(B3 r8.2.1.3).toList ==(ByteArray.mk #[]).toList;let r11:Bool:=cond (!r9) (r8.2.1.4 != 0) false;let r12:Bool:=cond r9 (cond (decide (r8.2.1.4<1)) true (cond (decide (r8.2.1.4>r8.1.2)) true r11)) r11;(0≤c∧c <(↑l.length:Int))∧(r3=true→(2,()) =(bQ r (List.take c.toNat l) (atS l c),()))∧(r3=false→((0:Int)≤0∧0≤c∧c≤(↑l.length:Int))∧((cg fun x=>none)∧(r2 =(↑r1.length:Int)∧r1.length≤(4000:Nat))∧(0:Int)≤0∧0≤r2)∧(r4=true→((cg fun x=>none)∧(r6 =(↑r5.2.1.2.length:Int)∧r5.2.1.2.length≤(4000:Nat))∧(0:Int)≤0∧0≤r6)∧(r7=true→(r10=true→(3,()) =(bQ r (List.take c.toNat l) (atS l c),()))∧(r10=false→(r12=true→(1,()) =(bQ r (List.take c.toNat l) (atS l c),()))∧(r12=false→(0,()) =(bQ r (List.take c.toNat l) (atS l c),()))))∧(r7=false→jT (dflt (I.prod Ty.unit)) (jt (r5.2.1.2,r6,0,r5)) =(bQ r (List.take c.toNat l) (atS l c),())))∧(r4=false→jT (dflt (I.prod Ty.unit)) (jr (r1,r2,0,r,l.getD c.toNat (dflt (Ty.nm Nm.Strip)),())) =(bQ r (List.take c.toNat l) (atS l c),()))))
 intro r1 r2 r3 r4 r5 r6 r7 r8 r9 r10 r11 r12
 clear_value (hr1:r1=_) (hr2:r2=_) (hr3:r3=_) (hr4:r4=_) (hr5:r5=_) (hr6:r6=_) (hr7:r7=_) (hr8:r8=_) (hr9:r9=_) (hr10:r10=_) (hr11:r11=_) (hr12:r12=_)
 obtain ⟨c0,c1⟩:=id hc
 have hl4:=hl.1
 have hx:l.getD c.toNat (dflt (Ty.nm Nm.Strip))=atS l c:=rfl
 have hm:atS l c∈l:=by
  unfold atS
  rw [List.getD_eq_getElem?_getD,List.getElem?_eq_getElem (by omega)]
  exact List.getElem_mem _
 have hs4:=hl.2 _ hm
 rw [hx] at hr3 hr4 hr5 ⊢
 generalize hxx:atS l c=x at *
 have e1:r1=l.take c.toNat:=hr1
 have l1:r1.length≤4000:=by rw [e1,List.length_take];omega
 have e3:r3 =(decide (x.Player<1)||decide (x.Player>r.Side)):=by rw [hr3];cases decide (x.Player<1) <;> rfl
 have key:bQ r (l.take c.toNat) x=bif r3 then 2 else bif (l.take c.toNat).any (bt x) then 7 else bif x.Symbols.any (fun w=>decide (fD w<0)) then 4 else bif om x.How then 3 else bif (cY x.How&&(decide (x.Bowler<1)||decide (x.Bowler>r.Side))||!cY x.How&&x.Bowler != 0) then 1 else 0:=by
  have cf :∀ (c:Bool) (a b:Int),(if c then a else b)=bif c then a else b:=fun c a b=>by cases c <;> rfl
  unfold bQ
  rw [cf,cf,cf,cf,cf,e3,←HF]
  rfl
 rw [key]
 have e0:jr (r1,r2,0,r,x,())=if (l.take c.toNat).any (bt x) then .inr (7,()) else .inl (r,x,()):=by rw [←e1];rfl
 rw [e0] at hr4 hr5 ⊢
 refine ⟨⟨c0,c1⟩,fun h3=>by rw [h3];rfl,fun h3=>⟨⟨Int.le_refl _,c0,by omega⟩,⟨rfl,⟨hr2,l1⟩,Int.le_refl _,by omega⟩,fun h4=>?_,fun h4=>?_⟩⟩
 ·cases hA :(l.take c.toNat).any (bt x) with
  | true=>rw [hr4,hA] at h4;cases h4
  | false=>
   rw [hA] at hr5
   have e5:r5 =(r,x,()):=hr5
   subst e5
   clear hr5
   dsimp only at *
   have e0:jt (x.2,r6,0,r,x,())=if x.Symbols.any (fun w=>decide (fD w<0)) then .inr (4,()) else .inl (r,x,()):=rfl
   rw [e0] at hr7 hr8 ⊢
   rw [h3]
   refine ⟨⟨rfl,⟨hr6,hs4⟩,Int.le_refl _,by omega⟩,fun h7=>?_,fun h7=>?_⟩
   ·cases hB:x.Symbols.any (fun w=>decide (fD w<0)) with
    | true=>rw [hr7,hB] at h7;cases h7
    | false=>
     rw [hB] at hr8
     have e8:r8 =(r,x,()):=hr8
     subst e8
     clear hr8
     dsimp only at *
     have e10:r10=om x.How:=hr10
     have e12:r12 =(cY x.How&&(decide (x.Bowler<1)||decide (x.Bowler>r.Side))||!cY x.How&&x.Bowler != 0):=by
      rw [hr12,hr11,hr9]
      cases cY x.How <;> cases decide (x.Bowler<1) <;> cases decide (x.Bowler>r.Side) <;> cases x.Bowler != 0 <;> rfl
     rw [←e10,←e12]
     exact ⟨fun h=>by rw [h];rfl,fun h=>⟨fun h'=>by rw [h,h'];rfl,fun h'=>by rw [h,h'];rfl⟩⟩
   ·cases hB:x.Symbols.any (fun w=>decide (fD w<0)) with
    | true=>rfl
    | false=>rw [hr7,hB] at h7;cases h7
 ·cases hA :(l.take c.toNat).any (bt x) with
  | true=>rw [h3];rfl
  | false=>rw [hr4,hA] at h4;cases h4
def BK:FuncId×Ctr:=(33,aj KE MO ny Av)
theorem zR:CtrOK Tryz.prog KE 33 (aj KE MO ny Av):=by
 refine aO (C:=az [jW,k26,Jj] Tryz.f33) (an (.consU kU rfl (.consU UV rfl (.consU Mx rfl .nil))) _) mixed (fn:=Tryz.f33) Tryz.func33 (by kernel_rfl) (by kernel_rfl) (by kernel_rfl) (by kernel_rfl) (by kernel_rfl) (by kernel_rfl) (Λ:=fun x=>find [(N5,OJ),(N6,OK)]) ?_ ?_
 ·rintro ⟨r,l,c,⟨⟩⟩ hw hn
  exact LoopsOKp.at (by kernel_rfl) (.cons (by kernel_rfl) (Qk) (.cons (by kernel_rfl) (Ql) .nil))
 ·rintro ⟨r,l,c,⟨⟩⟩ hw hn
  exact vJ r l c (hn _ List.mem_cons_self) (hn _ (List.mem_cons_of_mem _ List.mem_cons_self))
end
end Go.Proofs.YtjcbhomccohklaaGreatDoor
