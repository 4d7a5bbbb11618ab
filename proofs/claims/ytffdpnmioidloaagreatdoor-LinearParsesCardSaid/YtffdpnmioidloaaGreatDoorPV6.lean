/- Texts of the mirror and contracts, put together. -/
import Derived.Test.YtffdpnmioidloaaGreatDoorPV5
import Derived.Test.YtffdpnmioidloaaGreatDoorPV4
import Derived.Test.YtffdpnmioidloaaGreatDoorPV2
import Derived.LoopN
namespace Go.Proofs.YtffdpnmioidloaaGreatDoor
open Go Go.Mir
attribute [local irreducible] Go.Mir.DT.sat Go.Mir.evPat Go.Mir.RT.sat Go.Mir.evFn
abbrev Q6:List (Nat×PB):= [(0,.dat (.nm .Delivery)),(1,.dat (.nm .Delivery))]
abbrev qOu:Pat:=⟨[(1,.h .str),(2,.c (.ptr 0 0)),(4,.c (.ptr 1 0)),(7,.h I)],Q6,2⟩
abbrev xOu:List (Lf×Pat):= [(.ext 0,⟨[(1,.h .str),(2,.c (.ptr 0 0)),(4,.c (.ptr 1 0))],Q6,2⟩)]
abbrev TOu:Type:=ByteArray×Int×Delivery×Delivery×Unit
def hoF (s:ByteArray):Nat→Int→Int
 | 0,h=>h
 | k+1,h=>hoF s k (if tkB s (atB lets (10 - k)) then 10 - k else h)
def hoD (s:ByteArray) (k:Nat) (d:Delivery):Delivery:={ d with How:=hoF s k d.How }
def uU (x:TOu):Prop:=0≤x.2.1∧x.2.1≤11
def I8 (x:TOu):Nat:=(11 - x.2.1).toNat
def qc (x:TOu):ByteArray×Delivery×Delivery×Unit:=(x.1,hoD x.1 (11 - x.2.1).toNat x.2.2.1,x.2.2.2.1,())
abbrev qDS:Pat:=cW [.nm .Delivery,.str]
def ou1 (s:ByteArray):ByteArray:=nmR (tl s)
def ou2 (s:ByteArray):ByteArray:=nmR (tl (ou1 s))
def ou3 (s:ByteArray):ByteArray:=if tkB (ou2 s) 44 then nmR (tl (ou2 s)) else ou2 s
def ou4 (s:ByteArray):ByteArray:=tkR (ou3 s) 115
def Ma (d:Delivery) (s:ByteArray):Delivery:={ hoD s 11 d with Victim:=nmV (tl s) }
def Pq (d:Delivery) (s:ByteArray):Delivery:={ Ma d s with Fielder:=nmV (tl (ou1 s)),Second:=if tkB (ou2 s) 44 then nmV (tl (ou2 s)) else d.Second,Sub:=tkB (ou3 s) 115||d.Sub }
def ouD (d:Delivery) (s:ByteArray):Delivery:=if emp s then hoD s 11 d else if tkB (ou1 s) 40 then Pq d s else Ma d s
def ouR (s:ByteArray):ByteArray:=if emp s then s else if tkB (ou1 s) 40 then tkR (ou4 s) 41 else ou1 s
def Kb:Den (tyP qDS)→List Prop×Den (tyP qDS):=fun x=>([],(ouD x.1 x.2.1,ouR x.2.1,()))
abbrev Mj:Pat:=cW [.nm .Delivery]
def gs0 (s:ByteArray):Int:=if tkB s 119 then 0 else 1
def gsV (s:ByteArray):Int:=if tkB (pa1 s) 46 then 0 else if tkB (pa1 s) 98 then 2 else if tkB (pa1 s) 108 then 3 else if tkB (pa1 s) 111 then 1 else gs0 s
def gs2 (s:ByteArray):ByteArray:=if tkB (pa1 s) 46 then tl (pa1 s) else if tkB (pa1 s) 98 then tl (pa1 s) else if tkB (pa1 s) 108 then tl (pa1 s) else tkR (pa1 s) 111
def gs3 (s:ByteArray):ByteArray:=nmR (gs2 s)
def gs4 (s:ByteArray):ByteArray:=if tkB (gs3 s) 70 then tl (gs3 s) else tkR (gs3 s) 83
def gs5 (s:ByteArray):ByteArray:=if tkB (gs4 s) 45 then nmR (tl (gs4 s)) else gs4 s
def gs6 (s:ByteArray):ByteArray:=tkR (gs5 s) 120
def gsD (s:ByteArray):Delivery:={ Typ:=paT s,Source:=gsV s,Runs:=nmV (gs2 s),Short:=if tkB (gs4 s) 45 then nmV (tl (gs4 s)) else 0,Boundary:=if tkB (gs3 s) 70 then 4 else if tkB (gs3 s) 83 then 6 else 0,Crossed:=tkB (gs5 s) 120,How:=0,Victim:=0,Fielder:=0,Second:=0,Sub:=false,Sector:=0 }
def gsW (s:ByteArray):Delivery:=if tkB (gs6 s) 47 then ouD (gsD s) (tl (gs6 s)) else gsD s
def gs7 (s:ByteArray):ByteArray:=if tkB (gs6 s) 47 then ouR (tl (gs6 s)) else gs6 s
def ka (s:ByteArray):Delivery:={ gsW s with Sector:=if tkB (gs7 s) 64 then nmV (tl (gs7 s)) else (gsW s).Sector }
def Dp:Den (tyP nk)→List Prop×Den (tyP Mj):=fun x=>([],(ka x.1,()))
def k9 (s:ByteArray):Bool:=bd (ka s) != 0||!((prS (ka s)).toList==s.toList)
def Ib (s:ByteArray):Delivery:=if k9 s then Delivery.zero else ka s
def Ia (s:ByteArray):Int:=if k9 s then 4 else 0
theorem th {s:ByteArray} {c:Int} (h:tkB s c=true) :(0:Int)≤1∧(1:Int)≤(s.size:Int)∧(s.size:Int)≤(s.size:Int):=by
 have:emp s=false:=by unfold tkB at h;simp at h;exact h.1
 have:=fc this
 exact ⟨by decide,by omega,Int.le_refl _⟩
noncomputable def lpOu:Lp:=(⟨0,ax [rV] Tryz.f179,(fun _=>none),(bf Tryz.f179 0),qOu,xOu⟩:Lp)
theorem P6 (s:ByteArray) (i:Int) (d:Delivery) (z:Delivery) (hi:uU (s,i,d,z,())) :(Go.Mir.stepG lpOu qc (fun y:Den (tyP lpOu.q)=>uU y∧I8 y<I8 (s,i,d,z,())) (s,i,d,z,())∧Go.Mir.stepE lpOu qc (s,i,d,z,())=qc (s,i,d,z,())):=by
 refine cast (by kernel_rfl) (?_:let r1:Bool:=decide (i <(11:Int));let r2:Bool:=tkB s (↑(#[(78:UInt8),(66:UInt8),(67:UInt8),(76:UInt8),(83:UInt8),(72:UInt8),(82:UInt8),(84:UInt8),(79:UInt8),(77:UInt8),(81:UInt8)].getD i.toNat (0:UInt8)).toNat:Int);let r3:ByteArray×Delivery×Delivery×Unit:=qc (s,IntKind.i64.wrap (i +(1:Int)),Delivery.mk (bif r2 then d.1 else d.1) (bif r2 then d.2 else d.2) (bif r2 then d.3 else d.3) (bif r2 then d.4 else d.4) (bif r2 then d.5 else d.5) (bif r2 then d.6 else d.6) (bif r2 then IntKind.u8.wrap i else d.7) (bif r2 then d.8 else d.8) (bif r2 then d.9 else d.9) (bif r2 then d.10 else d.10) (bif r2 then d.11 else d.11) (bif r2 then d.12 else d.12),z,());((r1=true→(((0:Int)≤i∧i <(↑(ByteArray.mk #[78,66,67,76,83,72,82,84,79,77,81]).size:Int))∧(r2=true→True)∧(r2=false→True))∧(true=true→uU (s,IntKind.i64.wrap (i +(1:Int)),Delivery.mk (bif r2 then d.1 else d.1) (bif r2 then d.2 else d.2) (bif r2 then d.3 else d.3) (bif r2 then d.4 else d.4) (bif r2 then d.5 else d.5) (bif r2 then d.6 else d.6) (bif r2 then IntKind.u8.wrap i else d.7) (bif r2 then d.8 else d.8) (bif r2 then d.9 else d.9) (bif r2 then d.10 else d.10) (bif r2 then d.11 else d.11) (bif r2 then d.12 else d.12),z,())∧I8 (s,IntKind.i64.wrap (i +(1:Int)),Delivery.mk (bif r2 then d.1 else d.1) (bif r2 then d.2 else d.2) (bif r2 then d.3 else d.3) (bif r2 then d.4 else d.4) (bif r2 then d.5 else d.5) (bif r2 then d.6 else d.6) (bif r2 then IntKind.u8.wrap i else d.7) (bif r2 then d.8 else d.8) (bif r2 then d.9 else d.9) (bif r2 then d.10 else d.10) (bif r2 then d.11 else d.11) (bif r2 then d.12 else d.12),z,())<I8 (s,i,d,z,())))∧(r1=false→True))∧(bif r1 then bif true&&true then r3 else bif true then r3 else bif r2 then dflt (Ty.str.prod ((Ty.nm Nm.Delivery).prod ((Ty.nm Nm.Delivery).prod Ty.unit))) else dflt (Ty.str.prod ((Ty.nm Nm.Delivery).prod ((Ty.nm Nm.Delivery).prod Ty.unit))) else (s,d,z,()))=qc (s,i,d,z,()))
 intro r1 r2 r3
 clear_value (hr1:r1=_) (hr2:r2=_) (hr3:r3=_)
 obtain ⟨h0,h1⟩:=hi
 have h0:0≤i:=h0
 have h1:i≤11:=h1
 have ew:IntKind.i64.wrap (i+1)=i+1:=qf (by omega) (by omega)
 have eb:IntKind.u8.wrap i=i:=NT (by omega) (by omega)
 have e2:r2=tkB s (atB lets i):=hr2
 have hl :(lets.size:Int)=11:=rfl
 simp only [Bool.cond_self,ew,eb] at hr3 ⊢
 refine ⟨⟨fun h=>?_,fun _=>trivial⟩,?_⟩
 ·have h2:i<11:=by rw [hr1] at h;simpa using h
  refine ⟨⟨⟨h0,by show i <(lets.size:Int);omega⟩,fun _=>trivial,fun _=>trivial⟩,fun _=>⟨⟨by show 0≤i+1;omega,by show i+1≤11;omega⟩,?_⟩⟩
  show (11 - (i+1)).toNat <(11 - i).toNat
  omega
 ·cases h:r1 with
  | true=>
   have h2:i<11:=by rw [hr1] at h;simpa using h
   show r3=_
   rw [hr3]
   obtain ⟨k,hk⟩ :∃ k:Nat,(11 - i).toNat=k+1:=⟨(10 - i).toNat,by omega⟩
   have hk2 :(11 - (i+1)).toNat=k:=by omega
   have hk3 :(10:Int) - k=i:=by omega
   show (s,hoD s (11 - (i+1)).toNat _,z,()) =(s,hoD s (11 - i).toNat d,z,())
   rw [hk,hk2]
   unfold hoD
   have:hoF s (k+1) d.How=hoF s k (bif r2 then i else d.How):=by
    show hoF s k (if tkB s (atB lets (10 - (k:Int))) then 10 - (k:Int) else d.How)=_
    rw [hk3,e2];cases tkB s (atB lets i) <;> rfl
   rw [this]
  | false=>
   have h2 :¬ i<11:=by rw [hr1] at h;simpa using h
   have :(11 - i).toNat=0:=by omega
   show (s,d,z,()) =(s,hoD s (11 - i).toNat d,z,())
   rw [this];rfl
noncomputable def NM:LoopSum:=az lpOu qc uU
noncomputable def Nq:Nat:=rid (bf Tryz.f179 0)
theorem O1:LoopOKp Tryz.prog 0 Tryz.f179.ntmps (bf Tryz.f179 0) (az lpOu qc uU):=
 aY lpOu (au (.consU xY rfl .nil) _) mixed (fun b hb S hS=>by cases hS) qc uU I8 (fun |⟨s,i,d,z,⟨⟩⟩,hi=>P6 s i d z hi)
theorem J6 (d:Delivery) (s:ByteArray) :(evPat (ax [rV,lY] Tryz.f179) (find [(Nq,NM)]) Tryz.f179 qDS qDS (d,s,())).sat fun z_=>z_ =(Kb (d,s,())).2:=by
 refine cast (by kernel_rfl) (?_:let r1:ByteArray:=s.extract (Int.toNat (1:Int)) (↑s.size:Int).toNat;let r2:ByteArray:=nmR r1;let r3:Int:=nmV r1;let r4:Bool:=s.toList ==(ByteArray.mk #[]).toList;let r5:Int:=(↑r2.size:Int);let r6:Bool:=tkB r2 (40:Int);let r7:Int:=hoF s ((11:Int) - (0:Int)).toNat d.7;let r8:ByteArray:=r2.extract (Int.toNat (1:Int)) r5.toNat;let r9:ByteArray:=nmR r8;let r10:Int:=nmV r8;let r11:Int:=(↑r9.size:Int);let r12:Bool:=tkB r9 (44:Int);let r13:Int:=bif r12 then d.1 else d.1;let r14:Int:=bif r12 then d.2 else d.2;let r15:Int:=bif r12 then d.3 else d.3;let r16:Int:=bif r12 then d.4 else d.4;let r17:Int:=bif r12 then d.5 else d.5;let r18:Bool:=bif r12 then d.6 else d.6;let r19:Int:=bif r12 then d.12 else d.12;let r20:Int:=bif r12 then r3 else r3;let r21:Int:=bif r12 then r7 else r7;let r22:ByteArray:=r9.extract (Int.toNat (1:Int)) r11.toNat;let r23:Int:=bif r12 then r10 else r10;let r24:Int:=bif r12 then nmV r22 else d.10;let r25:ByteArray:=bif r12 then nmR r22 else r9;let r26:Int:=(↑r25.size:Int);let r27:Bool:=tkB r25 (115:Int);let r28:Bool:=bif r27 then true else bif r12 then d.11 else d.11;let r29:Int:=bif r27 then r13 else r13;let r30:Int:=bif r27 then r14 else r14;let r31:Int:=bif r27 then r15 else r15;let r32:Int:=bif r27 then r16 else r16;let r33:Int:=bif r27 then r17 else r17;let r34:Bool:=bif r27 then r18 else r18;let r35:Int:=bif r27 then r19 else r19;let r36:Int:=bif r27 then r20 else r20;let r37:Int:=bif r27 then r21 else r21;let r38:Int:=bif r27 then r23 else r23;let r39:Int:=bif r27 then r24 else r24;let r40:ByteArray:=bif r27 then r25.extract (Int.toNat (1:Int)) r26.toNat else r25;let r41:Int:=(↑r40.size:Int);let r42:Bool:=tkB r40 (41:Int);((ij fun x=>none)∧(0:Int)≤(0:Int)∧(0:Int)≤(11:Int))∧(r4=true→(Delivery.mk d.1 d.2 d.3 d.4 d.5 d.6 r7 d.8 d.9 d.10 d.11 d.12,s,()) =(ouD d s,ouR s,()))∧(r4=false→((0:Int)≤(1:Int)∧(1:Int)≤(↑s.size:Int)∧(↑s.size:Int)≤(↑s.size:Int))∧((r6=true→((0:Int)≤(1:Int)∧(1:Int)≤r5∧r5≤r5)∧((r12=true→((0:Int)≤(1:Int)∧(1:Int)≤r11∧r11≤r11)∧True)∧(r12=false→True))∧(true=true→((r27=true→((0:Int)≤(1:Int)∧(1:Int)≤r26∧r26≤r26)∧True)∧(r27=false→True))∧(true=true→(r42=true→((0:Int)≤(1:Int)∧(1:Int)≤r41∧r41≤r41)∧True)∧(r42=false→True))))∧(r6=false→True))∧((bif r6 then true&&true else true)=true→(Delivery.mk (bif r6 then bif r42 then r29 else r29 else d.1) (bif r6 then bif r42 then r30 else r30 else d.2) (bif r6 then bif r42 then r31 else r31 else d.3) (bif r6 then bif r42 then r32 else r32 else d.4) (bif r6 then bif r42 then r33 else r33 else d.5) (bif r6 then bif r42 then r34 else r34 else d.6) (bif r6 then bif r42 then r37 else r37 else r7) (bif r6 then bif r42 then r36 else r36 else r3) (bif r6 then bif r42 then r38 else r38 else d.9) (bif r6 then bif r42 then r39 else r39 else d.10) (bif r6 then bif r42 then r28 else r28 else d.11) (bif r6 then bif r42 then r35 else r35 else d.12),bif r6 then bif r42 then r40.extract (Int.toNat (1:Int)) r41.toNat else r40 else r2,()) =(ouD d s,ouR s,()))))
 intro r1 r2 r3 r4 r5 r6 r7 r8 r9 r10 r11 r12 r13 r14 r15 r16 r17 r18 r19 r20 r21 r22 r23 r24 r25 r26 r27 r28 r29 r30 r31 r32 r33 r34 r35 r36 r37 r38 r39 r40 r41 r42
 clear_value (hr1:r1=_) (hr2:r2=_) (hr3:r3=_) (hr4:r4=_) (hr5:r5=_) (hr6:r6=_) (hr7:r7=_) (hr8:r8=_) (hr9:r9=_) (hr10:r10=_) (hr11:r11=_) (hr12:r12=_) (hr13:r13=_) (hr14:r14=_) (hr15:r15=_) (hr16:r16=_) (hr17:r17=_) (hr18:r18=_) (hr19:r19=_) (hr20:r20=_) (hr21:r21=_) (hr22:r22=_) (hr23:r23=_) (hr24:r24=_) (hr25:r25=_) (hr26:r26=_) (hr27:r27=_) (hr28:r28=_) (hr29:r29=_) (hr30:r30=_) (hr31:r31=_) (hr32:r32=_) (hr33:r33=_) (hr34:r34=_) (hr35:r35=_) (hr36:r36=_) (hr37:r37=_) (hr38:r38=_) (hr39:r39=_) (hr40:r40=_) (hr41:r41=_) (hr42:r42=_)
 simp only [Bool.cond_self] at *
 have e1:r1=tl s:=hr1
 have e2:r2=ou1 s:=by rw [hr2,e1];rfl
 have e3:r3=nmV (tl s):=by rw [hr3,e1]
 have e4:r4=emp s:=hr4
 have e6:r6=tkB (ou1 s) 40:=by rw [hr6,e2]
 have e7:r7=hoF s 11 d.How:=hr7
 have e8:r8=tl (ou1 s):=by rw [hr8,hr5,e2];rfl
 have e9:r9=ou2 s:=by rw [hr9,e8];rfl
 have e10:r10=nmV (tl (ou1 s)):=by rw [hr10,e8]
 have e12:r12=tkB (ou2 s) 44:=by rw [hr12,e9]
 have e22:r22=tl (ou2 s):=by rw [hr22,hr11,e9];rfl
 have e24:r24=if tkB (ou2 s) 44 then nmV (tl (ou2 s)) else d.Second:=by rw [hr24,e12,e22];cases tkB (ou2 s) 44 <;> rfl
 have e25:r25=ou3 s:=by rw [hr25,e12,e22,e9];unfold ou3;cases tkB (ou2 s) 44 <;> rfl
 have e27:r27=tkB (ou3 s) 115:=by rw [hr27,e25]
 have e28:r28 =(tkB (ou3 s) 115||d.Sub):=by rw [hr28,e27];cases tkB (ou3 s) 115 <;> rfl
 have e40:r40=ou4 s:=by
  rw [hr40,e27,hr26,e25];unfold ou4
  cases h:tkB (ou3 s) 115 with
  | true=>rw [aQ h];rfl
  | false=>rw [bL h];rfl
 have e42:r42=tkB (ou4 s) 41:=by rw [hr42,e40]
 refine ⟨⟨rfl,by decide,by decide⟩,fun h=>?_,fun h=>⟨?_,?_,fun _=>?_⟩⟩
 ·rw [e4] at h
  unfold ouD ouR;rw [h,e7];rfl
 ·rw [e4] at h;have:=fc h;exact ⟨by decide,by omega,Int.le_refl _⟩
 ·refine ⟨fun a=>⟨?_,⟨fun b=>⟨?_,trivial⟩,fun _=>trivial⟩,fun _=>⟨⟨fun b=>⟨?_,trivial⟩,fun _=>trivial⟩,fun _=>⟨fun b=>⟨?_,trivial⟩,fun _=>trivial⟩⟩⟩,fun _=>trivial⟩
  ·rw [hr5];exact th (hr6▸a)
  ·rw [hr11];exact th (hr12▸b)
  ·rw [hr26];exact th (hr27▸b)
  ·rw [hr41];exact th (hr42▸b)
 ·rw [e4] at h
  have er :(bif r42 then r40.extract (Int.toNat 1) r41.toNat else r40)=tkR (ou4 s) 41:=by
   rw [e42,hr41,e40]
   cases h:tkB (ou4 s) 41 with
   | true=>rw [aQ h];rfl
   | false=>rw [bL h];rfl
  rw [er,e6]
  unfold ouD ouR
  rw [h]
  cases hb:tkB (ou1 s) 40 with
  | true=>rw [e28,hr29,hr30,hr31,hr32,hr33,hr34,hr35,hr36,hr37,hr38,hr39,hr13,hr14,hr15,hr16,hr17,hr18,hr19,hr20,hr21,hr23,e24,e3,e7,e10];rfl
  | false=>rw [e2,e3,e7];rfl
def IE:FuncId×Ctr:=(179,ae KE qDS qDS Kb)
theorem L9:CtrOK Tryz.prog KE 179 (ae KE qDS qDS Kb):=by
 refine aE (C:=ax [rV,lY] Tryz.f179) (au (.consU xY rfl (.consU sr rfl .nil)) _) mixed (fn:=Tryz.f179) Tryz.func179 (by kernel_rfl) (by kernel_rfl) (by kernel_rfl) (by kernel_rfl) (by kernel_rfl) (by kernel_rfl) (Λ:=fun x=>find [(Nq,NM)]) ?_ ?_
 ·rintro ⟨d,s,⟨⟩⟩ hw hn
  exact LoopsOKp.at (by kernel_rfl) (.cons (by kernel_rfl) (O1) .nil)
 ·rintro ⟨d,s,⟨⟩⟩ hw hn
  exact J6 d s
theorem Dm (s:ByteArray) :(evPat (ax [rV,lY,IE] Tryz.f122) (fun _=>none) Tryz.f122 nk Mj (s,())).sat fun z_=>z_ =(Dp (s,())).2:=by
 refine cast (by kernel_rfl) (?_:let r1:ByteArray:=s.extract (Int.toNat (1:Int)) (↑s.size:Int).toNat;let r2:Int:=bif tkB s (119:Int) then (2:Int) else bif tkB s (110:Int) then (3:Int) else (1:Int);let r3:Int:=bif tkB s (119:Int) then (0:Int) else bif tkB s (110:Int) then (0:Int) else (0:Int);let r4:ByteArray:=bif tkB s (119:Int) then r1 else bif tkB s (110:Int) then r1 else s;let r5:Int:=(↑r4.size:Int);let r6:Bool:=tkB r4 (46:Int);let r7:Bool:=tkB r4 (98:Int);let r8:Bool:=tkB r4 (108:Int);let r9:Bool:=tkB r4 (111:Int);let r10:ByteArray:=r4.extract (Int.toNat (1:Int)) r5.toNat;let r11:Int:=bif r6 then (0:Int) else bif r7 then (2:Int) else bif r8 then (3:Int) else bif r9 then (1:Int) else bif tkB s (119:Int) then (0:Int) else bif tkB s (110:Int) then (1:Int) else (1:Int);let r12:Int:=bif r6 then r2 else bif r7 then r2 else bif r8 then r2 else bif r9 then r2 else r2;let r13:Int:=bif r6 then r3 else bif r7 then r3 else bif r8 then r3 else bif r9 then r3 else r3;let r14:ByteArray:=bif r6 then r10 else bif r7 then r10 else bif r8 then r10 else bif r9 then r10 else r4;let r15:ByteArray:=nmR r14;let r16:Int:=nmV r14;let r17:Int:=(↑r15.size:Int);let r18:Bool:=tkB r15 (70:Int);let r19:Bool:=tkB r15 (83:Int);let r20:ByteArray:=r15.extract (Int.toNat (1:Int)) r17.toNat;let r21:Int:=bif r18 then (4:Int) else bif r19 then (6:Int) else r13;let r22:Int:=bif r18 then r11 else bif r19 then r11 else r11;let r23:Int:=bif r18 then r12 else bif r19 then r12 else r12;let r24:Int:=bif r18 then r13 else bif r19 then r13 else r13;let r25:Int:=bif r18 then r16 else bif r19 then r16 else r16;let r26:ByteArray:=bif r18 then r20 else bif r19 then r20 else r15;let r27:Int:=(↑r26.size:Int);let r28:Bool:=tkB r26 (45:Int);let r29:Int:=bif r28 then r21 else r21;let r30:Int:=bif r28 then r22 else r22;let r31:ByteArray:=r26.extract (Int.toNat (1:Int)) r27.toNat;let r32:Int:=bif r28 then r23 else r23;let r33:Int:=bif r28 then r24 else r24;let r34:Int:=bif r28 then r25 else r25;let r35:Int:=bif r28 then nmV r31 else r24;let r36:ByteArray:=bif r28 then nmR r31 else r26;let r37:Int:=(↑r36.size:Int);let r38:Bool:=tkB r36 (120:Int);let r39:Int:=bif r38 then r29 else r29;let r40:Int:=bif r38 then r30 else r30;let r41:Int:=bif r38 then r32 else r32;let r42:Int:=bif r38 then r33 else r33;let r43:Int:=bif r38 then r34 else r34;let r44:Int:=bif r38 then r35 else r35;let r45:ByteArray:=bif r38 then r36.extract (Int.toNat (1:Int)) r37.toNat else r36;let r46:Int:=(↑r45.size:Int);let r47:Bool:=tkB r45 (47:Int);let r48:ByteArray:=r45.extract (Int.toNat (1:Int)) r46.toNat;let r49:ByteArray:=bif r47 then ouR r48 else r45;let r50:Int:=(↑r49.size:Int);let r51:Bool:=tkB r49 (64:Int);let r52:Delivery:=ouD (Delivery.mk r41 r40 r43 r44 r39 r38 r42 r42 r42 r42 false r42) r48;let r53:Bool:=bif r47 then r52.11 else false;let r54:Bool:=bif r47 then r52.6 else r38;let r55:Int:=bif r47 then r52.5 else r39;let r56:Int:=bif r47 then r52.2 else r40;let r57:Int:=bif r47 then r52.1 else r41;let r58:Int:=bif r47 then r52.7 else r42;let r59:Int:=bif r47 then r52.8 else r42;let r60:Int:=bif r47 then r52.9 else r42;let r61:Int:=bif r47 then r52.10 else r42;let r62:Int:=bif r47 then r52.3 else r43;let r63:Int:=bif r47 then r52.4 else r44;((tkB s (119:Int)=true→((0:Int)≤(1:Int)∧(1:Int)≤(↑s.size:Int)∧(↑s.size:Int)≤(↑s.size:Int))∧True)∧(tkB s (119:Int)=false→(tkB s (110:Int)=true→((0:Int)≤(1:Int)∧(1:Int)≤(↑s.size:Int)∧(↑s.size:Int)≤(↑s.size:Int))∧True)∧(tkB s (110:Int)=false→True)))∧(true=true→((r6=true→((0:Int)≤(1:Int)∧(1:Int)≤r5∧r5≤r5)∧True)∧(r6=false→(r7=true→((0:Int)≤(1:Int)∧(1:Int)≤r5∧r5≤r5)∧True)∧(r7=false→(r8=true→((0:Int)≤(1:Int)∧(1:Int)≤r5∧r5≤r5)∧True)∧(r8=false→(r9=true→((0:Int)≤(1:Int)∧(1:Int)≤r5∧r5≤r5)∧True)∧(r9=false→True)))))∧(true=true→((r18=true→((0:Int)≤(1:Int)∧(1:Int)≤r17∧r17≤r17)∧True)∧(r18=false→(r19=true→((0:Int)≤(1:Int)∧(1:Int)≤r17∧r17≤r17)∧True)∧(r19=false→True)))∧(true=true→((r28=true→((0:Int)≤(1:Int)∧(1:Int)≤r27∧r27≤r27)∧True)∧(r28=false→True))∧(true=true→((r38=true→((0:Int)≤(1:Int)∧(1:Int)≤r37∧r37≤r37)∧True)∧(r38=false→True))∧(true=true→((r47=true→((0:Int)≤(1:Int)∧(1:Int)≤r46∧r46≤r46)∧True)∧(r47=false→True))∧(true=true→((r51=true→((0:Int)≤(1:Int)∧(1:Int)≤r50∧r50≤r50)∧True)∧(r51=false→True))∧(true=true→(Delivery.mk (bif r51 then r57 else r57) (bif r51 then r56 else r56) (bif r51 then r62 else r62) (bif r51 then r63 else r63) (bif r51 then r55 else r55) (bif r51 then r54 else r54) (bif r51 then r58 else r58) (bif r51 then r59 else r59) (bif r51 then r60 else r60) (bif r51 then r61 else r61) (bif r51 then r53 else r53) (bif r51 then nmV (r49.extract (Int.toNat (1:Int)) r50.toNat) else bif r47 then r52.12 else r42),()) =(ka s,())))))))))
 intro r1 r2 r3 r4 r5 r6 r7 r8 r9 r10 r11 r12 r13 r14 r15 r16 r17 r18 r19 r20 r21 r22 r23 r24 r25 r26 r27 r28 r29 r30 r31 r32 r33 r34 r35 r36 r37 r38 r39 r40 r41 r42 r43 r44 r45 r46 r47 r48 r49 r50 r51 r52 r53 r54 r55 r56 r57 r58 r59 r60 r61 r62 r63
 clear_value (hr1:r1=_) (hr2:r2=_) (hr3:r3=_) (hr4:r4=_) (hr5:r5=_) (hr6:r6=_) (hr7:r7=_) (hr8:r8=_) (hr9:r9=_) (hr10:r10=_) (hr11:r11=_) (hr12:r12=_) (hr13:r13=_) (hr14:r14=_) (hr15:r15=_) (hr16:r16=_) (hr17:r17=_) (hr18:r18=_) (hr19:r19=_) (hr20:r20=_) (hr21:r21=_) (hr22:r22=_) (hr23:r23=_) (hr24:r24=_) (hr25:r25=_) (hr26:r26=_) (hr27:r27=_) (hr28:r28=_) (hr29:r29=_) (hr30:r30=_) (hr31:r31=_) (hr32:r32=_) (hr33:r33=_) (hr34:r34=_) (hr35:r35=_) (hr36:r36=_) (hr37:r37=_) (hr38:r38=_) (hr39:r39=_) (hr40:r40=_) (hr41:r41=_) (hr42:r42=_) (hr43:r43=_) (hr44:r44=_) (hr45:r45=_) (hr46:r46=_) (hr47:r47=_) (hr48:r48=_) (hr49:r49=_) (hr50:r50=_) (hr51:r51=_) (hr52:r52=_) (hr53:r53=_) (hr54:r54=_) (hr55:r55=_) (hr56:r56=_) (hr57:r57=_) (hr58:r58=_) (hr59:r59=_) (hr60:r60=_) (hr61:r61=_) (hr62:r62=_) (hr63:r63=_)
 have e1:r1=tl s:=hr1
 have e2:r2=paT s:=by rw [hr2];unfold paT;cases tkB s 119 <;> cases tkB s 110 <;> rfl
 have e3:r3=0:=by rw [hr3];simp only [Bool.cond_self]
 have e4:r4=pa1 s:=by
  rw [hr4,e1];unfold pa1
  cases tkB s 119 with
  | true=>rfl
  | false=>
   cases h:tkB s 110 with
   | true=>rw [aQ h];rfl
   | false=>rw [bL h];rfl
 have e6:r6=tkB (pa1 s) 46:=by rw [hr6,e4]
 have e7:r7=tkB (pa1 s) 98:=by rw [hr7,e4]
 have e8:r8=tkB (pa1 s) 108:=by rw [hr8,e4]
 have e9:r9=tkB (pa1 s) 111:=by rw [hr9,e4]
 have e10:r10=tl (pa1 s):=by rw [hr10,hr5,e4];rfl
 have e11:r11=gsV s:=by
  rw [hr11,e6,e7,e8,e9];unfold gsV gs0
  cases tkB (pa1 s) 46 <;> cases tkB (pa1 s) 98 <;> cases tkB (pa1 s) 108 <;> cases tkB (pa1 s) 111 <;> cases tkB s 119 <;> cases tkB s 110 <;> rfl
 have e12:r12=paT s:=by rw [hr12,e2];simp only [Bool.cond_self]
 have e13:r13=0:=by rw [hr13,e3];simp only [Bool.cond_self]
 have e14:r14=gs2 s:=by
  rw [hr14,e6,e7,e8,e9,e10,e4];unfold gs2
  cases tkB (pa1 s) 46 <;> cases tkB (pa1 s) 98 <;> cases tkB (pa1 s) 108 <;> try rfl
  cases h:tkB (pa1 s) 111 with
  | true=>rw [aQ h];rfl
  | false=>rw [bL h];rfl
 have e15:r15=gs3 s:=by rw [hr15,e14];rfl
 have e16:r16=nmV (gs2 s):=by rw [hr16,e14]
 have e18:r18=tkB (gs3 s) 70:=by rw [hr18,e15]
 have e19:r19=tkB (gs3 s) 83:=by rw [hr19,e15]
 have e20:r20=tl (gs3 s):=by rw [hr20,hr17,e15];rfl
 have e21:r21 =(gsD s).Boundary:=by
  rw [hr21,e18,e19,e13]
  show _=if tkB (gs3 s) 70 then (4:Int) else if tkB (gs3 s) 83 then 6 else 0
  cases tkB (gs3 s) 70 <;> cases tkB (gs3 s) 83 <;> rfl
 have e22:r22=gsV s:=by rw [hr22,e11];simp only [Bool.cond_self]
 have e23:r23=paT s:=by rw [hr23,e12];simp only [Bool.cond_self]
 have e24:r24=0:=by rw [hr24,e13];simp only [Bool.cond_self]
 have e25:r25=nmV (gs2 s):=by rw [hr25,e16];simp only [Bool.cond_self]
 have e26:r26=gs4 s:=by
  rw [hr26,e18,e19,e20,e15];unfold gs4
  cases tkB (gs3 s) 70 with
  | true=>rfl
  | false=>
   cases h:tkB (gs3 s) 83 with
   | true=>rw [aQ h];rfl
   | false=>rw [bL h];rfl
 have e28:r28=tkB (gs4 s) 45:=by rw [hr28,e26]
 have e29:r29 =(gsD s).Boundary:=by rw [hr29,e21];simp only [Bool.cond_self]
 have e30:r30=gsV s:=by rw [hr30,e22];simp only [Bool.cond_self]
 have e31:r31=tl (gs4 s):=by rw [hr31,hr27,e26];rfl
 have e32:r32=paT s:=by rw [hr32,e23];simp only [Bool.cond_self]
 have e33:r33=0:=by rw [hr33,e24];simp only [Bool.cond_self]
 have e34:r34=nmV (gs2 s):=by rw [hr34,e25];simp only [Bool.cond_self]
 have e35:r35 =(gsD s).Short:=by
  rw [hr35,e28,e31,e24]
  show _=if tkB (gs4 s) 45 then nmV (tl (gs4 s)) else 0
  cases tkB (gs4 s) 45 <;> rfl
 have e36:r36=gs5 s:=by rw [hr36,e28,e31,e26];unfold gs5;cases tkB (gs4 s) 45 <;> rfl
 have e38:r38=tkB (gs5 s) 120:=by rw [hr38,e36]
 have e39:r39 =(gsD s).Boundary:=by rw [hr39,e29];simp only [Bool.cond_self]
 have e40:r40=gsV s:=by rw [hr40,e30];simp only [Bool.cond_self]
 have e41:r41=paT s:=by rw [hr41,e32];simp only [Bool.cond_self]
 have e42:r42=0:=by rw [hr42,e33];simp only [Bool.cond_self]
 have e43:r43=nmV (gs2 s):=by rw [hr43,e34];simp only [Bool.cond_self]
 have e44:r44 =(gsD s).Short:=by rw [hr44,e35];simp only [Bool.cond_self]
 have e45:r45=gs6 s:=by
  rw [hr45,e38,hr37,e36];unfold gs6
  cases h:tkB (gs5 s) 120 with
  | true=>rw [aQ h];rfl
  | false=>rw [bL h];rfl
 have e47:r47=tkB (gs6 s) 47:=by rw [hr47,e45]
 have e48:r48=tl (gs6 s):=by rw [hr48,hr46,e45];rfl
 have e49:r49=gs7 s:=by rw [hr49,e47,e48,e45];unfold gs7;cases tkB (gs6 s) 47 <;> rfl
 have e51:r51=tkB (gs7 s) 64:=by rw [hr51,e49]
 have e52:r52=ouD (gsD s) (tl (gs6 s)):=by rw [hr52,e48,e41,e40,e43,e44,e39,e38,e42];rfl
 have e53:r53 =(gsW s).Sub:=by rw [hr53,e47,e52];unfold gsW;cases tkB (gs6 s) 47 <;> rfl
 have e54:r54 =(gsW s).Crossed:=by rw [hr54,e47,e52,e38];unfold gsW;cases tkB (gs6 s) 47 <;> rfl
 have e55:r55 =(gsW s).Boundary:=by rw [hr55,e47,e52,e39];unfold gsW;cases tkB (gs6 s) 47 <;> rfl
 have e56:r56 =(gsW s).Source:=by rw [hr56,e47,e52,e40];unfold gsW;cases tkB (gs6 s) 47 <;> rfl
 have e57:r57 =(gsW s).Typ:=by rw [hr57,e47,e52,e41];unfold gsW;cases tkB (gs6 s) 47 <;> rfl
 have e58:r58 =(gsW s).How:=by rw [hr58,e47,e52,e42];unfold gsW;cases tkB (gs6 s) 47 <;> rfl
 have e59:r59 =(gsW s).Victim:=by rw [hr59,e47,e52,e42];unfold gsW;cases tkB (gs6 s) 47 <;> rfl
 have e60:r60 =(gsW s).Fielder:=by rw [hr60,e47,e52,e42];unfold gsW;cases tkB (gs6 s) 47 <;> rfl
 have e61:r61 =(gsW s).Second:=by rw [hr61,e47,e52,e42];unfold gsW;cases tkB (gs6 s) 47 <;> rfl
 have e62:r62 =(gsW s).Runs:=by rw [hr62,e47,e52,e43];unfold gsW;cases tkB (gs6 s) 47 <;> rfl
 have e63:r63 =(gsW s).Short:=by rw [hr63,e47,e52,e44];unfold gsW;cases tkB (gs6 s) 47 <;> rfl
 have hz :∀ {b:Bool} {x:ByteArray} {c:Int},b=tkB x c→b=true→(0:Int)≤1∧(1:Int)≤(x.size:Int)∧(x.size:Int)≤(x.size:Int):=fun e h=>th (e▸h)
 refine ⟨⟨fun h=>⟨th h,trivial⟩,fun _=>⟨fun h=>⟨th h,trivial⟩,fun _=>trivial⟩⟩,fun _=>⟨⟨fun h=>⟨by rw [hr5];exact hz hr6 h,trivial⟩,fun _=>⟨fun h=>⟨by rw [hr5];exact hz hr7 h,trivial⟩,fun _=>⟨fun h=>⟨by rw [hr5];exact hz hr8 h,trivial⟩,fun _=>⟨fun h=>⟨by rw [hr5];exact hz hr9 h,trivial⟩,fun _=>trivial⟩⟩⟩⟩,fun _=>⟨⟨fun h=>⟨by rw [hr17];exact hz hr18 h,trivial⟩,fun _=>⟨fun h=>⟨by rw [hr17];exact hz hr19 h,trivial⟩,fun _=>trivial⟩⟩,fun _=>⟨⟨fun h=>⟨by rw [hr27];exact hz hr28 h,trivial⟩,fun _=>trivial⟩,fun _=>⟨⟨fun h=>⟨by rw [hr37];exact hz hr38 h,trivial⟩,fun _=>trivial⟩,fun _=>⟨⟨fun h=>⟨by rw [hr46];exact hz hr47 h,trivial⟩,fun _=>trivial⟩,fun _=>⟨⟨fun h=>⟨by rw [hr50];exact hz hr51 h,trivial⟩,fun _=>trivial⟩,fun _=>?_⟩⟩⟩⟩⟩⟩⟩
 have es :(bif r51 then nmV (r49.extract (Int.toNat 1) r50.toNat) else bif r47 then r52.Sector else r42) =(ka s).Sector:=by
  rw [e51,hr50,e49,e47,e52,e42]
  unfold ka gsW
  cases tkB (gs7 s) 64 <;> cases tkB (gs6 s) 47 <;> rfl
 rw [es,e53,e54,e55,e56,e57,e58,e59,e60,e61,e62,e63]
 simp only [Bool.cond_self];rfl
def zW:FuncId×Ctr:=(122,ae KE nk Mj Dp)
theorem Gg:CtrOK Tryz.prog KE 122 (ae KE nk Mj Dp):=by
 refine aE (C:=ax [rV,lY,IE] Tryz.f122) (au (.consU xY rfl (.consU sr rfl (.consU L9 rfl .nil))) _) mixed (fn:=Tryz.f122) Tryz.func122 (by kernel_rfl) (by kernel_rfl) (by kernel_rfl) (by kernel_rfl) (by kernel_rfl) (by kernel_rfl) (Λ:=fun _ _=>none) ?_ ?_
 ·exact fun _ _ _ _ _ _ _ _ h=>by cases h
 ·rintro ⟨s,⟨⟩⟩ hw hn
  exact Dm s
end Go.Proofs.YtffdpnmioidloaaGreatDoor
namespace Go.Proofs.YtffdpnmioidloaaGreatDoor
open Go Go.Mir
attribute [local irreducible] Go.Mir.DT.sat Go.Mir.evPat Go.Mir.RT.sat Go.Mir.evFn
def ofL (l:List UInt8):ByteArray:=⟨l.toArray⟩
def hL (l:List UInt8):Int:=match l with | []=> -1|x::_=>(x.toNat:Int)
theorem sf (l:List UInt8) :(ofL l).data.toList=l:=rfl
theorem fS (a b:List UInt8):ofL a++ofL b=ofL (a++b):=b9 (by rw [ByteArray.data_append,Array.toList_append];rfl)
theorem Jm (l:List UInt8) :(ofL l).size=l.length:=by show l.toArray.size=_;simp
theorem xa (l:List UInt8):emp (ofL l)=l.isEmpty:=by
 rw [DV,Jm]
 cases l with
 | nil=>rfl
 | cons x l=>rw [decide_eq_true (show (((x::l).length:Nat):Int)>0 by simp)];rfl
theorem D8 (x:UInt8) (l:List UInt8):hd (ofL (x::l)) =(x.toNat:Int):=by rw [D7,sf];rfl
theorem bX (x:UInt8) (l:List UInt8):tl (ofL (x::l))=ofL l:=b9 (by rw [qH,sf,sf];rfl)
theorem fu (l:List UInt8) {c:Int} (hc:0≤c):tkB (ofL l) c =(hL l==c):=by
 unfold tkB;rw [xa]
 cases l with
 | nil=>show false =(-1==c);symm;simp;omega
 | cons x l=>rw [D8];rfl
theorem MZ (l:List UInt8):cn (ofL l) =(decide (48≤hL l)&&decide (hL l≤57)):=by
 unfold cn;rw [xa]
 cases l with
 | nil=>rfl
 | cons x l=>rw [D8];rfl
def nd (t:List UInt8):Prop:=hL t<48∨hL t>57
theorem Jf {t:List UInt8} (h:nd t):cn (ofL t)=false:=by
 rw [MZ];unfold nd at h
 rcases h with h|h
 ·rw [decide_eq_false (show ¬ 48≤hL t by omega)];rfl
 ·rw [decide_eq_false (show ¬ hL t≤57 by omega)];exact Bool.and_false _
def dC (n:Nat):UInt8:=UInt8.ofNat (48+n)
theorem wW {n:Nat} (h:n<10) :(dC n).toNat=48+n:=by
 unfold dC;rw [UInt8.toNat_ofNat'];omega
def dL (n:Int):List UInt8:=if n<10 then [dC n.toNat] else [dC (n.toNat / 10),dC (n.toNat % 10)]
theorem Hu {n:Nat} (h:n<10) (t:List UInt8):cn (ofL (dC n::t))=true:=by
 rw [MZ];show (decide (48≤((dC n).toNat:Int))&&decide (((dC n).toNat:Int)≤57))=true
 rw [wW h,decide_eq_true (show (48:Int)≤((48+n:Nat):Int) by omega),decide_eq_true (show ((48+n:Nat):Int)≤57 by omega)];rfl
theorem Lb {n:Nat} (h:n<10) (t:List UInt8):dgV (ofL (dC n::t))=n:=by
 unfold dgV;rw [Hu h,if_pos rfl,D8,wW h];omega
theorem La {n:Nat} (h:n<10) (t:List UInt8):dgR (ofL (dC n::t))=ofL t:=by
 unfold dgR;rw [Hu h,if_pos rfl,bX]
theorem Hy {t:List UInt8} (h:nd t):dgV (ofL t)=0∧dgR (ofL t)=ofL t:=by
 unfold dgV dgR;rw [Jf h];exact ⟨rfl,rfl⟩
theorem Rs {t:List UInt8} (h:nd t):nmV (ofL t)=0∧nmR (ofL t)=ofL t:=by
 unfold nmV nmR;rw [(Hy h).2,Jf h];exact ⟨(Hy h).1,rfl⟩
theorem qW {n:Int} (h0:0≤n) (h1:n≤9) (t:List UInt8):dgV (ofL (dL n++t))=n∧dgR (ofL (dL n++t))=ofL t:=by
 unfold dL;rw [if_pos (by omega)]
 exact ⟨by rw [List.singleton_append,Lb (by omega)];omega,La (by omega) t⟩
theorem lr {n:Int} (h:dq n) {t:List UInt8} (ht:nd t):nmV (ofL (dL n++t))=n∧nmR (ofL (dL n++t))=ofL t:=by
 obtain ⟨h0,h1⟩:=h
 unfold dL nmV nmR
 split
 ·rename_i h2
  rw [List.singleton_append,La (by omega),Lb (by omega),Jf ht]
  exact ⟨by show ((n.toNat:Nat):Int)=n;omega,rfl⟩
 ·show (if cn (dgR (ofL (dC (n.toNat / 10)::dC (n.toNat % 10)::t))) then _ else _)=n∧_
  rw [List.cons_append,List.singleton_append,La (by omega),Lb (by omega),Hu (by omega),if_pos rfl,if_pos rfl,Lb (by omega),La (by omega)]
  exact ⟨by omega,rfl⟩
theorem QR {n:Int} (h:dq n) (t:List UInt8):48≤hL (dL n++t)∧hL (dL n++t)≤57:=by
 obtain ⟨h0,h1⟩:=h
 unfold dL
 split
 ·show 48≤((dC n.toNat).toNat:Int)∧((dC n.toNat).toNat:Int)≤57
  rw [wW (by omega)];omega
 ·show 48≤((dC (n.toNat / 10)).toNat:Int)∧((dC (n.toNat / 10)).toNat:Int)≤57
  rw [wW (by omega)];omega
theorem B7 {n:Int} (h:dq n):bF n=ofL (dL n):=by
 have key :((List.range 100).all fun k=>(bF (k:Int)).data.toList==dL (k:Int))=true:=by kernel_rfl
 have:=List.all_eq_true.1 key n.toNat (List.mem_range.2 (by have:=h.1;have:=h.2;omega))
 rw [show ((n.toNat:Nat):Int)=n from by have:=h.1;omega] at this
 exact b9 (eq_of_beq this)
theorem wZ {n:Int} (h0:0≤n) (h1:n≤9):iH n=ofL (dL n):=by
 rw [nB h0 h1];exact B7 ⟨h0,by omega⟩
def hwC (h:Int):UInt8:=lets.data.getD h.toNat 0
theorem OC {h:Int} (h0:0≤h) (h1:h≤10):xD h=ofL [hwC h]:=by
 have key :((List.range 11).all fun k=>(xD (k:Int)).data.toList==[hwC (k:Int)])=true:=by kernel_rfl
 have:=List.all_eq_true.1 key h.toNat (List.mem_range.2 (by omega))
 rw [show ((h.toNat:Nat):Int)=h from by omega] at this
 exact b9 (eq_of_beq this)
theorem OI {h:Int} (h0:0≤h) (h1:h≤10) (t:List UInt8):hwV (ofL (hwC h::t))=h:=by
 unfold hwV;rw [D8]
 have key :((List.range 11).all fun k=>IntKind.u8.wrap (mxI (ixW lets ((hwC (k:Int)).toNat:Int))) ==(k:Int))=true:=by kernel_rfl
 have:=List.all_eq_true.1 key h.toNat (List.mem_range.2 (by omega))
 rw [show ((h.toNat:Nat):Int)=h from by omega] at this
 exact eq_of_beq this
def hoX (x:Int):Nat→Int→Int
 | 0,h=>h
 | k+1,h=>hoX x k (if x==atB lets (10 - k) then 10 - k else h)
theorem Ih (x:UInt8) (t:List UInt8) :∀ (k:Nat) (h:Int),hoF (ofL (x::t)) k h=hoX (x.toNat:Int) k h
 | 0,_=>rfl
 | k+1,h=>by
  show hoF _ k (if tkB _ (atB lets (10 - k)) then _ else _)=hoX _ k _
  rw [fu _ (G5 _ _).1,Ih x t k];rfl
theorem OB {h:Int} (h0:0≤h) (h1:h≤10) (t:List UInt8):hoF (ofL (hwC h::t)) 11 0=h:=by
 rw [Ih]
 have key :((List.range 11).all fun k=>hoX ((hwC (k:Int)).toNat:Int) 11 0 ==(k:Int))=true:=by kernel_rfl
 have:=List.all_eq_true.1 key h.toNat (List.mem_range.2 (by omega))
 rw [show ((h.toNat:Nat):Int)=h from by omega] at this
 exact eq_of_beq this
def okD (d:Delivery):Prop:=bd d=0∧0≤d.Source∧0≤d.How
theorem Ph {d:Delivery} (h:okD d):d.Boundary=0∨d.Boundary=4∨d.Boundary=6:=by
 have h:=h.1
 unfold bd at h
 split at h
 ·cases h
 ·split at h
  ·cases h
  ·rename_i h1 h2
   simp [inW] at h2
   omega
def iG (d:Delivery) (t:List UInt8):List UInt8:=if d.Sub then 115::41::t else 41::t
def jS (d:Delivery) (t:List UInt8):List UInt8:=if d.Second != 0 then 44 ::(dL d.Second++iG d t) else iG d t
def dR (d:Delivery) (t:List UInt8):List UInt8:=if gS d then 40 ::(dL d.Fielder++jS d t) else t
def wkN (d:Delivery):Bool:=d.How==0&&(d.Victim==0&&!gS d)
def wkL (d:Delivery) (t:List UInt8):List UInt8:=if wkN d then t else 47::hwC d.How ::(dL d.Victim++dR d t)
theorem Qs {d:Delivery} (h:okD d) (t:List UInt8):lJ d++ofL t=ofL (wkL d t):=by
 obtain ⟨⟨_,_⟩,_,hw,⟨f0,f1⟩,s0,s1⟩:=dw h.1
 obtain ⟨_,_,⟨v0,v1⟩,_⟩:=cN h.1
 have e1:xD d.How=ofL [hwC d.How]:=OC h.2.2 hw
 have e2:iH d.Victim=ofL (dL d.Victim):=wZ v0 (by omega)
 have e3:bF d.Fielder=ofL (dL d.Fielder):=B7 ⟨f0,by omega⟩
 have e4:bF d.Second=ofL (dL d.Second):=B7 ⟨s0,by omega⟩
 have c1:ByteArray.mk #[47]=ofL [47]:=rfl
 have c2:ByteArray.mk #[40]=ofL [40]:=rfl
 have c3:ByteArray.mk #[44]=ofL [44]:=rfl
 have c4:ByteArray.mk #[115]=ofL [115]:=rfl
 have c5:ByteArray.mk #[41]=ofL [41]:=rfl
 have c6:ByteArray.mk #[]=ofL []:=rfl
 have e:lJ d=if wkN d then ⟨#[]⟩ else if gS d then tx d ++⟨#[41]⟩ else qn d:=rfl
 have el:wkL d t=if wkN d then t else 47::hwC d.How ::(dL d.Victim++dR d t):=rfl
 have ew:qn d=ofL (47::hwC d.How::dL d.Victim):=by unfold qn;rw [c1,e1,e2];simp only [fS];rfl
 rw [e,el]
 cases wkN d with
 | true=>rw [if_pos rfl,if_pos rfl,c6,fS];rfl
 | false=>
  rw [if_neg Bool.false_ne_true,if_neg Bool.false_ne_true]
  have el:dR d t=if gS d then 40 ::(dL d.Fielder++jS d t) else t:=rfl
  rw [el]
  cases gS d with
  | false=>rw [if_neg Bool.false_ne_true,if_neg Bool.false_ne_true,ew,fS];rfl
  | true=>
   rw [if_pos rfl,if_pos rfl]
   unfold tx tv yE jS iG
   rw [ew,e3,e4,c2,c3,c4,c5]
   cases d.Second != 0 <;> cases d.Sub <;> simp [fS]
def hdT (t:List UInt8):Prop:=hL t = -1∨hL t=64
theorem Jl {a b:Int} (h:a≠b) :(a==b)=false:=by simp [h]
theorem MT {d e:Delivery} (h:okD d) {t:List UInt8} (ht:hdT t) (z:e.How=0∧e.Victim=0∧e.Fielder=0∧e.Second=0∧e.Sub=false) :
  wkR (ofL (wkL d t))=ofL t∧wkD e (ofL (wkL d t))={ e with How:=d.How,Victim:=d.Victim,Fielder:=d.Fielder,Second:=d.Second,Sub:=d.Sub }:=by
 obtain ⟨⟨_,_⟩,_,hw,⟨f0,f1⟩,s0,s1⟩:=dw h.1
 obtain ⟨_,_,⟨v0,v1⟩,_⟩:=cN h.1
 obtain ⟨z1,z2,z3,z4,z5⟩:=z
 have htk :∀ c:Int,0≤c→c≠64→tkB (ofL t) c=false:=fun c h0 h1=>by
  rw [fu _ h0];exact Jl (by rcases ht with h|h <;> omega)
 cases hn:wkN d with
 | true=>
  have hl:wkL d t=t:=by unfold wkL;rw [hn];rfl
  unfold wkN gS at hn
  simp at hn
  obtain ⟨a1,a2,a3,a4,a5⟩:=hn
  rw [hl]
  have hg:yD (ofL t)=false:=by unfold yD;rw [htk 47 (by decide) (by decide)];rfl
  unfold wkR wkD wk1
  rw [hg,bL (htk 47 (by decide) (by decide)),a1,a2,a3,a4,a5]
  refine ⟨rfl,?_⟩
  obtain ⟨_,_,_,_,_,_,_,_,_,_,_,_⟩:=e
  simp only at z1 z2 z3 z4 z5
  subst z1 z2 z3 z4 z5
  rfl
 | false=>
  have hl:wkL d t=47::hwC d.How ::(dL d.Victim++dR d t):=by unfold wkL;rw [hn];rfl
  rw [hl]
  have b0:tkB (ofL (47::hwC d.How ::(dL d.Victim++dR d t))) 47=true:=by rw [fu _ (by decide)];rfl
  have w1:wk1 (ofL (47::hwC d.How ::(dL d.Victim++dR d t)))=ofL (hwC d.How ::(dL d.Victim++dR d t)):=by unfold wk1;rw [aQ b0,bX]
  have hg:yD (ofL (47::hwC d.How ::(dL d.Victim++dR d t)))=true:=by unfold yD;rw [b0,w1,xa];rfl
  have w2:wk2 (ofL (47::hwC d.How ::(dL d.Victim++dR d t)))=ofL (dL d.Victim++dR d t):=by unfold wk2;rw [w1,bX]
  have w3:wk3 (ofL (47::hwC d.How ::(dL d.Victim++dR d t)))=ofL (dR d t):=by unfold wk3;rw [w2,(qW v0 (by omega) _).2]
  have w2v:dgV (ofL (dL d.Victim++dR d t))=d.Victim:=(qW v0 (by omega) _).1
  have wh:hwV (ofL (hwC d.How ::(dL d.Victim++dR d t)))=d.How:=OI h.2.2 hw _
  generalize hs:ofL (47::hwC d.How ::(dL d.Victim++dR d t))=s at *
  have d1:MS e s={ e with How:=d.How,Victim:=d.Victim }:=by unfold MS;rw [w1,w2,w2v,wh]
  cases ha:gS d with
  | false=>
   have hl:dR d t=t:=by unfold dR;rw [ha];rfl
   rw [hl] at w3
   have b3:tkB (wk3 s) 40=false:=by rw [w3];exact htk 40 (by decide) (by decide)
   unfold gS at ha
   simp at ha
   obtain ⟨a3,a4,a5⟩:=ha
   unfold wkR wkD
   rw [hg,b3,w3,d1,a3,a4,a5]
   refine ⟨rfl,?_⟩
   obtain ⟨_,_,_,_,_,_,_,_,_,_,_,_⟩:=e
   simp only at z1 z2 z3 z4 z5
   subst z1 z2 z3 z4 z5
   rfl
  | true=>
   have hl:dR d t=40 ::(dL d.Fielder++jS d t):=by unfold dR;rw [ha];rfl
   rw [hl] at w3
   have b3:tkB (wk3 s) 40=true:=by rw [w3,fu _ (by decide)];rfl
   have w4:wk4 s=ofL (dL d.Fielder++jS d t):=by unfold wk4;rw [aQ b3,w3,bX]
   have h3:hL (iG d t)=115∨hL (iG d t)=41:=by unfold iG;cases d.Sub;exact .inr rfl;exact .inl rfl
   have h2:nd (jS d t):=by
    unfold jS nd
    split
    ·exact .inl (show (44:Int)<48 by decide)
    ·rcases h3 with h|h <;> rw [h] <;> decide
   obtain ⟨n1,n2⟩:=lr ⟨f0,by omega⟩ h2
   have w5:wk5 s=ofL (jS d t):=by unfold wk5;rw [w4,n2]
   have w4v:nmV (wk4 s)=d.Fielder:=by rw [w4,n1]
   have w56:wk6 s=ofL (iG d t)∧(if tkB (wk5 s) 44 then nmV (tl (wk5 s)) else e.Second)=d.Second:=by
    unfold wk6;rw [w5]
    cases hc:d.Second != 0 with
    | true=>
     have hl:jS d t=44 ::(dL d.Second++iG d t):=by unfold jS;rw [hc];rfl
     obtain ⟨n1,n2⟩:=lr (t:=iG d t) ⟨s0,by omega⟩ (by unfold nd;rcases h3 with h|h <;> rw [h] <;> decide)
     have b:tkB (ofL (44 ::(dL d.Second++iG d t))) 44=true:=by rw [fu _ (by decide)];rfl
     rw [hl,b,if_pos rfl,if_pos rfl,bX,n1,n2];exact ⟨rfl,rfl⟩
    | false=>
     have hl:jS d t=iG d t:=by unfold jS;rw [hc];rfl
     have b:tkB (ofL (iG d t)) 44=false:=by rw [fu _ (by decide)];rcases h3 with h|h <;> rw [h] <;> rfl
     simp at hc
     rw [hl,b,z4,hc];exact ⟨rfl,rfl⟩
   obtain ⟨w6,ws⟩:=w56
   have w7:tkB (wk6 s) 115=d.Sub∧wk7 s=ofL (41::t):=by
    unfold wk7;rw [w6];unfold iG
    cases d.Sub with
    | true=>
     have b:tkB (ofL (115::41::t)) 115=true:=by rw [fu _ (by decide)];rfl
     exact ⟨b,by rw [if_pos rfl,aQ b,bX]⟩
    | false=>
     have b:tkB (ofL (41::t)) 115=false:=by rw [fu _ (by decide)];rfl
     exact ⟨b,by rw [if_neg (by decide),bL b]⟩
   have w8:tkR (wk7 s) 41=ofL t:=by
    have b:tkB (ofL (41::t)) 41=true:=by rw [fu _ (by decide)];rfl
    rw [w7.2,aQ b,bX]
   have d2:Qr e s={ e with How:=d.How,Victim:=d.Victim,Fielder:=d.Fielder,Second:=d.Second,Sub:=d.Sub }:=by
    unfold Qr;rw [d1,w4v,ws,w7.1]
   unfold wkR wkD
   rw [hg,b3,w8,d2]
   exact ⟨rfl,rfl⟩
end Go.Proofs.YtffdpnmioidloaaGreatDoor
namespace Go.Proofs.YtffdpnmioidloaaGreatDoor
open Go Go.Mir
attribute [local irreducible] Go.Mir.DT.sat Go.Mir.evPat Go.Mir.RT.sat Go.Mir.evFn
theorem Jz {d e:Delivery} (h:okD d) {t:List UInt8} (ht:hdT t) (z:e.How=0∧e.Victim=0∧e.Fielder=0∧e.Second=0∧e.Sub=false) :
  (if tkB (ofL (wkL d t)) 47 then ouR (tl (ofL (wkL d t))) else ofL (wkL d t))=ofL t∧(if tkB (ofL (wkL d t)) 47 then ouD e (tl (ofL (wkL d t))) else e)={ e with How:=d.How,Victim:=d.Victim,Fielder:=d.Fielder,Second:=d.Second,Sub:=d.Sub }:=by
 obtain ⟨⟨_,_⟩,_,hw,⟨f0,f1⟩,s0,s1⟩:=dw h.1
 obtain ⟨_,_,⟨v0,v1⟩,_⟩:=cN h.1
 obtain ⟨z1,z2,z3,z4,z5⟩:=z
 have htk :∀ c:Int,0≤c→c≠64→tkB (ofL t) c=false:=fun c h0 h1=>by
  rw [fu _ h0];exact Jl (by rcases ht with h|h <;> omega)
 cases hn:wkN d with
 | true=>
  have hl:wkL d t=t:=by unfold wkL;rw [hn];rfl
  unfold wkN gS at hn
  simp at hn
  obtain ⟨a1,a2,a3,a4,a5⟩:=hn
  rw [hl,htk 47 (by decide) (by decide),a1,a2,a3,a4,a5]
  refine ⟨rfl,?_⟩
  obtain ⟨_,_,_,_,_,_,_,_,_,_,_,_⟩:=e
  simp only at z1 z2 z3 z4 z5
  subst z1 z2 z3 z4 z5
  rfl
 | false=>
  have hl:wkL d t=47::hwC d.How ::(dL d.Victim++dR d t):=by unfold wkL;rw [hn];rfl
  rw [hl]
  have b0:tkB (ofL (47::hwC d.How ::(dL d.Victim++dR d t))) 47=true:=by rw [fu _ (by decide)];rfl
  rw [b0,if_pos rfl,if_pos rfl,bX]
  have hg:emp (ofL (hwC d.How ::(dL d.Victim++dR d t)))=false:=by rw [xa];rfl
  have h1:nd (dR d t):=by
   unfold dR nd
   split
   ·exact .inl (show (40:Int)<48 by decide)
   ·rcases ht with h|h <;> rw [h] <;> decide
  obtain ⟨n1,n2⟩:=lr ⟨v0,by omega⟩ h1
  have w1:ou1 (ofL (hwC d.How ::(dL d.Victim++dR d t)))=ofL (dR d t):=by unfold ou1;rw [bX,n2]
  have wh:hoF (ofL (hwC d.How ::(dL d.Victim++dR d t))) 11 e.How=d.How:=by rw [z1];exact OB h.2.2 hw _
  have d1:Ma e (ofL (hwC d.How ::(dL d.Victim++dR d t)))={ e with How:=d.How,Victim:=d.Victim }:=by unfold Ma hoD;rw [wh,bX,n1]
  generalize hs:ofL (hwC d.How ::(dL d.Victim++dR d t))=s at *
  cases ha:gS d with
  | false=>
   have hl:dR d t=t:=by unfold dR;rw [ha];rfl
   rw [hl] at w1
   have b3:tkB (ou1 s) 40=false:=by rw [w1];exact htk 40 (by decide) (by decide)
   unfold gS at ha
   simp at ha
   obtain ⟨a3,a4,a5⟩:=ha
   unfold ouR ouD
   rw [hg,b3,w1,d1,a3,a4,a5]
   refine ⟨rfl,?_⟩
   obtain ⟨_,_,_,_,_,_,_,_,_,_,_,_⟩:=e
   simp only at z1 z2 z3 z4 z5
   subst z1 z2 z3 z4 z5
   rfl
  | true=>
   have hl:dR d t=40 ::(dL d.Fielder++jS d t):=by unfold dR;rw [ha];rfl
   rw [hl] at w1
   have b3:tkB (ou1 s) 40=true:=by rw [w1,fu _ (by decide)];rfl
   have h3:hL (iG d t)=115∨hL (iG d t)=41:=by unfold iG;cases d.Sub;exact .inr rfl;exact .inl rfl
   have h2:nd (jS d t):=by
    unfold jS nd
    split
    ·exact .inl (show (44:Int)<48 by decide)
    ·rcases h3 with h|h <;> rw [h] <;> decide
   obtain ⟨n1,n2⟩:=lr ⟨f0,by omega⟩ h2
   have w2:ou2 s=ofL (jS d t):=by unfold ou2;rw [w1,bX,n2]
   have w2v:nmV (tl (ou1 s))=d.Fielder:=by rw [w1,bX,n1]
   have w3s:ou3 s=ofL (iG d t)∧(if tkB (ou2 s) 44 then nmV (tl (ou2 s)) else e.Second)=d.Second:=by
    unfold ou3;rw [w2]
    cases hc:d.Second != 0 with
    | true=>
     have hl:jS d t=44 ::(dL d.Second++iG d t):=by unfold jS;rw [hc];rfl
     obtain ⟨n1,n2⟩:=lr (t:=iG d t) ⟨s0,by omega⟩ (by unfold nd;rcases h3 with h|h <;> rw [h] <;> decide)
     have b:tkB (ofL (44 ::(dL d.Second++iG d t))) 44=true:=by rw [fu _ (by decide)];rfl
     rw [hl,b,if_pos rfl,if_pos rfl,bX,n1,n2];exact ⟨rfl,rfl⟩
    | false=>
     have hl:jS d t=iG d t:=by unfold jS;rw [hc];rfl
     have b:tkB (ofL (iG d t)) 44=false:=by rw [fu _ (by decide)];rcases h3 with h|h <;> rw [h] <;> rfl
     simp at hc
     rw [hl,b,z4,hc];exact ⟨rfl,rfl⟩
   obtain ⟨w3,ws⟩:=w3s
   have w7 :(tkB (ou3 s) 115||e.Sub)=d.Sub∧ou4 s=ofL (41::t):=by
    unfold ou4;rw [w3,z5,Bool.or_false];unfold iG
    cases d.Sub with
    | true=>
     have b:tkB (ofL (115::41::t)) 115=true:=by rw [fu _ (by decide)];rfl
     exact ⟨b,by rw [if_pos rfl,aQ b,bX]⟩
    | false=>
     have b:tkB (ofL (41::t)) 115=false:=by rw [fu _ (by decide)];rfl
     exact ⟨b,by rw [if_neg (by decide),bL b]⟩
   have w8:tkR (ou4 s) 41=ofL t:=by
    have b:tkB (ofL (41::t)) 41=true:=by rw [fu _ (by decide)];rfl
    rw [w7.2,aQ b,bX]
   have d2:Pq e s={ e with How:=d.How,Victim:=d.Victim,Fielder:=d.Fielder,Second:=d.Second,Sub:=d.Sub }:=by
    unfold Pq;rw [d1,w2v,ws,w7.1]
   unfold ouR ouD
   rw [hg,b3,w8,d2]
   exact ⟨rfl,rfl⟩
def L8 (d:Delivery):List UInt8:=if decide (d.Sector>0) then 64::dL d.Sector else []
def L7 (d:Delivery):List UInt8:=wkL d (L8 d)
def L6 (d:Delivery):List UInt8:=if d.Crossed then 120::L7 d else L7 d
def L5 (d:Delivery):List UInt8:=if decide (d.Short>0) then 45 ::(dL d.Short++L6 d) else L6 d
def L4 (d:Delivery):List UInt8:=if d.Boundary==4 then 70::L5 d else if d.Boundary==6 then 83::L5 d else L5 d
def L3 (d:Delivery):List UInt8:=if Br d (dJ d.Typ d.Source) then dL d.Runs++L4 d else L4 d
def GE (t s:Int):List UInt8:=if s==0 then (if t != 2 then [46] else []) else if s==1 then (if t==2 then [111] else []) else if s==2 then [98] else if s==3 then [108] else []
def MN (t:Int):List UInt8:=if t==2 then [119] else if t==3 then [110] else []
def L2 (d:Delivery):List UInt8:=GE d.Typ d.Source++L3 d
def L1 (d:Delivery):List UInt8:=MN d.Typ++L2 d
theorem PS (t s:Int):dJ t s=ofL (GE t s):=by
 unfold dJ GE;repeat' split
 all_goals rfl
theorem Qj (t:Int):ns t=ofL (MN t):=by
 unfold ns MN;repeat' split
 all_goals rfl
theorem G1 (a b c:ByteArray) :(a++b)++c=a ++(b++c):=b9 (by simp [ByteArray.data_append])
theorem wG (b:Bool) (x:ByteArray) (a t:List UInt8):cb b (x++ofL a) x++ofL t=x++ofL (if b then a++t else t):=by
 cases b
 ·rfl
 ·show (x++ofL a)++ofL t=x++ofL (a++t)
  rw [G1,fS]
theorem JI {d:Delivery} (h:okD d):prS d=ofL (L1 d):=by
 obtain ⟨⟨r0,r1⟩,⟨h0,h1⟩,⟨v0,v1⟩,c0,c1⟩:=cN h.1
 have e8:prG d=prF d++ofL (L8 d):=by
  unfold prG L8
  rw [wZ c0 (by omega)]
  cases decide (d.Sector>0) with
  | true=>show prF d ++(ofL [64]++ofL (dL d.Sector))=_;rw [fS];rfl
  | false=>show prF d=prF d++ByteArray.mk #[];rw [ui]
 have e7:prF d++ofL (L8 d)=prE d++ofL (L7 d):=by unfold prF L7;rw [G1,Qs h]
 have e6:prE d++ofL (L7 d)=prD d++ofL (L6 d):=wG d.Crossed (prD d) [120] (L7 d)
 have e5:prD d++ofL (L6 d)=prC d++ofL (L5 d):=by
  unfold prD L5
  rw [wZ h0 (by omega),show ByteArray.mk #[45]=ofL [45] from rfl,fS,wG];rfl
 have e4:prC d++ofL (L5 d)=prB d++ofL (L4 d):=by
  unfold prC L4
  cases d.Boundary==4 with
  | true=>exact (G1 _ _ _).trans (congrArg _ (fS [70] (L5 d)))
  | false=>exact wG (d.Boundary==6) (prB d) [83] (L5 d)
 have e3:prB d++ofL (L4 d)=prA d++ofL (L3 d):=by
  unfold prB L3
  rw [wZ r0 (by omega),wG]
 have e:prS d=prG d:=by unfold prS;rw [h.1];rfl
 rw [e,e8,e7,e6,e5,e4,e3]
 unfold prA L1 L2
 rw [PS,Qj,fS,fS,List.append_assoc]
theorem H8 {d:Delivery}:hdT (L8 d):=by
 unfold hdT L8;split
 ·exact .inr rfl
 ·exact .inl rfl
theorem H7 (d:Delivery):hL (L7 d) = -1∨hL (L7 d)=64∨hL (L7 d)=47:=by
 unfold L7 wkL;split
 ·have:=H8 (d:=d);unfold hdT at this;omega
 ·exact .inr (.inr rfl)
theorem H6 (d:Delivery):hL (L6 d) = -1∨hL (L6 d)=64∨hL (L6 d)=47∨hL (L6 d)=120:=by
 unfold L6;split
 ·exact .inr (.inr (.inr rfl))
 ·have:=H7 d;omega
theorem H5 (d:Delivery):hL (L5 d) = -1∨hL (L5 d)=64∨hL (L5 d)=47∨hL (L5 d)=120∨hL (L5 d)=45:=by
 unfold L5;split
 ·exact .inr (.inr (.inr (.inr rfl)))
 ·have:=H6 d;omega
theorem H4 (d:Delivery):hL (L4 d) = -1∨hL (L4 d)=64∨hL (L4 d)=47∨hL (L4 d)=120∨hL (L4 d)=45∨hL (L4 d)=70∨hL (L4 d)=83:=by
 unfold L4;split
 ·exact .inr (.inr (.inr (.inr (.inr (.inl rfl)))))
 ·split
  ·exact .inr (.inr (.inr (.inr (.inr (.inr rfl)))))
  ·have:=H5 d;omega
def Pe (x:Int):Prop:=x≠119∧x≠110∧x≠46∧x≠98∧x≠108∧x≠111
theorem H3 {d:Delivery} (h:okD d):Pe (hL (L3 d)):=by
 obtain ⟨⟨r0,r1⟩,_⟩:=cN h.1
 unfold L3 Pe;split
 ·have:=QR (n:=d.Runs) ⟨r0,by omega⟩ (L4 d);omega
 ·have:=H4 d;omega
theorem H2 {d:Delivery} (h:okD d):hL (L2 d)≠119∧hL (L2 d)≠110:=by
 have h3:=H3 h
 unfold Pe at h3
 unfold L2 GE
 repeat' split
 all_goals first
  | exact ⟨h3.1,h3.2.1⟩
  | exact ⟨(by decide :((46:UInt8).toNat:Int)≠119),(by decide :((46:UInt8).toNat:Int)≠110)⟩
  | exact ⟨(by decide :((111:UInt8).toNat:Int)≠119),(by decide :((111:UInt8).toNat:Int)≠110)⟩
  | exact ⟨(by decide :((98:UInt8).toNat:Int)≠119),(by decide :((98:UInt8).toNat:Int)≠110)⟩
  | exact ⟨(by decide :((108:UInt8).toNat:Int)≠119),(by decide :((108:UInt8).toNat:Int)≠110)⟩
theorem cp {l:List UInt8} {c:Int} (hc:0≤c) (h:hL l≠c):tkB (ofL l) c=false:=by rw [fu _ hc];exact Jl h
theorem iC (x:UInt8) (l:List UInt8):tkB (ofL (x::l)) (x.toNat:Int)=true:=by
 rw [fu _ (Int.natCast_nonneg _)];exact beq_self_eq_true _
theorem rd1 {d:Delivery} (h:okD d):paT (ofL (L1 d))=d.Typ∧pa1 (ofL (L1 d))=ofL (L2 d)∧tkB (ofL (L1 d)) 119 =(d.Typ==2):=by
 obtain ⟨⟨t0,t1⟩,_⟩:=dw h.1
 obtain ⟨h1,h2⟩:=H2 h
 have ht:d.Typ=1∨d.Typ=2∨d.Typ=3:=by omega
 unfold paT pa1 L1 MN
 rcases ht with e|e|e
 ·rw [e]
  have b1:tkB (ofL (L2 d)) 119=false:=cp (by decide) h1
  have b2:tkB (ofL (L2 d)) 110=false:=cp (by decide) h2
  show (if tkB (ofL (L2 d)) 119 then (2:Int) else if tkB (ofL (L2 d)) 110 then 3 else 1)=1∧(if tkB (ofL (L2 d)) 119 then _ else tkR (ofL (L2 d)) 110)=_∧tkB (ofL (L2 d)) 119=false
  rw [b1,b2,bL b2];exact ⟨rfl,rfl,rfl⟩
 ·rw [e]
  have b1:tkB (ofL (119::L2 d)) 119=true:=iC 119 _
  show (if tkB (ofL (119::L2 d)) 119 then (2:Int) else if tkB (ofL (119::L2 d)) 110 then 3 else 1)=2∧(if tkB (ofL (119::L2 d)) 119 then tl (ofL (119::L2 d)) else tkR (ofL (119::L2 d)) 110)=_∧tkB (ofL (119::L2 d)) 119=true
  rw [b1,bX];exact ⟨rfl,rfl,rfl⟩
 ·rw [e]
  have b1:tkB (ofL (110::L2 d)) 119=false:=cp (by decide) (show (110:Int)≠119 by decide)
  have b2:tkB (ofL (110::L2 d)) 110=true:=iC 110 _
  show (if tkB (ofL (110::L2 d)) 119 then (2:Int) else if tkB (ofL (110::L2 d)) 110 then 3 else 1)=3∧(if tkB (ofL (110::L2 d)) 119 then tl (ofL (110::L2 d)) else tkR (ofL (110::L2 d)) 110)=_∧tkB (ofL (110::L2 d)) 119=false
  rw [b1,b2,aQ b2,bX];exact ⟨rfl,rfl,rfl⟩
theorem rd2 {d:Delivery} (h:okD d):soV d.Typ (ofL (L2 d))=d.Source∧soR d.Typ (ofL (L2 d))=ofL (L3 d):=by
 obtain ⟨_,s1,_⟩:=dw h.1
 have s0:=h.2.1
 obtain ⟨_,_,n46,n98,n108,n111⟩:=H3 h
 have hs:d.Source=0∨d.Source=1∨d.Source=2∨d.Source=3:=by omega
 have m46:=cp (l:=L3 d) (by decide) n46
 have m98:=cp (l:=L3 d) (by decide) n98
 have m108:=cp (l:=L3 d) (by decide) n108
 have m111:=cp (l:=L3 d) (by decide) n111
 unfold soV soR L2 GE
 rcases hs with e|e|e|e <;> rw [e]
 ·cases ht:d.Typ==2 with
  | true=>
   have :(d.Typ != 2)=false:=by simp only [bne,ht];rfl
   rw [this]
   show (if tkB (ofL (L3 d)) 98 then (2:Int) else if tkB (ofL (L3 d)) 108 then 3 else if (true&&tkB (ofL (L3 d)) 111) then 1 else 0)=0∧(if tkB (ofL (L3 d)) 98 then _ else if tkB (ofL (L3 d)) 108 then _ else if (true&&tkB (ofL (L3 d)) 111) then _ else ofL (L3 d))=_
   rw [m98,m108,m111];exact ⟨rfl,rfl⟩
  | false=>
   have :(d.Typ != 2)=true:=by simp only [bne,ht];rfl
   rw [this]
   have b1:tkB (ofL (46::L3 d)) 98=false:=cp (by decide) (show (46:Int)≠98 by decide)
   have b2:tkB (ofL (46::L3 d)) 108=false:=cp (by decide) (show (46:Int)≠108 by decide)
   have b3:tkB (ofL (46::L3 d)) 46=true:=iC 46 _
   show (if tkB (ofL (46::L3 d)) 98 then (2:Int) else if tkB (ofL (46::L3 d)) 108 then 3 else if tkB (ofL (46::L3 d)) 46 then 0 else 1)=0∧(if tkB (ofL (46::L3 d)) 98 then _ else if tkB (ofL (46::L3 d)) 108 then _ else tkR (ofL (46::L3 d)) 46)=_
   rw [b1,b2,b3,aQ b3,bX];exact ⟨rfl,rfl⟩
 ·cases ht:d.Typ==2 with
  | true=>
   have b1:tkB (ofL (111::L3 d)) 98=false:=cp (by decide) (show (111:Int)≠98 by decide)
   have b2:tkB (ofL (111::L3 d)) 108=false:=cp (by decide) (show (111:Int)≠108 by decide)
   have b3:tkB (ofL (111::L3 d)) 111=true:=iC 111 _
   show (if tkB (ofL (111::L3 d)) 98 then (2:Int) else if tkB (ofL (111::L3 d)) 108 then 3 else if (true&&tkB (ofL (111::L3 d)) 111) then 1 else 0)=1∧(if tkB (ofL (111::L3 d)) 98 then _ else if tkB (ofL (111::L3 d)) 108 then _ else if (true&&tkB (ofL (111::L3 d)) 111) then tl (ofL (111::L3 d)) else _)=_
   rw [b1,b2,b3,bX];exact ⟨rfl,rfl⟩
  | false=>
   show (if tkB (ofL (L3 d)) 98 then (2:Int) else if tkB (ofL (L3 d)) 108 then 3 else if tkB (ofL (L3 d)) 46 then 0 else 1)=1∧(if tkB (ofL (L3 d)) 98 then _ else if tkB (ofL (L3 d)) 108 then _ else tkR (ofL (L3 d)) 46)=_
   rw [m98,m108,m46,bL m46];exact ⟨rfl,rfl⟩
 ·have b1:tkB (ofL (98::L3 d)) 98=true:=iC 98 _
  show (if tkB (ofL (98::L3 d)) 98 then (2:Int) else _)=2∧(if tkB (ofL (98::L3 d)) 98 then tl (ofL (98::L3 d)) else _)=_
  rw [b1,bX];exact ⟨rfl,rfl⟩
 ·have b1:tkB (ofL (108::L3 d)) 98=false:=cp (by decide) (show (108:Int)≠98 by decide)
  have b2:tkB (ofL (108::L3 d)) 108=true:=iC 108 _
  show (if tkB (ofL (108::L3 d)) 98 then (2:Int) else if tkB (ofL (108::L3 d)) 108 then 3 else _)=3∧(if tkB (ofL (108::L3 d)) 98 then _ else if tkB (ofL (108::L3 d)) 108 then tl (ofL (108::L3 d)) else _)=_
  rw [b1,b2,bX];exact ⟨rfl,rfl⟩
theorem nd4 (d:Delivery):nd (L4 d):=by have:=H4 d;unfold nd;omega
theorem nd6 (d:Delivery):nd (L6 d):=by have:=H6 d;unfold nd;omega
theorem rd3 {d:Delivery} (h:okD d) :(dgV (ofL (L3 d))=d.Runs∧dgR (ofL (L3 d))=ofL (L4 d))∧nmV (ofL (L3 d))=d.Runs∧nmR (ofL (L3 d))=ofL (L4 d):=by
 obtain ⟨⟨r0,r1⟩,_⟩:=cN h.1
 cases hb:Br d (dJ d.Typ d.Source) with
 | true=>
  have hl:L3 d=dL d.Runs++L4 d:=by unfold L3;rw [hb];rfl
  rw [hl]
  exact ⟨qW r0 (by omega) _,lr ⟨r0,by omega⟩ (nd4 d)⟩
 | false=>
  have hl:L3 d=L4 d:=by unfold L3;rw [hb];rfl
  have hr:d.Runs=0:=by
   unfold Br at hb
   simp only [Bool.or_eq_false_iff,decide_eq_false_iff_not] at hb
   omega
  rw [hl,hr]
  exact ⟨Hy (nd4 d),Rs (nd4 d)⟩
theorem rd4 {d:Delivery} (h:okD d) :(if tkB (ofL (L4 d)) 70 then (4:Int) else if tkB (ofL (L4 d)) 83 then 6 else 0)=d.Boundary∧(if tkB (ofL (L4 d)) 70 then tl (ofL (L4 d)) else tkR (ofL (L4 d)) 83)=ofL (L5 d):=by
 have h5:=H5 d
 rcases Ph h with e|e|e
 ·have hl:L4 d=L5 d:=by unfold L4;rw [e];rfl
  have b1:tkB (ofL (L5 d)) 70=false:=cp (by decide) (by omega)
  have b2:tkB (ofL (L5 d)) 83=false:=cp (by decide) (by omega)
  rw [hl,b1,b2,bL b2,e];exact ⟨rfl,rfl⟩
 ·have hl:L4 d=70::L5 d:=by unfold L4;rw [e];rfl
  have b1:tkB (ofL (70::L5 d)) 70=true:=iC 70 _
  rw [hl,b1,bX,e];exact ⟨rfl,rfl⟩
 ·have hl:L4 d=83::L5 d:=by unfold L4;rw [e];rfl
  have b1:tkB (ofL (83::L5 d)) 70=false:=cp (by decide) (show (83:Int)≠70 by decide)
  have b2:tkB (ofL (83::L5 d)) 83=true:=iC 83 _
  rw [hl,b1,b2,aQ b2,bX,e];exact ⟨rfl,rfl⟩
theorem rd5 {d:Delivery} (h:okD d) :((if tkB (ofL (L5 d)) 45 then dgV (tl (ofL (L5 d))) else 0)=d.Short∧(if tkB (ofL (L5 d)) 45 then dgR (tl (ofL (L5 d))) else ofL (L5 d))=ofL (L6 d))∧((if tkB (ofL (L5 d)) 45 then nmV (tl (ofL (L5 d))) else 0)=d.Short∧(if tkB (ofL (L5 d)) 45 then nmR (tl (ofL (L5 d))) else ofL (L5 d))=ofL (L6 d)):=by
 obtain ⟨_,⟨r0,r1⟩,_⟩:=cN h.1
 have h6:=H6 d
 by_cases hb:d.Short>0
 ·have hl:L5 d=45 ::(dL d.Short++L6 d):=by unfold L5;rw [decide_eq_true hb];rfl
  have b1:tkB (ofL (45 ::(dL d.Short++L6 d))) 45=true:=iC 45 _
  have a:=qW r0 (by omega) (L6 d)
  have b:=lr ⟨r0,by omega⟩ (nd6 d)
  rw [hl,b1,bX,a.1,a.2,b.1,b.2];exact ⟨⟨rfl,rfl⟩,rfl,rfl⟩
 ·have hl:L5 d=L6 d:=by unfold L5;rw [decide_eq_false hb];rfl
  have b1:tkB (ofL (L6 d)) 45=false:=cp (by decide) (by omega)
  have hr:d.Short=0:=by omega
  rw [hl,b1,hr];exact ⟨⟨rfl,rfl⟩,rfl,rfl⟩
theorem rd6 (d:Delivery):tkB (ofL (L6 d)) 120=d.Crossed∧tkR (ofL (L6 d)) 120=ofL (L7 d):=by
 have h7:=H7 d
 unfold L6
 cases d.Crossed with
 | true=>
  have b1:tkB (ofL (120::L7 d)) 120=true:=iC 120 _
  rw [if_pos rfl,b1,aQ b1,bX];exact ⟨rfl,rfl⟩
 | false=>
  have b1:tkB (ofL (L7 d)) 120=false:=cp (by decide) (by omega)
  rw [if_neg Bool.false_ne_true,b1,bL b1];exact ⟨rfl,rfl⟩
theorem rd8 {d:Delivery} (h:okD d) :(if tkB (ofL (L8 d)) 64 then dgV (tl (ofL (L8 d))) else 0)=d.Sector∧(if tkB (ofL (L8 d)) 64 then nmV (tl (ofL (L8 d))) else 0)=d.Sector:=by
 obtain ⟨_,_,_,r0,r1⟩:=cN h.1
 by_cases hb:d.Sector>0
 ·have hl:L8 d=64 ::(dL d.Sector++[]):=by unfold L8;rw [decide_eq_true hb,List.append_nil];rfl
  have b1:tkB (ofL (64 ::(dL d.Sector++[]))) 64=true:=iC 64 _
  have a:=qW r0 (by omega) []
  have b:=lr (n:=d.Sector) (t:= []) ⟨r0,by omega⟩ (.inl (by decide))
  rw [hl,b1,bX,a.1,b.1];exact ⟨rfl,rfl⟩
 ·have hl:L8 d=[]:=by unfold L8;rw [decide_eq_false hb];rfl
  have b1:tkB (ofL []) 64=false:=cp (by decide) (show (-1:Int)≠64 by decide)
  have hr:d.Sector=0:=by omega
  rw [hl,b1,hr];exact ⟨rfl,rfl⟩
theorem Pr {d:Delivery} (h:okD d):kn (ofL (L1 d))=d:=by
 obtain ⟨a1,a2,_⟩:=rd1 h
 obtain ⟨b1,b2⟩:=rd2 h
 obtain ⟨⟨c1,c2⟩,_⟩:=rd3 h
 obtain ⟨d1,d2⟩:=rd4 h
 obtain ⟨⟨e1,e2⟩,_⟩:=rd5 h
 obtain ⟨f1,f2⟩:=rd6 d
 obtain ⟨g1,_⟩:=rd8 h
 generalize hs:ofL (L1 d)=s at *
 have p2:pa2 s=ofL (L3 d):=by unfold pa2;rw [a1,a2,b2]
 have p3:pa3 s=ofL (L4 d):=by unfold pa3;rw [p2,c2]
 have p4:pa4 s=ofL (L5 d):=by unfold pa4;rw [p3,d2]
 have p5:pa5 s=ofL (L6 d):=by unfold pa5;rw [p4,e2]
 have p6:pa6 s=ofL (L7 d):=by unfold pa6;rw [p5,f2]
 have pD:paD s={ d with How:=0,Victim:=0,Fielder:=0,Second:=0,Sub:=false,Sector:=0 }:=by
  unfold paD;rw [a1,a2,b1,p2,c1,p3,d1,p4,e1,p5,f1]
 have w:=MT (e:=paD s) h (H8 (d:=d)) (by rw [pD];exact ⟨rfl,rfl,rfl,rfl,rfl⟩)
 have p7:pa7 s=ofL (L8 d):=by unfold pa7;rw [p6];exact w.1
 have pW:paW s={ d with Sector:=0 }:=by unfold paW;rw [p6];refine w.2.trans ?_;rw [pD]
 unfold kn;rw [p7,pW,g1]
theorem Oz {d:Delivery} (h:okD d):ka (ofL (L1 d))=d:=by
 obtain ⟨a1,a2,a3⟩:=rd1 h
 obtain ⟨_,s1,_⟩:=dw h.1
 obtain ⟨_,⟨c1,c2⟩⟩:=rd3 h
 obtain ⟨d1,d2⟩:=rd4 h
 obtain ⟨_,e1,e2⟩:=rd5 h
 obtain ⟨f1,f2⟩:=rd6 d
 obtain ⟨_,g1⟩:=rd8 h
 have b:gsV (ofL (L1 d))=d.Source∧gs2 (ofL (L1 d))=ofL (L3 d):=by
  have s0:=h.2.1
  obtain ⟨_,_,n46,n98,n108,n111⟩:=H3 h
  have hs:d.Source=0∨d.Source=1∨d.Source=2∨d.Source=3:=by omega
  have m46:=cp (l:=L3 d) (by decide) n46
  have m98:=cp (l:=L3 d) (by decide) n98
  have m108:=cp (l:=L3 d) (by decide) n108
  have m111:=cp (l:=L3 d) (by decide) n111
  unfold gsV gs2 gs0
  rw [a2,a3]
  unfold L2 GE
  rcases hs with e|e|e|e <;> rw [e]
  ·cases ht:d.Typ==2 with
   | true=>
    have :(d.Typ != 2)=false:=by simp only [bne,ht];rfl
    rw [this]
    show (if tkB (ofL (L3 d)) 46 then (0:Int) else if tkB (ofL (L3 d)) 98 then 2 else if tkB (ofL (L3 d)) 108 then 3 else if tkB (ofL (L3 d)) 111 then 1 else 0)=0∧(if tkB (ofL (L3 d)) 46 then _ else if tkB (ofL (L3 d)) 98 then _ else if tkB (ofL (L3 d)) 108 then _ else tkR (ofL (L3 d)) 111)=_
    rw [m46,m98,m108,m111,bL m111];exact ⟨rfl,rfl⟩
   | false=>
    have :(d.Typ != 2)=true:=by simp only [bne,ht];rfl
    rw [this]
    have b3:tkB (ofL (46::L3 d)) 46=true:=iC 46 _
    show (if tkB (ofL (46::L3 d)) 46 then (0:Int) else _)=0∧(if tkB (ofL (46::L3 d)) 46 then tl (ofL (46::L3 d)) else _)=_
    rw [b3,bX];exact ⟨rfl,rfl⟩
  ·cases ht:d.Typ==2 with
   | true=>
    have b0:tkB (ofL (111::L3 d)) 46=false:=cp (by decide) (show (111:Int)≠46 by decide)
    have b1:tkB (ofL (111::L3 d)) 98=false:=cp (by decide) (show (111:Int)≠98 by decide)
    have b2:tkB (ofL (111::L3 d)) 108=false:=cp (by decide) (show (111:Int)≠108 by decide)
    have b3:tkB (ofL (111::L3 d)) 111=true:=iC 111 _
    show (if tkB (ofL (111::L3 d)) 46 then (0:Int) else if tkB (ofL (111::L3 d)) 98 then 2 else if tkB (ofL (111::L3 d)) 108 then 3 else if tkB (ofL (111::L3 d)) 111 then 1 else 0)=1∧(if tkB (ofL (111::L3 d)) 46 then _ else if tkB (ofL (111::L3 d)) 98 then _ else if tkB (ofL (111::L3 d)) 108 then _ else tkR (ofL (111::L3 d)) 111)=_
    rw [b0,b1,b2,b3,aQ b3,bX];exact ⟨rfl,rfl⟩
   | false=>
    show (if tkB (ofL (L3 d)) 46 then (0:Int) else if tkB (ofL (L3 d)) 98 then 2 else if tkB (ofL (L3 d)) 108 then 3 else if tkB (ofL (L3 d)) 111 then 1 else 1)=1∧(if tkB (ofL (L3 d)) 46 then _ else if tkB (ofL (L3 d)) 98 then _ else if tkB (ofL (L3 d)) 108 then _ else tkR (ofL (L3 d)) 111)=_
    rw [m46,m98,m108,m111,bL m111];exact ⟨rfl,rfl⟩
  ·have b0:tkB (ofL (98::L3 d)) 46=false:=cp (by decide) (show (98:Int)≠46 by decide)
   have b1:tkB (ofL (98::L3 d)) 98=true:=iC 98 _
   show (if tkB (ofL (98::L3 d)) 46 then (0:Int) else if tkB (ofL (98::L3 d)) 98 then 2 else _)=2∧(if tkB (ofL (98::L3 d)) 46 then _ else if tkB (ofL (98::L3 d)) 98 then tl (ofL (98::L3 d)) else _)=_
   rw [b0,b1,bX];exact ⟨rfl,rfl⟩
  ·have b0:tkB (ofL (108::L3 d)) 46=false:=cp (by decide) (show (108:Int)≠46 by decide)
   have b1:tkB (ofL (108::L3 d)) 98=false:=cp (by decide) (show (108:Int)≠98 by decide)
   have b2:tkB (ofL (108::L3 d)) 108=true:=iC 108 _
   show (if tkB (ofL (108::L3 d)) 46 then (0:Int) else if tkB (ofL (108::L3 d)) 98 then 2 else if tkB (ofL (108::L3 d)) 108 then 3 else _)=3∧(if tkB (ofL (108::L3 d)) 46 then _ else if tkB (ofL (108::L3 d)) 98 then _ else if tkB (ofL (108::L3 d)) 108 then tl (ofL (108::L3 d)) else _)=_
   rw [b0,b1,b2,bX];exact ⟨rfl,rfl⟩
 obtain ⟨b1,p2⟩:=b
 generalize hs:ofL (L1 d)=s at *
 have p3:gs3 s=ofL (L4 d):=by unfold gs3;rw [p2,c2]
 have p4:gs4 s=ofL (L5 d):=by unfold gs4;rw [p3,d2]
 have p5:gs5 s=ofL (L6 d):=by unfold gs5;rw [p4,e2]
 have p6:gs6 s=ofL (L7 d):=by unfold gs6;rw [p5,f2]
 have pD:gsD s={ d with How:=0,Victim:=0,Fielder:=0,Second:=0,Sub:=false,Sector:=0 }:=by
  unfold gsD;rw [a1,b1,p2,c1,p3,d1,p4,e1,p5,f1]
 have w:=Jz (e:=gsD s) h (H8 (d:=d)) (by rw [pD];exact ⟨rfl,rfl,rfl,rfl,rfl⟩)
 have p7:gs7 s=ofL (L8 d):=by unfold gs7;rw [p6];exact w.1
 have pW:gsW s={ d with Sector:=0 }:=by unfold gsW;rw [p6];refine w.2.trans ?_;rw [pD]
 unfold ka;rw [p7,pW,g1]
theorem BK (x:Int):0≤IntKind.u8.wrap x:=by
 simp only [IntKind.wrap,IntKind.bits,IntKind.signed]
 simp
 omega
theorem Ig (s:ByteArray) :∀ (k:Nat) (h:Int),k≤11→0≤h→0≤hoF s k h
 | 0,_,_,h=>h
 | k+1,x,hk,h=>by
  unfold hoF
  apply Ig s k _ (by omega)
  split <;> omega
theorem Ij (s:ByteArray):0≤(kn s).How∧0≤(ka s).How:=by
 constructor
 ·show 0≤(paW s).How
  unfold paW wkD
  split
  ·exact Int.le_refl _
  ·split
   ·exact BK _
   ·exact BK _
 ·show 0≤(gsW s).How
  unfold gsW ouD
  have hh :∀ x,0≤(hoD x 11 (gsD s)).How:=fun x=>Ig _ 11 0 (Nat.le_refl _) (Int.le_refl _)
  repeat' split
  ·exact hh _
  ·exact hh _
  ·exact hh _
  ·exact Int.le_refl _
theorem Km (s:ByteArray):0≤(kn s).Source∧0≤(ka s).Source:=by
 constructor
 ·have :(kn s).Source=soV (paT s) (pa1 s):=by
   show (paW s).Source=_
   unfold paW wkD
   split
   ·rfl
   ·split <;> rfl
  rw [this];unfold soV
  repeat' split
  all_goals decide
 ·have :(ka s).Source=gsV s:=by
   show (gsW s).Source=_
   unfold gsW ouD
   repeat' split
   all_goals rfl
  rw [this];unfold gsV gs0
  repeat' split
  all_goals decide
theorem EJ {s:ByteArray} (h:jB s=false):ka s=kn s:=by
 unfold jB at h
 simp only [Bool.or_eq_false_iff,Bool.not_eq_false'] at h
 have h1:bd (kn s)=0:=by simpa using h.1
 have ok:okD (kn s):=⟨h1,(Km s).1,(Ij s).1⟩
 have e:prS (kn s)=s:=b9 (bytes_eq_iff.1 h.2)
 have:=Oz ok
 rw [←JI ok,e] at this;exact this
theorem Lq {s:ByteArray} (h:k9 s=false):kn s=ka s:=by
 unfold k9 at h
 simp only [Bool.or_eq_false_iff,Bool.not_eq_false'] at h
 have h1:bd (ka s)=0:=by simpa using h.1
 have ok:okD (ka s):=⟨h1,(Km s).2,(Ij s).2⟩
 have e:prS (ka s)=s:=b9 (bytes_eq_iff.1 h.2)
 have:=Pr ok
 rw [←JI ok,e] at this;exact this
theorem JC (s:ByteArray):k9 s=jB s∧Ib s=tU s∧Ia s=mq s:=by
 have e:k9 s=jB s:=by
  cases h:jB s with
  | false=>rw [←h];unfold k9 jB;rw [EJ h]
  | true=>
   cases g:k9 s with
   | true=>rfl
   | false=>rw [←h,←g];unfold k9 jB;rw [Lq g]
 refine ⟨e,?_,?_⟩
 ·unfold Ib tU;rw [e]
  cases h:jB s with
  | true=>rfl
  | false=>rw [EJ h]
 ·unfold Ia mq;rw [e]
end Go.Proofs.YtffdpnmioidloaaGreatDoor
namespace Go.Proofs.YtffdpnmioidloaaGreatDoor
open Go Go.Mir
attribute [local irreducible] Go.Mir.DT.sat Go.Mir.evPat Go.Mir.RT.sat Go.Mir.evFn
theorem Dj (s:ByteArray) :(evPat (ax [zW,zU] Tryz.f72) (fun _=>none) Tryz.f72 nk CU (s,())).sat fun z_=>z_ =(pw (s,())).2:=by
 refine cast (by kernel_rfl) (?_:let r1:Delivery:=Delivery.mk (gsW s).1 (gsW s).2 (gsW s).3 (gsW s).4 (gsW s).5 (gsW s).6 (gsW s).7 (gsW s).8 (gsW s).9 (gsW s).10 (gsW s).11 (if tkB (gs7 s) (64:Int)=true then nmV (tl (gs7 s)) else (gsW s).12);let r2:Bool:=bif bd r1 !=(0:Int) then true else !(prS r1).toList==s.toList;(r2=true→(Delivery.mk (0:Int) (0:Int) (0:Int) (0:Int) (0:Int) false (0:Int) (0:Int) (0:Int) (0:Int) false (0:Int),(4:Int),()) =(tU s,mq s,()))∧(r2=false→(r1,(0:Int),()) =(tU s,mq s,())))
 intro r1 r2
 clear_value (hr1:r1=_) (hr2:r2=_)
 obtain ⟨g1,g2,g3⟩:=JC s
 rw [show tU s=Ib s from g2.symm,show mq s=Ia s from g3.symm]
 have e1:r1=ka s:=hr1
 have e2:r2=k9 s:=by rw [hr2,e1];unfold k9;cases bd (ka s) != 0 <;> rfl
 refine ⟨fun h=>?_,fun h=>?_⟩
 ·rw [e2] at h;unfold Ib Ia;rw [h];rfl
 ·rw [e2] at h;unfold Ib Ia;rw [h,e1];rfl
def rU:FuncId×Ctr:=(72,ae KE nk CU pw)
theorem vG:CtrOK Tryz.prog KE 72 (ae KE nk CU pw):=by
 refine aE (C:=ax [zW,zU] Tryz.f72) (au (.consU Gg rfl (.consU Gf rfl .nil)) _) mixed (fn:=Tryz.f72) Tryz.func72 (by kernel_rfl) (by kernel_rfl) (by kernel_rfl) (by kernel_rfl) (by kernel_rfl) (by kernel_rfl) (Λ:=fun _ _=>none) ?_ ?_
 ·exact fun _ _ _ _ _ _ _ _ h=>by cases h
 ·rintro ⟨s,⟨⟩⟩ hw hn
  exact Dj s
end Go.Proofs.YtffdpnmioidloaaGreatDoor
namespace Go.Proofs.YtffdpnmioidloaaGreatDoor
open Go Go.Mir Go.RowKit
attribute [local irreducible] Go.Mir.DT.sat Go.Mir.evPat Go.Mir.RT.sat Go.Mir.evFn
def ua (l:List ByteArray):Nat:=(l.map fun s=>s.size+1).sum
end Go.Proofs.YtffdpnmioidloaaGreatDoor
namespace Go.Proofs.YtffdpnmioidloaaGreatDoor
open Go Go.Mir Go.RowKit
attribute [local irreducible] Go.Mir.DT.sat Go.Mir.evPat Go.Mir.RT.sat Go.Mir.evFn
theorem wc :∀ l:List (List UInt8),(Lib.joinTail [32] l).length =(l.map fun s=>s.length+1).sum
 | []=>rfl
 | w::l=>by
  have ih:=wc l
  unfold Lib.joinTail at *
  simp only [List.map_cons,List.flatten_cons,List.length_append,List.length_cons,List.length_nil,List.sum_cons] at *
  omega
theorem Ct (l:List (List UInt8)) :(Lib.join l [32]).length≤(l.map fun s=>s.length+1).sum:=by
 cases l with
 | nil=>rw [Lib.join_nil];exact Nat.zero_le _
 | cons w l=>
  have h:=wc l
  rw [Lib.join_cons]
  simp only [List.length_append,List.map_cons,List.sum_cons]
  omega
theorem Cs (l:List ByteArray) :(fY l spV).size≤ua l:=by
 have h:=Ct (l.map fun s=>s.data.toList)
 have e :(fY l spV).size =(Lib.join (l.map fun s=>s.data.toList) [32]).length:=rfl
 have e2 :((l.map fun s=>s.data.toList).map fun s=>s.length+1).sum=ua l:=by
  unfold ua
  rw [List.map_map]
  congr 1
 omega
theorem v7 (a:ByteArray) (b:List ByteArray):ua (a::b)=a.size+1+ua b:=by unfold ua;rw [List.map_cons,List.sum_cons]
end Go.Proofs.YtffdpnmioidloaaGreatDoor
namespace Go.Proofs.YtffdpnmioidloaaGreatDoor
open Go Go.Mir Go.RowKit
attribute [local irreducible] Go.Mir.DT.sat Go.Mir.evPat Go.Mir.RT.sat Go.Mir.evFn
abbrev qRl:Pat:=cW [RwsL]
abbrev CV:Pat:=cW [.str,I]
def bV (r:Mir.Row):Int:=if (fv r++fT r).any dH then 2 else if mq r.Symbol != 0 then 4 else 0
def eZ:List Mir.Row→Int
 | []=>0
 | r::l=>if bV r != 0 then bV r else eZ l
def bm (l:List Mir.Row):ByteArray×Int:=if eZ l=0 then (jU l ⟨#[]⟩,0) else (⟨#[]⟩,eZ l)
def MH (l:List Mir.Row):Prop:=∀ r∈l,r.Symbol.size≤20000
def qI (l:List Mir.Row):Prop:=l.length≤20100∧MH l
def px:Den (tyP qRl)→List Prop×Den (tyP CV):=fun x=>([qI x.1],((bm x.1).1,(bm x.1).2,()))
abbrev GP:Type:=ByteArray×Int×Unit
abbrev xRl:Lf×Pat:=(.ret,⟨[(2,.h .str),(3,.h I)],[],0⟩)
abbrev qM0:Pat:=⟨[(4,.h .str),(6,.c (.ptr 2 0)),(7,.h .str),(12,.h RwsL),(13,.h I),(14,.h I),(34,.c (.osl 0 1)),(35,.h I),(36,.h I)],[(0,.row 1 I),(2,.dat (.nm .Row))],3⟩
abbrev xM0:List (Lf×Pat):= [(.ext 2,⟨[(4,.h .str),(6,.c (.ptr 2 0)),(7,.h .str),(12,.h RwsL),(13,.h I),(14,.h I)],[(2,.dat (.nm .Row))],3⟩),xRl]
abbrev TM0:Type:=ByteArray×ByteArray×List Mir.Row×Int×Int×Int×Int×List Int×Mir.Row×Unit
def AI (o:ByteArray) (l:List Mir.Row) (n i:Int) (r:Mir.Row):Option ByteArray→Sum (ByteArray×ByteArray×List Mir.Row×Int×Int×Mir.Row×Unit) GP
 | some s=> .inl (o,s,l,n,i,r,())
 | none=> .inr (⟨#[]⟩,2,())
def iz:TM0→Sum (ByteArray×ByteArray×List Mir.Row×Int×Int×Mir.Row×Unit) GP
 |(o,s,l,n,i,_,j,xs,r,_)=>AI o l n i r (lnG r.Symbol (xs.drop j.toNat) j s)
def uP:TM0→Prop
 |(_,s,_,_,_,m,j,xs,r,_)=>(m =(xs.length:Int)∧xs.length=8∧r.Symbol.size≤20000)∧(0≤j∧j≤m)∧(s.size:Int)≤30*j +(if j≤6 then 0 else 20001)
def I3:TM0→Nat
 |(_,_,_,_,_,m,j,_)=>(m - j).toNat
abbrev qM1:Pat:=⟨[(4,.h .str),(12,.h RwsL),(13,.h I),(14,.h I)],[],0⟩
abbrev xM1:List (Lf×Pat):= [(.ext 0,⟨[(4,.h .str)],[],0⟩),xRl]
abbrev TM1:Type:=ByteArray×List Mir.Row×Int×Int×Unit
def cy (o:ByteArray) (l:List Mir.Row):Sum (ByteArray×Unit) GP:=if eZ l=0 then .inl (jU l o,()) else .inr (⟨#[]⟩,eZ l,())
def jG:TM1→Sum (ByteArray×Unit) GP
 |(o,l,_,i,_)=>cy o (l.drop i.toNat)
def uQ:TM1→Prop
 |(o,l,n,i,_)=>(n =(l.length:Int)∧qI l)∧(0≤i∧i≤n)∧(o.size:Int)≤20300*i
def I4:TM1→Nat
 |(_,_,n,i,_)=>(n - i).toNat
noncomputable def lpM0:Lp:=(⟨0,ax [ke] Tryz.f22,(fun _=>none),(gu Tryz.f22 0 0),qM0,xM0⟩:Lp)
theorem P0 (o:ByteArray) (s:ByteArray) (l:List Mir.Row) (n:Int) (i:Int) (m:Int) (j:Int) (xs:List Int) (r:Mir.Row) (hi:uP (o,s,l,n,i,m,j,xs,r,())) :(Go.Mir.stepG lpM0 iz (fun y:Den (tyP lpM0.q)=>uP y∧I3 y<I3 (o,s,l,n,i,m,j,xs,r,())) (o,s,l,n,i,m,j,xs,r,())∧Go.Mir.stepE lpM0 iz (o,s,l,n,i,m,j,xs,r,())=iz (o,s,l,n,i,m,j,xs,r,())):=by
 refine cast (by kernel_rfl) (?_:let r1:ByteArray:=r.7++ByteArray.mk #[32];let r2:ByteArray:=aZ (xs.getD j.toNat (dflt (Ty.int IntKind.i64)))++ByteArray.mk #[32];let r3:ByteArray:=bif j ==(6:Int) then s++r1 else s;let r4:Bool:=bif decide (xs.getD j.toNat (dflt (Ty.int IntKind.i64)) <(0:Int)) then true else decide (xs.getD j.toNat (dflt (Ty.int IntKind.i64)) >(1000000:Int));((decide (j<m)=true→((0:Int)≤j∧j <(↑xs.length:Int))∧(r4=true→True)∧(r4=false→(((j ==(6:Int))=true→r.7.size +(ByteArray.mk #[32]).size≤ai∧s.size+r1.size≤ai∧True)∧((j ==(6:Int))=false→True))∧(true=true→F2 (xs.getD j.toNat (dflt (Ty.int IntKind.i64)))∧(aZ (xs.getD j.toNat (dflt (Ty.int IntKind.i64)))).size +(ByteArray.mk #[32]).size≤ai∧r3.size+r2.size≤ai∧uP (o,r3++r2,l,n,i,m,IntKind.i64.wrap (j +(1:Int)),xs,r,())∧I3 (o,r3++r2,l,n,i,m,IntKind.i64.wrap (j +(1:Int)),xs,r,())<I3 (o,s,l,n,i,m,j,xs,r,()))))∧(decide (j<m)=false→True))∧(bif decide (j<m) then bif r4 then Sum.inr (ByteArray.mk #[],(2:Int),()) else bif true&&true then iz (o,r3++r2,l,n,i,m,IntKind.i64.wrap (j +(1:Int)),xs,r,()) else bif true then iz (o,r3++r2,l,n,i,m,IntKind.i64.wrap (j +(1:Int)),xs,r,()) else bif j ==(6:Int) then Sum.inl (dflt (Ty.str.prod (Ty.str.prod (RwsL.prod (I.prod (I.prod ((Ty.nm Nm.Row).prod Ty.unit))))))) else Sum.inl (dflt (Ty.str.prod (Ty.str.prod (RwsL.prod (I.prod (I.prod ((Ty.nm Nm.Row).prod Ty.unit))))))) else Sum.inl (o,s,l,n,i,r,()))=iz (o,s,l,n,i,m,j,xs,r,()))
 intro r1 r2 r3 r4
 clear_value (hr1:r1=_) (hr2:r2=_) (hr3:r3=_) (hr4:r4=_)
 obtain ⟨⟨h1,h1b,h1c⟩,⟨h2,h3⟩,h4⟩:=hi
 have h1:m =(xs.length:Int):=h1
 have h1b:xs.length=8:=h1b
 have h1c:r.Symbol.size≤20000:=h1c
 have h2:0≤j:=h2
 have h3:j≤m:=h3
 have h4 :(s.size:Int)≤30*j +(if j≤6 then 0 else 20001):=h4
 have hL :(1000000000:Nat)≤ai:=by decide
 by_cases h:j<m
 ·have e1:IntKind.i64.wrap (j+1)=j+1:=wrap64 (by omega) (by omega)
  have hd:xs.drop j.toNat=xs.getD j.toNat (dflt (Ty.int IntKind.i64))::xs.drop (j+1).toNat:=fM h2 (by omega) _
  generalize xs.getD j.toNat (dflt (Ty.int IntKind.i64))=x at *
  have e4:r4=dH x:=hr4
  have hsp :(ByteArray.mk #[(32:UInt8)]).size=1:=rfl
  have hs4 :(s.size:Int)≤30*j+20001:=by split at h4 <;> omega
  have key:iz (o,s,l,n,i,m,j,xs,r,())=bif r4 then .inr (⟨#[]⟩,2,()) else iz (o,r3++r2,l,n,i,m,j+1,xs,r,()):=by
   show AI o l n i r (lnG r.Symbol (xs.drop j.toNat) j s)=bif r4 then .inr (⟨#[]⟩,2,()) else AI o l n i r (lnG r.Symbol (xs.drop (j+1).toNat) (j+1) (r3++r2))
   rw [hd]
   generalize xs.drop (j+1).toNat=R
   have e:lnG r.Symbol (x::R) j s=if dH x then none else lnG r.Symbol R (j+1) ((bif j==6 then s ++(r.Symbol++spV) else s) ++(aZ x++spV)):=rfl
   rw [e,e4,hr3,hr2,hr1]
   cases dH x <;> rfl
  rw [decide_eq_true h,e1,key]
  refine ⟨⟨fun _=>⟨⟨h2,by omega⟩,fun _=>trivial,fun h4'=>?_⟩,fun z=>Bool.noConfusion z⟩,?_⟩
  ·have hx:0≤x∧x≤1000000:=xV (by rw [e4,x5] at h4';simpa using h4')
   have hz:=lM hx.1 hx.2
   have hr2':r2.size≤22:=by rw [hr2,ByteArray.size_append,hsp];omega
   have hr1':r1.size=r.Symbol.size+1:=by rw [hr1,ByteArray.size_append,hsp]
   have hr3' :(r3.size:Int)≤30*j +(if j+1≤6 then 0 else 20001):=by
    rw [hr3]
    cases hj:j==6 with
    | true=>
     have hj:j=6:=eq_of_beq hj
     show ((s++r1).size:Int)≤_
     rw [ByteArray.size_append,hr1',if_neg (by omega)]
     rw [if_pos (by omega)] at h4
     omega
    | false=>
     have hj:j≠6:=fun e=>by rw [e] at hj;exact Bool.noConfusion hj
     show (s.size:Int)≤_
     by_cases hk:j+1≤6
     ·rw [if_pos hk];rw [if_pos (by omega)] at h4;exact h4
     ·rw [if_neg hk];rw [if_neg (by omega)] at h4;exact h4
   have hr3b :(r3.size:Int)≤30*j+20001:=by split at hr3' <;> omega
   refine ⟨⟨fun _=>⟨by rw [hsp];omega,by omega,trivial⟩,fun _=>trivial⟩,fun _=>⟨⟨hx.1,by omega⟩,by rw [hsp];omega,by omega,⟨⟨h1,h1b,h1c⟩,⟨?_,?_⟩,?_⟩,?_⟩⟩
   ·show 0≤j+1;omega
   ·show j+1≤m;omega
   ·show ((r3++r2).size:Int)≤30 *(j+1) +(if j+1≤6 then 0 else 20001)
    rw [ByteArray.size_append];omega
   ·show (m - (j+1)).toNat <(m - j).toNat;omega
  ·cases r4 <;> rfl
 ·rw [decide_eq_false h]
  refine ⟨⟨fun z=>Bool.noConfusion z,fun _=>trivial⟩,?_⟩
  show _=AI o l n i r (lnG r.Symbol (xs.drop j.toNat) j s)
  rw [dV (l:=xs) (by omega)]
  rfl
noncomputable def RK:LoopSum:=az lpM0 iz uP
noncomputable def RC:Nat:=rid (gu Tryz.f22 0 0)
theorem OV:LoopOKp Tryz.prog 0 Tryz.f22.ntmps (gu Tryz.f22 0 0) (az lpM0 iz uP):=
 aY lpM0 (au (.consU lx rfl .nil) _) mixed (fun b hb S hS=>by cases hS) iz uP I3 (fun |⟨o,s,l,n,i,m,j,xs,r,⟨⟩⟩,hi=>P0 o s l n i m j xs r hi)
theorem A5 {r:Mir.Row} (h :(fv r++fT r).any dH=false) (hs:r.Symbol.size≤20000) :(fY (aN r) spV).size≤20200:=by
 have hx :∀ x∈fv r++fT r,0≤x∧x≤1000000:=fun x hx=>by
  have:=List.any_eq_false.1 h x hx
  exact xV (by rw [x5] at this;simpa using this)
 have z:=fun x hx'=>lM (hx x hx').1 (hx x hx').2
 unfold fv fT at z
 have hj:=Cs (aN r)
 have e:ua (aN r)≤20200:=by
  unfold aN fv fT
  simp only [List.map_cons,List.map_nil,List.cons_append,List.nil_append,v7]
  have h0:ua []=0:=rfl
  have z1:=z r.Innings (by simp)
  have z2:=z r.Over (by simp)
  have z3:=z r.Ball (by simp)
  have z4:=z r.Bowler (by simp)
  have z5:=z r.Striker (by simp)
  have z6:=z r.Partner (by simp)
  have z7:=z r.Total (by simp)
  have z8:=z r.Wickets (by simp)
  omega
 omega
theorem lQ (r:Mir.Row) (l:List Mir.Row):eZ (r::l)=if bV r != 0 then bV r else eZ l:=rfl
theorem ma {r:Mir.Row} {l:List Mir.Row} {o:ByteArray} {k:Int} (h:bV r=k) (hk:k≠0):cy o (r::l) = .inr (⟨#[]⟩,k,()):=by
 have e:eZ (r::l)=k:=by
  rw [lQ,h,if_pos (by simpa using hk)]
 unfold cy
 rw [e,if_neg hk]
theorem AJ {r:Mir.Row} {l:List Mir.Row} {o:ByteArray} (h:bV r=0):cy o (r::l)=cy (o++lnB (aN r)) l:=by
 have e:eZ (r::l)=eZ l:=by
  rw [lQ,h]
  rfl
 unfold cy
 rw [e]
 rfl
noncomputable def lpM1:Lp:=(⟨0,ax [ke,rU] Tryz.f22,(find [(RC,RK)]),(bf Tryz.f22 0),qM1,xM1⟩:Lp)
theorem P1 (o:ByteArray) (l:List Mir.Row) (n:Int) (i:Int) (hi:uQ (o,l,n,i,())) :(Go.Mir.stepG lpM1 jG (fun y:Den (tyP lpM1.q)=>uQ y∧I4 y<I4 (o,l,n,i,())) (o,l,n,i,())∧Go.Mir.stepE lpM1 jG (o,l,n,i,())=jG (o,l,n,i,())):=by
 refine cast (by kernel_rfl) (?_:let r1:List Int:= [(l.getD i.toNat (dflt (Ty.nm Nm.Row))).1,(l.getD i.toNat (dflt (Ty.nm Nm.Row))).2,(l.getD i.toNat (dflt (Ty.nm Nm.Row))).3,(l.getD i.toNat (dflt (Ty.nm Nm.Row))).4,(l.getD i.toNat (dflt (Ty.nm Nm.Row))).5,(l.getD i.toNat (dflt (Ty.nm Nm.Row))).6,(l.getD i.toNat (dflt (Ty.nm Nm.Row))).8,(l.getD i.toNat (dflt (Ty.nm Nm.Row))).9];let r2:Int:=(↑r1.length:Int);let r3:Bool:=isL (iz (o,ByteArray.mk #[],l,n,i,r2,(0:Int),r1,l.getD i.toNat (dflt (Ty.nm Nm.Row)),()));let r4:ByteArray×ByteArray×List Mir.Row×Int×Int×Mir.Row×PUnit:=oQ (dflt (Ty.str.prod (Ty.str.prod (RwsL.prod (I.prod (I.prod ((Ty.nm Nm.Row).prod Ty.unit))))))) (iz (o,ByteArray.mk #[],l,n,i,r2,(0:Int),r1,l.getD i.toNat (dflt (Ty.nm Nm.Row)),()));let r5:Int:=(↑r4.2.1.size:Int);let r6:Bool:=mq r4.2.2.2.2.2.1.7 !=(0:Int);let r7:Int:=IntKind.i64.wrap (r5 - (1:Int));let r8:ByteArray:=r4.2.1.extract (Int.toNat (0:Int)) r7.toNat;let r9:ByteArray:=r8++ByteArray.mk #[10];((decide (i<n)=true→((0:Int)≤i∧i <(↑l.length:Int))∧((ij fun x=>none)∧(r2 =(↑r1.length:Int)∧nat_lit 8=nat_lit 8∧(l.getD i.toNat (dflt (Ty.nm Nm.Row))).7.size≤(20000:Nat))∧((0:Int)≤(0:Int)∧(0:Int)≤r2)∧(↑(ByteArray.mk #[]).size:Int)≤(30:Int) *(0:Int)+if (0:Int)≤(6:Int) then (0:Int) else (20001:Int))∧(r3=true→(r6=true→True)∧(r6=false→((0:Int)≤(0:Int)∧(0:Int)≤r7∧r7≤r5)∧r8.size +(ByteArray.mk #[10]).size≤ai∧r4.1.size+r9.size≤ai∧uQ (r4.1++r9,r4.2.2.1,r4.2.2.2.1,IntKind.i64.wrap (r4.2.2.2.2.1 +(1:Int)),())∧I4 (r4.1++r9,r4.2.2.1,r4.2.2.2.1,IntKind.i64.wrap (r4.2.2.2.2.1 +(1:Int)),())<I4 (o,l,n,i,())))∧(r3=false→True))∧(decide (i<n)=false→True))∧(bif decide (i<n) then bif r3 then bif r6 then Sum.inr (ByteArray.mk #[],(4:Int),()) else jG (r4.1++r9,r4.2.2.1,r4.2.2.2.1,IntKind.i64.wrap (r4.2.2.2.2.1 +(1:Int)),()) else Sum.inr (qk (dflt (Ty.str.prod (I.prod Ty.unit))) (iz (o,ByteArray.mk #[],l,n,i,r2,(0:Int),r1,l.getD i.toNat (dflt (Ty.nm Nm.Row)),()))) else Sum.inl (o,()))=jG (o,l,n,i,()))
 intro r1 r2 r3 r4 r5 r6 r7 r8 r9
 clear_value (hr1:r1=_) (hr2:r2=_) (hr3:r3=_) (hr4:r4=_) (hr5:r5=_) (hr6:r6=_) (hr7:r7=_) (hr8:r8=_) (hr9:r9=_)
 obtain ⟨⟨h1,h1b⟩,⟨h2,h3⟩,h4⟩:=hi
 have h1:n =(l.length:Int):=h1
 have h1b:qI l:=h1b
 have h2:0≤i:=h2
 have h3:i≤n:=h3
 have h4 :(o.size:Int)≤20300*i:=h4
 have hL :(1000000000:Nat)≤ai:=by decide
 have hf:=h1b.1
 by_cases h:i<n
 ·have e1:IntKind.i64.wrap (i+1)=i+1:=wrap64 (by omega) (by omega)
  have hd:l.drop i.toNat=l.getD i.toNat (dflt (Ty.nm Nm.Row))::l.drop (i+1).toNat:=fM h2 (by omega) _
  have hm:l.getD i.toNat (dflt (Ty.nm Nm.Row))∈l:=List.mem_of_mem_drop (i:=i.toNat) (by rw [hd];exact List.mem_cons_self)
  have hz:=h1b.2 _ hm
  generalize l.getD i.toNat (dflt (Ty.nm Nm.Row))=x at *
  have er1:r1=fv x++fT x:=hr1
  have l1:r1.length=8:=by rw [er1];rfl
  have er:iz (o,⟨#[]⟩,l,n,i,r2,0,r1,x,())=AI o l n i x (lnG x.Symbol r1 0 ⟨#[]⟩):=rfl
  have key:jG (o,l,n,i,())=cy o (x::l.drop (i+1).toNat):=by
   show cy o (l.drop i.toNat)=_
   rw [hd]
  have hE :(ij fun _=>none)∧(r2 =(r1.length:Int)∧8=8∧x.Symbol.size≤20000)∧((0:Int)≤0∧0≤r2)∧((⟨#[]⟩:ByteArray).size:Int)≤30*0 +(if (0:Int)≤6 then 0 else 20001):=⟨rfl,⟨hr2,rfl,hz⟩,⟨Int.le_refl _,by omega⟩,by decide⟩
  rw [er] at hr3 hr4 ⊢
  rw [decide_eq_true h,key]
  cases hb :(fv x++fT x).any dH with
  | true=>
   have eN:lnG x.Symbol r1 0 ⟨#[]⟩=none:=Eu _ _ _ _ (by rw [er1];exact hb)
   have eE:bV x=2:=by unfold bV;rw [if_pos hb]
   rw [eN] at hr3 ⊢
   have e3:r3=false:=hr3
   rw [e3,ma eE (by decide)]
   exact ⟨⟨fun _=>⟨⟨h2,by omega⟩,hE,fun z=>Bool.noConfusion z,fun _=>trivial⟩,fun z=>Bool.noConfusion z⟩,rfl⟩
  | false=>
   have eN:lnG x.Symbol r1 0 ⟨#[]⟩=some (fY (aN x) spV++spV):=by rw [er1];exact LH hb
   have hJ:=A5 hb hz
   rw [eN] at hr3 hr4 ⊢
   have e3:r3=true:=hr3
   have e4:r4 =(o,fY (aN x) spV++spV,l,n,i,x,()):=hr4
   have hsz :(fY (aN x) spV++spV).size =(fY (aN x) spV).size+1:=by rw [ByteArray.size_append];rfl
   have e5:r5 =((fY (aN x) spV).size:Int)+1:=by
    rw [hr5,e4]
    show ((fY (aN x) spV++spV).size:Int)=_
    rw [hsz]
    exact Int.natCast_add _ _
   have e6:r6 =(mq x.Symbol != 0):=by rw [hr6,e4]
   have e7:r7=r5 - 1:=by rw [hr7];exact wrap64 (by omega) (by omega)
   have e8:r8=fY (aN x) spV:=by
    rw [hr8,e4]
    have:r7.toNat =(fY (aN x) spV++spV).size - 1:=by omega
    rw [this]
    exact Ht _
   have e9:r9=lnB (aN x):=by rw [hr9,e8];rfl
   have z9:r9.size=r8.size+1:=by rw [hr9];exact ByteArray.size_append
   have z8:r8.size≤20200:=by rw [e8];exact hJ
   have hnl :(ByteArray.mk #[(10:UInt8)]).size=1:=rfl
   rw [e3,e4,e1]
   cases h6:r6 with
   | true=>
    have eE:bV x=4:=by
     unfold bV
     rw [if_neg (by rw [hb];decide),←e6,h6]
     rfl
    rw [ma eE (by decide)]
    exact ⟨⟨fun _=>⟨⟨h2,by omega⟩,hE,fun _=>⟨fun _=>trivial,fun z=>Bool.noConfusion z⟩,fun z=>Bool.noConfusion z⟩,fun z=>Bool.noConfusion z⟩,rfl⟩
   | false=>
    have eE:bV x=0:=by
     unfold bV
     rw [if_neg (by rw [hb];decide),←e6,h6]
     rfl
    rw [AJ eE,←e9]
    refine ⟨⟨fun _=>⟨⟨h2,by omega⟩,hE,fun _=>⟨fun z=>Bool.noConfusion z,fun _=>⟨⟨Int.le_refl _,by omega,by omega⟩,by rw [hnl];omega,?_,⟨⟨h1,h1b⟩,⟨?_,?_⟩,?_⟩,?_⟩⟩,fun z=>Bool.noConfusion z⟩,fun z=>Bool.noConfusion z⟩,rfl⟩
    ·show o.size+r9.size≤ai;omega
    ·show 0≤i+1;omega
    ·show i+1≤n;omega
    ·show ((o++r9).size:Int)≤20300 *(i+1)
     rw [ByteArray.size_append];omega
    ·show (n - (i+1)).toNat <(n - i).toNat;omega
 ·rw [decide_eq_false h]
  refine ⟨⟨fun z=>Bool.noConfusion z,fun _=>trivial⟩,?_⟩
  show _=cy o (l.drop i.toNat)
  rw [dV (l:=l) (by omega)]
  rfl
noncomputable def NI:LoopSum:=az lpM1 jG uQ
noncomputable def Nl:Nat:=rid (bf Tryz.f22 0)
theorem OW:LoopOKp Tryz.prog 0 Tryz.f22.ntmps (bf Tryz.f22 0) (az lpM1 jG uQ):=
 aY lpM1 (au (.consU lx rfl (.consU vG rfl .nil)) _) mixed (LoopsOKp.cons (by kernel_rfl) OV .nil) jG uQ I4 (fun |⟨o,l,n,i,⟨⟩⟩,hi=>P1 o l n i hi)
theorem Dh (l:List Mir.Row) (hl:qI l) :(evPat (ax [ke,rU] Tryz.f22) (find [(Nl,NI)]) Tryz.f22 qRl CV (l,())).sat fun z_=>z_ =(px (l,())).2:=by
 refine cast (by kernel_rfl) (?_:let r1:Bool:=isL (jG (ByteArray.mk #[],l,(↑l.length:Int),(0:Int),()));((ij fun x=>none)∧((↑l.length:Int) =(↑l.length:Int)∧qI l)∧((0:Int)≤(0:Int)∧(0:Int)≤(↑l.length:Int))∧(↑(ByteArray.mk #[]).size:Int)≤(20300:Int) *(0:Int))∧(r1=true→((oQ (dflt (Ty.str.prod Ty.unit)) (jG (ByteArray.mk #[],l,(↑l.length:Int),(0:Int),()))).1,(0:Int),()) =((bm l).1,(bm l).2,()))∧(r1=false→qk (dflt (Ty.str.prod (I.prod Ty.unit))) (jG (ByteArray.mk #[],l,(↑l.length:Int),(0:Int),())) =((bm l).1,(bm l).2,())))
 intro r1
 clear_value (hr1:r1=_)
 have er:jG (⟨#[]⟩,l,(l.length:Int),0,())=cy ⟨#[]⟩ l:=rfl
 rw [er] at hr1 ⊢
 refine ⟨⟨rfl,⟨rfl,hl⟩,⟨Int.le_refl _,by omega⟩,by decide⟩,fun h1=>?_,fun h1=>?_⟩
 ·by_cases he:eZ l=0
  ·unfold cy bm;rw [if_pos he,if_pos he];rfl
  ·have:cy ⟨#[]⟩ l = .inr (⟨#[]⟩,eZ l,()):=by unfold cy;rw [if_neg he]
   rw [hr1,this] at h1;exact Bool.noConfusion h1
 ·by_cases he:eZ l=0
  ·have:cy ⟨#[]⟩ l = .inl (jU l ⟨#[]⟩,()):=by unfold cy;rw [if_pos he]
   rw [hr1,this] at h1;exact Bool.noConfusion h1
  ·unfold cy bm;rw [if_neg he,if_neg he];rfl
def zS:FuncId×Ctr:=(22,ae KE qRl CV px)
theorem Gd:CtrOK Tryz.prog KE 22 (ae KE qRl CV px):=by
 refine aE (C:=ax [ke,rU] Tryz.f22) (au (.consU lx rfl (.consU vG rfl .nil)) _) mixed (fn:=Tryz.f22) Tryz.func22 (by kernel_rfl) (by kernel_rfl) (by kernel_rfl) (by kernel_rfl) (by kernel_rfl) (by kernel_rfl) (Λ:=fun x=>find [(Nl,NI)]) ?_ ?_
 ·rintro ⟨l,⟨⟩⟩ hw hn
  exact LoopsOKp.at (by kernel_rfl) (.cons (by kernel_rfl) (OW) .nil)
 ·rintro ⟨l,⟨⟩⟩ hw hn
  exact Dh l (hn _ List.mem_cons_self)
end Go.Proofs.YtffdpnmioidloaaGreatDoor
namespace Go.Proofs.YtffdpnmioidloaaGreatDoor
open Go Go.Mir Go.RowKit
attribute [local irreducible] Go.Mir.DT.sat Go.Mir.evPat Go.Mir.RT.sat Go.Mir.evFn
abbrev qW2:Pat:=⟨[(4,.c (.av 0 0)),(15,.h RwsL),(16,.h I),(17,.h I)],[(0,.abs 0 .str)],1⟩
abbrev xW2:List (Lf×Pat):= [(.ext 0,⟨[(4,.c (.av 0 0))],[(0,.abs 0 .str)],1⟩),xRl]
abbrev TW2:Type:=List Mir.Row×Int×Int×ByteArray×Unit
def jI:TW2→Sum (ByteArray×Unit) GP
 |(l,_,i,o,_)=>cy o (l.drop i.toNat)
def uZ:TW2→Prop
 |(l,n,i,o,_)=>(n =(l.length:Int)∧qI l)∧(0≤i∧i≤n)∧(o.size:Int)≤20300*i
def Je:TW2→Nat
 |(_,n,i,_)=>(n - i).toNat
theorem yI (a:ByteArray) :∀ (l:List ByteArray) (b:ByteArray),kI l (a++b)=a++kI l b
 | [],b=>rfl
 | x::l,b=>by
  show kI l ((a++b) ++(spV++x))=a++kI l (b ++(spV++x))
  rw [ByteArray.append_assoc,yI a l]
theorem yJ (a:ByteArray) :∀ (l:List ByteArray) (b:ByteArray),mh l (a++b)=a++mh l b
 | [],b=>rfl
 | x::l,b=>by
  show mh l ((a++b) ++(x++spV))=a++mh l (b ++(x++spV))
  rw [ByteArray.append_assoc,yJ a l]
theorem uc :∀ (l:List ByteArray) (o:ByteArray),(kI l o).size=o.size+ua l
 | [],o=>rfl
 | x::l,o=>by
  have h:=uc l (o ++(spV++x))
  show (kI l (o ++(spV++x))).size=_
  have hs:spV.size=1:=rfl
  rw [h,ByteArray.size_append,ByteArray.size_append,v7]
  omega
theorem u7 (w:ByteArray) (l:List ByteArray):fY (w::l) spV=kI l w:=by
 apply BZ
 unfold kI
 rw [lT]
 show Lib.join ((w::l).map fun s=>s.data.toList) [32]=_
 rw [List.map_cons,Lib.join_cons]
 congr 1
 unfold Lib.joinTail
 rw [List.map_map]
 congr 1
theorem IQ (r:Mir.Row) (o:ByteArray):kI ((fT r).map aZ) (mh ((fv r).map aZ) o++r.Symbol)++chB 10=o++lnB (aN r):=by
 obtain ⟨w,l1,he⟩ :∃ w l1,(fv r).map aZ=w::l1:=⟨_,_,rfl⟩
 have e0:o=o ++(⟨#[]⟩:ByteArray):=ByteArray.append_empty.symm
 have e1:mh ((fv r).map aZ) o=o ++(kI l1 w++spV):=by
  rw [he]
  have:mh (w::l1) o=mh (w::l1) (o ++(⟨#[]⟩:ByteArray)):=congrArg _ e0
  rw [this,yJ,ud,u7]
 have e2:fY (aN r) spV=kI ((fT r).map aZ) (kI l1 w ++(spV++r.Symbol)):=by
  unfold aN
  rw [he,List.cons_append,u7]
  unfold kI
  rw [List.foldl_append]
  rfl
 have e3:chB 10=nlV:=rfl
 unfold lnB
 rw [e1,ByteArray.append_assoc,ByteArray.append_assoc,yI,ByteArray.append_assoc,e2,e3]
noncomputable def lpW2:Lp:=(⟨0,ax [Cu,Lv,Lw,oV,dZ,lg] Tryz.f21,(find [(PH,Qc),(PJ,Qd)]),(bf Tryz.f21 0),qW2,xW2⟩:Lp)
theorem P9 (l:List Mir.Row) (n:Int) (i:Int) (o:ByteArray) (hi:uZ (l,n,i,o,())) :(Go.Mir.stepG lpW2 jI (fun y:Den (tyP lpW2.q)=>uZ y∧Je y<Je (l,n,i,o,())) (l,n,i,o,())∧Go.Mir.stepE lpW2 jI (l,n,i,o,())=jI (l,n,i,o,())):=by
 refine cast (by kernel_rfl) (?_:let r1:Bool:=mq (l.getD i.toNat (dflt (Ty.nm Nm.Row))).7 !=(0:Int);let r2:List Int:= [(l.getD i.toNat (dflt (Ty.nm Nm.Row))).8,(l.getD i.toNat (dflt (Ty.nm Nm.Row))).9];let r3:Int:=(↑r2.length:Int);let r4:List Int:= [(l.getD i.toNat (dflt (Ty.nm Nm.Row))).1,(l.getD i.toNat (dflt (Ty.nm Nm.Row))).2,(l.getD i.toNat (dflt (Ty.nm Nm.Row))).3,(l.getD i.toNat (dflt (Ty.nm Nm.Row))).4,(l.getD i.toNat (dflt (Ty.nm Nm.Row))).5,(l.getD i.toNat (dflt (Ty.nm Nm.Row))).6];let r5:Int:=(↑r4.length:Int);let r6:ByteArray:=mh (List.map aZ (List.drop (Int.toNat (0:Int)) r4)) o;let r7:ByteArray:=r6 ++(l.getD i.toNat (dflt (Ty.nm Nm.Row))).7;let r8:List (List Int):= [r4,r2];let r9:Bool:=r8.flatten.any dH;let r10:ByteArray:=kI (List.map aZ (List.drop (Int.toNat (0:Int)) r2)) r7;((decide (i<n)=true→((0:Int)≤i∧i <(↑l.length:Int))∧xR r8∧(r9=true→True)∧(r9=false→(r1=true→True)∧(r1=false→((ij fun x=>none)∧(r5 =(↑r4.length:Int)∧inR r4)∧((0:Int)≤(0:Int)∧(0:Int)≤r5)∧(↑o.size:Int) +(30:Int) *(r5 - (0:Int))≤(900000000:Int))∧r6.size +(l.getD i.toNat (dflt (Ty.nm Nm.Row))).7.size≤ai∧((ij fun x=>none)∧(r3 =(↑r2.length:Int)∧inR r2)∧((0:Int)≤(0:Int)∧(0:Int)≤r3)∧(↑r7.size:Int) +(30:Int) *(r3 - (0:Int))≤(900000000:Int))∧r10.size +(1:Nat)≤ai∧uZ (l,n,IntKind.i64.wrap (i +(1:Int)),r10++chB (10:Int),())∧Je (l,n,IntKind.i64.wrap (i +(1:Int)),r10++chB (10:Int),())<Je (l,n,i,o,()))))∧(decide (i<n)=false→True))∧(bif decide (i<n) then bif r9 then Sum.inr (ByteArray.mk #[],(2:Int),()) else bif r1 then Sum.inr (ByteArray.mk #[],(4:Int),()) else jI (l,n,IntKind.i64.wrap (i +(1:Int)),r10++chB (10:Int),()) else Sum.inl (o,()))=jI (l,n,i,o,()))
 intro r1 r2 r3 r4 r5 r6 r7 r8 r9 r10
 clear_value (hr1:r1=_) (hr2:r2=_) (hr3:r3=_) (hr4:r4=_) (hr5:r5=_) (hr6:r6=_) (hr7:r7=_) (hr8:r8=_) (hr9:r9=_) (hr10:r10=_)
 obtain ⟨⟨h1,h1b⟩,⟨h2,h3⟩,h4⟩:=hi
 have h1:n =(l.length:Int):=h1
 have h1b:qI l:=h1b
 have h2:0≤i:=h2
 have h3:i≤n:=h3
 have h4 :(o.size:Int)≤20300*i:=h4
 have hL :(1000000000:Nat)≤ai:=by decide
 have hf:=h1b.1
 by_cases h:i<n
 ·have e1:IntKind.i64.wrap (i+1)=i+1:=wrap64 (by omega) (by omega)
  have hd:l.drop i.toNat=l.getD i.toNat (dflt (Ty.nm Nm.Row))::l.drop (i+1).toNat:=fM h2 (by omega) _
  have hm:l.getD i.toNat (dflt (Ty.nm Nm.Row))∈l:=List.mem_of_mem_drop (i:=i.toNat) (by rw [hd];exact List.mem_cons_self)
  have hz:=h1b.2 _ hm
  generalize l.getD i.toNat (dflt (Ty.nm Nm.Row))=x at *
  have e4:r4=fv x:=hr4
  have e2:r2=fT x:=hr2
  have l4:r4.length=6:=by rw [e4];rfl
  have l2:r2.length=2:=by rw [e2];rfl
  have e8:r8.flatten=fv x++fT x:=by
   rw [hr8,e4,e2]
   show fv x ++(fT x++[])=_
   rw [List.append_nil]
  have e9:r9 =(fv x++fT x).any dH:=by rw [hr9,e8]
  have hcc:xR r8:=by
   have hl:r8.flatten.length=8:=by rw [e8];rfl
   exact ⟨⟨by rw [hr8];show 2≤1000;omega,by omega⟩,by omega⟩
  have key:jI (l,n,i,o,())=cy o (x::l.drop (i+1).toNat):=by
   show cy o (l.drop i.toNat)=_
   rw [hd]
  rw [decide_eq_true h,key,e1]
  cases h9:r9 with
  | true=>
   have eE:bV x=2:=by unfold bV;rw [if_pos (by rw [←e9];exact h9)]
   rw [ma eE (by decide)]
   exact ⟨⟨fun _=>⟨⟨h2,by omega⟩,hcc,fun _=>trivial,fun z=>Bool.noConfusion z⟩,fun z=>Bool.noConfusion z⟩,rfl⟩
  | false=>
   have hb :(fv x++fT x).any dH=false:=by rw [←e9];exact h9
   cases hk:r1 with
   | true=>
    have eE:bV x=4:=by
     unfold bV
     rw [if_neg (by rw [hb];decide),←hr1,hk]
     rfl
    rw [ma eE (by decide)]
    exact ⟨⟨fun _=>⟨⟨h2,by omega⟩,hcc,fun z=>Bool.noConfusion z,fun _=>⟨fun _=>trivial,fun z=>Bool.noConfusion z⟩⟩,fun z=>Bool.noConfusion z⟩,rfl⟩
   | false=>
    have eE:bV x=0:=by
     unfold bV
     rw [if_neg (by rw [hb];decide),←hr1,hk]
     rfl
    have hJ:=A5 hb hz
    have hr :∀ v∈fv x++fT x,0≤v∧v≤1000000:=fun v hv=>by
     have:=List.any_eq_false.1 hb v hv
     exact xV (by rw [x5] at this;simpa using this)
    have i4:inR r4:=by rw [e4];exact ⟨by show 6≤100;omega,fun v hv=>hr v (List.mem_append_left _ hv)⟩
    have i2:inR r2:=by rw [e2];exact ⟨by show 2≤100;omega,fun v hv=>hr v (List.mem_append_right _ hv)⟩
    have eL:r10++chB 10=o++lnB (aN x):=by
     rw [hr10,hr7,hr6,e4,e2]
     exact IQ x o
    have z10:r10.size+1=o.size +((fY (aN x) spV).size+1):=by
     have:=congrArg ByteArray.size eL
     rw [ByteArray.size_append,ByteArray.size_append] at this
     unfold lnB at this
     rw [ByteArray.size_append] at this
     exact this
    have z7:r10.size=r7.size+ua ((r2.drop (Int.toNat 0)).map aZ):=by rw [hr10];exact uc _ _
    have z6:r7.size=r6.size+x.Symbol.size:=by rw [hr7];exact ByteArray.size_append
    rw [eL,AJ eE]
    refine ⟨⟨fun _=>⟨⟨h2,by omega⟩,hcc,fun z=>Bool.noConfusion z,fun _=>⟨fun z=>Bool.noConfusion z,fun _=>⟨⟨rfl,⟨hr5,i4⟩,⟨Int.le_refl _,by omega⟩,by omega⟩,by omega,⟨rfl,⟨hr3,i2⟩,⟨Int.le_refl _,by omega⟩,by omega⟩,by omega,⟨⟨h1,h1b⟩,⟨?_,?_⟩,?_⟩,?_⟩⟩⟩,fun z=>Bool.noConfusion z⟩,rfl⟩
    ·show 0≤i+1;omega
    ·show i+1≤n;omega
    ·show ((o++lnB (aN x)).size:Int)≤20300 *(i+1)
     rw [←eL,ByteArray.size_append]
     have :(chB 10).size=1:=rfl
     omega
    ·show (n - (i+1)).toNat <(n - i).toNat;omega
 ·rw [decide_eq_false h]
  refine ⟨⟨fun z=>Bool.noConfusion z,fun _=>trivial⟩,?_⟩
  show _=cy o (l.drop i.toNat)
  rw [dV (l:=l) (by omega)]
  rfl
noncomputable def NP:LoopSum:=az lpW2 jI uZ
noncomputable def Nt:Nat:=rid (bf Tryz.f21 0)
theorem O4:LoopOKp Tryz.prog 0 Tryz.f21.ntmps (bf Tryz.f21 0) (az lpW2 jI uZ):=
 aY lpW2 (au (.consU Ax rfl (.consU Jn rfl (.consU Jt rfl (.consU nh rfl (.consU fm rfl (.consU n9 rfl .nil)))))) _) mixed (LoopsOKp.cons (by kernel_rfl) LJ (.cons (by kernel_rfl) LK .nil)) jI uZ Je (fun |⟨l,n,i,o,⟨⟩⟩,hi=>P9 l n i o hi)
theorem Gv (l:List Mir.Row) (hl:qI l) :(evPat (ax [dZ,lg,zM] Tryz.f21) (find [(Nt,NP)]) Tryz.f21 qRl CV (l,())).sat fun z_=>z_ =(px (l,())).2:=by
 refine cast (by kernel_rfl) (?_:let r1:Bool:=isL (jI (l,(↑l.length:Int),(0:Int),ByteArray.empty,()));((ij fun x=>none)∧((↑l.length:Int) =(↑l.length:Int)∧qI l)∧((0:Int)≤(0:Int)∧(0:Int)≤(↑l.length:Int))∧(↑ByteArray.empty.size:Int)≤(20300:Int) *(0:Int))∧(r1=true→((oQ (dflt (Ty.str.prod Ty.unit)) (jI (l,(↑l.length:Int),(0:Int),ByteArray.empty,()))).1,(0:Int),()) =((bm l).1,(bm l).2,()))∧(r1=false→qk (dflt (Ty.str.prod (I.prod Ty.unit))) (jI (l,(↑l.length:Int),(0:Int),ByteArray.empty,())) =((bm l).1,(bm l).2,())))
 intro r1
 clear_value (hr1:r1=_)
 have er:jI (l,(l.length:Int),0,ByteArray.empty,())=cy ⟨#[]⟩ l:=rfl
 rw [er] at hr1 ⊢
 refine ⟨⟨rfl,⟨rfl,hl⟩,⟨Int.le_refl _,by omega⟩,by decide⟩,fun h1=>?_,fun h1=>?_⟩
 ·by_cases he:eZ l=0
  ·unfold cy bm;rw [if_pos he,if_pos he];rfl
  ·have:cy ⟨#[]⟩ l = .inr (⟨#[]⟩,eZ l,()):=by unfold cy;rw [if_neg he]
   rw [hr1,this] at h1;exact Bool.noConfusion h1
 ·by_cases he:eZ l=0
  ·have:cy ⟨#[]⟩ l = .inl (jU l ⟨#[]⟩,()):=by unfold cy;rw [if_pos he]
   rw [hr1,this] at h1;exact Bool.noConfusion h1
  ·unfold cy bm;rw [if_neg he,if_neg he];rfl
def xI:FuncId×Ctr:=(21,ae KE qRl CV px)
theorem AA:CtrOK Tryz.prog KE 21 (ae KE qRl CV px):=by
 refine aE (C:=ax [dZ,lg,zM] Tryz.f21) (au (.consU fm rfl (.consU n9 rfl (.consU F9 rfl .nil))) _) mixed (fn:=Tryz.f21) Tryz.func21 (by kernel_rfl) (by kernel_rfl) (by kernel_rfl) (by kernel_rfl) (by kernel_rfl) (by kernel_rfl) (Λ:=fun x=>find [(Nt,NP)]) ?_ ?_
 ·rintro ⟨l,⟨⟩⟩ hw hn
  exact LoopsOKp.at (by kernel_rfl) (.cons (by kernel_rfl) (O4) .nil)
 ·rintro ⟨l,⟨⟩⟩ hw hn
  exact Gv l (hn _ List.mem_cons_self)
end Go.Proofs.YtffdpnmioidloaaGreatDoor
namespace Go.Proofs.YtffdpnmioidloaaGreatDoor
open Go Go.Mir Go.RowKit
attribute [local irreducible] Go.Mir.DT.sat Go.Mir.evPat Go.Mir.RT.sat Go.Mir.evFn Go.Mir.Rg.stepS
def hdL:Code→Code
 | .seq a _=>a
 | c=>c
def tlL:Code→Code
 | .seq _ b=>b
 | c=>c
noncomputable abbrev bdL:Code:=iW Tryz.f23
noncomputable abbrev R0L:Code:=hdL bdL
noncomputable abbrev R1L:Code:=hdL (tlL bdL)
noncomputable abbrev R2L:Code:=hdL (hdL (tlL (tlL bdL)))
noncomputable abbrev RGL:Code:=tlL (hdL (tlL (tlL bdL)))
def Nd:Code→Option Oper
 | .block _ (.rangeFunc _ _ (.region _ ops _) _)=>ops[0]?
 | _=>none
def RP (c:Code):TypeId:=match Nd c with|some o=>o.type|none=>0
def Pt (c:Code):String:=match Nd c with|some o=>o.pos|none=>""
abbrev TLp:Type:=ByteArray×List Mir.Row×Unit
def gm (x:ByteArray):List ByteArray:=bj (gk x nlB) 32
def qa (x:ByteArray) (y:TLp):Sum (Int×Unit) TLp:=Jy (fq (gm x)) y
def Fj (s:ByteArray) (y:TLp):Sum (Int×Unit) TLp:=np qa (bh s) y
noncomputable def cfL:Cfg:=ax [OO,xI] Tryz.f23
noncomputable def trL:St→Tr:=Bq (aR cfL (fun _=>none) R0L) (Bq (aR cfL (fun _=>none) R1L) (Bq (aR cfL (fun _=>none) R2L) (rgT rgLp 107 (.tmp 15) Fj rM (aR cfL (fun _=>none) (GY Tryz.f23)))))
abbrev AX:Pat:=cW [RwsL,I]
def eU:List (List ByteArray)→Option (List Mir.Row)
 | []=>some []
 | w::l=>(fq w).bind fun r=>(eU l).map (r::·)
def qZ (s:ByteArray):Option (List Mir.Row)→List Mir.Row×Int
 | none=>([],4)
 | some b=>if (bm b).2 != 0 ||(bm b).1.toList != s.toList then ([],4) else (b,0)
def bc (s:ByteArray):List Mir.Row×Int:=qZ s (eU ((bh s).map gm))
def yl:Den (tyP qPn)→List Prop×Den (tyP AX):=fun x=>([x.1.size≤20000],((bc x.1).1,(bc x.1).2,()))
def ED (s:ByteArray) (rows:List Mir.Row):Option (List Mir.Row)→Sum (Int×Unit) TLp
 | some v=> .inr (s,rows++v,())
 | none=> .inl (4,())
theorem vW (s:ByteArray) :∀ (L:List ByteArray) (rows:List Mir.Row),np qa L (s,rows,())=ED s rows (eU (L.map gm))
 | [],rows=>by
  show Sum.inr (s,rows,())=Sum.inr (s,rows++[],())
  rw [List.append_nil]
 | x::L,rows=>by
  cases hT:fq (gm x) with
  | none=>
   have e:qa x (s,rows,()) = .inl (4,()):=by unfold qa;rw [hT];rfl
   have e2:eU ((x::L).map gm)=none:=by
    show (fq (gm x)).bind (fun r=>(eU (L.map gm)).map (r::·))=none
    rw [hT];rfl
   rw [e2]
   unfold np
   rw [List.foldl_cons]
   simp only [e]
   exact po L
  | some r=>
   have e:qa x (s,rows,()) = .inr (s,rows++[r],()):=by unfold qa;rw [hT];rfl
   have e2:eU ((x::L).map gm) =(eU (L.map gm)).map (r::·):=by
    show (fq (gm x)).bind (fun r=>(eU (L.map gm)).map (r::·))=_
    rw [hT];rfl
   have ih:=vW s L (rows++[r])
   have e3:ED s (rows++[r]) (eU (L.map gm))=ED s rows ((eU (L.map gm)).map (r::·)):=by
    cases eU (L.map gm) with
    | none=>rfl
    | some v=>
     show Sum.inr (s,(rows++[r])++v,())=Sum.inr (s,rows++r::v,())
     rw [List.append_assoc]
     rfl
   rw [e2,←e3,←ih]
   unfold np
   rw [List.foldl_cons]
   simp only [e]
theorem KX (s:ByteArray):Fj s (s,[],())=ED s [] (eU ((bh s).map gm)):=vW s _ []
theorem pT :∀ (k:Nat) (l:List UInt8),(ie k l).length≤l.length∧∀ x∈ie k l,x.length≤l.length
 | 0,l=>⟨Nat.zero_le _,fun x hx=>by cases hx⟩
 | k+1,l=>by
  unfold ie
  split
  ·exact ⟨Nat.zero_le _,fun x hx=>by cases hx⟩
  ·rename_i hne
   have hne:l≠ []:=fun e=>hne (by rw [e];rfl)
   have h1:=oX hne
   have h2:=List.length_pos_iff.2 hne
   obtain ⟨h3,h4⟩:=pT k (l.drop (eK l))
   rw [List.length_drop] at h3 h4
   refine ⟨by rw [List.length_cons];omega,fun x hx=>?_⟩
   rcases List.mem_cons.1 hx with rfl|hx
   ·rw [List.length_take];omega
   ·have:=h4 x hx;omega
theorem lj (s:ByteArray) :(bh s).length≤s.size∧∀ x∈bh s,x.size≤s.size:=by
 obtain ⟨h1,h2⟩:=pT (s.size+1) s.data.toList
 rw [Array.length_toList] at h1 h2
 refine ⟨by unfold bh;rw [List.length_map];exact h1,fun x hx=>?_⟩
 unfold bh at hx
 obtain ⟨y,hy,rfl⟩:=List.mem_map.1 hx
 rw [KA]
 exact h2 y hy
theorem Gq {l:List ByteArray} {r:Mir.Row} (h:fq l=some r):r.Symbol=l.getD 6 ByteArray.empty∧l.length=9:=by
 unfold fq at h
 split at h
 ·rename_i hl
  cases hf:liF l 0 z9 with
  | none=>rw [hf] at h;cases h
  | some a=>rw [hf] at h;cases h;exact ⟨rfl,hl⟩
 ·cases h
theorem sM :∀ (L:List ByteArray) (v:List Mir.Row),(∀ x∈L,x.size≤20000)→eU (L.map gm)=some v→v.length=L.length∧MH v
 | [],v,_,h=>by cases h;exact ⟨rfl,fun r hr=>by cases hr⟩
 | x::L,v,hL,h=>by
  have h :(fq (gm x)).bind (fun r=>(eU (L.map gm)).map (r::·))=some v:=h
  cases hT:fq (gm x) with
  | none=>rw [hT] at h;cases h
  | some r=>
   rw [hT,Option.bind_some] at h
   cases hR:eU (L.map gm) with
   | none=>rw [hR] at h;cases h
   | some u=>
    rw [hR] at h;cases h
    obtain ⟨i1,i2⟩:=sM L u (fun y hy=>hL y (List.mem_cons_of_mem _ hy)) hR
    refine ⟨by rw [List.length_cons,List.length_cons,i1],fun q hq=>?_⟩
    rcases List.mem_cons.1 hq with rfl|hq
    ·obtain ⟨g1,g2⟩:=Gq hT
     have hx:=hL x List.mem_cons_self
     have ht:=nr x nlB
     have hc:=(lK (gk x nlB) 32).2
     rw [g1]
     have :(gm x).getD 6 ByteArray.empty∈bj (gk x nlB) 32:=by
      rw [List.getD_eq_getElem?_getD,List.getElem?_eq_getElem (by omega)]
      exact List.getElem_mem _
     have:=hc _ this
     omega
    ·exact i2 q hq
theorem Hq:CfgOK Tryz.prog cfL:=au (.consU LV rfl (.consU AA rfl .nil)) _
theorem N1:bdL = .seq R0L (.seq R1L (.seq (.seq R2L (.block 0 (.rangeFunc (.tmp 15) #[rgLp.sp] (.region 3 #[⟨some rgLp.sl,.assign (.tmp rgLp.sp),RP RGL,Pt RGL,#[],none⟩] false) rgLp.body))) (GY Tryz.f23))):=by kernel_rfl
theorem MC (n:Nat) (x:ByteArray) (y:TLp) (hi:rM n y) (hx:x.size≤rgLp.nb) (hn:n<rgLp.nb) :∃ (C:Cfg) (Λ:Nat→Option LoopSum),CfgOK Tryz.prog C∧C.N=rgLp.N∧(∀ b∈aC Λ rgLp.body,∃ S,Λ (rid b)=some S∧gH Tryz.prog rgLp.q.nx C.N b S)∧rgLp.stepS C Λ (rM (n+1)) x y (qa x y):=by
 obtain ⟨s,rows,⟨⟩⟩:=y
 exact ⟨ax [pP,Iy,rW] Tryz.f23,find [(Nk,NH)],au (.consU xW rfl (.consU LX rfl (.consU vH rfl .nil))) _,rfl,Jv (by kernel_rfl) (by kernel_rfl) OU,RE x s rows n hx hn hi⟩
theorem Qh:TrM Tryz.prog Tryz.f23.ntmps 0 bdL trL:=by
 rw [N1]
 exact Fa (yz Hq mixed (fun b hb S hS=>by cases hS)) (Fa (yz Hq mixed (fun b hb S hS=>by cases hS)) (KC (yz Hq mixed (fun b hb S hS=>by cases hS))
  (Mv rgLp mixed (LB:=bh) (fun args w=>by kernel_rfl) (fun bx s0 h=>FY bx s0 h) (by kernel_rfl) (by kernel_rfl) (res:=qa) (all:=Fj) (inv:=rM) (fun s=>(lj s).1) (fun _ _=>rfl) MC (yz Hq mixed (fun b hb S hS=>by cases hS)))))
theorem RG (s:ByteArray) (hs:s.size≤20000) :(py cfL.tb Tryz.f23.results.toList 0 AX (put qPn (s,())) (trL (put qPn (s,())))).sat fun z_=>z_ =(yl (s,())).2:=by
 refine cast (by kernel_rfl) (?_:let r1:Bool:=isL (Fj s (s,[],()));let r2:ByteArray×List Mir.Row×PUnit:=qk (dflt (Ty.str.prod ((Ty.nm Nm.Row).slice.prod Ty.unit))) (Fj s (s,[],()));let r3:ByteArray×Int:=bm r2.2.1;let r4:Bool:=bif r3.2 !=(0:Int) then true else !r3.1.toList==r2.1.toList;((ij fun x=>none)∧s.size≤(1000000:Nat)∧rM (0:Nat) (s,[],()))∧(r1=true→([],oQ (dflt (I.prod Ty.unit)) (Fj s (s,[],()))) =((bc s).1,(bc s).2,()))∧(r1=false→(r2.2.1.length≤(20100:Nat)∧MH r2.2.1)∧(r4=true→([],(4:Int),()) =((bc s).1,(bc s).2,()))∧(r4=false→(r2.2.1,(0:Int),()) =((bc s).1,(bc s).2,()))))
 intro r1 r2 r3 r4
 clear_value (hr1:r1=_) (hr2:r2=_) (hr3:r3=_) (hr4:r4=_)
 have eA:=KX s
 have eP:bc s=qZ s (eU ((bh s).map gm)):=rfl
 obtain ⟨l1,l2⟩:=lj s
 rw [eA] at hr1 hr2 ⊢
 rw [eP]
 refine ⟨⟨rfl,Nat.le_trans hs (by decide),Nat.zero_le _⟩,fun h1=>?_,fun h1=>?_⟩
 ·cases hF:eU ((bh s).map gm) with
  | none=>rfl
  | some b=>rw [hr1,hF] at h1;exact Bool.noConfusion h1
 ·cases hF:eU ((bh s).map gm) with
  | none=>rw [hr1,hF] at h1;exact Bool.noConfusion h1
  | some b=>
   obtain ⟨g1,g2⟩:=sM _ _ (fun x hx=>Nat.le_trans (l2 x hx) hs) hF
   have e2:r2 =(s,b,()):=by rw [hr2,hF];rfl
   have e4:r4 =((bm b).2 != 0 ||(bm b).1.toList != s.toList):=by
    rw [hr4,hr3,e2]
    cases (bm b).2 != 0 <;> rfl
   have eO:qZ s (some b)=if r4=true then ([],4) else (b,0):=by rw [e4];rfl
   rw [eO,e2]
   refine ⟨⟨?_,g2⟩,fun h4=>?_,fun h4=>?_⟩
   ·show b.length≤20100;omega
   ·rw [if_pos h4]
   ·rw [if_neg (by rw [h4];decide)]
def zP:FuncId×Ctr:=(23,ae KE qPn AX yl)
theorem Ga:CtrOK Tryz.prog KE 23 (ae KE qPn AX yl):=by
 refine AP (C:=cfL) Hq (fn:=Tryz.f23) Tryz.func23 (by kernel_rfl) (by kernel_rfl) (by kernel_rfl) (by kernel_rfl) (by kernel_rfl) (by kernel_rfl) ?_
 rintro ⟨s,⟨⟩⟩ hw hn c hc
 have eb:Tryz.f23.body=some bdL:=by kernel_rfl
 have ec:c=bdL:=Option.some.inj (hc.symm.trans eb)
 rw [ec]
 exact ⟨trL (put qPn (s,())),Qh _,RG s (hn _ List.mem_cons_self)⟩
end Go.Proofs.YtffdpnmioidloaaGreatDoor
namespace Go.Proofs.YtffdpnmioidloaaGreatDoor
open Go Go.Mir
def wdB (s:ByteArray):Bool:=s.data.toList.all fun b=>b != 32&&b != 10
theorem R4 {s:ByteArray} (h:wdB s=true):xX s:=by
 unfold wdB at h
 rw [List.all_eq_true] at h
 exact ⟨fun hm=>absurd (h _ hm) (by decide),fun hm=>absurd (h _ hm) (by decide)⟩
theorem di (a b:ByteArray):wdB (a++b) =(wdB a&&wdB b):=by
 unfold wdB
 rw [ByteArray.data_append,Array.toList_append,List.all_append]
theorem DD {s:ByteArray} (h:wdB s=true) (a b:Nat):wdB (s.extract a b)=true:=by
 unfold wdB at h ⊢
 rw [Lib.extract_data,List.all_eq_true]
 rw [List.all_eq_true] at h
 exact fun x hx=>h x (List.mem_of_mem_drop (List.mem_of_mem_take hx))
theorem w9 {n:Int} (h0:0≤n) (h1:n≤20):wdB (iH n)=true:=by
 have key :∀ k:Fin 21,wdB (iH (k.val:Int))=true:=by decide +kernel
 have e :((n.toNat:Nat):Int)=n:=by omega
 have:=key ⟨n.toNat,by omega⟩
 rw [←e]
 exact this
theorem DU (n:Int):wdB (bF n)=true:=by
 unfold bF
 split
 ·exact DD (by decide +kernel) _ _
 ·exact DD (by decide +kernel) _ _
theorem OD (h:Int):wdB (xD h)=true:=DD (by decide +kernel) _ _
theorem Qk (t:Int):wdB (ns t)=true:=by
 unfold ns
 repeat' split
 all_goals rfl
theorem PT (t s:Int):wdB (dJ t s)=true:=by
 unfold dJ
 repeat' split
 all_goals rfl
theorem ur {b:Bool} {x y:ByteArray} (hx:wdB x=true) (hy:wdB y=true):wdB (cb b x y)=true:=by cases b <;> assumption
theorem Qt {d:Delivery} (hv:0≤d.Victim∧d.Victim≤2):wdB (lJ d)=true:=by
 have h1:wdB (qn d)=true:=by
  unfold qn
  rw [di,di,OD,w9 hv.1 (by omega)]
  rfl
 have h2:wdB (yE d)=true:=by
  unfold yE
  rw [di,di,h1,DU]
  rfl
 have h3:wdB (tv d)=true:=by
  unfold tv
  split
  ·rw [di,di,h2,DU];rfl
  ·exact h2
 have h4:wdB (tx d)=true:=by
  unfold tx
  split
  ·rw [di,h3];rfl
  ·exact h3
 unfold lJ
 split
 ·rfl
 ·split
  ·rw [di,h4];rfl
  ·exact h1
theorem Ry {d:Delivery} (h:bd d=0):wdB (prS d)=true:=by
 obtain ⟨h1,h2,h3,h4⟩:=cN h
 unfold prS
 split
 ·rfl
 ·have hA:wdB (prA d)=true:=by unfold prA;rw [di,Qk,PT];rfl
  have hB:wdB (prB d)=true:=by unfold prB;exact ur (by rw [di,hA,w9 h1.1 (by omega)];rfl) hA
  have hC:wdB (prC d)=true:=by unfold prC;exact ur (by rw [di,hB];rfl) (ur (by rw [di,hB];rfl) hB)
  have hD:wdB (prD d)=true:=by unfold prD;exact ur (by rw [di,di,hC,w9 h2.1 (by omega)];rfl) hC
  have hE:wdB (prE d)=true:=by unfold prE;exact ur (by rw [di,hD];rfl) hD
  have hF:wdB (prF d)=true:=by unfold prF;rw [di,hE,Qt h3];rfl
  unfold prG
  exact ur (by rw [di,di,hF,w9 h4.1 (by omega)];rfl) hF
theorem Qe {s:ByteArray} (h:mq s=0):xX s:=by
 unfold mq at h
 split at h
 ·cases h
 ·rename_i hn
  unfold jB at hn
  rw [Bool.or_eq_true,not_or] at hn
  obtain ⟨h1,h2⟩:=hn
  have h1:bd (kn s)=0:=by simpa using h1
  have h2 :((prS (kn s)).toList != s.toList)=false:=Bool.eq_false_iff.2 h2
  have e:prS (kn s)=s:=bytes_ne.1 h2
  rw [←e]
  exact R4 (Ry h1)
end Go.Proofs.YtffdpnmioidloaaGreatDoor
namespace Go.Proofs.YtffdpnmioidloaaGreatDoor
open Go Go.Mir
theorem kO :∀ {l:List Mir.Row},eZ l=0→∀ r∈l,bV r=0
 | [],_,r,hr=>by cases hr
 | q::l,h,r,hr=>by
  rw [lQ] at h
  split at h
  ·rename_i hq
   rw [h] at hq
   exact absurd hq (by decide)
  ·rename_i hq
   rcases List.mem_cons.1 hr with rfl|hr
   ·simpa using hq
   ·exact kO h r hr
theorem A4 {r:Mir.Row} (h:bV r=0) :(∀ x∈fv r++fT r,0≤x∧x≤1000000)∧xX r.Symbol:=by
 unfold bV at h
 split at h
 ·cases h
 ·rename_i hb
  split at h
  ·cases h
  ·rename_i hp
   have hb :(fv r++fT r).any dH=false:=by simpa using hb
   refine ⟨fun x hx=>?_,Qe (by simpa using hp)⟩
   have:=List.any_eq_false.1 hb x hx
   exact xV (by rw [x5] at this;simpa using this)
theorem J0 {r:Mir.Row} (h:bV r=0):aN r≠ []∧∀ s∈aN r,xX s:=by
 obtain ⟨h1,h2⟩:=A4 h
 refine ⟨by unfold aN fv;simp,fun s hs=>?_⟩
 unfold aN at hs
 rcases List.mem_append.1 hs with hs|hs
 ·obtain ⟨n,hn,rfl⟩:=List.mem_map.1 hs
  exact Hw (h1 n (List.mem_append_left _ hn)).1
 ·rcases List.mem_cons.1 hs with rfl|hs
  ·exact h2
  ·obtain ⟨n,hn,rfl⟩:=List.mem_map.1 hs
   exact Hw (h1 n (List.mem_append_right _ hn)).1
theorem ou (l:List Mir.Row) :(jU l ⟨#[]⟩).data.toList =(((l.map aN).map jnL).map (·++[10])).flatten:=by
 unfold jU
 rw [lT]
 show []++_=_
 rw [List.nil_append,List.map_map,List.map_map]
 congr 1
theorem Al {l:List Mir.Row} (h:eZ l=0) :(bh (jU l ⟨#[]⟩)).map gm=l.map aN:=by
 have hw :∀ ws∈l.map aN,ws≠ []∧∀ s∈ws,xX s:=fun ws hws=>by
  obtain ⟨r,hr,rfl⟩:=List.mem_map.1 hws
  exact J0 (kO h r hr)
 have h1 :∀ x∈(l.map aN).map jnL,(10:UInt8)∉x:=fun x hx=>by
  obtain ⟨ws,hws,rfl⟩:=List.mem_map.1 hx
  exact M9 (hw ws hws).2
 have h2 :(((((l.map aN).map jnL).map (·++[10])).flatten).length <(jU l ⟨#[]⟩).size+1):=by
  rw [←ou,Array.length_toList]
  exact Nat.lt_succ_self _
 unfold bh
 rw [ou,Ak _ _ h1 h2,List.map_map,List.map_map,List.map_map]
 have :∀ ws∈l.map aN,(((gm ∘ toB) ∘ (fun x=>x++[10])) ∘ jnL) ws=id ws:=fun ws hws=>by
  show bj (gk (toB (jnL ws++[10])) nlB) 32=ws
  have e:gk (toB (jnL ws++[10])) nlB=toB (jnL ws):=by
   unfold gk
   show toB (Lib.trimSuffix (jnL ws++[10]) [10])=_
   rw [MM]
  rw [e]
  exact Hs (hw ws hws).1 (hw ws hws).2
 rw [List.map_congr_left this,List.map_id]
theorem FA {l:List Mir.Row} (h:eZ l=0) :(bj (jU l ⟨#[]⟩) 10).dropLast.map (fun x=>bj x 32)=l.map aN:=by
 have hw :∀ ws∈l.map aN,ws≠ []∧∀ s∈ws,xX s:=fun ws hws=>by
  obtain ⟨r,hr,rfl⟩:=List.mem_map.1 hws
  exact J0 (kO h r hr)
 have h1 :∀ x∈(l.map aN).map jnL,(10:UInt8)∉x:=fun x hx=>by
  obtain ⟨ws,hws,rfl⟩:=List.mem_map.1 hx
  exact M9 (hw ws hws).2
 have e0:bj (jU l ⟨#[]⟩) 10 =((l.map aN).map jnL++[[]]).map toB:=by
  unfold bj
  rw [ou,uA _ h1]
 rw [e0,List.map_append,List.map_cons,List.map_nil,List.dropLast_concat,List.map_map,List.map_map]
 have :∀ ws∈l.map aN,(((fun x=>bj x 32) ∘ toB) ∘ jnL) ws=id ws:=fun ws hws=>Hs (hw ws hws).1 (hw ws hws).2
 rw [List.map_congr_left this,List.map_id]
theorem PK {r:Mir.Row} (h:bV r=0):fq (aN r)=some r∧kK (aN r)=some r:=by
 obtain ⟨h1,_⟩:=A4 h
 have k :∀ x∈fv r++fT r,lq (aZ x) =(x,0):=fun x hx=>LS (h1 x hx).1 (h1 x hx).2
 unfold fv fT at k
 have k0:=k r.Innings (by simp)
 have k1:=k r.Over (by simp)
 have k2:=k r.Ball (by simp)
 have k3:=k r.Bowler (by simp)
 have k4:=k r.Striker (by simp)
 have k5:=k r.Partner (by simp)
 have k7:=k r.Total (by simp)
 have k8:=k r.Wickets (by simp)
 have e:aN r=[aZ r.Innings,aZ r.Over,aZ r.Ball,aZ r.Bowler,aZ r.Striker,aZ r.Partner,r.Symbol,aZ r.Total,aZ r.Wickets]:=rfl
 have hl:[aZ r.Innings,aZ r.Over,aZ r.Ball,aZ r.Bowler,aZ r.Striker,aZ r.Partner,r.Symbol,aZ r.Total,aZ r.Wickets].length=9:=rfl
 rw [e]
 constructor
 ·unfold fq
  rw [if_pos hl]
  simp only [liF,xd,k0,k1,k2,k3,k4,k5,k7,k8]
  rfl
 ·unfold kK
  rw [if_pos hl]
  simp only [jj,xd,k0,k1,k2,k3,k4,k5,k7,k8]
  rfl
def A7:List (List ByteArray)→Option (List Mir.Row)
 | []=>some []
 | w::l=>(kK w).bind fun r=>(A7 l).map (r::·)
theorem ES :∀ L:List ByteArray,fA L=A7 (L.map fun x=>bj x 32)
 | []=>rfl
 | x::L=>by
  show ((kK (bj x 32)).bind fun r=>(fA L).map (r::·)) =(kK (bj x 32)).bind fun r=>(A7 (L.map fun x=>bj x 32)).map (r::·)
  rw [ES L]
theorem Db :∀ {l:List Mir.Row},eZ l=0→eU (l.map aN)=some l∧A7 (l.map aN)=some l
 | [],_=>⟨rfl,rfl⟩
 | r::l,h=>by
  have hr:=PK (kO h r List.mem_cons_self)
  have hl:eZ l=0:=by
   have h0:=kO h r List.mem_cons_self
   rw [lQ,h0] at h
   exact h
  obtain ⟨i1,i2⟩:=Db hl
  constructor
  ·show (fq (aN r)).bind (fun r=>(eU (l.map aN)).map (r::·))=_
   rw [hr.1,i1];rfl
  ·show (kK (aN r)).bind (fun r=>(A7 (l.map aN)).map (r::·))=_
   rw [hr.2,i2];rfl
def bW (s:ByteArray):List Mir.Row×Int:=qZ s (fA (bj s 10).dropLast)
theorem tg {l:List Mir.Row} (h:eZ l=0):bm l =(jU l ⟨#[]⟩,0):=by unfold bm;rw [if_pos h]
theorem Ku {l:List Mir.Row} (h:eZ l≠0):bm l =(⟨#[]⟩,eZ l):=by unfold bm;rw [if_neg h]
theorem qp {s:ByteArray} {o:Option (List Mir.Row)} {b:List Mir.Row} (h:qZ s o =(b,0)):eZ b=0∧jU b ⟨#[]⟩=s∧o=some b:=by
 unfold qZ at h
 split at h
 ·exact absurd (congrArg Prod.snd h) (by simp)
 ·split at h
  ·exact absurd (congrArg Prod.snd h) (by simp)
  ·rename_i b' hc
   injection h with h1 h2
   subst h1
   have hc :((bm b').2 != 0)=false∧((bm b').1.toList != s.toList)=false:=by simpa using hc
   by_cases h0:eZ b'=0
   ·rw [tg h0] at hc
    exact ⟨h0,bytes_ne.1 hc.2,rfl⟩
   ·rw [Ku h0] at hc
    have:eZ b'=0:=by simpa using hc.1
    exact absurd this h0
theorem DW {b:List Mir.Row} (h:eZ b=0):qZ (jU b ⟨#[]⟩) (some b) =(b,0):=by
 have e2 :((jU b ⟨#[]⟩).toList !=(jU b ⟨#[]⟩).toList)=false:=bytes_ne.2 rfl
 show (if ((bm b).2 != 0 ||(bm b).1.toList !=(jU b ⟨#[]⟩).toList)=true then ([],(4:Int)) else (b,0))=_
 rw [tg h]
 simp only [e2]
 rfl
theorem iR {b:List Mir.Row} (h:eZ b=0):bc (jU b ⟨#[]⟩) =(b,0)∧bW (jU b ⟨#[]⟩) =(b,0):=by
 constructor
 ·unfold bc
  rw [Al h,(Db h).1,DW h]
 ·unfold bW
  rw [ES,FA h,(Db h).2,DW h]
theorem q7 {s:ByteArray} {o:Option (List Mir.Row)} (h :(qZ s o).2≠0):qZ s o =([],4):=by
 cases o with
 | none=>rfl
 | some b=>
  have h :(if ((bm b).2 != 0 ||(bm b).1.toList != s.toList)=true then (([]:List Mir.Row),(4:Int)) else (b,0)).2≠0:=h
  show (if ((bm b).2 != 0 ||(bm b).1.toList != s.toList)=true then (([]:List Mir.Row),(4:Int)) else (b,0))=_
  split
  ·rfl
  ·rename_i h1
   rw [if_neg h1] at h
   exact absurd rfl h
theorem Gk {s:ByteArray} (h :(bc s).2=0):eZ (bc s).1=0∧jU (bc s).1 ⟨#[]⟩=s:=by
 have e:bc s =((bc s).1,0):=by rw [←h]
 obtain ⟨k1,k2,_⟩:=qp (s:=s) (b:=(bc s).1) e
 exact ⟨k1,k2⟩
theorem AO (s:ByteArray):bW s=bc s:=by
 by_cases h1 :(bc s).2=0
 ·have e:bc s =((bc s).1,0):=by rw [←h1]
  obtain ⟨k1,k2,_⟩:=qp (s:=s) (b:=(bc s).1) e
  rw [←k2] at e ⊢
  rw [(iR k1).2,(iR k1).1]
 ·by_cases h2 :(bW s).2=0
  ·have e:bW s =((bW s).1,0):=by rw [←h2]
   obtain ⟨k1,k2,_⟩:=qp (s:=s) (b:=(bW s).1) e
   rw [←k2] at e ⊢
   rw [(iR k1).2,(iR k1).1]
  ·have e1:bc s =([],4):=q7 h1
   have e2:bW s =([],4):=q7 h2
   rw [e1,e2]
end Go.Proofs.YtffdpnmioidloaaGreatDoor
namespace Go.Mir
open Go.RowKit
inductive Rn (γ:Type) where
 | ok (r:γ)
 | no (w:List Nat)
inductive Tri (α:Type) where
 | lf
 | nd (l:Tri α) (v:Option α) (r:Tri α)
def Tri.get {α:Type} (t:Tri α):Nat→Option α:=
 match t with
 | .lf=>fun _=>none
 | .nd l v r=>fun k=>Nat.casesOn (motive:=fun _=>Option α) k v fun k=>Bool.casesOn (motive:=fun _=>Option α) (Nat.beq (Nat.mod k 2) 0) (r.get (Nat.div k 2)) (l.get (Nat.div k 2))
def Tri.inR {α γ:Type} (κ:Tri α→Rn γ) (l:Tri α) (w:Option α) (r:Tri α):Rn γ:=κ (.nd l w r)
def IntKind.eqb (a b:IntKind):Bool:=decide (a=b)
mutual
def V.eqb:V→V→Bool
 | .any,.any=>true
 | .int k n,.int k' n'=>decide (k=k')&&decide (n=n')
 | .bool a,.bool b=>decide (a=b)
 | .kb a,.kb b=>decide (a=b)
 | .str s,.str t=>decide (s.data.toList=t.data.toList)
 | .nilptr,.nilptr=>true
 | .ptr h o,.ptr h' o'=>Nat.beq h h'&&Nat.beq o o'
 | .nilsl,.nilsl=>true
 | .esl,.esl=>true
 | .gsl h v e o l,.gsl h' v' e' o' l'=>Nat.beq h h'&&Nat.beq v v'&&Nat.beq e e'&&Nat.beq o o'&&Nat.beq l l'
 | .gp h v o,.gp h' v' o'=>Nat.beq h h'&&Nat.beq v v'&&Nat.beq o o'
 | .mpv h,.mpv h'=>Nat.beq h h'
 | .nilfn,.nilfn=>true
 | .nilmap,.nilmap=>true
 | .fn f cs,.fn f' cs'=>Nat.beq f f'&&y7 cs cs'
 | .agg cs,.agg cs'=>y7 cs cs'
 | .tup cs,.tup cs'=>y7 cs cs'
 | _,_=>false
def y7:List V→List V→Bool
 | [],[]=>true
 | x::xs,y::ys=>V.eqb x y&&y7 xs ys
 | _,_=>false
end
mutual
theorem V.eqb_eq :∀ (x y:V),V.eqb x y=true→x=y
 | .any,y,h=>by cases y <;> simp_all [V.eqb]
 | .int k n,y,h=>by cases y <;> simp_all [V.eqb]
 | .bool _,y,h=>by cases y <;> simp_all [V.eqb]
 | .kb _,y,h=>by cases y <;> simp_all [V.eqb]
 | .hint _ _,y,h=>by cases y <;> simp [V.eqb] at h
 | .str s,y,h=>by
  cases y <;> simp only [V.eqb,Bool.false_eq_true,decide_eq_true_eq] at h
  rename_i t
  have:s=t:=ByteArray.ext (Array.toList_inj.1 h)
  rw [this]
 | .nilptr,y,h=>by cases y <;> simp_all [V.eqb]
 | .ptr _ _,y,h=>by cases y <;> simp_all [V.eqb]
 | .fp _ _ _ _,y,h=>by cases y <;> simp [V.eqb] at h
 | .rp _ _ _ _,y,h=>by cases y <;> simp [V.eqb] at h
 | .nilsl,y,h=>by cases y <;> simp_all [V.eqb]
 | .esl,y,h=>by cases y <;> simp_all [V.eqb]
 | .osl _ _,y,h=>by cases y <;> simp [V.eqb] at h
 | .fsl _ _,y,h=>by cases y <;> simp [V.eqb] at h
 | .gsl _ _ _ _ _,y,h=>by cases y <;> simp_all [V.eqb]
 | .gp _ _ _,y,h=>by cases y <;> simp_all [V.eqb]
 | .mpv _,y,h=>by cases y <;> simp_all [V.eqb]
 | .av _ _,y,h=>by cases y <;> simp [V.eqb] at h
 | .nilfn,y,h=>by cases y <;> simp_all [V.eqb]
 | .nilmap,y,h=>by cases y <;> simp_all [V.eqb]
 | .fn f cs,y,h=>by
  cases y <;> simp only [V.eqb,Bool.false_eq_true,Bool.and_eq_true,Nat.beq_eq] at h
  rw [h.1,qq _ _ h.2]
 | .agg cs,y,h=>by
  cases y <;> simp only [V.eqb,Bool.false_eq_true] at h
  rw [qq _ _ h]
 | .tup cs,y,h=>by
  cases y <;> simp only [V.eqb,Bool.false_eq_true] at h
  rw [qq _ _ h]
theorem qq :∀ (xs ys:List V),y7 xs ys=true→xs=ys
 | [],[],_=>rfl
 | [],_::_,h=>by simp [y7] at h
 | _::_,[],h=>by simp [y7] at h
 | x::xs,y::ys,h=>by
  simp only [y7,Bool.and_eq_true] at h
  rw [V.eqb_eq _ _ h.1,qq _ _ h.2]
end
def FM:List (V×V)→List (V×V)→Bool
 | [],[]=>true
 |(a,b)::xs,(c,d)::ys=>V.eqb a c&&V.eqb b d&&FM xs ys
 | _,_=>false
theorem DX :∀ (xs ys:List (V×V)),FM xs ys=true→xs=ys
 | [],[],_=>rfl
 | [],_::_,h=>by simp [FM] at h
 | _::_,[],h=>by simp [FM] at h
 |(a,b)::xs,(c,d)::ys,h=>by
  simp only [FM,Bool.and_eq_true] at h
  rw [V.eqb_eq _ _ h.1.1,V.eqb_eq _ _ h.1.2,DX _ _ h.2]
end Go.Mir
namespace Go.Mir
open Go.RowKit
variable {P:Program}
def Ob.chk:Ob→Bool
 | .rng n len=>decide (0≤n)&&decide (n <(len:Int))
 | .sub l h len=>decide (0≤l)&&decide (l≤h)&&decide (h≤(len:Int))
 | .mk n c=>decide (0≤n)&&decide (c=n)&&decide (n≤17179869184)
 | .mkc n c=>decide (0≤n)&&decide (n≤c)&&decide (c≤17179869184)
 | .ne0 n=>!decide (n=0)
 | .leN a b=>Nat.ble a b
 | .prop _=>false
theorem Ob.chk_holds :∀ {p:Ob},p.chk=true→p.holds
 | .rng n len,h=>by simpa [Ob.chk,Ob.holds] using h
 | .sub l h len,hh=>by simp only [Ob.chk,Bool.and_eq_true,decide_eq_true_eq] at hh;exact ⟨hh.1.1,hh.1.2,hh.2⟩
 | .mk n c,h=>by simp only [Ob.chk,Bool.and_eq_true,decide_eq_true_eq] at h;exact ⟨h.1.1,h.1.2,h.2⟩
 | .mkc n c,h=>by simp only [Ob.chk,Bool.and_eq_true,decide_eq_true_eq] at h;exact ⟨h.1.1,h.1.2,h.2⟩
 | .ne0 n,h=>by simpa [Ob.chk,Ob.holds] using h
 | .leN a b,h=>Nat.le_of_ble_eq_true h
def jk:V→V
 | .bool b=> .kb b
 | v=>v
structure RS where
 tm:Tri V
 hp:Tri Blk
 nx:Nat
abbrev GR:=FuncId→List V→Tri Blk→Nat→Rn (V×Tri Blk×Nat)
def lD (r:Res):Option (List Ob×V×List (Nat×Blk)):=match r with
 | .val ps v dh=>some (ps,v,dh)
 | _=>none
abbrev R1:=Option (List Ob×V×List (Nat×Blk))
def C3 (tb:Tbl) (H:aq) (ev:Operand→V) (t:TypeId) (a x:Operand):R1:=match tb t with
 | some td=>match cL td H (ev a) (ev x) with
  | .skip ps dh=>some (ps,.tup [],dh)
  | _=>none
 | none=>none
def vS (ev:Operand→V) (x:Operand):R1:=some ([],ev x,[])
def Ng (ev:Operand→V) (c a b:Operand):R1:=lD (oN (ev c) (ev a) (ev b))
def CX (tb:Tbl) (m:Nat) (t:TypeId):R1:=match tb t with|some td=>some ([],.ptr m 0,[(m,.cells td.zero)])|none=>none
def Pz (m:Nat) (ev:Operand→V) (x:Operand):R1:=match cellsOf (ev x) with|some cs=>some ([],.ptr m 0,[(m,.cells cs)])|none=>none
def CY (tb:Tbl) (ev:Operand→V) (t:TypeId) (parts:Array (Nat×Operand)):R1:=match tb t with|some td=>lD (lR tb td (parts.toList.map fun p=>(p.1,ev p.2)))|none=>none
def lC (tb:Tbl) (m:Nat) (H:aq) (ev:Operand→V) (t:TypeId) (n:Nat) (parts:Array (Nat×Operand)):R1:=match tb t with|some td=>lD (cM tb td H m n (parts.toList.map fun p=>(p.1,ev p.2)))|none=>none
def JP (tb:Tbl) (H:aq) (ev:Operand→V) (t:TypeId) (a:Operand):R1:=match tb t with|some td=>lD (fe td H (ev a))|none=>none
def Rz (ev:Operand→V) (x:Operand):R1:=lD (ze (ev x))
def Py (tb:Tbl) (ev:Operand→V) (op:BinOp) (t:TypeId) (x y:Operand):R1:=match tb t with|some td=>lD (fy td op (ev x) (ev y))|none=>none
def rUn (ev:Operand→V) (op:UnOp) (x:Operand):R1:=lD (HG op (ev x))
def JM (tb:Tbl) (m:Nat) (ev:Operand→V) (s d:TypeId) (x:Operand):R1:=match tb s,tb d with|some ts,some td=>lD (qu tb ts td m (ev x))|_,_=>none
def bP:List V→Bool
 | []=>true
 | .ptr _ _::_=>true
 | _=>false
theorem CP {asz caps:List V} (h:bP caps=true):oO asz caps=some (asz++caps):=by
 cases caps with
 | nil=>simp [oO]
 | cons c cs=>cases c <;> simp only [bP,Bool.false_eq_true] at h;rfl
theorem CR {f:FuncId} {caps:List V} (h:bP caps=true):oL f [] caps = .val [] (.fn f caps) []:=by
 cases caps with
 | nil=>rfl
 | cons c cs=>cases c <;> simp only [bP,Bool.false_eq_true] at h;rfl
theorem JG {E:Env} {f:FuncId} {caps:List V} {l:Array Value} (h:bP caps=true) (hl:ab E caps l.toList):fnV f l = .func (.func f) #[] l:=by
 obtain ⟨l⟩:=l
 cases caps with
 | nil=>cases l with
  | nil=>rfl
  | cons=>simp [ab] at hl
 | cons c cs=>
  cases c <;> simp only [bP,Bool.false_eq_true] at h
  cases l with
  | nil=>simp [ab] at hl
  | cons v vs=>
   simp only [ab,aa] at hl
   obtain ⟨⟨_,⟨a,rfl⟩,_⟩,_⟩:=hl
   rfl
def JN (ev:Operand→V) (fn:Fn) (first caps:Array Operand):R1:=match fn with
 | .func f=>lD (oL f (first.toList.map ev) (caps.toList.map ev))
 | _=>none
def JQ (tb:Tbl) (m:Nat) (H:aq) (ev:Operand→V) (t:TypeId) (l c:Operand):R1:=match tb t with|some td=>lD (gJ tb td H m (ev l) (ev c))|none=>none
def C2 (tb:Tbl) (H:aq) (ev:Operand→V) (t:TypeId) (x:Operand) (lo hi mx:Option Operand):R1:=match tb t with|some td=>lD (ff tb td H (ev x) (lo.map ev) (hi.map ev) (mx.map ev))|none=>none
def CZ (tb:Tbl) (ev:Operand→V) (t:TypeId) (x:Operand) (f:Nat):R1:=match tb t with|some td=>lD (jv tb td (ev x) f)|none=>none
def yb (tb:Tbl) (ev:Operand→V) (t:TypeId) (x:Operand) (f:Nat):R1:=match tb t with|some td=>lD (gU tb td (ev x) f)|none=>none
def C1 (tb:Tbl) (H:aq) (ev:Operand→V) (t:TypeId) (x i:Operand):R1:=match tb t with|some td=>lD (dv tb td H (ev x) (ev i))|none=>none
def JO (tb:Tbl) (ev:Operand→V) (t:TypeId) (x i:Operand):R1:=match tb t with|some td=>lD (kQ tb td (ev x) (ev i))|none=>none
def A0 (ev:Operand→V) (t:Operand) (i:Nat):R1:=lD (lS (ev t) i)
theorem GF {td:TD} {H:aq} {a x:V} {ps:List Ob} {dh:List (Nat×Blk)} (h:cL td H a x = .skip ps dh):fg td H a x = .skip ps dh:=by
 unfold fg
 split
 ·rw [h]
 ·exact h
def re (tb:Tbl) (N m:Nat) (H:aq) (ev:Operand→V) (op:Op):R1:=match op with
 | .store t a x=>C3 tb H ev t a x
 | .move x=>vS ev x
 | .assign x=>vS ev x
 | .pick c a b=>Ng ev c a b
 | .alloc t=>CX tb m t
 | .box _ x=>Pz m ev x
 | .build t parts=>CY tb ev t parts
 | .buildSlice t n parts=>lC tb m H ev t n parts
 | .load t a=>JP tb H ev t a
 | .nilCheck x=>Rz ev x
 | .binOp op t x y _=>Py tb ev op t x y
 | .unOp op _ x=>rUn ev op x
 | .convert s d x=>JM tb m ev s d x
 | .makeFunc fn first caps=>JN ev fn first caps
 | .makeSlice t l c=>JQ tb m H ev t l c
 | .slice t x lo hi mx=>C2 tb H ev t x lo hi mx
 | .fieldAddr t x f=>CZ tb ev t x f
 | .field t x f=>yb tb ev t x f
 | .indexAddr t x i=>C1 tb H ev t x i
 | .index t x i=>JO tb ev t x i
 | .extract t i=>A0 ev t i
 | op=>ay ⟨tb,fun _=>none,1,N⟩ m H ev op
theorem oJ (tb:Tbl) (N m:Nat) (H:aq) (ev:Operand→V) (op:Op) {q:List Ob×V×List (Nat×Blk)} (h:re tb N m H ev op=some q):ay ⟨tb,fun _=>none,1,N⟩ m H ev op=some q:=by
 have key :∀ {r:Res},lD r=some q→(match r with | .val ps v dh=>some (ps,v,dh)|_=>none:R1)=some q:=fun {r} h=>by cases r <;> first|exact h|cases h
 cases op <;> simp only [re] at h <;> simp only [ay,bQ,bI]
 case store t a x=>simp only [C3] at h;cases ht:tb t <;> rw [ht] at h <;> simp only [reduceCtorEq] at h ⊢;cases hs:cL _ H (ev a) (ev x) <;> rw [hs] at h <;> simp only [reduceCtorEq] at h ⊢;rw [GF hs];exact h
 case move=>simpa [vS] using h
 case assign=>simpa [vS] using h
 case pick=>exact key h
 case alloc t=>simp only [CX] at h;cases ht:tb t <;> rw [ht] at h <;> simp only [reduceCtorEq] at h ⊢;exact h
 case box t x=>simp only [Pz] at h;cases ht:cellsOf (ev x) <;> rw [ht] at h <;> simp only [reduceCtorEq] at h ⊢;exact h
 case build t parts=>simp only [CY] at h;cases ht:tb t <;> rw [ht] at h <;> simp only [reduceCtorEq] at h ⊢;exact key h
 case buildSlice t n parts=>simp only [lC] at h;cases ht:tb t <;> rw [ht] at h <;> simp only [reduceCtorEq] at h ⊢;exact key h
 case load t a=>simp only [JP] at h;cases ht:tb t <;> rw [ht] at h <;> simp only [reduceCtorEq] at h ⊢;exact key h
 case nilCheck=>exact key h
 case binOp o t x y t2=>simp only [Py] at h;cases ht:tb t <;> rw [ht] at h <;> simp only [reduceCtorEq] at h ⊢;exact key h
 case unOp=>exact key h
 case convert s d x=>
  simp only [JM] at h
  cases ht:tb s with
  | none=>rw [ht] at h;cases h
  | some ts=>
   rw [ht] at h
   cases ht2:tb d with
   | none=>rw [ht2] at h;cases h
   | some td=>rw [ht2] at h;exact key h
 case makeFunc fn first caps=>
  cases fn <;> simp only [JN,reduceCtorEq] at h
  exact key h
 case makeSlice t l c=>simp only [JQ] at h;cases ht:tb t <;> rw [ht] at h <;> simp only [reduceCtorEq] at h ⊢;exact key h
 case slice t x lo hi mx=>simp only [C2] at h;cases ht:tb t <;> rw [ht] at h <;> simp only [reduceCtorEq] at h ⊢;exact key h
 case fieldAddr t x f=>simp only [CZ] at h;cases ht:tb t <;> rw [ht] at h <;> simp only [reduceCtorEq] at h ⊢;exact key h
 case field t x f=>simp only [yb] at h;cases ht:tb t <;> rw [ht] at h <;> simp only [reduceCtorEq] at h ⊢;exact key h
 case indexAddr t x i=>simp only [C1] at h;cases ht:tb t <;> rw [ht] at h <;> simp only [reduceCtorEq] at h ⊢;exact key h
 case index t x i=>simp only [JO] at h;cases ht:tb t <;> rw [ht] at h <;> simp only [reduceCtorEq] at h ⊢;exact key h
 case extract=>exact key h
 all_goals (simp only [ay,bQ,bI] at h;exact h)
inductive Act1 where
 | plain (r:R1)
 | call (g:FuncId) (args:List V)
def Hi (tb:Tbl) (N m:Nat) (H:aq) (ev:Operand→V) (c:Call):Act1:=match c.callee with
 | .value f=>match ev f with
  | .fn g caps=>bif bP caps then .call g (c.args.toList.map ev++caps) else .plain none
  | _=> .plain none
 | _=> .plain (ay ⟨tb,fun _=>none,1,N⟩ m H ev (.call c))
def evA (tb:Tbl) (N m:Nat) (H:aq) (ev:Operand→V) (op:Op):Act1:=match op with
 | .call c=>Hi tb N m H ev c
 | .store t a x=> .plain (C3 tb H ev t a x)
 | .move x=> .plain (vS ev x)
 | .assign x=> .plain (vS ev x)
 | .pick c a b=> .plain (Ng ev c a b)
 | .alloc t=> .plain (CX tb m t)
 | .box _ x=> .plain (Pz m ev x)
 | .build t parts=> .plain (CY tb ev t parts)
 | .buildSlice t n parts=> .plain (lC tb m H ev t n parts)
 | .load t a=> .plain (JP tb H ev t a)
 | .nilCheck x=> .plain (Rz ev x)
 | .binOp op t x y _=> .plain (Py tb ev op t x y)
 | .unOp op _ x=> .plain (rUn ev op x)
 | .convert s d x=> .plain (JM tb m ev s d x)
 | .makeFunc fn first caps=> .plain (JN ev fn first caps)
 | .makeSlice t l c=> .plain (JQ tb m H ev t l c)
 | .slice t x lo hi mx=> .plain (C2 tb H ev t x lo hi mx)
 | .fieldAddr t x f=> .plain (CZ tb ev t x f)
 | .field t x f=> .plain (yb tb ev t x f)
 | .indexAddr t x i=> .plain (C1 tb H ev t x i)
 | .index t x i=> .plain (JO tb ev t x i)
 | .extract t i=> .plain (A0 ev t i)
 | op=> .plain (ay ⟨tb,fun _=>none,1,N⟩ m H ev op)
theorem FN (tb:Tbl) (N m:Nat) (H:aq) (ev:Operand→V) (op:Op) {q:List Ob×V×List (Nat×Blk)} (h:evA tb N m H ev op = .plain (some q)):ay ⟨tb,fun _=>none,1,N⟩ m H ev op=some q:=by
 cases op
 case call c=>
  simp only [evA,Hi] at h
  split at h
  ·split at h
   ·rename_i caps _
    cases hb:bP caps with
    | true=>rw [hb] at h;cases h
    | false=>rw [hb] at h;cases h
   ·cases h
  ·exact Act1.plain.inj h
 all_goals (exact oJ tb N m H ev _ (Act1.plain.inj h))
theorem HF (tb:Tbl) (N m:Nat) (H:aq) (ev:Operand→V) (op:Op) {g:FuncId} {args:List V} (h:evA tb N m H ev op = .call g args) :∃ c f caps,op = .call c∧c.callee = .value f∧ev f = .fn g caps∧args=c.args.toList.map ev++caps∧bP caps=true:=by
 cases op
 case call c=>
  simp only [evA,Hi] at h
  split at h
  ·rename_i f hf
   split at h
   ·rename_i g' caps he
    cases hb:bP caps with
    | false=>rw [hb] at h;cases h
    | true=>
     rw [hb] at h
     cases h
     exact ⟨c,f,caps,rfl,hf,he,rfl,hb⟩
   ·cases h
  ·cases h
 all_goals (cases h)
def Nc (ps:List Ob):Bool:=List.casesOn (motive:=fun _=>Bool) ps true fun _ _=>ps.all Ob.chk
def HB (N:Nat) (ops:List Oper):Bool:=ops.all fun o=>dstIn N o.dst
end Go.Mir
namespace Go.Mir
open Go.RowKit
variable {P:Program}
inductive DoesV (C:Cfg) (alt:Option (Nat×(Blk→Bool))) (all:List Oper) (tm:List (Nat×V)) (H:aq) (m:Nat) (o:Oper):Rec→Prop
 | old {r:Rec}:Does C true all tm H m o r→DoesV C alt all tm H m o r
 | dir {ps:List Ob} {v v':V} {dh:List (Nat×Blk)} {R:List Nat}:dstIn C.N o.dst=true→fh all tm o=some true→ay C m H (aM (ak all o) tm) o.op=some (ps,v,dh)→
   (∀ H2:aq,(∀ h∈R,H2 h=H h)→(∀ h0 okB,alt=some (h0,okB)→H2 h0=H h0∨∃ b,H2 h0=some b∧okB b=true)→ay C m H2 (aM (ak all o) tm) o.op=ay C m H (aM (ak all o) tm) o.op)→(∀ p∈ps,p.holds)→
   (v'=v∨∃ b,v = .bool b∧v' = .kb b)→DoesV C alt all tm H m o ⟨o.dst,v',dh,R,ak all o⟩
theorem DoesV.dstIn {C:Cfg} {alt:Option (Nat×(Blk→Bool))} {all:List Oper} {tm:List (Nat×V)} {H:aq} {m:Nat} {o:Oper} {r:Rec} (h:DoesV C alt all tm H m o r):dstIn C.N o.dst=true∧r.dst=o.dst∧r.rs=ak all o:=by
 cases h with
 | old h=>exact h.dstIn
 | dir h _ _ _ _ _=>exact ⟨h,rfl,rfl⟩
inductive RunV (Cf:Nat→Cfg) (lo:Nat→Nat) (al:Nat→Option (Nat×(Blk→Bool))) (all:List Oper) (st:St):Nat→List Oper→Dl→List Rec→Dl→List Rec→Prop
 | nil {i:Nat} {d:Dl} {recs:List Rec}:RunV Cf lo al all st i [] d recs d recs
 | cons {i:Nat} {o:Oper} {rest:List Oper} {d:Dl} {recs:List Rec} {r:Rec} {df:Dl} {rf:List Rec}:DoesV (Cf i) (al i) all (d.tm++st.tm) (an st.H d.hp) (lo i) o r→
   RunV Cf lo al all st (i+1) rest ⟨b7 r.dst r.v++d.tm,r.dh++d.hp⟩ (recs++[r]) df rf→RunV Cf lo al all st i (o::rest) d recs df rf
theorem vV {Cf:Nat→Cfg} {lo:Nat→Nat} {al:Nat→Option (Nat×(Blk→Bool))} {all:List Oper} {st:St} :∀ (rest:List Oper) (i:Nat) (d:Dl) (recs:List Rec) (df:Dl) (rf:List Rec),RunV Cf lo al all st i rest d recs df rf→recs.length=i→
  find (d.tm++st.tm) =(recs.map ei).foldl cY (find st.tm)→an st.H d.hp =(recs.map Rec.dh).foldl cY st.H→
  (∃ more,rf=recs++more∧more.length=rest.length)∧find (df.tm++st.tm) =(rf.map ei).foldl cY (find st.tm)∧an st.H df.hp =(rf.map Rec.dh).foldl cY st.H∧
  ∀ j o,rest[j]?=some o→∃ r tm H,rf[i+j]?=some r∧DoesV (Cf (i+j)) (al (i+j)) all tm H (lo (i+j)) o r∧find tm =((rf.take (i+j)).map ei).foldl cY (find st.tm)∧H =((rf.take (i+j)).map Rec.dh).foldl cY st.H
 | [],i,d,recs,df,rf,hr,hl,h1,h2=>by
  cases hr
  exact ⟨⟨[],by simp,rfl⟩,h1,h2,fun j o h=>by simp at h⟩
 | o::rest,i,d,recs,df,rf,hr,hl,h1,h2=>by
  cases hr with
  | @cons _ _ _ _ _ r _ _ hdo hrun=>
   obtain ⟨⟨more,e1,e2⟩,g1,g2,g3⟩:=vV rest (i+1) _ _ _ _ hrun (by simp [hl])
    (by rw [List.append_assoc,uG,h1];simp [ei]) (by rw [bN,h2];simp [lW])
   refine ⟨⟨r::more,by rw [e1];simp,by simp [e2]⟩,g1,g2,fun j o' hj=>?_⟩
   cases j with
   | zero=>
    simp only [List.getElem?_cons_zero,Option.some.injEq] at hj
    subst hj
    have et:rf.take i=recs:=by rw [e1,List.append_assoc,List.take_append_of_le_length (by omega),List.take_of_length_le (by omega)]
    refine ⟨r,_,_,?_,hdo,?_,?_⟩
    ·rw [e1,Nat.add_zero,List.append_assoc,List.getElem?_append_right (by omega)]
     simp [hl]
    ·rw [Nat.add_zero,et];exact h1
    ·rw [Nat.add_zero,et];exact h2
   | succ j=>
    obtain ⟨r',tm,H,k1,k2,k3,k4⟩:=g3 j o' (by simpa using hj)
    rw [show i+1+j=i +(j+1) by omega] at k1 k2 k3 k4
    exact ⟨r',tm,H,k1,k2,k3,k4⟩
structure InvV (Cf:Nat→Cfg) (lo:Nat→Nat) (N:Nat) (B:Base) (E0:Env) (st:St) (rf:List Rec) (L:Nat→Bool) (a:Act) (w:World):Prop where
 ex :∃ E,HRel B E∧E.w=w∧Ext E0 E∧E.H=bB L st.H 0 (rf.map Rec.dh)∧(∀ n,E.U n→E0.U n∨∃ i,i<rf.length∧L i=true∧lo i≤n∧n<lo i +(Cf i).K)∧dt E (bB L (find st.tm) 0 (rf.map ei)) a
 size:a.tmps.size=N
 defers:a.defers=[]
theorem Bp {L L':Nat→Bool} {k:Nat} {okB:Blk→Bool} :∀ (us:List (List (Nat×Blk))) (i:Nat) (f f':Nat→Option Blk),(f k=f' k∨∃ b,f k=some b∧okB b=true)→
  (∀ j u,us[j]?=some u→find u k≠none→L (i+j)=L' (i+j)∨(L' (i+j)=false∧∀ b,find u k=some b→okB b=true))→bB L f i us k=bB L' f' i us k∨∃ b,bB L f i us k=some b∧okB b=true
 | [],_,_,_,h,_=>h
 | u::us,i,f,f',h,hu=>by
  unfold bB
  refine Bp us (i+1) _ _ ?_ (fun j u' hj hf=>by
   have:=hu (j+1) u' (by simpa using hj) hf
   rwa [show i +(j+1)=i+1+j by omega] at this)
  cases hf:find u k with
  | none=>
   have e1 :(if L i=true then cY f u else f) k=f k:=by split <;> simp [gR hf]
   have e2 :(if L' i=true then cY f' u else f') k=f' k:=by split <;> simp [gR hf]
   rw [e1,e2]
   exact h
  | some v=>
   rcases hu 0 u (by simp) (by rw [hf];simp) with h1 |⟨h1,h2⟩
   ·simp only [Nat.add_zero] at h1
    rw [h1]
    split
    ·left;rw [fF hf,fF hf]
    ·exact h
   ·simp only [Nat.add_zero] at h1
    rw [h1]
    simp only [Bool.false_eq_true,if_false]
    split
    ·right;exact ⟨v,fF hf,h2 v hf⟩
    ·exact h
theorem FV {Cf:Nat→Cfg} {lo:Nat→Nat} {al:Nat→Option (Nat×(Blk→Bool))} {N:Nat} (hC :∀ i,CfgOK P (Cf i)) (hN :∀ i,(Cf i).N=N) {B:Base} {E0:Env} {all:List Oper} {st:St} {rf:List Rec} (hfr0 :∀ i,i<rf.length→∀ n,lo i≤n→n<lo i +(Cf i).K→¬ E0.U n) (hlo :∀ i j,i<j→j<rf.length→lo i +(Cf i).K≤lo j) {L L':Nat→Bool} {i:Nat} {o:Oper} {r:Rec} (ho:all[i]?=some o) (hr:rf[i]?=some r) (hLi:L i=false) (hL' :∀ j,L' j=if j=i then true else L j)
  {tm:List (Nat×V)} {H:aq} (hdo:DoesV (Cf i) (al i) all tm H (lo i) o r) (htm:find tm=bB (fun j=>Nat.blt j i) (find st.tm) 0 (rf.map ei)) (hH:H=bB (fun j=>Nat.blt j i) st.H 0 (rf.map Rec.dh))
  (hcomm :∀ j s,rf[j]?=some s→(j<i∧L j=false)∨(i<j∧L j=true)→Comm r s) (halt :∀ h0 okB,al i=some (h0,okB)→∀ j s b,rf[j]?=some s→find s.dh h0=some b→(j<i→L j=true)∧(i<j→L j=true→okB b=true)) {Q:Exit→Act→World→Prop} {a:Act} {w:World} (hI:InvV Cf lo N B E0 st rf L a w) {K:Act→World→Prop} (hK :∀ a w,InvV Cf lo N B E0 st rf L' a w→K a w) :
  wpOp P all.toArray Q i K a w:=by
 obtain ⟨⟨E,hE,rfl,hX,hEH,hU,hT⟩,hsz,hdf⟩:=hI
 obtain ⟨hd,he,hrs⟩:=hdo.dstIn
 have hiL:i<rf.length:=(List.getElem?_eq_some_iff.1 hr).1
 have hLsel :∀ {α:Type} (us:List (List (Nat×α))) (f:Nat→Option α) (k:Nat) (g:Rec→List (Nat×α)),us=rf.map g→(∀ j s,rf[j]?=some s→find (g s) k≠none→j≠i→Comm r s→False)→bB L f 0 us k=bB (fun j=>Nat.blt j i) f 0 us k:=by
  intro α us f k g hus hno
  refine fH us 0 f f rfl (fun j u hj hu=>?_)
  rw [Nat.zero_add]
  subst hus
  rw [List.getElem?_map] at hj
  cases hs:rf[j]? with
  | none=>rw [hs] at hj;simp at hj
  | some s=>
   rw [hs] at hj
   simp only [Option.map_some,Option.some.injEq] at hj
   subst hj
   by_cases hji:j=i
   ·subst hji
    rw [hLi]
    cases hb:Nat.blt j j with
    | false=>rfl
    | true=>rw [Nat.blt_eq] at hb;omega
   ·rcases Nat.lt_or_gt_of_ne hji with hlt|hgt
    ·have hb:Nat.blt j i=true:=by rw [Nat.blt_eq];exact hlt
     rw [hb]
     cases hLj:L j with
     | true=>rfl
     | false=>exact (hno j s hs hu hji (hcomm j s hs (.inl ⟨hlt,hLj⟩))).elim
    ·have hb:Nat.blt j i=false:=by cases hb:Nat.blt j i with|false=>rfl|true=>rw [Nat.blt_eq] at hb;omega
     rw [hb]
     cases hLj:L j with
     | false=>rfl
     | true=>exact (hno j s hs hu hji (hcomm j s hs (.inr ⟨hgt,hLj⟩))).elim
 have hslot :∀ s∈ak all o,bB L (find st.tm) 0 (rf.map ei) s=find tm s:=fun s hs=>by
  rw [htm]
  refine hLsel _ _ s ei rfl (fun j s' hs' hne hji hc=>?_)
  exact hc.sd s (jR hne) (by rw [hrs];exact hs)
 have hlook :∀ s∈ak all o,aa E (cx tm s) (a.tmps.getD s undef):=fun s hs=>by
  unfold cx
  cases hf:find tm s with
  | none=>simp [aa]
  | some v=>exact hT s v (by rw [hslot s hs];exact hf)
 have hL0 :∀ {α:Type} (us:List (List (Nat×α))) (f:Nat→Option α) (g:Rec→List (Nat×α)),us=rf.map g→(∀ j s,i<j→rf[j]?=some s→Comm r s→∀ k,find (g r) k≠none→find (g s) k=none)→bB L' f 0 us=cY (bB L f 0 us) (g r):=by
  intro α us f g hus hno
  subst hus
  refine Bo (rf.map g) f i (g r) (by rw [List.getElem?_map,hr];rfl) hL' (fun j u hj hu hLj k hk=>?_)
  rw [List.getElem?_map] at hu
  cases hs:rf[j]? with
  | none=>rw [hs] at hu;simp at hu
  | some s=>
   rw [hs] at hu
   simp only [Option.map_some,Option.some.injEq] at hu
   subst hu
   exact hno j s hj hs (hcomm j s hs (.inr ⟨hj,hLj⟩)) k hk
 have none_of :∀ {α:Type} {l:List (Nat×α)} {k:Nat},(k∈l.map (·.1)→False)→find l k=none:=fun {α l k} h=>by
  cases hf:find l k with
  | none=>rfl
  | some v=>exact (h (dY (by rw [hf];simp))).elim
 have hT':bB L' (find st.tm) 0 (rf.map ei)=cY (bB L (find st.tm) 0 (rf.map ei)) (ei r):=hL0 _ _ ei rfl (fun j s _ _ hc k hk=>by
  cases hf:find (ei s) k with
  | none=>rfl
  | some v=>exact (hc.d k (jR hk) (jR (by rw [hf];simp))).elim)
 have hH':bB L' st.H 0 (rf.map Rec.dh)=cY (bB L st.H 0 (rf.map Rec.dh)) r.dh:=hL0 _ _ Rec.dh rfl (fun j s _ _ hc k hk=>none_of fun hm=>hc.k k (dY hk) hm)
 have after :∀ (E':Env) (v':Value),GoodK B E (lo i) (Cf i).K r.dh E'.w E'→aa E' r.v v'→InvV Cf lo N B E0 st rf L' (a.put o.dst v') E'.w:=fun E' v' G hv=>by
  refine ⟨⟨E',G.rel,rfl,hX.trans G.ext,by rw [G.h,hH',hEH,lW],fun n hn=>?_,?_⟩,by rw [lA];exact hsz,by rw [iu];exact hdf⟩
  ·rcases G.u n hn with h|h
   ·rcases hU n h with h1 |⟨j,h1,h2,h3⟩
    ·exact .inl h1
    ·refine .inr ⟨j,h1,?_,h3⟩
     rw [hL']
     split
     ·rfl
     ·exact h2
   ·exact .inr ⟨i,hiL,by rw [hL',if_pos rfl],h.1,h.2⟩
  ·rw [hT']
   exact x9 G.ext hT hsz (by rw [←hN i];exact hd) (v:=r.v) hv (fun s u hu=>by
    unfold cY ei at hu
    rw [he] at hu
    cases hf:find (b7 o.dst r.v) s with
    | some x=>rw [hf] at hu;exact .inl hu
    | none=>rw [hf] at hu;exact .inr ⟨rfl,hu⟩)
 unfold wpOp
 simp only [List.getElem?_toArray,ho]
 have hfresh :∀ n,lo i≤n→n<lo i +(Cf i).K→¬ E.U n:=fun n h1 h2 hu=>by
  rcases hU n hu with h3 |⟨j,h3,h4,h5,h6⟩
  ·exact hfr0 i hiL n h1 h2 h3
  ·have hji:j≠i:=fun e=>by subst e;rw [hLi] at h4;cases h4
   rcases Nat.lt_or_gt_of_ne hji with hlt|hgt
   ·have:=hlo j i hlt hiL;omega
   ·have:=hlo i j hgt h3;omega
 cases hdo with
 | @dir ps v v' dh R _ hg hev hcg hps hv=>
  rw [bT hlook hg]
  simp only [if_true]
  left
  have hHR :∀ h∈R,E.H h=H h:=fun h hh=>by
   rw [hEH,hH]
   refine hLsel _ _ h Rec.dh rfl (fun j s hs hne hji hc=>?_)
   exact hc.sk h (dY hne) hh
  have hev2:=hcg E.H hHR (fun h0 okB hal=>by
   have hal:=halt h0 okB hal
   rw [hEH,hH]
   refine Bp (rf.map Rec.dh) 0 st.H st.H (.inl rfl) (fun j u hj hu=>?_)
   rw [Nat.zero_add]
   rw [List.getElem?_map] at hj
   cases hs:rf[j]? with
   | none=>rw [hs] at hj;simp at hj
   | some s=>
    rw [hs] at hj
    simp only [Option.map_some,Option.some.injEq] at hj
    subst hj
    rcases Nat.lt_trichotomy j i with hlt|heq|hgt
    ·left
     obtain ⟨b,hb⟩ :∃ b,find s.dh h0=some b:=by
      cases hf:find s.dh h0 with
      | none=>exact absurd hf hu
      | some b=>exact ⟨b,rfl⟩
     rw [(hal j s b hs hb).1 hlt]
     exact (by rw [Nat.blt_eq];exact hlt:Nat.blt j i=true).symm
    ·left
     subst heq
     rw [hLi]
     cases hb:Nat.blt j j with
     | false=>rfl
     | true=>rw [Nat.blt_eq] at hb;omega
    ·have hbf:Nat.blt j i=false:=by cases hb:Nat.blt j i with|false=>rfl|true=>rw [Nat.blt_eq] at hb;omega
     cases hLj:L j with
     | false=>exact .inl hbf.symm
     | true=>exact .inr ⟨hbf,fun b hb=>(hal j s b hs hb).2 hgt hLj⟩)
  rw [hev] at hev2
  have hevm :∀ x,aa E (aM (ak all o) tm x) (a.eval x):=fun x=>by
   cases x with
   | tmp t=>
    simp only [aM]
    cases hm:memN (ak all o) t with
    | false=>simp [aa]
    | true=>exact hlook t (memN_iff.1 hm)
   | const v=>exact fV v
   | func f=>simp only [aM,aa,Act.eval];exact ⟨#[],rfl,by simp [ab]⟩
   | _=>simp [aM,aa]
  exact du hE (hC i).tb (hC i).K (hC i).Γ hfresh hevm hev2 hps fun v'' E' G hv'=>by
   have hw:E'.w=E'.w:=rfl
   exact hK _ _ (after E' _ G (GM hv hv'))
 | old hdo=>
 cases hdo with
 | skip _ hg=>
  rw [bT hlook hg]
  simp only [Bool.false_eq_true,if_false]
  exact hK _ _ (after E undef ⟨hE,Ext.refl E,rfl,rfl,fun n h=> .inl h⟩ (by simp [aa,undef,ab]))
 | @dir ps v v' dh _ _ hg hdr hev hps hv=>
  rw [bT hlook hg]
  simp only [if_true]
  left
  have hev2:=uD (C:=Cf i) (m:=lo i) (H1:=E.H) (H2:=H) hdr fun k hk=>by
   rw [hEH,hH]
   refine hLsel _ _ k Rec.dh rfl (fun j s hs hne hji hc=>?_)
   exact hc.sk k (dY hne) hk
  rw [hev] at hev2
  have hevm :∀ x,aa E (aM (ak all o) tm x) (a.eval x):=fun x=>by
   cases x with
   | tmp t=>
    simp only [aM]
    cases hm:memN (ak all o) t with
    | false=>simp [aa]
    | true=>exact hlook t (memN_iff.1 hm)
   | const v=>exact fV v
   | func f=>simp only [aM,aa,Act.eval];exact ⟨#[],rfl,by simp [ab]⟩
   | _=>simp [aM,aa]
  exact du hE (hC i).tb (hC i).K (hC i).Γ hfresh hevm hev2 hps fun v'' E' G hv'=>hK _ _ (after E' _ G (GM hv hv'))
 | @run ps v v' dh R _ hg hst hps hv=>
  rw [bT hlook hg]
  simp only [if_true]
  left
  simp only [lH] at hst
  split at hst
  case h_2=>cases hst
  rename_i ps' v2 dh' hev
  cases hfr:gK H (mD H 8 (o.op.operands.toList.flatMap fun x=>(aM (ak all o) tm x).hs) []) (lo i) (Cf i).K v2 dh' with
  | false=>rw [hfr] at hst;cases hst
  | true=>
   rw [hfr] at hst
   simp only [cond_true,Option.some.injEq,Prod.mk.injEq] at hst
   obtain ⟨rfl,rfl,rfl,hR⟩:=hst
   rw [hR] at hfr hev
   have hHR :∀ h∈R,E.H h=H h:=fun h hh=>by
    rw [hEH,hH]
    refine hLsel _ _ h Rec.dh rfl (fun j s hs hne hji hc=>?_)
    exact hc.sk h (dY hne) hh
   have hrest:restr H R=restr E.H R:=by
    funext h
    unfold restr
    cases hm:memN R h with
    | false=>rfl
    | true=>simp only [cond_true];exact (hHR h (memN_iff.1 hm)).symm
   simp only [gK,Bool.and_eq_true] at hfr
   obtain ⟨⟨f1,f2⟩,f3⟩:=hfr
   have fR :∀ h∈R,∃ b,H h=some b∧mm R (lo i) (Cf i).K b.hs=true:=fun h hh=>by
    have:=List.all_eq_true.1 f1 h hh
    split at this
    ·rename_i b hb;exact ⟨b,hb,this⟩
    ·cases this
   have hfresh :∀ n,lo i≤n→n<lo i +(Cf i).K→¬ E.U n:=fun n h1 h2 hu=>by
    rcases hU n hu with h3 |⟨j,h3,h4,h5,h6⟩
    ·exact hfr0 i hiL n h1 h2 h3
    ·have hji:j≠i:=fun e=>by subst e;rw [hLi] at h4;cases h4
     rcases Nat.lt_or_gt_of_ne hji with hlt|hgt
     ·have:=hlo j i hlt hiL;omega
     ·have:=hlo i j hgt h3;omega
   have hEs:=hE.restr R
   have Xs:=Ext.restr E R
   rw [hrest] at hev
   have hevm :∀ x,aa { E with H:=Mir.restr E.H R } (aM (ak all o) tm x) (a.eval x):=fun x=>by
    cases x with
    | tmp t=>
     simp only [aM]
     cases hm:memN (ak all o) t with
     | false=>simp [aa]
     | true=>exact aH Xs _ _ (hlook t (memN_iff.1 hm))
    | const v=>exact fV v
    | func f=>simp only [aM,aa,Act.eval];exact ⟨#[],rfl,by simp [ab]⟩
    | _=>simp [aM,aa]
   exact du (E:={ E with H:=Mir.restr E.H R }) hEs (hC i).tb (hC i).K (hC i).Γ hfresh hevm hev hps fun v'' Es G hv'=>by
    obtain ⟨E',G',tr⟩:=M0 hE hfresh G (fun h hh=>by obtain ⟨b,hb,_⟩:=fR h hh;exact ⟨b,by rw [hHR h hh];exact hb⟩)
     (fun h hh k hk x hx=>by
      obtain ⟨b,hb,hb2⟩:=fR h hh
      rw [hHR h hh,hb] at hk
      cases hk
      exact eJ hb2 x hx)
     (fun h k hk=>by
      have hq:=ag hk
      have:=List.all_eq_true.1 f2 _ hq
      simp only [Bool.and_eq_true] at this
      exact ⟨eJ this.1 h (by simp),eJ this.2⟩)
    have hw:E'.w=Es.w:=G'.w
    have hv2:aa E' v2 v'':=tr _ _ (eJ f3) hv'
    have:=hK _ _ (after E' _ (by rw [hw];exact G') (GM hv hv2))
    rw [hw] at this
    exact this
def AltOK (al:Nat→Option (Nat×(Blk→Bool))) (ms:List Nat) (rf:List Rec):Prop:=∀ i h0 okB,al i=some (h0,okB)→∀ j s b,rf[j]?=some s→find s.dh h0=some b→j≠i→
 (j<i→((ms[i]?).getD 0).testBit j=true)∧(i<j→((ms[j]?).getD 0).testBit i=true∨okB b=true)
theorem AltOK.none {ms:List Nat} {rf:List Rec}:AltOK (fun _=>Option.none) ms rf:=fun i h0 okB h=>by cases h
theorem FE {Cf:Nat→Cfg} {lo:Nat→Nat} {al:Nat→Option (Nat×(Blk→Bool))} {N:Nat} (hC :∀ i,CfgOK P (Cf i)) (hN :∀ i,(Cf i).N=N) {B:Base} {E0:Env} {all:List Oper} {st:St} {df:Dl} {rf:List Rec} (hrun:RunV Cf lo al all st 0 all ⟨[],[]⟩ [] df rf) (hE:cr 0 all=true) (hck:dN (bD all []) 0 rf=true) (hal:AltOK al (bD all []) rf) {Q:Exit→Act→World→Prop}
  (hfr0 :∀ i,i<all.length→∀ n,lo i≤n→n<lo i +(Cf i).K→¬ E0.U n) (hlo :∀ i j,i<j→j<all.length→lo i +(Cf i).K≤lo j)
  (hQ :∀ E a,HRel B E→Ext E0 E→E.H=an st.H df.hp→(∀ n,E.U n→E0.U n∨∃ i,i<all.length∧lo i≤n∧n<lo i +(Cf i).K)→dt E (find (df.tm++st.tm)) a→a.tmps.size=N→a.defers=[]→Q .normal a E.w) :
  ∀ (fuel:Nat) (listed:Array Bool) (a:Act) (w:World),listed.size=all.length→unl all.length listed=fuel→
   (∀ j oj,all[j]?=some oj→listed.getD j false=true→∀ e∈oj.after,Region.binds .any e=true→listed.getD e.on false=true)→
   InvV Cf lo N B E0 st rf (fun i=>listed.getD i false) a w→wpAny P .any all.toArray Q fuel listed a w:=by
 obtain ⟨⟨more,e1,e2⟩,g1,g2,g3⟩:=vV all 0 ⟨[],[]⟩ [] df rf hrun rfl rfl rfl
 have hlen:rf.length=all.length:=by rw [e1];simpa using e2
 have full :∀ (listed:Array Bool),listed.size=all.length→Region.ready .any all.toArray listed=[]→∀ i,i<all.length→listed.getD i false=true:=by
  intro listed hsz hrd i
  induction i using Nat.strongRecOn with
  | _ i ih=>
   intro hi
   cases hb:listed.getD i false with
   | true=>rfl
   | false=>
    have hun:listed.getD i true=false:=by
     have:i<listed.size:=by omega
     simp [this] at hb ⊢
     exact hb
    have hoi:all[i]?=some all[i]:=List.getElem?_eq_getElem hi
    have:i∈Region.ready .any all.toArray listed:=mem_ready.2 ⟨hun,all[i],by simp,fun e he hbd=>by
     have:=fb all 0 hE i _ hoi e he hbd
     exact ih e.on (by omega) (by omega)⟩
    rw [hrd] at this
    cases this
 have close :∀ (listed:Array Bool) (a:Act) (w:World),listed.size=all.length→(∀ i,i<all.length→listed.getD i false=true)→InvV Cf lo N B E0 st rf (fun i=>listed.getD i false) a w→Q .normal a w:=by
  intro listed a w hsz hall hI
  obtain ⟨⟨E,hE',rfl,hX,hEH,hU,hT⟩,hs,hd⟩:=hI
  have hsel :∀ {α:Type} (us:List (List (Nat×α))) (f:Nat→Option α),us.length=all.length→bB (fun i=>listed.getD i false) f 0 us=us.foldl cY f:=fun us f hl=>by
   have h1:=kr us f 0 us.length
   rw [List.take_of_length_le (Nat.le_refl _)] at h1
   rw [←h1]
   funext k
   refine fH us 0 f f rfl (fun j u hj _=>?_)
   have hjl:j<us.length:=(List.getElem?_eq_some_iff.1 hj).1
   rw [Nat.zero_add,hall j (by omega)]
   exact (by rw [Nat.blt_eq];omega:Nat.blt j (0+us.length)=true).symm
  refine hQ E a hE' hX ?_ (fun n hn=>?_) (fun s v hv=>?_) hs hd
  ·rw [hEH,hsel _ _ (by simp [hlen]),g2]
  ·rcases hU n hn with h |⟨i,h1,_,h3,h4⟩
   ·exact .inl h
   ·exact .inr ⟨i,by omega,h3,h4⟩
  ·refine hT s v ?_
   rw [hsel _ _ (by simp [hlen]),←g1]
   exact hv
 intro fuel
 induction fuel with
 | zero=>
  intro listed a w hsz hun _ hI
  have hall :∀ i,i<all.length→listed.getD i false=true:=fun i hi=>by
   have h0 :(List.range all.length).filter (fun i=>!listed.getD i true)=[]:=List.eq_nil_of_length_eq_zero hun
   have:=List.filter_eq_nil_iff.1 h0 i (List.mem_range.2 hi)
   have hi':i<listed.size:=by omega
   simp [hi'] at this ⊢
   exact this
  refine ⟨?_,close listed a w hsz hall hI⟩
  cases hr:Region.ready .any all.toArray listed with
  | nil=>rfl
  | cons i l=>
   have hm:i∈Region.ready .any all.toArray listed:=by rw [hr];exact List.mem_cons_self
   obtain ⟨h1,o,h2,_⟩:=mem_ready.1 hm
   have hi:i<all.length:=by
    have:=(Array.getElem?_eq_some_iff.1 h2).1
    simpa using this
   have h3:=hall i hi
   have hi':i<listed.size:=by omega
   simp [hi'] at h1 h3
   rw [h1] at h3;cases h3
 | succ fuel ih=>
  intro listed a w hsz hun hclosed hI
  refine ⟨fun hr=>close listed a w hsz (full listed hsz hr) hI,fun i hi=>?_⟩
  obtain ⟨h1,o,h2,hdir⟩:=mem_ready.1 hi
  have ho:all[i]?=some o:=by simpa using h2
  have hil:i<all.length:=(List.getElem?_eq_some_iff.1 ho).1
  have his:i<listed.size:=by omega
  have hLi:listed.getD i false=false:=by simp [his] at h1 ⊢;exact h1
  obtain ⟨r,tm,H,k1,k2,k3,k4⟩:=g3 i o ho
  simp only [Nat.zero_add] at k1 k2 k3 k4
  have hget :∀ j,(listed.setIfInBounds i true).getD j false=if j=i then true else listed.getD j false:=fun j=>by
   by_cases e:j=i
   ·subst e;simp [his]
   ·simp [e,Array.getElem?_setIfInBounds_ne (Ne.symm e),Array.getD_eq_getD_getElem?]
  have hgetT :∀ j,j≠i→(listed.setIfInBounds i true).getD j true=listed.getD j true:=fun j e=>by
   simp [Array.getElem?_setIfInBounds_ne (Ne.symm e),Array.getD_eq_getD_getElem?]
  refine FV hC hN (E0:=E0) (by rw [hlen];exact hfr0) (by rw [hlen];exact hlo) (L:=fun i=>listed.getD i false) (L':=fun j=>(listed.setIfInBounds i true).getD j false) ho k1 hLi hget k2 ?_ ?_ (fun j s hs hor=>?_) (fun h0 okB ha j s b hs hb=>⟨fun hlt=>?_,fun hgt hLj=>?_⟩) hI (fun a w hI'=>ih _ a w (by simpa using hsz) ?_ ?_ hI')
  ·rw [k3]
   have:=kr (rf.map ei) (find st.tm) 0 i
   rw [←List.map_take,] at this
   simpa using this.symm
  ·rw [k4]
   have:=kr (rf.map Rec.dh) st.H 0 i
   rw [←List.map_take] at this
   simpa using this.symm
  ·rcases hor with ⟨hlt,hLj⟩ |⟨hgt,hLj⟩
   ·rcases fU rf 0 hck j i s r hlt hs k1 with h|h
    ·simp only [Nat.zero_add] at h
     have:=cF hE hclosed i i (Nat.le_refl _) o ho hdir j h
     rw [this] at hLj;cases hLj
    ·exact h.symm
   ·rcases fU rf 0 hck i j r s hgt k1 hs with h|h
    ·simp only [Nat.zero_add] at h
     have hjl:j<all.length:=by rw [←hlen];exact (List.getElem?_eq_some_iff.1 hs).1
     have hoj:all[j]?=some all[j]:=List.getElem?_eq_getElem hjl
     have:=cF hE hclosed j j (Nat.le_refl _) _ hoj (hclosed j _ hoj hLj) i h
     rw [this] at hLi;cases hLi
    ·exact h
  ·exact cF hE hclosed i i (Nat.le_refl _) o ho hdir j ((hal i h0 okB ha j s b hs hb (by omega)).1 hlt)
  ·rcases (hal i h0 okB ha j s b hs hb (by omega)).2 hgt with h|h
   ·have hjl:j<all.length:=by rw [←hlen];exact (List.getElem?_eq_some_iff.1 hs).1
    have hoj:all[j]?=some all[j]:=List.getElem?_eq_getElem hjl
    have:=cF hE hclosed j j (Nat.le_refl _) _ hoj (hclosed j _ hoj hLj) i h
    rw [this] at hLi;cases hLi
   ·exact h
  ·have:=mR (p:=fun j=>!listed.getD j true) (q:=fun j=>!(listed.setIfInBounds i true).getD j true) (i:=i) (by simp [h1]) (by simp [his]) (fun j e=>by simp [hgetT j e]) (List.range all.length) List.nodup_range (List.mem_range.2 hil)
   unfold unl at hun ⊢
   omega
  ·intro j oj hj hlj e he hb
   rw [hget] at hlj ⊢
   by_cases e1:e.on=i
   ·rw [if_pos e1]
   ·rw [if_neg e1]
    by_cases e2:j=i
    ·subst e2
     rw [ho] at hj;cases hj
     exact hdir e he hb
    ·rw [if_neg e2] at hlj
     exact hclosed j oj hj hlj e he hb
theorem FG {Cf:Nat→Cfg} {lo:Nat→Nat} {al:Nat→Option (Nat×(Blk→Bool))} {N:Nat} (hC :∀ i,CfgOK P (Cf i)) (hN :∀ i,(Cf i).N=N) (hP:P.follows .mixedOrders=true) {B:Base} {all:List Oper} {st:St} {df:Dl} {rf:List Rec} (hrun:RunV Cf lo al all st 0 all ⟨[],[]⟩ [] df rf) (hE:cr 0 all=true) (hck:dN (bD all []) 0 rf=true) (hal:AltOK al (bD all []) rf) {Q:Exit→Act→World→Prop}
  {E:Env} (hE':HRel B E) (hH:E.H=st.H) {a:Act} (hT:dt E (find st.tm) a) (hsz:a.tmps.size=N) (hdf:a.defers=[])
  (hfr0 :∀ i,i<all.length→∀ n,lo i≤n→n<lo i +(Cf i).K→¬ E.U n) (hlo :∀ i j,i<j→j<all.length→lo i +(Cf i).K≤lo j)
  (hQ :∀ E' a,HRel B E'→Ext E E'→E'.H=an st.H df.hp→(∀ n,E'.U n→E.U n∨∃ i,i<all.length∧lo i≤n∧n<lo i +(Cf i).K)→dt E' (find (df.tm++st.tm)) a→a.tmps.size=N→a.defers=[]→Q .normal a E'.w) (id:Nat) :
  (Code.region id all.toArray true).wp P Q a E.w:=by
 refine wp_region_any hP ?_
 obtain ⟨R,X⟩:=ta hE' { E.w with drawn:=E.w.drawn+1 } rfl rfl rfl rfl
 have hfalse :∀ i,(Array.replicate all.toArray.size false).getD i false=false:=fun i=>by
  rcases Nat.lt_or_ge i all.length with h|h
  ·simp [h]
  ·simp [h]
 have hno :∀ {α:Type} (us:List (List (Nat×α))) (f:Nat→Option α) (i:Nat),bB (fun i=>(Array.replicate all.toArray.size false).getD i false) f i us=f:=by
  intro α us
  induction us with
  | nil=>intro f i;rfl
  | cons u us ih=>intro f i;unfold bB;rw [hfalse];simp only [Bool.false_eq_true,if_false];exact ih f _
 refine FE hC hN (E0:={ E with w:={ E.w with drawn:=E.w.drawn+1 } }) hrun hE hck hal hfr0 hlo (fun E1 a1 r1 x1 h1 u1 t1 s1 d1=>hQ E1 a1 r1 (X.trans x1) h1 u1 t1 s1 d1) _ _ a _ (by simp) ?_ (fun j oj hj hl=>by rw [hfalse] at hl;cases hl) ⟨⟨_,R,rfl,Ext.refl _,?_,fun n hn=> .inl hn,fun s v hv=>?_⟩,hsz,hdf⟩
 ·unfold unl
  have :(List.range all.length).filter (fun i=>!(Array.replicate all.toArray.size false).getD i true)=List.range all.length:=List.filter_eq_self.2 fun i hi=>by
   have:=List.mem_range.1 hi
   simp [this]
  rw [this]
  simp
 ·rw [hno _ _ _];exact hH
 ·rw [hno] at hv
  exact aH X _ _ (hT s v hv)
end Go.Mir
namespace Go.Mir
open Go.RowKit
variable {P:Program}
theorem kA {E:Env} {v:V} {u:Value} (h:aa E v u):aa E (jk v) u:=by
 cases v <;> first|exact h|simpa [jk,aa] using h
theorem K8 {a:Act} {w:World} {c:Call} {o:Oper} (ho:o.op = .call c) {f:Operand} (hf:c.callee = .value f) {g:FuncId} {l:Array Value} (hfe:a.eval f = .func (.func g) #[] l)
  (hfn :∃ fn,P.funcs[g]?=some fn∧fn.body.isSome=true∧(fn.name == "runtime.NumGoroutine")=false) {R:Ending→World→Prop} (hcalls:Calls P g (c.args.toList.map a.eval++l.toList).toArray w R)
  {next:Act→World→Prop} {Q:Exit→Act→World→Prop} (hn :∀ e w',R e w'→∃ v',e = .returned v'∧next (a.put o.dst v') w'):o.wp P a w next Q:=by
 obtain ⟨fn,h1,h2,h3⟩:=hfn
 have hb :¬ fn.body=none:=by cases hb:fn.body with|none=>rw [hb] at h2;cases h2|some _=>simp
 have h4 :¬ fn.name = "runtime.NumGoroutine":=by simpa using h3
 have hrun :(execOp a.eval o).run P w = .ok (.enter g (c.args.toList.map a.eval++l.toList).toArray) w:=by
  have e :(c.args.toList.map a.eval++l.toList).toArray=#[]++c.args.map a.eval++l:=by
   apply Array.ext'
   simp
  rw [e]
  simp [execOp,ho,resolve,hf,Deferred.ofValue,hfe,invoke,callFunc,h1,h4,hb]
 unfold Oper.wp
 rw [hrun]
 simp only [Oper.upon]
 refine hcalls.mono fun e w' hh=>?_
 obtain ⟨v',rfl,h⟩:=hn e w' hh
 exact h
structure RR (B:Base) (E0:Env) (n0 N:Nat) (s:RS) (E:Env) (a:Act):Prop where
 rel:HRel B E
 ext:Ext E0 E
 h:E.H=s.hp.get
 u :∀ n,E.U n→E0.U n∨(n0≤n∧n<s.nx)
 le:n0≤s.nx
 tm:dt E s.tm.get a
 size:a.tmps.size=N
 defers:a.defers=[]
structure Came (B:Base) (E:Env) (hp':aq) (nx nx':Nat) (v:V) (v':Value) (w':World) (E':Env):Prop where
 rel:HRel B E'
 w:E'.w=w'
 h:E'.H=hp'
 ext:Ext E E'
 u :∀ n,E'.U n→E.U n∨(nx≤n∧n<nx')
 v:aa E' v v'
variable {tb:Tbl} {N:Nat} {call:GR} {all:List Oper} {B:Base} {E0:Env} {n0:Nat}
theorem RR.put {s:RS} {E:Env} {a:Act} (hR:RR B E0 n0 N s E a) {E':Env} {hp:Tri Blk} {nx:Nat} (hrel:HRel B E') (hext:Ext E E') (hh:E'.H=hp.get) (hu :∀ n,E'.U n→E.U n∨(s.nx≤n∧n<nx)) (hle:s.nx≤nx)
  {d:Option Nat} (hd:dstIn N d=true) {v:V} {v':Value} (hv:aa E' v v') {tm:Tri V} (htm :∀ k,tm.get k=match find (b7 d (jk v)) k with|some u=>some u|none=>s.tm.get k):RR B E0 n0 N ⟨tm,hp,nx⟩ E' (a.put d v'):=by
 have hle0:=hR.le
 refine ⟨hrel,hR.ext.trans hext,hh,fun n hn=>?_,Nat.le_trans hle0 hle,x9 hext hR.tm hR.size hd (kA hv) (fun k u hk=>?_),by rw [lA];exact hR.size,by rw [iu];exact hR.defers⟩
 ·show E0.U n∨(n0≤n∧n<nx)
  rcases hu n hn with h|h
  ·rcases hR.u n h with h|h
   ·exact .inl h
   ·exact .inr ⟨h.1,by omega⟩
  ·exact .inr ⟨by omega,h.2⟩
 ·rw [htm] at hk
  cases hf:find (b7 d (jk v)) k with
  | some x=>rw [hf] at hk;exact .inl hk
  | none=>rw [hf] at hk;exact .inr ⟨rfl,hk⟩
end Go.Mir
namespace Go.Mir
open Go.RowKit
variable {P:Program}
theorem xq {α:Type} {l:List (Nat×α)} {k:Nat} (h:memN (l.map (·.1)) k=true):find l k≠none:=by
 induction l with
 | nil=>simp [memN] at h
 | cons q l ih=>
  obtain ⟨a,b⟩:=q
  simp only [List.map_cons,memN,Bool.or_eq_true] at h
  simp only [find]
  cases hb:Nat.beq a k with
  | true=>simp
  | false=>
   simp only [cond_false]
   refine ih ?_
   rcases h with h|h
   ·rw [hb] at h;cases h
   ·exact h
def Chain:Nat→List (Nat×Cfg)→Nat→Prop
 | n,[],e=>n=e
 | n,q::r,e=>q.1=n∧∃ n2,n+q.2.K≤n2∧Chain n2 r e
theorem Chain.le :∀ {n:Nat} {l:List (Nat×Cfg)} {e:Nat},Chain n l e→n≤e
 | n,[],e,h=>Nat.le_of_eq h
 | n,q::r,e,⟨_,n2,h1,h2⟩=>by have:=h2.le;omega
theorem Chain.at :∀ {n:Nat} {l:List (Nat×Cfg)} {e:Nat},Chain n l e→∀ (j:Nat) (q:Nat×Cfg),l[j]?=some q→n≤q.1∧q.1+q.2.K≤e
 | n,[],e,_,j,q,hq=>by simp at hq
 | n,p::r,e,⟨h0,n2,h1,h2⟩,j,q,hq=>by
  have hle:=h2.le
  cases j with
  | zero=>
   simp only [List.getElem?_cons_zero,Option.some.injEq] at hq
   subst hq
   omega
  | succ j=>
   have:=h2.at j q (by simpa using hq)
   omega
theorem Chain.lt :∀ {n:Nat} {l:List (Nat×Cfg)} {e:Nat},Chain n l e→∀ (i j:Nat) (p q:Nat×Cfg),i<j→l[i]?=some p→l[j]?=some q→p.1+p.2.K≤q.1
 | n,[],e,_,i,j,p,q,_,hp,_=>by simp at hp
 | n,x::r,e,⟨h0,n2,h1,h2⟩,i,j,p,q,hij,hp,hq=>by
  cases j with
  | zero=>omega
  | succ j=>
   cases i with
   | zero=>
    simp only [List.getElem?_cons_zero,Option.some.injEq] at hp
    subst hp
    have:=(h2.at j q (by simpa using hq)).1
    omega
   | succ i=>exact h2.lt i j p q (by omega) (by simpa using hp) (by simpa using hq)
variable {tb:Tbl} {N:Nat} {call:GR} {all:List Oper}
end Go.Mir
namespace Go.Mir
open Go.RowKit
variable {P:Program}
def Tri.toL {α:Type}:Tri α→List (Nat×α)
 | .lf=> []
 | .nd l v r=>(match v with|some x=> [(0,x)]|none=> []) ++((l.toL.map fun p=>(2*p.1+1,p.2)) ++(r.toL.map fun p=>(2*p.1+2,p.2)))
variable {tb:Tbl} {N:Nat} {call:GR} {B:Base} {E0:Env} {n0:Nat}
def Sw (td:TD):TD:=⟨td.kind,td.size,td.bytes,td.zero,none⟩
def GJ (tb:Tbl):Tbl:=fun t=>match tb t with
 | some td=>some (Sw td)
 | none=>none
theorem MI {tb:Tbl} (h:aO P tb):aO P (GJ tb):=fun t td ht=>by
 unfold GJ at ht
 split at ht
 case h_2=>cases ht
 rename_i td0 h0
 cases ht
 have:=h _ _ h0
 exact ⟨fun hp=>this.eqk hp,this.info,this.kind,this.zagg⟩
def Ev (P:Program):Bool:=P.funcs.toList.all fun fn=>!(fn.name == "runtime.NumGoroutine")
theorem Ap (h:Ev P=true) (f:FuncId) (fn:Func) (hf:P.funcs[f]?=some fn) :(fn.name == "runtime.NumGoroutine")=false:=by
 have:=List.all_eq_true.1 h fn (by
  obtain ⟨hl,he⟩:=Array.getElem?_eq_some_iff.1 hf
  rw [←he]
  exact Array.mem_toList_iff.2 (Array.getElem_mem hl))
 simpa using this
end Go.Mir
