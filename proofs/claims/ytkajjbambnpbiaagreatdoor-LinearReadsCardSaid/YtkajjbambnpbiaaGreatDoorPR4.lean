/- Texts of the mirror and contracts, put together. -/
import Derived.Test.YtkajjbambnpbiaaGreatDoorPR3
import Derived.Test.YtkajjbambnpbiaaGreatDoorPR2
import Derived.LoopN
namespace Go.Proofs.YtkajjbambnpbiaaGreatDoor
open Go Go.Mir
attribute [local irreducible] Go.Mir.DT.sat Go.Mir.evPat Go.Mir.RT.sat Go.Mir.evFn
def hd (s:ByteArray):Int:=((s.data.getD 0 0).toNat:Int)
def emp (s:ByteArray):Bool:=s.toList ==(ByteArray.mk #[]).toList
def tl (s:ByteArray):ByteArray:=s.extract 1 s.size
def tkB (s:ByteArray) (c:Int):Bool:=!emp s&&hd s==c
def tkR (s:ByteArray) (c:Int):ByteArray:=if tkB s c then tl s else s
def dD (s:ByteArray):Bool:=!emp s&&(decide (hd s≥48)&&decide (hd s≤57))
def dgV (s:ByteArray):Int:=if dD s then hd s - 48 else 0
def dgR (s:ByteArray):ByteArray:=if dD s then tl s else s
def nmV (s:ByteArray):Int:=if dD (dgR s) then 10*dgV s+dgV (dgR s) else dgV s
def nmR (s:ByteArray):ByteArray:=if dD (dgR s) then dgR (dgR s) else dgR s
def soV (t:Int) (s:ByteArray):Int:=if tkB s 98 then 2 else if tkB s 108 then 3 else if t==2&&tkB s 111 then 1 else if t==2 then 0 else if tkB s 46 then 0 else 1
def soR (t:Int) (s:ByteArray):ByteArray:=if tkB s 98 then tl s else if tkB s 108 then tl s else if t==2&&tkB s 111 then tl s else if t==2 then s else tkR s 46
abbrev AW:List (Nat×PB):= [(0,.cells [.h .str])]
abbrev qTk:Pat:=⟨[(0,.c (.ptr 0 0)),(1,.h U8)],AW,1⟩
abbrev Ds:Pat:=⟨[(0,.h .bool)],AW,1⟩
abbrev qRd:Pat:=⟨[(0,.c (.ptr 0 0))],AW,1⟩
abbrev mv:Pat:=⟨[(0,.h I)],AW,1⟩
abbrev xW:Pat:=⟨[(0,.h U8)],AW,1⟩
def BZ:Den (tyP qTk)→List Prop×Den (tyP Ds):=fun x=>([],(tkB x.2.1 x.1,tkR x.2.1 x.1,()))
def wN:Den (tyP qRd)→List Prop×Den (tyP mv):=fun x=>([],(dgV x.1,dgR x.1,()))
def wO:Den (tyP qRd)→List Prop×Den (tyP mv):=fun x=>([],(nmV x.1,nmR x.1,()))
def wP:Den (tyP qTk)→List Prop×Den (tyP xW):=fun x=>([],(soV x.1 x.2.1,soR x.1 x.2.1,()))
theorem dv {s:ByteArray} (h:emp s=false):1≤s.size:=by
 rcases Nat.eq_zero_or_pos s.size with hz|hz
 ·have hl:s.data.toList =(ByteArray.mk #[]).data.toList:=by
   have:s.data.toList.length=0:=by simpa using hz
   rw [List.eq_nil_of_length_eq_zero this]
  have:emp s=true:=bytes_eq_iff.2 hl
  rw [h] at this;cases this
 ·exact hz
theorem AN (s:ByteArray):0≤hd s∧hd s≤255:=by
 unfold hd
 have:=(s.data.getD 0 0).toNat_lt
 omega
theorem Gd {s:ByteArray} {c:Int} (h:emp s=true):tkB s c=false:=by unfold tkB;rw [h];rfl
theorem bc {s:ByteArray} {c:Int} (h:tkB s c=false):tkR s c=s:=by unfold tkR;rw [h];rfl
theorem aK {s:ByteArray} {c:Int} (h:tkB s c=true):tkR s c=tl s:=by unfold tkR;rw [h];rfl
theorem ze (c:Int) (s:ByteArray) :(evPat (aB [] Tryz.f116) (fun _=>none) Tryz.f116 qTk Ds (c,s,())).sat fun z_=>z_ =(BZ (c,s,())).2:=by
 refine cast (by kernel_rfl) (?_:let r1:Bool:=s.toList ==(ByteArray.mk #[]).toList;let r2:Bool:=bif r1 then true else (↑(s.1.getD (Int.toNat (0:Int)) (0:UInt8)).toNat:Int) != c;((r1=true→True)∧(r1=false→((0:Int)≤(0:Int)∧(0:Int) <(↑s.size:Int))∧True))∧(true=true→(r2=true→(false,s,()) =(tkB s c,tkR s c,()))∧(r2=false→((0:Int)≤(1:Int)∧(1:Int)≤(↑s.size:Int)∧(↑s.size:Int)≤(↑s.size:Int))∧(true,s.extract (Int.toNat (1:Int)) (↑s.size:Int).toNat,()) =(tkB s c,tkR s c,()))))
 intro r1 r2
 clear_value (hr1:r1=_) (hr2:r2=_)
 have e1:r1=emp s:=hr1
 have e2:r2=!tkB s c:=by rw [hr2,e1];unfold tkB;show (bif emp s then true else hd s != c)=_;cases emp s <;> simp [bne]
 have hz:r1=false→1≤s.size:=fun h=>dv (by rw [←e1];exact h)
 refine ⟨⟨fun _=>trivial,fun h=>⟨⟨Int.le_refl _,by have:=hz h;omega⟩,trivial⟩⟩,fun _=>⟨fun h=>?_,fun h=>?_⟩⟩
 ·have hb:tkB s c=false:=by rw [e2] at h;simpa using h
  rw [hb,bc hb]
 ·have hb:tkB s c=true:=by rw [e2] at h;simpa using h
  have h1:r1=false:=by rw [e1];cases he:emp s with|false=>rfl|true=>rw [Gd he] at hb;cases hb
  have:=hz h1
  rw [hb,aK hb]
  exact ⟨⟨by decide,by omega,Int.le_refl _⟩,rfl⟩
def ju:FuncId×Ctr:=(116,ae KE qTk Ds BZ)
theorem nW:CtrOK Tryz.prog KE 116 (ae KE qTk Ds BZ):=by
 refine aJ (C:=aB [] Tryz.f116) (ay (CtrsOK.nil) _) mixed (fn:=Tryz.f116) Tryz.func116 (by kernel_rfl) (by kernel_rfl) (by kernel_rfl) (by kernel_rfl) (by kernel_rfl) (by kernel_rfl) (Λ:=fun _ _=>none) ?_ ?_
 ·exact fun _ _ _ _ _ _ _ _ h=>by cases h
 ·rintro ⟨c,s,⟨⟩⟩ hw hn
  exact ze c s
theorem wD (s:ByteArray) :(evPat (aB [] Tryz.f118) (fun _=>none) Tryz.f118 qRd mv (s,())).sat fun z_=>z_ =(wN (s,())).2:=by
 refine cast (by kernel_rfl) (?_:let r1:Bool:=s.toList ==(ByteArray.mk #[]).toList;let r2:Int:=(↑(s.1.getD (Int.toNat (0:Int)) (0:UInt8)).toNat:Int);let r3:Bool:=decide (r2 <(48:Int));let r4:Bool:=bif r1 then true else bif r3 then true else decide (r2 >(57:Int));((r1=true→True)∧(r1=false→((0:Int)≤(0:Int)∧(0:Int) <(↑s.size:Int))∧(r3=true→True)∧(r3=false→((0:Int)≤(0:Int)∧(0:Int) <(↑s.size:Int))∧True)))∧(true=true→(r4=true→((0:Int),s,()) =(dgV s,dgR s,()))∧(r4=false→((0:Int)≤(0:Int)∧(0:Int) <(↑s.size:Int))∧((0:Int)≤(1:Int)∧(1:Int)≤(↑s.size:Int)∧(↑s.size:Int)≤(↑s.size:Int))∧(IntKind.i64.wrap (IntKind.u8.wrap (r2 - (48:Int))),s.extract (Int.toNat (1:Int)) (↑s.size:Int).toNat,()) =(dgV s,dgR s,()))))
 intro r1 r2 r3 r4
 clear_value (hr1:r1=_) (hr2:r2=_) (hr3:r3=_) (hr4:r4=_)
 have e1:r1=emp s:=hr1
 have e2:r2=hd s:=hr2
 have hr:=AN s
 have e4:r4=!dD s:=by
  rw [hr4,hr3,e1,e2];unfold dD
  by_cases h1:hd s<48
  ·rw [decide_eq_true h1,decide_eq_false (show ¬ hd s≥48 by omega)];cases emp s <;> rfl
  ·rw [decide_eq_false h1,decide_eq_true (show hd s≥48 by omega)]
   by_cases h2:hd s≤57
   ·rw [decide_eq_true h2,decide_eq_false (show ¬ hd s>57 by omega)];cases emp s <;> rfl
   ·rw [decide_eq_false h2,decide_eq_true (show hd s>57 by omega)];cases emp s <;> rfl
 have hz:r1=false→1≤s.size:=fun h=>dv (by rw [←e1];exact h)
 refine ⟨⟨fun _=>trivial,fun h=>⟨⟨Int.le_refl _,by have:=hz h;omega⟩,fun _=>trivial,fun _=>⟨⟨Int.le_refl _,by have:=hz h;omega⟩,trivial⟩⟩⟩,fun _=>⟨fun h=>?_,fun h=>?_⟩⟩
 ·have hb:dD s=false:=by rw [e4] at h;simpa using h
  unfold dgV dgR;rw [hb];rfl
 ·have hb:dD s=true:=by rw [e4] at h;simpa using h
  have hb':=hb
  unfold dD at hb'
  simp only [Bool.and_eq_true,Bool.not_eq_true',decide_eq_true_eq] at hb'
  have h1:r1=false:=by rw [e1];exact hb'.1
  have:=hz h1
  have ew:IntKind.i64.wrap (IntKind.u8.wrap (r2 - 48))=hd s - 48:=by
   rw [e2]
   have:IntKind.u8.wrap (hd s - 48)=hd s - 48:=by
    simp only [IntKind.wrap,IntKind.bits,IntKind.signed]
    simp
    omega
   rw [this]
   exact iA (by omega) (by omega)
  rw [ew]
  refine ⟨⟨Int.le_refl _,by omega⟩,⟨by decide,by omega,Int.le_refl _⟩,?_⟩
  unfold dgV dgR;rw [hb];rfl
def gq:FuncId×Ctr:=(118,ae KE qRd mv wN)
theorem lT:CtrOK Tryz.prog KE 118 (ae KE qRd mv wN):=by
 refine aJ (C:=aB [] Tryz.f118) (ay (CtrsOK.nil) _) mixed (fn:=Tryz.f118) Tryz.func118 (by kernel_rfl) (by kernel_rfl) (by kernel_rfl) (by kernel_rfl) (by kernel_rfl) (by kernel_rfl) (Λ:=fun _ _=>none) ?_ ?_
 ·exact fun _ _ _ _ _ _ _ _ h=>by cases h
 ·rintro ⟨s,⟨⟩⟩ hw hn
  exact wD s
theorem uJ (s:ByteArray) :(evPat (aB [gq] Tryz.f178) (fun _=>none) Tryz.f178 qRd mv (s,())).sat fun z_=>z_ =(wO (s,())).2:=by
 refine cast (by kernel_rfl) (?_:let r1:Bool:=!(dgR s).toList ==(ByteArray.mk #[]).toList;let r2:Int:=(↑((dgR s).1.getD (Int.toNat (0:Int)) (0:UInt8)).toNat:Int);let r3:Bool:=decide (r2≥(48:Int));let r4:Bool:=bif r1 then bif r3 then decide (r2≤(57:Int)) else false else false;(((r1=true→((0:Int)≤(0:Int)∧(0:Int) <(↑(dgR s).size:Int))∧(r3=true→((0:Int)≤(0:Int)∧(0:Int) <(↑(dgR s).size:Int))∧True)∧(r3=false→True))∧(r1=false→True))∧(true=true→(r4=true→True)∧(r4=false→True)))∧(true=true→(bif r4 then IntKind.i64.wrap (IntKind.i64.wrap ((10:Int)*dgV s)+dgV (dgR s)) else dgV s,bif r4 then dgR (dgR s) else dgR s,()) =(nmV s,nmR s,())))
 intro r1 r2 r3 r4
 clear_value (hr1:r1=_) (hr2:r2=_) (hr3:r3=_) (hr4:r4=_)
 have e1:r1=!emp (dgR s):=hr1
 have e2:r2=hd (dgR s):=hr2
 have hz:r1=true→1≤(dgR s).size:=fun h=>dv (by rw [e1] at h;simpa using h)
 have e4:r4=dD (dgR s):=by
  rw [hr4,hr3,e1,e2];unfold dD
  cases emp (dgR s) <;> cases decide (hd (dgR s)≥48) <;> rfl
 have hv :∀ z:ByteArray,0≤dgV z∧dgV z≤9:=fun z=>by
  unfold dgV
  split
  ·rename_i h
   unfold dD at h
   simp only [Bool.and_eq_true,Bool.not_eq_true',decide_eq_true_eq] at h
   omega
  ·omega
 have a:=hv s
 have b:=hv (dgR s)
 have ew:IntKind.i64.wrap (IntKind.i64.wrap (10*dgV s)+dgV (dgR s))=10*dgV s+dgV (dgR s):=by
  rw [show IntKind.i64.wrap (10*dgV s)=10*dgV s from iA (by omega) (by omega)]
  exact iA (by omega) (by omega)
 refine ⟨⟨⟨fun h=>⟨⟨Int.le_refl _,by have:=hz h;omega⟩,fun _=>⟨⟨Int.le_refl _,by have:=hz h;omega⟩,trivial⟩,fun _=>trivial⟩,fun _=>trivial⟩,fun _=>⟨fun _=>trivial,fun _=>trivial⟩⟩,fun _=>?_⟩
 rw [ew,e4]
 unfold nmV nmR
 cases dD (dgR s) <;> rfl
def pP:FuncId×Ctr:=(178,ae KE qRd mv wO)
theorem vO:CtrOK Tryz.prog KE 178 (ae KE qRd mv wO):=by
 refine aJ (C:=aB [gq] Tryz.f178) (ay (.consU lT rfl .nil) _) mixed (fn:=Tryz.f178) Tryz.func178 (by kernel_rfl) (by kernel_rfl) (by kernel_rfl) (by kernel_rfl) (by kernel_rfl) (by kernel_rfl) (Λ:=fun _ _=>none) ?_ ?_
 ·exact fun _ _ _ _ _ _ _ _ h=>by cases h
 ·rintro ⟨s,⟨⟩⟩ hw hn
  exact uJ s
theorem uK (t:Int) (s:ByteArray) :(evPat (aB [ju] Tryz.f117) (fun _=>none) Tryz.f117 qTk xW (t,s,())).sat fun z_=>z_ =(wP (t,s,())).2:=by
 refine cast (by kernel_rfl) (?_:let r1:Bool:=bif t ==(2:Int) then tkB (tkR (tkR s (98:Int)) (108:Int)) (111:Int) else false;let r2:ByteArray:=bif t ==(2:Int) then tkR (tkR (tkR s (98:Int)) (108:Int)) (111:Int) else tkR (tkR s (98:Int)) (108:Int);let r3:Bool:=tkB r2 (46:Int);(tkB s (98:Int)=true→((2:Int),tkR s (98:Int),()) =(soV t s,soR t s,()))∧(tkB s (98:Int)=false→(tkB (tkR s (98:Int)) (108:Int)=true→((3:Int),tkR (tkR s (98:Int)) (108:Int),()) =(soV t s,soR t s,()))∧(tkB (tkR s (98:Int)) (108:Int)=false→(r1=true→((1:Int),r2,()) =(soV t s,soR t s,()))∧(r1=false→((t ==(2:Int))=true→((0:Int),r2,()) =(soV t s,soR t s,()))∧((t ==(2:Int))=false→(r3=true→((0:Int),tkR r2 (46:Int),()) =(soV t s,soR t s,()))∧(r3=false→((1:Int),tkR r2 (46:Int),()) =(soV t s,soR t s,())))))))
 intro r1 r2 r3
 clear_value (hr1:r1=_) (hr2:r2=_) (hr3:r3=_)
 unfold soV soR
 cases hb:tkB s 98 with
 | true=>exact ⟨fun _=>(by rw [aK hb];rfl),fun h=>(by cases h)⟩
 | false=>
  rw [bc hb] at hr1 hr2 ⊢
  refine ⟨fun h=>(by cases h),fun _=>?_⟩
  cases hl:tkB s 108 with
  | true=>exact ⟨fun _=>(by rw [aK hl];rfl),fun h=>(by cases h)⟩
  | false=>
   rw [bc hl] at hr1 hr2 ⊢
   refine ⟨fun h=>(by cases h),fun _=>?_⟩
   cases ht:t==2 with
   | false=>
    rw [ht] at hr1 hr2
    have e1:r1=false:=hr1
    have e2:r2=s:=hr2
    rw [e1,hr3,e2]
    refine ⟨fun h=>(by cases h),fun _=>⟨fun h=>(by cases h),fun _=>⟨fun h=>?_,fun h=>?_⟩⟩⟩
    ·rw [h];rfl
    ·rw [h];rfl
   | true=>
    rw [ht] at hr1 hr2
    have e1:r1=tkB s 111:=hr1
    have e2:r2=tkR s 111:=hr2
    rw [e1,e2]
    refine ⟨fun h=>?_,fun h=>⟨fun _=>?_,fun h=>(by cases h)⟩⟩
    ·rw [h,aK h];rfl
    ·rw [h,bc h];rfl
def pQ:FuncId×Ctr:=(117,ae KE qTk xW wP)
theorem vP:CtrOK Tryz.prog KE 117 (ae KE qTk xW wP):=by
 refine aJ (C:=aB [ju] Tryz.f117) (ay (.consU nW rfl .nil) _) mixed (fn:=Tryz.f117) Tryz.func117 (by kernel_rfl) (by kernel_rfl) (by kernel_rfl) (by kernel_rfl) (by kernel_rfl) (by kernel_rfl) (Λ:=fun _ _=>none) ?_ ?_
 ·exact fun _ _ _ _ _ _ _ _ h=>by cases h
 ·rintro ⟨t,s,⟨⟩⟩ hw hn
  exact uK t s
end Go.Proofs.YtkajjbambnpbiaaGreatDoor
namespace Go.Proofs.YtkajjbambnpbiaaGreatDoor
open Go Go.Mir
attribute [local irreducible] Go.Mir.DT.sat Go.Mir.evPat Go.Mir.RT.sat Go.Mir.evFn
abbrev GS:List (Nat×PB):= [(0,.cells [.h .str]),(1,.dat (.nm .Delivery))]
abbrev qWk:Pat:=⟨[(0,.c (.ptr 0 0)),(1,.c (.ptr 1 0))],GS,2⟩
abbrev Dt:Pat:=⟨[],GS,2⟩
def mxI (x:Int):Int:=if (0:Int)>x then 0 else x
def hwV (s:ByteArray):Int:=IntKind.u8.wrap (mxI (ixW lets (hd s)))
def wk1 (s:ByteArray):ByteArray:=tkR s 47
def sK (s:ByteArray):Bool:=tkB s 47&&!emp (wk1 s)
def wk2 (s:ByteArray):ByteArray:=tl (wk1 s)
def wk3 (s:ByteArray):ByteArray:=dgR (wk2 s)
def wk4 (s:ByteArray):ByteArray:=tkR (wk3 s) 40
def wk5 (s:ByteArray):ByteArray:=nmR (wk4 s)
def wk6 (s:ByteArray):ByteArray:=if tkB (wk5 s) 44 then nmR (tl (wk5 s)) else wk5 s
def wk7 (s:ByteArray):ByteArray:=tkR (wk6 s) 115
def DM (d:Delivery) (s:ByteArray):Delivery:={ d with How:=hwV (wk1 s),Victim:=dgV (wk2 s) }
def Gk (d:Delivery) (s:ByteArray):Delivery:={ DM d s with Fielder:=nmV (wk4 s),Second:=if tkB (wk5 s) 44 then nmV (tl (wk5 s)) else d.Second,Sub:=tkB (wk6 s) 115 }
def wkD (d:Delivery) (s:ByteArray):Delivery:=if !sK s then d else if !tkB (wk3 s) 40 then DM d s else Gk d s
def wkR (s:ByteArray):ByteArray:=if !sK s then wk1 s else if !tkB (wk3 s) 40 then wk3 s else tkR (wk7 s) 41
def wQ:Den (tyP qWk)→List Prop×Den (tyP Dt):=fun x=>([],(wkR x.1,wkD x.2.1 x.1,()))
abbrev qS1:Pat:=eT [.str]
abbrev wc:Pat:=eT [.nm .Delivery,I]
def paT (s:ByteArray):Int:=if tkB s 119 then 2 else if tkB s 110 then 3 else 1
def pa1 (s:ByteArray):ByteArray:=if tkB s 119 then tl s else tkR s 110
def pa2 (s:ByteArray):ByteArray:=soR (paT s) (pa1 s)
def pa3 (s:ByteArray):ByteArray:=dgR (pa2 s)
def pa4 (s:ByteArray):ByteArray:=if tkB (pa3 s) 70 then tl (pa3 s) else tkR (pa3 s) 83
def pa5 (s:ByteArray):ByteArray:=if tkB (pa4 s) 45 then dgR (tl (pa4 s)) else pa4 s
def pa6 (s:ByteArray):ByteArray:=tkR (pa5 s) 120
def paD (s:ByteArray):Delivery:={ Typ:=paT s,Source:=soV (paT s) (pa1 s),Runs:=dgV (pa2 s),Short:=if tkB (pa4 s) 45 then dgV (tl (pa4 s)) else 0,Boundary:=if tkB (pa3 s) 70 then 4 else if tkB (pa3 s) 83 then 6 else 0,Crossed:=tkB (pa5 s) 120,How:=0,Victim:=0,Fielder:=0,Second:=0,Sub:=false,Sector:=0 }
def paW (s:ByteArray):Delivery:=wkD (paD s) (pa6 s)
def pa7 (s:ByteArray):ByteArray:=wkR (pa6 s)
def jL (s:ByteArray):Delivery:={ paW s with Sector:=if tkB (pa7 s) 64 then dgV (tl (pa7 s)) else (paW s).Sector }
def iz (s:ByteArray):Bool:=aU (jL s) != 0||!((prS (jL s)).toList==s.toList)
def lW (s:ByteArray):Delivery:=if iz s then Delivery.zero else jL s
def jb (s:ByteArray):Int:=if iz s then 4 else 0
def l3:Den (tyP qS1)→List Prop×Den (tyP wc):=fun x=>([],(lW x.1,jb x.1,()))
theorem uL (s:ByteArray) (d:Delivery) :(evPat (aB [ju,gq,pP,nI] Tryz.f119) (fun _=>none) Tryz.f119 qWk Dt (s,d,())).sat fun z_=>z_ =(wQ (s,d,())).2:=by
 refine cast (by kernel_rfl) (?_:let r1:ByteArray:=bif !tkB s (47:Int) then tkR s (47:Int) else tkR s (47:Int);let r2:Int:=(↑r1.size:Int);let r3:Bool:=bif !tkB s (47:Int) then true else (tkR s (47:Int)).toList ==(ByteArray.mk #[]).toList;let r4:ByteArray:=r1.extract (Int.toNat (1:Int)) r2.toNat;let r5:ByteArray:=dgR r4;let r6:Int:=dgV r4;let r7:ByteArray:=tkR r5 (40:Int);let r8:Bool:=!tkB r5 (40:Int);let r9:ByteArray:=nmR r7;let r10:Int:=nmV r7;let r11:Bool:=tkB r9 (44:Int);let r12:ByteArray:=tkR r9 (44:Int);let r13:Int:=ixW (ByteArray.mk #[78,66,67,76,83,72,82,84,79,77,81]) (↑(r1.1.getD (Int.toNat (0:Int)) (0:UInt8)).toNat:Int);let r14:ByteArray:=bif r11 then nmR r12 else r12;let r15:Int:=IntKind.u8.wrap (if (0:Int)>r13 then (0:Int) else r13);(r3=true→(r1,d,()) =(wkR s,wkD d s,()))∧(r3=false→((0:Int)≤(0:Int)∧(0:Int)<r2)∧((0:Int)≤(1:Int)∧(1:Int)≤r2∧r2≤r2)∧(r8=true→(r7,Delivery.mk d.1 d.2 d.3 d.4 d.5 d.6 r15 r6 d.9 d.10 d.11 d.12,()) =(wkR s,wkD d s,()))∧(r8=false→(tkR (tkR r14 (115:Int)) (41:Int),Delivery.mk (bif r11 then d.1 else d.1) (bif r11 then d.2 else d.2) (bif r11 then d.3 else d.3) (bif r11 then d.4 else d.4) (bif r11 then d.5 else d.5) (bif r11 then d.6 else d.6) (bif r11 then r15 else r15) (bif r11 then r6 else r6) (bif r11 then r10 else r10) (bif r11 then nmV r12 else d.10) (tkB r14 (115:Int)) (bif r11 then d.12 else d.12),()) =(wkR s,wkD d s,()))))
 intro r1 r2 r3 r4 r5 r6 r7 r8 r9 r10 r11 r12 r13 r14 r15
 clear_value (hr1:r1=_) (hr2:r2=_) (hr3:r3=_) (hr4:r4=_) (hr5:r5=_) (hr6:r6=_) (hr7:r7=_) (hr8:r8=_) (hr9:r9=_) (hr10:r10=_) (hr11:r11=_) (hr12:r12=_) (hr13:r13=_) (hr14:r14=_) (hr15:r15=_)
 have e1:r1=wk1 s:=by rw [hr1];cases tkB s 47 <;> rfl
 have e2:r2 =((wk1 s).size:Int):=by rw [hr2,e1]
 have e3:r3=!sK s:=by
  rw [hr3];unfold sK
  show (bif !tkB s 47 then true else emp (wk1 s))=_
  cases tkB s 47 <;> cases emp (wk1 s) <;> rfl
 have e4:r4=wk2 s:=by rw [hr4,e2,e1];rfl
 have e5:r5=wk3 s:=by rw [hr5,e4];rfl
 have e6:r6=dgV (wk2 s):=by rw [hr6,e4]
 have e7:r7=wk4 s:=by rw [hr7,e5];rfl
 have e8:r8=!tkB (wk3 s) 40:=by rw [hr8,e5]
 have e9:r9=wk5 s:=by rw [hr9,e7];rfl
 have e10:r10=nmV (wk4 s):=by rw [hr10,e7]
 have e11:r11=tkB (wk5 s) 44:=by rw [hr11,e9]
 have e12:r12=tkR (wk5 s) 44:=by rw [hr12,e9]
 have e15:r15=hwV (wk1 s):=by rw [hr15,hr13,e1];rfl
 have e14:r14=wk6 s:=by
  rw [hr14,e11,e12];unfold wk6
  cases h:tkB (wk5 s) 44 with
  | true=>rw [aK h];rfl
  | false=>rw [bc h];rfl
 have hz:r3=false→1≤(wk1 s).size:=fun h=>by
  rw [e3] at h
  unfold sK at h
  cases ha:tkB s 47 with
  | false=>rw [ha] at h;cases h
  | true=>rw [ha] at h;exact dv (by simpa using h)
 refine ⟨fun h=>?_,fun h=>⟨⟨Int.le_refl _,by have:=hz h;omega⟩,⟨by decide,by have:=hz h;omega,Int.le_refl _⟩,fun a=>?_,fun a=>?_⟩⟩
 ·rw [e3] at h
  unfold wkR wkD
  rw [h,e1];rfl
 ·rw [e3] at h
  rw [e8] at a
  have h40:tkB (wk3 s) 40=false:=by simpa using a
  unfold wkR wkD
  rw [h,a,e7,e15,e6]
  unfold wk4
  rw [bc h40];rfl
 ·rw [e3] at h
  rw [e8] at a
  have h40:tkB (wk3 s) 40=true:=by simpa using a
  unfold wkR wkD
  rw [h,a,e14,e15,e6,e10,e11,e12]
  have e13 :(bif tkB (wk5 s) 44 then nmV (tkR (wk5 s) 44) else d.Second)=if tkB (wk5 s) 44 then nmV (tl (wk5 s)) else d.Second:=by
   cases h:tkB (wk5 s) 44 with
   | true=>rw [aK h];rfl
   | false=>rfl
  rw [e13]
  simp only [Bool.cond_self]
  rfl
def pR:FuncId×Ctr:=(119,ae KE qWk Dt wQ)
theorem vQ:CtrOK Tryz.prog KE 119 (ae KE qWk Dt wQ):=by
 refine aJ (C:=aB [ju,gq,pP,nI] Tryz.f119) (ay (.consU nW rfl (.consU lT rfl (.consU vO rfl (.consU ud rfl .nil)))) _) mixed (fn:=Tryz.f119) Tryz.func119 (by kernel_rfl) (by kernel_rfl) (by kernel_rfl) (by kernel_rfl) (by kernel_rfl) (by kernel_rfl) (Λ:=fun _ _=>none) ?_ ?_
 ·exact fun _ _ _ _ _ _ _ _ h=>by cases h
 ·rintro ⟨s,d,⟨⟩⟩ hw hn
  exact uL s d
theorem za (s:ByteArray) :(evPat (aB [ju,pQ,gq,pR,xE] Tryz.f51) (fun _=>none) Tryz.f51 qS1 wc (s,())).sat fun z_=>z_ =(l3 (s,())).2:=by
 refine cast (by kernel_rfl) (?_:let r1:Int:=bif tkB s (119:Int) then (2:Int) else bif tkB (tkR s (119:Int)) (110:Int) then (3:Int) else (1:Int);let r2:Int:=bif tkB s (119:Int) then (0:Int) else bif tkB (tkR s (119:Int)) (110:Int) then (0:Int) else (0:Int);let r3:ByteArray:=bif tkB s (119:Int) then tkR s (119:Int) else bif tkB (tkR s (119:Int)) (110:Int) then tkR (tkR s (119:Int)) (110:Int) else tkR (tkR s (119:Int)) (110:Int);let r4:ByteArray:=soR r1 r3;let r5:Int:=soV r1 r3;let r6:ByteArray:=dgR r4;let r7:Int:=dgV r4;let r8:Bool:=tkB r6 (70:Int);let r9:ByteArray:=tkR r6 (70:Int);let r10:Bool:=tkB r9 (83:Int);let r11:ByteArray:=tkR r9 (83:Int);let r12:Int:=bif r8 then (4:Int) else bif r10 then (6:Int) else r2;let r13:Int:=bif r8 then r1 else bif r10 then r1 else r1;let r14:Int:=bif r8 then r2 else bif r10 then r2 else r2;let r15:Int:=bif r8 then r5 else bif r10 then r5 else r5;let r16:Int:=bif r8 then r7 else bif r10 then r7 else r7;let r17:ByteArray:=bif r8 then r9 else bif r10 then r11 else r11;let r18:Bool:=tkB r17 (45:Int);let r19:ByteArray:=tkR r17 (45:Int);let r20:Int:=bif r18 then r14 else r14;let r21:ByteArray:=bif r18 then dgR r19 else r19;let r22:ByteArray:=tkR r21 (120:Int);let r23:ByteArray:=wkR r22;let r24:Bool:=tkB r23 (64:Int);let r25:Delivery:=wkD (Delivery.mk (bif r18 then r13 else r13) (bif r18 then r15 else r15) (bif r18 then r16 else r16) (bif r18 then dgV r19 else r14) (bif r18 then r12 else r12) (tkB r21 (120:Int)) r20 r20 r20 r20 false r20) r22;let r26:Delivery:=Delivery.mk (bif r24 then r25.1 else r25.1) (bif r24 then r25.2 else r25.2) (bif r24 then r25.3 else r25.3) (bif r24 then r25.4 else r25.4) (bif r24 then r25.5 else r25.5) (bif r24 then r25.6 else r25.6) (bif r24 then r25.7 else r25.7) (bif r24 then r25.8 else r25.8) (bif r24 then r25.9 else r25.9) (bif r24 then r25.10 else r25.10) (bif r24 then r25.11 else r25.11) (bif r24 then dgV (tkR r23 (64:Int)) else r25.12);let r27:Bool:=bif aU r26 !=(0:Int) then true else !(prS r26).toList==s.toList;(r27=true→(Delivery.mk (0:Int) (0:Int) (0:Int) (0:Int) (0:Int) false (0:Int) (0:Int) (0:Int) (0:Int) false (0:Int),(4:Int),()) =(lW s,jb s,()))∧(r27=false→(r26,(0:Int),()) =(lW s,jb s,())))
 intro r1 r2 r3 r4 r5 r6 r7 r8 r9 r10 r11 r12 r13 r14 r15 r16 r17 r18 r19 r20 r21 r22 r23 r24 r25 r26 r27
 clear_value (hr1:r1=_) (hr2:r2=_) (hr3:r3=_) (hr4:r4=_) (hr5:r5=_) (hr6:r6=_) (hr7:r7=_) (hr8:r8=_) (hr9:r9=_) (hr10:r10=_) (hr11:r11=_) (hr12:r12=_) (hr13:r13=_) (hr14:r14=_) (hr15:r15=_) (hr16:r16=_) (hr17:r17=_) (hr18:r18=_) (hr19:r19=_) (hr20:r20=_) (hr21:r21=_) (hr22:r22=_) (hr23:r23=_) (hr24:r24=_) (hr25:r25=_) (hr26:r26=_) (hr27:r27=_)
 have n119:tkB s 119=false→tkR s 119=s:=fun h=>bc h
 have e1:r1=paT s:=by
  rw [hr1];unfold paT
  cases h:tkB s 119 with
  | true=>rfl
  | false=>rw [n119 h];cases tkB s 110 <;> rfl
 have e2:r2=0:=by rw [hr2];simp only [Bool.cond_self]
 have e3:r3=pa1 s:=by
  rw [hr3];unfold pa1
  cases h:tkB s 119 with
  | true=>rw [aK h];rfl
  | false=>rw [n119 h];cases tkB s 110 <;> rfl
 have e4:r4=pa2 s:=by rw [hr4,e1,e3];rfl
 have e5:r5=soV (paT s) (pa1 s):=by rw [hr5,e1,e3]
 have e6:r6=pa3 s:=by rw [hr6,e4];rfl
 have e7:r7=dgV (pa2 s):=by rw [hr7,e4]
 have e8:r8=tkB (pa3 s) 70:=by rw [hr8,e6]
 have e9:tkB (pa3 s) 70=false→r9=pa3 s:=fun h=>by rw [hr9,e6];exact bc h
 have e12:r12=if tkB (pa3 s) 70 then 4 else if tkB (pa3 s) 83 then 6 else 0:=by
  rw [hr12,e8,hr10,e2]
  cases h:tkB (pa3 s) 70 with
  | true=>rfl
  | false=>rw [e9 h];cases tkB (pa3 s) 83 <;> rfl
 have e13:r13=paT s:=by rw [hr13,e1];simp only [Bool.cond_self]
 have e14:r14=0:=by rw [hr14,e2];simp only [Bool.cond_self]
 have e15:r15=soV (paT s) (pa1 s):=by rw [hr15,e5];simp only [Bool.cond_self]
 have e16:r16=dgV (pa2 s):=by rw [hr16,e7];simp only [Bool.cond_self]
 have e17:r17=pa4 s:=by
  rw [hr17,e8,hr11];unfold pa4
  cases h:tkB (pa3 s) 70 with
  | true=>rw [hr9,e6,aK h];rfl
  | false=>rw [e9 h];cases r10 <;> rfl
 have e18:r18=tkB (pa4 s) 45:=by rw [hr18,e17]
 have e19:tkB (pa4 s) 45=true→r19=tl (pa4 s):=fun h=>by rw [hr19,e17];exact aK h
 have e20:r20=0:=by rw [hr20,e14];simp only [Bool.cond_self]
 have e21:r21=pa5 s:=by
  rw [hr21,e18];unfold pa5
  cases h:tkB (pa4 s) 45 with
  | true=>rw [e19 h];rfl
  | false=>rw [hr19,e17];exact bc h
 have e22:r22=pa6 s:=by rw [hr22,e21];rfl
 have e23:r23=pa7 s:=by rw [hr23,e22];rfl
 have e25:r25=paW s:=by
  rw [hr25,e22,e13,e15,e16,e14,e12,e20,e21,e18]
  have h :(bif tkB (pa4 s) 45 then dgV r19 else 0)=if tkB (pa4 s) 45 then dgV (tl (pa4 s)) else 0:=by
   cases h:tkB (pa4 s) 45 with
   | true=>rw [e19 h];rfl
   | false=>rfl
  rw [h];simp only [Bool.cond_self];rfl
 have e26:r26=jL s:=by
  rw [hr26,hr24,e23,e25]
  have h :(bif tkB (pa7 s) 64 then dgV (tkR (pa7 s) 64) else (paW s).Sector)=if tkB (pa7 s) 64 then dgV (tl (pa7 s)) else (paW s).Sector:=by
   cases h:tkB (pa7 s) 64 with
   | true=>rw [aK h];rfl
   | false=>rfl
  unfold jL
  rw [←h];simp only [Bool.cond_self]
 have e27:r27=iz s:=by
  rw [hr27,e26];unfold iz
  cases aU (jL s) != 0 <;> rfl
 refine ⟨fun h=>?_,fun h=>?_⟩
 ·rw [e27] at h;unfold lW jb;rw [h];rfl
 ·rw [e27] at h;unfold lW jb;rw [h,e26];rfl
def rO:FuncId×Ctr:=(51,ae KE qS1 wc l3)
theorem ug:CtrOK Tryz.prog KE 51 (ae KE qS1 wc l3):=by
 refine aJ (C:=aB [ju,pQ,gq,pR,xE] Tryz.f51) (ay (.consU nW rfl (.consU vP rfl (.consU lT rfl (.consU vQ rfl (.consU Bu rfl .nil))))) _) mixed (fn:=Tryz.f51) Tryz.func51 (by kernel_rfl) (by kernel_rfl) (by kernel_rfl) (by kernel_rfl) (by kernel_rfl) (by kernel_rfl) (Λ:=fun _ _=>none) ?_ ?_
 ·exact fun _ _ _ _ _ _ _ _ h=>by cases h
 ·rintro ⟨s,⟨⟩⟩ hw hn
  exact za s
end Go.Proofs.YtkajjbambnpbiaaGreatDoor
namespace Go.Proofs.YtkajjbambnpbiaaGreatDoor
open Go Go.Mir
attribute [local irreducible] Go.Mir.DT.sat Go.Mir.evPat Go.Mir.RT.sat Go.Mir.evFn
abbrev qHs:Pat:=eT [.str,U8]
abbrev Dp:Pat:=eT [.bool]
def F1:Den (tyP qHs)→List Prop×Den (tyP Dp):=fun x=>([],(tkB x.1 x.2.1,()))
abbrev Dq:Pat:=eT [I,.str]
def BU:Den (tyP qS1)→List Prop×Den (tyP Dq):=fun x=>([],(nmV x.1,nmR x.1,()))
abbrev qNb:Pat:=⟨[(0,.h .str),(4,.h I),(5,.h I)],[],0⟩
abbrev xNb:List (Lf×Pat):= [(.ext 0,⟨[(0,.h .str),(4,.h I),(5,.h I)],[],0⟩)]
abbrev TNb:Type:=ByteArray×Int×Int×Unit
def atB (s:ByteArray) (i:Int):Int:=((s.data.getD i.toNat 0).toNat:Int)
def atD (s:ByteArray) (i:Int):Bool:=decide (i <(s.size:Int))&&(decide (atB s i≥48)&&decide (atB s i≤57))
def nbV (s:ByteArray) (n i:Int):Int:=if i==0 then (if atD s 0 then (if atD s 1 then 10 *(10*n +(atB s 0 - 48)) +(atB s 1 - 48) else 10*n +(atB s 0 - 48)) else n) else if i==1 then (if atD s 1 then 10*n +(atB s 1 - 48) else n) else n
def nbI (s:ByteArray) (i:Int):Int:=if i==0 then (if atD s 0 then (if atD s 1 then 2 else 1) else 0) else if i==1 then (if atD s 1 then 2 else 1) else i
def pJ (x:TNb):Prop:=(x.2.2.1=0∧x.2.1=0)∨(x.2.2.1=1∧0≤x.2.1∧x.2.1≤9)∨(x.2.2.1=2∧0≤x.2.1∧x.2.1≤99)
def Bh (x:TNb):Nat:=(2 - x.2.2.1).toNat
def mw (x:TNb):ByteArray×Int×Int×Unit:=(x.1,nbV x.1 x.2.1 x.2.2.1,nbI x.1 x.2.2.1,())
theorem xh (s:ByteArray):emp s=!decide ((s.size:Int)>0):=by
 cases h:emp s with
 | false=>have:=dv h;rw [decide_eq_true (show (s.size:Int)>0 by omega)];rfl
 | true=>
  have h2:=bytes_eq_iff.1 h
  have:s.data.toList.length=0:=by rw [h2];rfl
  have:s.size=0:=by simpa using this
  rw [decide_eq_false (show ¬(s.size:Int)>0 by omega)];rfl
theorem Ex {n:Int} (h0:0≤n) (h1:n<256):IntKind.u8.wrap n=n:=by
 simp only [IntKind.wrap,IntKind.bits,IntKind.signed]
 simp
 omega
theorem mT (s:ByteArray) :(tl s).data.toList=s.data.toList.drop 1:=by
 unfold tl
 rw [ByteArray.data_extract,Array.toList_extract]
 show (s.data.toList.drop 1).take (s.size - 1)=_
 rw [List.take_of_length_le (by simp)]
theorem xr (s:ByteArray):hd s =((s.data.toList.headD 0).toNat:Int):=by
 unfold hd
 rw [Array.getD_eq_getD_getElem?,←Array.getElem?_toList]
 cases s.data.toList <;> rfl
theorem x9 (s:ByteArray) :(tl s).size=s.size - 1:=by unfold tl;rw [ByteArray.size_extract];omega
theorem D1 (s:ByteArray):hd (tl s)=atB s 1:=by
 rw [xr,mT]
 unfold atB
 rw [Array.getD_eq_getD_getElem?,←Array.getElem?_toList]
 show _ =(((s.data.toList[1]?).getD 0).toNat:Int)
 cases s.data.toList with
 | nil=>rfl
 | cons x l=>cases l <;> rfl
theorem Gr (s:ByteArray):atD s 0=dD s:=by
 unfold atD dD;rw [xh]
 show (decide ((0:Int)<s.size)&&_) =(!!decide ((s.size:Int)>0)&&_)
 rw [Bool.not_not];rfl
theorem Gs (s:ByteArray):atD s 1=dD (tl s):=by
 unfold atD dD;rw [xh,D1,x9]
 have:decide ((1:Int)<s.size)=!!decide (((s.size - 1:Nat):Int)>0):=by
  rw [Bool.not_not];apply decide_eq_decide.2;omega
 rw [this]
theorem zP (s:ByteArray) (i:Int):0≤atB s i∧atB s i≤255:=by
 unfold atB
 have:=(s.data.getD i.toNat 0).toNat_lt
 omega
theorem BS (s:ByteArray) (c:Int) :(evPat (aB [] Tryz.f179) (fun _=>none) Tryz.f179 qHs Dp (s,c,())).sat fun z_=>z_ =(F1 (s,c,())).2:=by
 refine cast (by kernel_rfl) (?_:let r1:Bool:=decide ((↑s.size:Int) >(0:Int));((r1=true→((0:Int)≤(0:Int)∧(0:Int) <(↑s.size:Int))∧True)∧(r1=false→True))∧(true=true→(bif r1 then (↑(s.1.getD (Int.toNat (0:Int)) (0:UInt8)).toNat:Int)==c else false,()) =(tkB s c,())))
 intro r1
 clear_value (hr1:r1=_)
 have e1:r1=!emp s:=by rw [xh,Bool.not_not];exact hr1
 refine ⟨⟨fun h=>⟨⟨Int.le_refl _,?_⟩,trivial⟩,fun _=>trivial⟩,fun _=>?_⟩
 ·rw [hr1] at h;simpa using h
 ·rw [e1]
  show (bif !emp s then hd s==c else false,()) =(!emp s&&hd s==c,())
  cases emp s <;> rfl
def nL:FuncId×Ctr:=(179,ae KE qHs Dp F1)
theorem rW:CtrOK Tryz.prog KE 179 (ae KE qHs Dp F1):=by
 refine aJ (C:=aB [] Tryz.f179) (ay (CtrsOK.nil) _) mixed (fn:=Tryz.f179) Tryz.func179 (by kernel_rfl) (by kernel_rfl) (by kernel_rfl) (by kernel_rfl) (by kernel_rfl) (by kernel_rfl) (Λ:=fun _ _=>none) ?_ ?_
 ·exact fun _ _ _ _ _ _ _ _ h=>by cases h
 ·rintro ⟨s,c,⟨⟩⟩ hw hn
  exact BS s c
noncomputable def lpNb:Lp:=(⟨0,aB [] Tryz.f180,(fun _=>none),(cN Tryz.f180 0),qNb,xNb⟩:Lp)
theorem F9 (s:ByteArray) (n:Int) (i:Int) (hi:pJ (s,n,i,())) :(Go.Mir.stepG lpNb mw (fun y:Den (tyP lpNb.q)=>pJ y∧Bh y<Bh (s,n,i,())) (s,n,i,())∧Go.Mir.stepE lpNb mw (s,n,i,())=mw (s,n,i,())):=by
 refine cast (by kernel_rfl) (?_:let r1:Int:=(↑(s.1.getD i.toNat (0:UInt8)).toNat:Int);let r2:Bool:=decide (i <(↑s.size:Int));let r3:Bool:=decide (i <(2:Int));let r4:Bool:=decide (r1≥(48:Int));let r5:Bool:=bif r2 then bif r3 then bif r4 then decide (r1≤(57:Int)) else false else false else false;let r6:ByteArray×Int×Int×PUnit:=bif r5 then mw (s,IntKind.i64.wrap (IntKind.i64.wrap ((10:Int)*n)+IntKind.i64.wrap (IntKind.u8.wrap (r1 - (48:Int)))),IntKind.i64.wrap (i +(1:Int)),()) else (s,n,i,());(((r2=true→(r3=true→((0:Int)≤i∧i <(↑s.size:Int))∧(r4=true→((0:Int)≤i∧i <(↑s.size:Int))∧True)∧(r4=false→True))∧(r3=false→True))∧(r2=false→True))∧(true=true→(r5=true→((0:Int)≤i∧i <(↑s.size:Int))∧pJ (s,IntKind.i64.wrap (IntKind.i64.wrap ((10:Int)*n)+IntKind.i64.wrap (IntKind.u8.wrap (r1 - (48:Int)))),IntKind.i64.wrap (i +(1:Int)),())∧Bh (s,IntKind.i64.wrap (IntKind.i64.wrap ((10:Int)*n)+IntKind.i64.wrap (IntKind.u8.wrap (r1 - (48:Int)))),IntKind.i64.wrap (i +(1:Int)),())<Bh (s,n,i,()))∧(r5=false→True)))∧(bif true&&true&&true&&true then r6 else bif true then r6 else bif r2 then bif r3 then bif r4 then dflt (Ty.str.prod (I.prod (I.prod Ty.unit))) else dflt (Ty.str.prod (I.prod (I.prod Ty.unit))) else dflt (Ty.str.prod (I.prod (I.prod Ty.unit))) else dflt (Ty.str.prod (I.prod (I.prod Ty.unit))))=mw (s,n,i,()))
 intro r1 r2 r3 r4 r5 r6
 clear_value (hr1:r1=_) (hr2:r2=_) (hr3:r3=_) (hr4:r4=_) (hr5:r5=_) (hr6:r6=_)
 have e5:r5 =(atD s i&&r3):=by
  rw [hr5,hr4,hr2,hr1];unfold atD atB
  cases decide (i <(s.size:Int)) <;> cases r3 <;> cases decide (((s.data.getD i.toNat 0).toNat:Int)≥48) <;> cases decide (((s.data.getD i.toNat 0).toNat:Int)≤57) <;> rfl
 have hi0:0≤i:=by rcases hi with ⟨h,_⟩ |⟨h,_⟩ |⟨h,_⟩ <;>(simp only at h;omega)
 have hz:r2=true→0≤i∧i <(s.size:Int):=fun h=>⟨hi0,by rw [hr2] at h;simpa using h⟩
 have hw:r5=true→IntKind.i64.wrap (IntKind.i64.wrap ((10:Int)*n)+IntKind.i64.wrap (IntKind.u8.wrap (r1 - (48:Int))))=10*n +(atB s i - 48)∧IntKind.i64.wrap (i+1)=i+1∧i<2∧r2=true∧atD s i=true∧48≤atB s i∧atB s i≤57:=fun h=>by
  rw [e5] at h
  simp only [Bool.and_eq_true] at h
  have h2:=h.1
  unfold atD at h2
  simp only [Bool.and_eq_true,decide_eq_true_eq] at h2
  have h3:i<2:=by have:=h.2;rw [hr3] at this;simpa using this
  have hn:0≤n∧n≤9:=by rcases hi with ⟨a,b⟩ |⟨a,b,c⟩ |⟨a,b,c⟩ <;> simp only at a b <;>(try simp only at c) <;> omega
  have e1:r1=atB s i:=hr1
  have w1:IntKind.u8.wrap (atB s i - 48)=atB s i - 48:=Ex (by omega) (by omega)
  have w2:IntKind.i64.wrap (atB s i - 48)=atB s i - 48:=iA (by omega) (by omega)
  have w3:IntKind.i64.wrap (10*n)=10*n:=iA (by omega) (by omega)
  rw [e1,w1,w2,w3]
  exact ⟨iA (by omega) (by omega),iA (by omega) (by omega),h3,by rw [hr2];simpa using h2.1,h.1,h2.2.1,h2.2.2⟩
 refine ⟨⟨⟨fun h=>⟨fun _=>⟨hz h,fun _=>⟨hz h,trivial⟩,fun _=>trivial⟩,fun _=>trivial⟩,fun _=>trivial⟩,fun _=>⟨fun h=>?_,fun _=>trivial⟩⟩,?_⟩
 ·obtain ⟨a,b,c,d,e,f,g⟩:=hw h
  rw [a,b]
  refine ⟨hz d,?_,?_⟩
  ·show (i+1=0∧_)∨(i+1=1∧_)∨(i+1=2∧_)
   rcases hi with ⟨x,z⟩ |⟨x,z,w⟩ |⟨x,z,w⟩
   ·have x:i=0:=x
    have z:n=0:=z
    exact .inr (.inl ⟨by omega,by show 0≤10*n +(atB s i - 48);omega,by show 10*n +(atB s i - 48)≤9;omega⟩)
   ·have x:i=1:=x
    have z:0≤n:=z
    have w:n≤9:=w
    exact .inr (.inr ⟨by omega,by show 0≤10*n +(atB s i - 48);omega,by show 10*n +(atB s i - 48)≤99;omega⟩)
   ·have x:i=2:=x
    omega
  ·show (2 - (i+1)).toNat <(2 - i).toNat
   omega
 ·show r6=_
  rw [hr6]
  cases h:r5 with
  | true=>
   obtain ⟨a,b,c,d,e,f,g⟩:=hw h
   rw [a,b]
   show (s,nbV s _ (i+1),nbI s (i+1),()) =(s,nbV s n i,nbI s i,())
   rcases hi with ⟨x,z⟩ |⟨x,z,w⟩ |⟨x,z,w⟩
   ·have x:i=0:=x
    subst x
    unfold nbV nbI
    rw [e];rfl
   ·have x:i=1:=x
    subst x
    unfold nbV nbI
    rw [e];rfl
   ·have x:i=2:=x
    omega
  | false=>
   show (s,n,i,()) =(s,nbV s n i,nbI s i,())
   rw [h] at e5
   rcases hi with ⟨x,z⟩ |⟨x,z,w⟩ |⟨x,z,w⟩
   ·have x:i=0:=x
    subst x
    have e3:r3=true:=hr3
    rw [e3,Bool.and_true] at e5
    unfold nbV nbI
    rw [←e5];rfl
   ·have x:i=1:=x
    subst x
    have e3:r3=true:=hr3
    rw [e3,Bool.and_true] at e5
    unfold nbV nbI
    rw [←e5];rfl
   ·have x:i=2:=x
    subst x
    rfl
noncomputable def Et:LoopSum:=bL lpNb mw pJ
noncomputable def Ef:Nat:=rid (cN Tryz.f180 0)
theorem Fx:LoopOKp Tryz.prog 0 Tryz.f180.ntmps (cN Tryz.f180 0) (bL lpNb mw pJ):=
 dG lpNb (ay (CtrsOK.nil) _) mixed (fun b hb S hS=>by cases hS) mw pJ Bh (fun |⟨s,n,i,⟨⟩⟩,hi=>F9 s n i hi)
theorem uN (s:ByteArray) :(evPat (aB [] Tryz.f180) (find [(Ef,Et)]) Tryz.f180 qS1 Dq (s,())).sat fun z_=>z_ =(BU (s,())).2:=by
 refine cast (by kernel_rfl) (?_ :((ub fun x=>none)∧((0:Int) =(0:Int)∧(0:Int) =(0:Int)∨(0:Int) =(1:Int)∧(0:Int)≤(0:Int)∧(0:Int)≤(9:Int)∨(0:Int) =(2:Int)∧(0:Int)≤(0:Int)∧(0:Int)≤(99:Int)))∧((0:Int)≤nbI s (0:Int)∧nbI s (0:Int)≤(↑s.size:Int)∧(↑s.size:Int)≤(↑s.size:Int))∧(nbV s (0:Int) (0:Int),s.extract (nbI s (0:Int)).toNat (↑s.size:Int).toNat,()) =(nmV s,nmR s,()))
 refine ⟨⟨rfl,.inl ⟨rfl,rfl⟩⟩,?_,?_⟩
 ·have h0:=Gr s
  have h1:=Gs s
  unfold nbI
  rw [h0,h1]
  cases a:dD s with
  | false=>exact ⟨Int.le_refl _,by show (0:Int)≤s.size;omega,Int.le_refl _⟩
  | true=>
   have z:=dv (s:=s) (by unfold dD at a;simp at a;exact a.1)
   cases b:dD (tl s) with
   | false=>exact ⟨(by decide :(0:Int)≤1),by show (1:Int)≤s.size;omega,Int.le_refl _⟩
   | true=>
    have z2:=dv (s:=tl s) (by unfold dD at b;simp at b;exact b.1)
    rw [x9] at z2
    exact ⟨(by decide :(0:Int)≤2),by show (2:Int)≤s.size;omega,Int.le_refl _⟩
 ·have h0:=Gr s
  have h1:=Gs s
  have g1:hd (tl s)=atB s 1:=D1 s
  have g0:hd s=atB s 0:=rfl
  unfold nbI nbV
  rw [h0,h1]
  cases a:dD s with
  | false=>
   have e:dgR s=s:=by unfold dgR;rw [a];rfl
   have e2:dgV s=0:=by unfold dgV;rw [a];rfl
   unfold nmV nmR
   rw [e,a,e2]
   show (_,s.extract 0 s.size,())=_
   have:s.extract 0 s.size=s:=by simp
   rw [this];rfl
  | true=>
   have e:dgR s=tl s:=by unfold dgR;rw [a];rfl
   have e2:dgV s=hd s - 48:=by unfold dgV;rw [a];rfl
   unfold nmV nmR
   rw [e,e2]
   cases b:dD (tl s) with
   | false=>
    show ((10*0 +(atB s 0 - 48):Int),tl s,()) =(hd s - 48,tl s,())
    rw [g0];simp
   | true=>
    have e3:dgR (tl s)=tl (tl s):=by unfold dgR;rw [b];rfl
    have e4:dgV (tl s)=hd (tl s) - 48:=by unfold dgV;rw [b];rfl
    rw [e3,e4,g0,g1]
    have:tl (tl s)=s.extract 2 s.size:=bu (by
     rw [mT,mT,ByteArray.data_extract,Array.toList_extract]
     show (s.data.toList.drop 1).drop 1 =(s.data.toList.drop 2).take (s.size - 2)
     rw [List.drop_drop,List.take_of_length_le (by simp)])
    rw [this]
    show (10 *(10*0 +(atB s 0 - 48)) +(atB s 1 - 48),s.extract 2 s.size,()) =(10 *(atB s 0 - 48) +(atB s 1 - 48),s.extract 2 s.size,())
    rw [Int.mul_zero,Int.zero_add]
def jv:FuncId×Ctr:=(180,ae KE qS1 Dq BU)
theorem nY:CtrOK Tryz.prog KE 180 (ae KE qS1 Dq BU):=by
 refine aJ (C:=aB [] Tryz.f180) (ay (CtrsOK.nil) _) mixed (fn:=Tryz.f180) Tryz.func180 (by kernel_rfl) (by kernel_rfl) (by kernel_rfl) (by kernel_rfl) (by kernel_rfl) (by kernel_rfl) (Λ:=fun x=>find [(Ef,Et)]) ?_ ?_
 ·rintro ⟨s,⟨⟩⟩ hw hn
  exact LoopsOKp.at (by kernel_rfl) (.cons (by kernel_rfl) (Fx) .nil)
 ·rintro ⟨s,⟨⟩⟩ hw hn
  exact uN s
end Go.Proofs.YtkajjbambnpbiaaGreatDoor
namespace Go.Proofs.YtkajjbambnpbiaaGreatDoor
open Go Go.Mir
attribute [local irreducible] Go.Mir.DT.sat Go.Mir.evPat Go.Mir.RT.sat Go.Mir.evFn
abbrev GR:List (Nat×PB):= [(0,.dat (.nm .Delivery)),(1,.dat (.nm .Delivery))]
abbrev qOu:Pat:=⟨[(1,.h .str),(2,.c (.ptr 0 0)),(4,.c (.ptr 1 0)),(7,.h I)],GR,2⟩
abbrev xOu:List (Lf×Pat):= [(.ext 0,⟨[(1,.h .str),(2,.c (.ptr 0 0)),(4,.c (.ptr 1 0))],GR,2⟩)]
abbrev TOu:Type:=ByteArray×Int×Delivery×Delivery×Unit
def hoF (s:ByteArray):Nat→Int→Int
 | 0,h=>h
 | k+1,h=>hoF s k (if tkB s (atB lets (10 - k)) then 10 - k else h)
def hoD (s:ByteArray) (k:Nat) (d:Delivery):Delivery:={ d with How:=hoF s k d.How }
def pK (x:TOu):Prop:=0≤x.2.1∧x.2.1≤11
def Bi (x:TOu):Nat:=(11 - x.2.1).toNat
def my (x:TOu):ByteArray×Delivery×Delivery×Unit:=(x.1,hoD x.1 (11 - x.2.1).toNat x.2.2.1,x.2.2.2.1,())
abbrev qDS:Pat:=eT [.nm .Delivery,.str]
def ou1 (s:ByteArray):ByteArray:=nmR (tl s)
def ou2 (s:ByteArray):ByteArray:=nmR (tl (ou1 s))
def ou3 (s:ByteArray):ByteArray:=if tkB (ou2 s) 44 then nmR (tl (ou2 s)) else ou2 s
def ou4 (s:ByteArray):ByteArray:=tkR (ou3 s) 115
def Df (d:Delivery) (s:ByteArray):Delivery:={ hoD s 11 d with Victim:=nmV (tl s) }
def FR (d:Delivery) (s:ByteArray):Delivery:={ Df d s with Fielder:=nmV (tl (ou1 s)),Second:=if tkB (ou2 s) 44 then nmV (tl (ou2 s)) else d.Second,Sub:=tkB (ou3 s) 115||d.Sub }
def ouD (d:Delivery) (s:ByteArray):Delivery:=if emp s then hoD s 11 d else if tkB (ou1 s) 40 then FR d s else Df d s
def ouR (s:ByteArray):ByteArray:=if emp s then s else if tkB (ou1 s) 40 then tkR (ou4 s) 41 else ou1 s
def F2:Den (tyP qDS)→List Prop×Den (tyP qDS):=fun x=>([],(ouD x.1 x.2.1,ouR x.2.1,()))
abbrev Dn:Pat:=eT [.nm .Delivery]
def gs0 (s:ByteArray):Int:=if tkB s 119 then 0 else 1
def gsV (s:ByteArray):Int:=if tkB (pa1 s) 46 then 0 else if tkB (pa1 s) 98 then 2 else if tkB (pa1 s) 108 then 3 else if tkB (pa1 s) 111 then 1 else gs0 s
def gs2 (s:ByteArray):ByteArray:=if tkB (pa1 s) 46 then tl (pa1 s) else if tkB (pa1 s) 98 then tl (pa1 s) else if tkB (pa1 s) 108 then tl (pa1 s) else tkR (pa1 s) 111
def gs3 (s:ByteArray):ByteArray:=nmR (gs2 s)
def gs4 (s:ByteArray):ByteArray:=if tkB (gs3 s) 70 then tl (gs3 s) else tkR (gs3 s) 83
def gs5 (s:ByteArray):ByteArray:=if tkB (gs4 s) 45 then nmR (tl (gs4 s)) else gs4 s
def gs6 (s:ByteArray):ByteArray:=tkR (gs5 s) 120
def gsD (s:ByteArray):Delivery:={ Typ:=paT s,Source:=gsV s,Runs:=nmV (gs2 s),Short:=if tkB (gs4 s) 45 then nmV (tl (gs4 s)) else 0,Boundary:=if tkB (gs3 s) 70 then 4 else if tkB (gs3 s) 83 then 6 else 0,Crossed:=tkB (gs5 s) 120,How:=0,Victim:=0,Fielder:=0,Second:=0,Sub:=false,Sector:=0 }
def gsW (s:ByteArray):Delivery:=if tkB (gs6 s) 47 then ouD (gsD s) (tl (gs6 s)) else gsD s
def gs7 (s:ByteArray):ByteArray:=if tkB (gs6 s) 47 then ouR (tl (gs6 s)) else gs6 s
def gQ (s:ByteArray):Delivery:={ gsW s with Sector:=if tkB (gs7 s) 64 then nmV (tl (gs7 s)) else (gsW s).Sector }
def wL:Den (tyP qS1)→List Prop×Den (tyP Dn):=fun x=>([],(gQ x.1,()))
def iU (s:ByteArray):Bool:=aU (gQ s) != 0||!((prS (gQ s)).toList==s.toList)
def AM (s:ByteArray):Delivery:=if iU s then Delivery.zero else gQ s
def AL (s:ByteArray):Int:=if iU s then 4 else 0
theorem oC {s:ByteArray} {c:Int} (h:tkB s c=true) :(0:Int)≤1∧(1:Int)≤(s.size:Int)∧(s.size:Int)≤(s.size:Int):=by
 have:emp s=false:=by unfold tkB at h;simp at h;exact h.1
 have:=dv this
 exact ⟨by decide,by omega,Int.le_refl _⟩
noncomputable def lpOu:Lp:=(⟨0,aB [nL] Tryz.f181,(fun _=>none),(cN Tryz.f181 0),qOu,xOu⟩:Lp)
theorem Ga (s:ByteArray) (i:Int) (d:Delivery) (z:Delivery) (hi:pK (s,i,d,z,())) :(Go.Mir.stepG lpOu my (fun y:Den (tyP lpOu.q)=>pK y∧Bi y<Bi (s,i,d,z,())) (s,i,d,z,())∧Go.Mir.stepE lpOu my (s,i,d,z,())=my (s,i,d,z,())):=by
 refine cast (by kernel_rfl) (?_:let r1:Bool:=decide (i <(11:Int));let r2:Bool:=tkB s (↑(#[(78:UInt8),(66:UInt8),(67:UInt8),(76:UInt8),(83:UInt8),(72:UInt8),(82:UInt8),(84:UInt8),(79:UInt8),(77:UInt8),(81:UInt8)].getD i.toNat (0:UInt8)).toNat:Int);let r3:ByteArray×Delivery×Delivery×Unit:=my (s,IntKind.i64.wrap (i +(1:Int)),Delivery.mk (bif r2 then d.1 else d.1) (bif r2 then d.2 else d.2) (bif r2 then d.3 else d.3) (bif r2 then d.4 else d.4) (bif r2 then d.5 else d.5) (bif r2 then d.6 else d.6) (bif r2 then IntKind.u8.wrap i else d.7) (bif r2 then d.8 else d.8) (bif r2 then d.9 else d.9) (bif r2 then d.10 else d.10) (bif r2 then d.11 else d.11) (bif r2 then d.12 else d.12),z,());((r1=true→(((0:Int)≤i∧i <(↑(ByteArray.mk #[78,66,67,76,83,72,82,84,79,77,81]).size:Int))∧(r2=true→True)∧(r2=false→True))∧(true=true→pK (s,IntKind.i64.wrap (i +(1:Int)),Delivery.mk (bif r2 then d.1 else d.1) (bif r2 then d.2 else d.2) (bif r2 then d.3 else d.3) (bif r2 then d.4 else d.4) (bif r2 then d.5 else d.5) (bif r2 then d.6 else d.6) (bif r2 then IntKind.u8.wrap i else d.7) (bif r2 then d.8 else d.8) (bif r2 then d.9 else d.9) (bif r2 then d.10 else d.10) (bif r2 then d.11 else d.11) (bif r2 then d.12 else d.12),z,())∧Bi (s,IntKind.i64.wrap (i +(1:Int)),Delivery.mk (bif r2 then d.1 else d.1) (bif r2 then d.2 else d.2) (bif r2 then d.3 else d.3) (bif r2 then d.4 else d.4) (bif r2 then d.5 else d.5) (bif r2 then d.6 else d.6) (bif r2 then IntKind.u8.wrap i else d.7) (bif r2 then d.8 else d.8) (bif r2 then d.9 else d.9) (bif r2 then d.10 else d.10) (bif r2 then d.11 else d.11) (bif r2 then d.12 else d.12),z,())<Bi (s,i,d,z,())))∧(r1=false→True))∧(bif r1 then bif true&&true then r3 else bif true then r3 else bif r2 then dflt (Ty.str.prod ((Ty.nm Nm.Delivery).prod ((Ty.nm Nm.Delivery).prod Ty.unit))) else dflt (Ty.str.prod ((Ty.nm Nm.Delivery).prod ((Ty.nm Nm.Delivery).prod Ty.unit))) else (s,d,z,()))=my (s,i,d,z,()))
 intro r1 r2 r3
 clear_value (hr1:r1=_) (hr2:r2=_) (hr3:r3=_)
 obtain ⟨h0,h1⟩:=hi
 have h0:0≤i:=h0
 have h1:i≤11:=h1
 have ew:IntKind.i64.wrap (i+1)=i+1:=iA (by omega) (by omega)
 have eb:IntKind.u8.wrap i=i:=Ex (by omega) (by omega)
 have e2:r2=tkB s (atB lets i):=hr2
 have hl :(lets.size:Int)=11:=rfl
 simp only [Bool.cond_self,ew,eb] at hr3 ⊢
 refine ⟨⟨fun h=>?_,fun _=>trivial⟩,?_⟩
 ·have h2:i<11:=by rw [hr1] at h;simpa using h
  refine ⟨⟨⟨h0,by show i <(lets.size:Int);omega⟩,fun _=>trivial,fun _=>trivial⟩,fun _=>⟨⟨by show 0≤i+1;omega,by show i+1≤11;omega⟩,?_⟩⟩
  show (11 - (i+1)).toNat <(11 - i).toNat
  omega
 ·cases h:r1 with
  | true=>
   have h2:i<11:=by rw [hr1] at h;simpa using h
   show r3=_
   rw [hr3]
   obtain ⟨k,hk⟩ :∃ k:Nat,(11 - i).toNat=k+1:=⟨(10 - i).toNat,by omega⟩
   have hk2 :(11 - (i+1)).toNat=k:=by omega
   have hk3 :(10:Int) - k=i:=by omega
   show (s,hoD s (11 - (i+1)).toNat _,z,()) =(s,hoD s (11 - i).toNat d,z,())
   rw [hk,hk2]
   unfold hoD
   have:hoF s (k+1) d.How=hoF s k (bif r2 then i else d.How):=by
    show hoF s k (if tkB s (atB lets (10 - (k:Int))) then 10 - (k:Int) else d.How)=_
    rw [hk3,e2];cases tkB s (atB lets i) <;> rfl
   rw [this]
  | false=>
   have h2 :¬ i<11:=by rw [hr1] at h;simpa using h
   have :(11 - i).toNat=0:=by omega
   show (s,d,z,()) =(s,hoD s (11 - i).toNat d,z,())
   rw [this];rfl
noncomputable def Eu:LoopSum:=bL lpOu my pK
noncomputable def Eg:Nat:=rid (cN Tryz.f181 0)
theorem Fy:LoopOKp Tryz.prog 0 Tryz.f181.ntmps (cN Tryz.f181 0) (bL lpOu my pK):=
 dG lpOu (ay (.consU rW rfl .nil) _) mixed (fun b hb S hS=>by cases hS) my pK Bi (fun |⟨s,i,d,z,⟨⟩⟩,hi=>Ga s i d z hi)
theorem BT (d:Delivery) (s:ByteArray) :(evPat (aB [nL,jv] Tryz.f181) (find [(Eg,Eu)]) Tryz.f181 qDS qDS (d,s,())).sat fun z_=>z_ =(F2 (d,s,())).2:=by
 refine cast (by kernel_rfl) (?_:let r1:ByteArray:=s.extract (Int.toNat (1:Int)) (↑s.size:Int).toNat;let r2:ByteArray:=nmR r1;let r3:Int:=nmV r1;let r4:Bool:=s.toList ==(ByteArray.mk #[]).toList;let r5:Int:=(↑r2.size:Int);let r6:Bool:=tkB r2 (40:Int);let r7:Int:=hoF s ((11:Int) - (0:Int)).toNat d.7;let r8:ByteArray:=r2.extract (Int.toNat (1:Int)) r5.toNat;let r9:ByteArray:=nmR r8;let r10:Int:=nmV r8;let r11:Int:=(↑r9.size:Int);let r12:Bool:=tkB r9 (44:Int);let r13:Int:=bif r12 then d.1 else d.1;let r14:Int:=bif r12 then d.2 else d.2;let r15:Int:=bif r12 then d.3 else d.3;let r16:Int:=bif r12 then d.4 else d.4;let r17:Int:=bif r12 then d.5 else d.5;let r18:Bool:=bif r12 then d.6 else d.6;let r19:Int:=bif r12 then d.12 else d.12;let r20:Int:=bif r12 then r3 else r3;let r21:Int:=bif r12 then r7 else r7;let r22:ByteArray:=r9.extract (Int.toNat (1:Int)) r11.toNat;let r23:Int:=bif r12 then r10 else r10;let r24:Int:=bif r12 then nmV r22 else d.10;let r25:ByteArray:=bif r12 then nmR r22 else r9;let r26:Int:=(↑r25.size:Int);let r27:Bool:=tkB r25 (115:Int);let r28:Bool:=bif r27 then true else bif r12 then d.11 else d.11;let r29:Int:=bif r27 then r13 else r13;let r30:Int:=bif r27 then r14 else r14;let r31:Int:=bif r27 then r15 else r15;let r32:Int:=bif r27 then r16 else r16;let r33:Int:=bif r27 then r17 else r17;let r34:Bool:=bif r27 then r18 else r18;let r35:Int:=bif r27 then r19 else r19;let r36:Int:=bif r27 then r20 else r20;let r37:Int:=bif r27 then r21 else r21;let r38:Int:=bif r27 then r23 else r23;let r39:Int:=bif r27 then r24 else r24;let r40:ByteArray:=bif r27 then r25.extract (Int.toNat (1:Int)) r26.toNat else r25;let r41:Int:=(↑r40.size:Int);let r42:Bool:=tkB r40 (41:Int);((ub fun x=>none)∧(0:Int)≤(0:Int)∧(0:Int)≤(11:Int))∧(r4=true→(Delivery.mk d.1 d.2 d.3 d.4 d.5 d.6 r7 d.8 d.9 d.10 d.11 d.12,s,()) =(ouD d s,ouR s,()))∧(r4=false→((0:Int)≤(1:Int)∧(1:Int)≤(↑s.size:Int)∧(↑s.size:Int)≤(↑s.size:Int))∧((r6=true→((0:Int)≤(1:Int)∧(1:Int)≤r5∧r5≤r5)∧((r12=true→((0:Int)≤(1:Int)∧(1:Int)≤r11∧r11≤r11)∧True)∧(r12=false→True))∧(true=true→((r27=true→((0:Int)≤(1:Int)∧(1:Int)≤r26∧r26≤r26)∧True)∧(r27=false→True))∧(true=true→(r42=true→((0:Int)≤(1:Int)∧(1:Int)≤r41∧r41≤r41)∧True)∧(r42=false→True))))∧(r6=false→True))∧((bif r6 then true&&true else true)=true→(Delivery.mk (bif r6 then bif r42 then r29 else r29 else d.1) (bif r6 then bif r42 then r30 else r30 else d.2) (bif r6 then bif r42 then r31 else r31 else d.3) (bif r6 then bif r42 then r32 else r32 else d.4) (bif r6 then bif r42 then r33 else r33 else d.5) (bif r6 then bif r42 then r34 else r34 else d.6) (bif r6 then bif r42 then r37 else r37 else r7) (bif r6 then bif r42 then r36 else r36 else r3) (bif r6 then bif r42 then r38 else r38 else d.9) (bif r6 then bif r42 then r39 else r39 else d.10) (bif r6 then bif r42 then r28 else r28 else d.11) (bif r6 then bif r42 then r35 else r35 else d.12),bif r6 then bif r42 then r40.extract (Int.toNat (1:Int)) r41.toNat else r40 else r2,()) =(ouD d s,ouR s,()))))
 intro r1 r2 r3 r4 r5 r6 r7 r8 r9 r10 r11 r12 r13 r14 r15 r16 r17 r18 r19 r20 r21 r22 r23 r24 r25 r26 r27 r28 r29 r30 r31 r32 r33 r34 r35 r36 r37 r38 r39 r40 r41 r42
 clear_value (hr1:r1=_) (hr2:r2=_) (hr3:r3=_) (hr4:r4=_) (hr5:r5=_) (hr6:r6=_) (hr7:r7=_) (hr8:r8=_) (hr9:r9=_) (hr10:r10=_) (hr11:r11=_) (hr12:r12=_) (hr13:r13=_) (hr14:r14=_) (hr15:r15=_) (hr16:r16=_) (hr17:r17=_) (hr18:r18=_) (hr19:r19=_) (hr20:r20=_) (hr21:r21=_) (hr22:r22=_) (hr23:r23=_) (hr24:r24=_) (hr25:r25=_) (hr26:r26=_) (hr27:r27=_) (hr28:r28=_) (hr29:r29=_) (hr30:r30=_) (hr31:r31=_) (hr32:r32=_) (hr33:r33=_) (hr34:r34=_) (hr35:r35=_) (hr36:r36=_) (hr37:r37=_) (hr38:r38=_) (hr39:r39=_) (hr40:r40=_) (hr41:r41=_) (hr42:r42=_)
 simp only [Bool.cond_self] at *
 have e1:r1=tl s:=hr1
 have e2:r2=ou1 s:=by rw [hr2,e1];rfl
 have e3:r3=nmV (tl s):=by rw [hr3,e1]
 have e4:r4=emp s:=hr4
 have e6:r6=tkB (ou1 s) 40:=by rw [hr6,e2]
 have e7:r7=hoF s 11 d.How:=hr7
 have e8:r8=tl (ou1 s):=by rw [hr8,hr5,e2];rfl
 have e9:r9=ou2 s:=by rw [hr9,e8];rfl
 have e10:r10=nmV (tl (ou1 s)):=by rw [hr10,e8]
 have e12:r12=tkB (ou2 s) 44:=by rw [hr12,e9]
 have e22:r22=tl (ou2 s):=by rw [hr22,hr11,e9];rfl
 have e24:r24=if tkB (ou2 s) 44 then nmV (tl (ou2 s)) else d.Second:=by rw [hr24,e12,e22];cases tkB (ou2 s) 44 <;> rfl
 have e25:r25=ou3 s:=by rw [hr25,e12,e22,e9];unfold ou3;cases tkB (ou2 s) 44 <;> rfl
 have e27:r27=tkB (ou3 s) 115:=by rw [hr27,e25]
 have e28:r28 =(tkB (ou3 s) 115||d.Sub):=by rw [hr28,e27];cases tkB (ou3 s) 115 <;> rfl
 have e40:r40=ou4 s:=by
  rw [hr40,e27,hr26,e25];unfold ou4
  cases h:tkB (ou3 s) 115 with
  | true=>rw [aK h];rfl
  | false=>rw [bc h];rfl
 have e42:r42=tkB (ou4 s) 41:=by rw [hr42,e40]
 refine ⟨⟨rfl,by decide,by decide⟩,fun h=>?_,fun h=>⟨?_,?_,fun _=>?_⟩⟩
 ·rw [e4] at h
  unfold ouD ouR;rw [h,e7];rfl
 ·rw [e4] at h;have:=dv h;exact ⟨by decide,by omega,Int.le_refl _⟩
 ·refine ⟨fun a=>⟨?_,⟨fun b=>⟨?_,trivial⟩,fun _=>trivial⟩,fun _=>⟨⟨fun b=>⟨?_,trivial⟩,fun _=>trivial⟩,fun _=>⟨fun b=>⟨?_,trivial⟩,fun _=>trivial⟩⟩⟩,fun _=>trivial⟩
  ·rw [hr5];exact oC (hr6▸a)
  ·rw [hr11];exact oC (hr12▸b)
  ·rw [hr26];exact oC (hr27▸b)
  ·rw [hr41];exact oC (hr42▸b)
 ·rw [e4] at h
  have er :(bif r42 then r40.extract (Int.toNat 1) r41.toNat else r40)=tkR (ou4 s) 41:=by
   rw [e42,hr41,e40]
   cases h:tkB (ou4 s) 41 with
   | true=>rw [aK h];rfl
   | false=>rw [bc h];rfl
  rw [er,e6]
  unfold ouD ouR
  rw [h]
  cases hb:tkB (ou1 s) 40 with
  | true=>rw [e28,hr29,hr30,hr31,hr32,hr33,hr34,hr35,hr36,hr37,hr38,hr39,hr13,hr14,hr15,hr16,hr17,hr18,hr19,hr20,hr21,hr23,e24,e3,e7,e10];rfl
  | false=>rw [e2,e3,e7];rfl
def A8:FuncId×Ctr:=(181,ae KE qDS qDS F2)
theorem De:CtrOK Tryz.prog KE 181 (ae KE qDS qDS F2):=by
 refine aJ (C:=aB [nL,jv] Tryz.f181) (ay (.consU rW rfl (.consU nY rfl .nil)) _) mixed (fn:=Tryz.f181) Tryz.func181 (by kernel_rfl) (by kernel_rfl) (by kernel_rfl) (by kernel_rfl) (by kernel_rfl) (by kernel_rfl) (Λ:=fun x=>find [(Eg,Eu)]) ?_ ?_
 ·rintro ⟨d,s,⟨⟩⟩ hw hn
  exact LoopsOKp.at (by kernel_rfl) (.cons (by kernel_rfl) (Fy) .nil)
 ·rintro ⟨d,s,⟨⟩⟩ hw hn
  exact BT d s
theorem wI (s:ByteArray) :(evPat (aB [nL,jv,A8] Tryz.f122) (fun _=>none) Tryz.f122 qS1 Dn (s,())).sat fun z_=>z_ =(wL (s,())).2:=by
 refine cast (by kernel_rfl) (?_:let r1:ByteArray:=s.extract (Int.toNat (1:Int)) (↑s.size:Int).toNat;let r2:Int:=bif tkB s (119:Int) then (2:Int) else bif tkB s (110:Int) then (3:Int) else (1:Int);let r3:Int:=bif tkB s (119:Int) then (0:Int) else bif tkB s (110:Int) then (0:Int) else (0:Int);let r4:ByteArray:=bif tkB s (119:Int) then r1 else bif tkB s (110:Int) then r1 else s;let r5:Int:=(↑r4.size:Int);let r6:Bool:=tkB r4 (46:Int);let r7:Bool:=tkB r4 (98:Int);let r8:Bool:=tkB r4 (108:Int);let r9:Bool:=tkB r4 (111:Int);let r10:ByteArray:=r4.extract (Int.toNat (1:Int)) r5.toNat;let r11:Int:=bif r6 then (0:Int) else bif r7 then (2:Int) else bif r8 then (3:Int) else bif r9 then (1:Int) else bif tkB s (119:Int) then (0:Int) else bif tkB s (110:Int) then (1:Int) else (1:Int);let r12:Int:=bif r6 then r2 else bif r7 then r2 else bif r8 then r2 else bif r9 then r2 else r2;let r13:Int:=bif r6 then r3 else bif r7 then r3 else bif r8 then r3 else bif r9 then r3 else r3;let r14:ByteArray:=bif r6 then r10 else bif r7 then r10 else bif r8 then r10 else bif r9 then r10 else r4;let r15:ByteArray:=nmR r14;let r16:Int:=nmV r14;let r17:Int:=(↑r15.size:Int);let r18:Bool:=tkB r15 (70:Int);let r19:Bool:=tkB r15 (83:Int);let r20:ByteArray:=r15.extract (Int.toNat (1:Int)) r17.toNat;let r21:Int:=bif r18 then (4:Int) else bif r19 then (6:Int) else r13;let r22:Int:=bif r18 then r11 else bif r19 then r11 else r11;let r23:Int:=bif r18 then r12 else bif r19 then r12 else r12;let r24:Int:=bif r18 then r13 else bif r19 then r13 else r13;let r25:Int:=bif r18 then r16 else bif r19 then r16 else r16;let r26:ByteArray:=bif r18 then r20 else bif r19 then r20 else r15;let r27:Int:=(↑r26.size:Int);let r28:Bool:=tkB r26 (45:Int);let r29:Int:=bif r28 then r21 else r21;let r30:Int:=bif r28 then r22 else r22;let r31:ByteArray:=r26.extract (Int.toNat (1:Int)) r27.toNat;let r32:Int:=bif r28 then r23 else r23;let r33:Int:=bif r28 then r24 else r24;let r34:Int:=bif r28 then r25 else r25;let r35:Int:=bif r28 then nmV r31 else r24;let r36:ByteArray:=bif r28 then nmR r31 else r26;let r37:Int:=(↑r36.size:Int);let r38:Bool:=tkB r36 (120:Int);let r39:Int:=bif r38 then r29 else r29;let r40:Int:=bif r38 then r30 else r30;let r41:Int:=bif r38 then r32 else r32;let r42:Int:=bif r38 then r33 else r33;let r43:Int:=bif r38 then r34 else r34;let r44:Int:=bif r38 then r35 else r35;let r45:ByteArray:=bif r38 then r36.extract (Int.toNat (1:Int)) r37.toNat else r36;let r46:Int:=(↑r45.size:Int);let r47:Bool:=tkB r45 (47:Int);let r48:ByteArray:=r45.extract (Int.toNat (1:Int)) r46.toNat;let r49:ByteArray:=bif r47 then ouR r48 else r45;let r50:Int:=(↑r49.size:Int);let r51:Bool:=tkB r49 (64:Int);let r52:Delivery:=ouD (Delivery.mk r41 r40 r43 r44 r39 r38 r42 r42 r42 r42 false r42) r48;let r53:Bool:=bif r47 then r52.11 else false;let r54:Bool:=bif r47 then r52.6 else r38;let r55:Int:=bif r47 then r52.5 else r39;let r56:Int:=bif r47 then r52.2 else r40;let r57:Int:=bif r47 then r52.1 else r41;let r58:Int:=bif r47 then r52.7 else r42;let r59:Int:=bif r47 then r52.8 else r42;let r60:Int:=bif r47 then r52.9 else r42;let r61:Int:=bif r47 then r52.10 else r42;let r62:Int:=bif r47 then r52.3 else r43;let r63:Int:=bif r47 then r52.4 else r44;((tkB s (119:Int)=true→((0:Int)≤(1:Int)∧(1:Int)≤(↑s.size:Int)∧(↑s.size:Int)≤(↑s.size:Int))∧True)∧(tkB s (119:Int)=false→(tkB s (110:Int)=true→((0:Int)≤(1:Int)∧(1:Int)≤(↑s.size:Int)∧(↑s.size:Int)≤(↑s.size:Int))∧True)∧(tkB s (110:Int)=false→True)))∧(true=true→((r6=true→((0:Int)≤(1:Int)∧(1:Int)≤r5∧r5≤r5)∧True)∧(r6=false→(r7=true→((0:Int)≤(1:Int)∧(1:Int)≤r5∧r5≤r5)∧True)∧(r7=false→(r8=true→((0:Int)≤(1:Int)∧(1:Int)≤r5∧r5≤r5)∧True)∧(r8=false→(r9=true→((0:Int)≤(1:Int)∧(1:Int)≤r5∧r5≤r5)∧True)∧(r9=false→True)))))∧(true=true→((r18=true→((0:Int)≤(1:Int)∧(1:Int)≤r17∧r17≤r17)∧True)∧(r18=false→(r19=true→((0:Int)≤(1:Int)∧(1:Int)≤r17∧r17≤r17)∧True)∧(r19=false→True)))∧(true=true→((r28=true→((0:Int)≤(1:Int)∧(1:Int)≤r27∧r27≤r27)∧True)∧(r28=false→True))∧(true=true→((r38=true→((0:Int)≤(1:Int)∧(1:Int)≤r37∧r37≤r37)∧True)∧(r38=false→True))∧(true=true→((r47=true→((0:Int)≤(1:Int)∧(1:Int)≤r46∧r46≤r46)∧True)∧(r47=false→True))∧(true=true→((r51=true→((0:Int)≤(1:Int)∧(1:Int)≤r50∧r50≤r50)∧True)∧(r51=false→True))∧(true=true→(Delivery.mk (bif r51 then r57 else r57) (bif r51 then r56 else r56) (bif r51 then r62 else r62) (bif r51 then r63 else r63) (bif r51 then r55 else r55) (bif r51 then r54 else r54) (bif r51 then r58 else r58) (bif r51 then r59 else r59) (bif r51 then r60 else r60) (bif r51 then r61 else r61) (bif r51 then r53 else r53) (bif r51 then nmV (r49.extract (Int.toNat (1:Int)) r50.toNat) else bif r47 then r52.12 else r42),()) =(gQ s,())))))))))
 intro r1 r2 r3 r4 r5 r6 r7 r8 r9 r10 r11 r12 r13 r14 r15 r16 r17 r18 r19 r20 r21 r22 r23 r24 r25 r26 r27 r28 r29 r30 r31 r32 r33 r34 r35 r36 r37 r38 r39 r40 r41 r42 r43 r44 r45 r46 r47 r48 r49 r50 r51 r52 r53 r54 r55 r56 r57 r58 r59 r60 r61 r62 r63
 clear_value (hr1:r1=_) (hr2:r2=_) (hr3:r3=_) (hr4:r4=_) (hr5:r5=_) (hr6:r6=_) (hr7:r7=_) (hr8:r8=_) (hr9:r9=_) (hr10:r10=_) (hr11:r11=_) (hr12:r12=_) (hr13:r13=_) (hr14:r14=_) (hr15:r15=_) (hr16:r16=_) (hr17:r17=_) (hr18:r18=_) (hr19:r19=_) (hr20:r20=_) (hr21:r21=_) (hr22:r22=_) (hr23:r23=_) (hr24:r24=_) (hr25:r25=_) (hr26:r26=_) (hr27:r27=_) (hr28:r28=_) (hr29:r29=_) (hr30:r30=_) (hr31:r31=_) (hr32:r32=_) (hr33:r33=_) (hr34:r34=_) (hr35:r35=_) (hr36:r36=_) (hr37:r37=_) (hr38:r38=_) (hr39:r39=_) (hr40:r40=_) (hr41:r41=_) (hr42:r42=_) (hr43:r43=_) (hr44:r44=_) (hr45:r45=_) (hr46:r46=_) (hr47:r47=_) (hr48:r48=_) (hr49:r49=_) (hr50:r50=_) (hr51:r51=_) (hr52:r52=_) (hr53:r53=_) (hr54:r54=_) (hr55:r55=_) (hr56:r56=_) (hr57:r57=_) (hr58:r58=_) (hr59:r59=_) (hr60:r60=_) (hr61:r61=_) (hr62:r62=_) (hr63:r63=_)
 have e1:r1=tl s:=hr1
 have e2:r2=paT s:=by rw [hr2];unfold paT;cases tkB s 119 <;> cases tkB s 110 <;> rfl
 have e3:r3=0:=by rw [hr3];simp only [Bool.cond_self]
 have e4:r4=pa1 s:=by
  rw [hr4,e1];unfold pa1
  cases tkB s 119 with
  | true=>rfl
  | false=>
   cases h:tkB s 110 with
   | true=>rw [aK h];rfl
   | false=>rw [bc h];rfl
 have e6:r6=tkB (pa1 s) 46:=by rw [hr6,e4]
 have e7:r7=tkB (pa1 s) 98:=by rw [hr7,e4]
 have e8:r8=tkB (pa1 s) 108:=by rw [hr8,e4]
 have e9:r9=tkB (pa1 s) 111:=by rw [hr9,e4]
 have e10:r10=tl (pa1 s):=by rw [hr10,hr5,e4];rfl
 have e11:r11=gsV s:=by
  rw [hr11,e6,e7,e8,e9];unfold gsV gs0
  cases tkB (pa1 s) 46 <;> cases tkB (pa1 s) 98 <;> cases tkB (pa1 s) 108 <;> cases tkB (pa1 s) 111 <;> cases tkB s 119 <;> cases tkB s 110 <;> rfl
 have e12:r12=paT s:=by rw [hr12,e2];simp only [Bool.cond_self]
 have e13:r13=0:=by rw [hr13,e3];simp only [Bool.cond_self]
 have e14:r14=gs2 s:=by
  rw [hr14,e6,e7,e8,e9,e10,e4];unfold gs2
  cases tkB (pa1 s) 46 <;> cases tkB (pa1 s) 98 <;> cases tkB (pa1 s) 108 <;> try rfl
  cases h:tkB (pa1 s) 111 with
  | true=>rw [aK h];rfl
  | false=>rw [bc h];rfl
 have e15:r15=gs3 s:=by rw [hr15,e14];rfl
 have e16:r16=nmV (gs2 s):=by rw [hr16,e14]
 have e18:r18=tkB (gs3 s) 70:=by rw [hr18,e15]
 have e19:r19=tkB (gs3 s) 83:=by rw [hr19,e15]
 have e20:r20=tl (gs3 s):=by rw [hr20,hr17,e15];rfl
 have e21:r21 =(gsD s).Boundary:=by
  rw [hr21,e18,e19,e13]
  show _=if tkB (gs3 s) 70 then (4:Int) else if tkB (gs3 s) 83 then 6 else 0
  cases tkB (gs3 s) 70 <;> cases tkB (gs3 s) 83 <;> rfl
 have e22:r22=gsV s:=by rw [hr22,e11];simp only [Bool.cond_self]
 have e23:r23=paT s:=by rw [hr23,e12];simp only [Bool.cond_self]
 have e24:r24=0:=by rw [hr24,e13];simp only [Bool.cond_self]
 have e25:r25=nmV (gs2 s):=by rw [hr25,e16];simp only [Bool.cond_self]
 have e26:r26=gs4 s:=by
  rw [hr26,e18,e19,e20,e15];unfold gs4
  cases tkB (gs3 s) 70 with
  | true=>rfl
  | false=>
   cases h:tkB (gs3 s) 83 with
   | true=>rw [aK h];rfl
   | false=>rw [bc h];rfl
 have e28:r28=tkB (gs4 s) 45:=by rw [hr28,e26]
 have e29:r29 =(gsD s).Boundary:=by rw [hr29,e21];simp only [Bool.cond_self]
 have e30:r30=gsV s:=by rw [hr30,e22];simp only [Bool.cond_self]
 have e31:r31=tl (gs4 s):=by rw [hr31,hr27,e26];rfl
 have e32:r32=paT s:=by rw [hr32,e23];simp only [Bool.cond_self]
 have e33:r33=0:=by rw [hr33,e24];simp only [Bool.cond_self]
 have e34:r34=nmV (gs2 s):=by rw [hr34,e25];simp only [Bool.cond_self]
 have e35:r35 =(gsD s).Short:=by
  rw [hr35,e28,e31,e24]
  show _=if tkB (gs4 s) 45 then nmV (tl (gs4 s)) else 0
  cases tkB (gs4 s) 45 <;> rfl
 have e36:r36=gs5 s:=by rw [hr36,e28,e31,e26];unfold gs5;cases tkB (gs4 s) 45 <;> rfl
 have e38:r38=tkB (gs5 s) 120:=by rw [hr38,e36]
 have e39:r39 =(gsD s).Boundary:=by rw [hr39,e29];simp only [Bool.cond_self]
 have e40:r40=gsV s:=by rw [hr40,e30];simp only [Bool.cond_self]
 have e41:r41=paT s:=by rw [hr41,e32];simp only [Bool.cond_self]
 have e42:r42=0:=by rw [hr42,e33];simp only [Bool.cond_self]
 have e43:r43=nmV (gs2 s):=by rw [hr43,e34];simp only [Bool.cond_self]
 have e44:r44 =(gsD s).Short:=by rw [hr44,e35];simp only [Bool.cond_self]
 have e45:r45=gs6 s:=by
  rw [hr45,e38,hr37,e36];unfold gs6
  cases h:tkB (gs5 s) 120 with
  | true=>rw [aK h];rfl
  | false=>rw [bc h];rfl
 have e47:r47=tkB (gs6 s) 47:=by rw [hr47,e45]
 have e48:r48=tl (gs6 s):=by rw [hr48,hr46,e45];rfl
 have e49:r49=gs7 s:=by rw [hr49,e47,e48,e45];unfold gs7;cases tkB (gs6 s) 47 <;> rfl
 have e51:r51=tkB (gs7 s) 64:=by rw [hr51,e49]
 have e52:r52=ouD (gsD s) (tl (gs6 s)):=by rw [hr52,e48,e41,e40,e43,e44,e39,e38,e42];rfl
 have e53:r53 =(gsW s).Sub:=by rw [hr53,e47,e52];unfold gsW;cases tkB (gs6 s) 47 <;> rfl
 have e54:r54 =(gsW s).Crossed:=by rw [hr54,e47,e52,e38];unfold gsW;cases tkB (gs6 s) 47 <;> rfl
 have e55:r55 =(gsW s).Boundary:=by rw [hr55,e47,e52,e39];unfold gsW;cases tkB (gs6 s) 47 <;> rfl
 have e56:r56 =(gsW s).Source:=by rw [hr56,e47,e52,e40];unfold gsW;cases tkB (gs6 s) 47 <;> rfl
 have e57:r57 =(gsW s).Typ:=by rw [hr57,e47,e52,e41];unfold gsW;cases tkB (gs6 s) 47 <;> rfl
 have e58:r58 =(gsW s).How:=by rw [hr58,e47,e52,e42];unfold gsW;cases tkB (gs6 s) 47 <;> rfl
 have e59:r59 =(gsW s).Victim:=by rw [hr59,e47,e52,e42];unfold gsW;cases tkB (gs6 s) 47 <;> rfl
 have e60:r60 =(gsW s).Fielder:=by rw [hr60,e47,e52,e42];unfold gsW;cases tkB (gs6 s) 47 <;> rfl
 have e61:r61 =(gsW s).Second:=by rw [hr61,e47,e52,e42];unfold gsW;cases tkB (gs6 s) 47 <;> rfl
 have e62:r62 =(gsW s).Runs:=by rw [hr62,e47,e52,e43];unfold gsW;cases tkB (gs6 s) 47 <;> rfl
 have e63:r63 =(gsW s).Short:=by rw [hr63,e47,e52,e44];unfold gsW;cases tkB (gs6 s) 47 <;> rfl
 have hz :∀ {b:Bool} {x:ByteArray} {c:Int},b=tkB x c→b=true→(0:Int)≤1∧(1:Int)≤(x.size:Int)∧(x.size:Int)≤(x.size:Int):=fun e h=>oC (e▸h)
 refine ⟨⟨fun h=>⟨oC h,trivial⟩,fun _=>⟨fun h=>⟨oC h,trivial⟩,fun _=>trivial⟩⟩,fun _=>⟨⟨fun h=>⟨by rw [hr5];exact hz hr6 h,trivial⟩,fun _=>⟨fun h=>⟨by rw [hr5];exact hz hr7 h,trivial⟩,fun _=>⟨fun h=>⟨by rw [hr5];exact hz hr8 h,trivial⟩,fun _=>⟨fun h=>⟨by rw [hr5];exact hz hr9 h,trivial⟩,fun _=>trivial⟩⟩⟩⟩,fun _=>⟨⟨fun h=>⟨by rw [hr17];exact hz hr18 h,trivial⟩,fun _=>⟨fun h=>⟨by rw [hr17];exact hz hr19 h,trivial⟩,fun _=>trivial⟩⟩,fun _=>⟨⟨fun h=>⟨by rw [hr27];exact hz hr28 h,trivial⟩,fun _=>trivial⟩,fun _=>⟨⟨fun h=>⟨by rw [hr37];exact hz hr38 h,trivial⟩,fun _=>trivial⟩,fun _=>⟨⟨fun h=>⟨by rw [hr46];exact hz hr47 h,trivial⟩,fun _=>trivial⟩,fun _=>⟨⟨fun h=>⟨by rw [hr50];exact hz hr51 h,trivial⟩,fun _=>trivial⟩,fun _=>?_⟩⟩⟩⟩⟩⟩⟩
 have es :(bif r51 then nmV (r49.extract (Int.toNat 1) r50.toNat) else bif r47 then r52.Sector else r42) =(gQ s).Sector:=by
  rw [e51,hr50,e49,e47,e52,e42]
  unfold gQ gsW
  cases tkB (gs7 s) 64 <;> cases tkB (gs6 s) 47 <;> rfl
 rw [es,e53,e54,e55,e56,e57,e58,e59,e60,e61,e62,e63]
 simp only [Bool.cond_self];rfl
def tN:FuncId×Ctr:=(122,ae KE qS1 Dn wL)
theorem yY:CtrOK Tryz.prog KE 122 (ae KE qS1 Dn wL):=by
 refine aJ (C:=aB [nL,jv,A8] Tryz.f122) (ay (.consU rW rfl (.consU nY rfl (.consU De rfl .nil))) _) mixed (fn:=Tryz.f122) Tryz.func122 (by kernel_rfl) (by kernel_rfl) (by kernel_rfl) (by kernel_rfl) (by kernel_rfl) (by kernel_rfl) (Λ:=fun _ _=>none) ?_ ?_
 ·exact fun _ _ _ _ _ _ _ _ h=>by cases h
 ·rintro ⟨s,⟨⟩⟩ hw hn
  exact wI s
end Go.Proofs.YtkajjbambnpbiaaGreatDoor
namespace Go.Proofs.YtkajjbambnpbiaaGreatDoor
open Go Go.Mir
attribute [local irreducible] Go.Mir.DT.sat Go.Mir.evPat Go.Mir.RT.sat Go.Mir.evFn
def ofL (l:List UInt8):ByteArray:=⟨l.toArray⟩
def hL (l:List UInt8):Int:=match l with | []=> -1|x::_=>(x.toNat:Int)
theorem nQ (l:List UInt8) :(ofL l).data.toList=l:=rfl
theorem ee (a b:List UInt8):ofL a++ofL b=ofL (a++b):=bu (by rw [ByteArray.data_append,Array.toList_append];rfl)
theorem Bo (l:List UInt8) :(ofL l).size=l.length:=by show l.toArray.size=_;simp
theorem rh (l:List UInt8):emp (ofL l)=l.isEmpty:=by
 rw [xh,Bo]
 cases l with
 | nil=>rfl
 | cons x l=>rw [decide_eq_true (show (((x::l).length:Nat):Int)>0 by simp)];rfl
theorem xu (x:UInt8) (l:List UInt8):hd (ofL (x::l)) =(x.toNat:Int):=by rw [xr,nQ];rfl
theorem bn (x:UInt8) (l:List UInt8):tl (ofL (x::l))=ofL l:=bu (by rw [mT,nQ,nQ];rfl)
theorem dB (l:List UInt8) {c:Int} (hc:0≤c):tkB (ofL l) c =(hL l==c):=by
 unfold tkB;rw [rh]
 cases l with
 | nil=>show false =(-1==c);symm;simp;omega
 | cons x l=>rw [xu];rfl
theorem DV (l:List UInt8):dD (ofL l) =(decide (48≤hL l)&&decide (hL l≤57)):=by
 unfold dD;rw [rh]
 cases l with
 | nil=>rfl
 | cons x l=>rw [xu];rfl
def nd (t:List UInt8):Prop:=hL t<48∨hL t>57
theorem Bl {t:List UInt8} (h:nd t):dD (ofL t)=false:=by
 rw [DV];unfold nd at h
 rcases h with h|h
 ·rw [decide_eq_false (show ¬ 48≤hL t by omega)];rfl
 ·rw [decide_eq_false (show ¬ hL t≤57 by omega)];exact Bool.and_false _
def dC (n:Nat):UInt8:=UInt8.ofNat (48+n)
theorem q8 {n:Nat} (h:n<10) :(dC n).toNat=48+n:=by
 unfold dC;rw [UInt8.toNat_ofNat'];omega
def dL (n:Int):List UInt8:=if n<10 then [dC n.toNat] else [dC (n.toNat / 10),dC (n.toNat % 10)]
theorem Ah {n:Nat} (h:n<10) (t:List UInt8):dD (ofL (dC n::t))=true:=by
 rw [DV];show (decide (48≤((dC n).toNat:Int))&&decide (((dC n).toNat:Int)≤57))=true
 rw [q8 h,decide_eq_true (show (48:Int)≤((48+n:Nat):Int) by omega),decide_eq_true (show ((48+n:Nat):Int)≤57 by omega)];rfl
theorem CE {n:Nat} (h:n<10) (t:List UInt8):dgV (ofL (dC n::t))=n:=by
 unfold dgV;rw [Ah h,if_pos rfl,xu,q8 h];omega
theorem CD {n:Nat} (h:n<10) (t:List UInt8):dgR (ofL (dC n::t))=ofL t:=by
 unfold dgR;rw [Ah h,if_pos rfl,bn]
theorem Aj {t:List UInt8} (h:nd t):dgV (ofL t)=0∧dgR (ofL t)=ofL t:=by
 unfold dgV dgR;rw [Bl h];exact ⟨rfl,rfl⟩
theorem G4 {t:List UInt8} (h:nd t):nmV (ofL t)=0∧nmR (ofL t)=ofL t:=by
 unfold nmV nmR;rw [(Aj h).2,Bl h];exact ⟨(Aj h).1,rfl⟩
theorem m2 {n:Int} (h0:0≤n) (h1:n≤9) (t:List UInt8):dgV (ofL (dL n++t))=n∧dgR (ofL (dL n++t))=ofL t:=by
 unfold dL;rw [if_pos (by omega)]
 exact ⟨by rw [List.singleton_append,CE (by omega)];omega,CD (by omega) t⟩
theorem iY {n:Int} (h:cp n) {t:List UInt8} (ht:nd t):nmV (ofL (dL n++t))=n∧nmR (ofL (dL n++t))=ofL t:=by
 obtain ⟨h0,h1⟩:=h
 unfold dL nmV nmR
 split
 ·rename_i h2
  rw [List.singleton_append,CD (by omega),CE (by omega),Bl ht]
  exact ⟨by show ((n.toNat:Nat):Int)=n;omega,rfl⟩
 ·show (if dD (dgR (ofL (dC (n.toNat / 10)::dC (n.toNat % 10)::t))) then _ else _)=n∧_
  rw [List.cons_append,List.singleton_append,CD (by omega),CE (by omega),Ah (by omega),if_pos rfl,if_pos rfl,CE (by omega),CD (by omega)]
  exact ⟨by omega,rfl⟩
theorem GF {n:Int} (h:cp n) (t:List UInt8):48≤hL (dL n++t)∧hL (dL n++t)≤57:=by
 obtain ⟨h0,h1⟩:=h
 unfold dL
 split
 ·show 48≤((dC n.toNat).toNat:Int)∧((dC n.toNat).toNat:Int)≤57
  rw [q8 (by omega)];omega
 ·show 48≤((dC (n.toNat / 10)).toNat:Int)∧((dC (n.toNat / 10)).toNat:Int)≤57
  rw [q8 (by omega)];omega
theorem vp {n:Int} (h:cp n):bh n=ofL (dL n):=by
 have key :((List.range 100).all fun k=>(bh (k:Int)).data.toList==dL (k:Int))=true:=by kernel_rfl
 have:=List.all_eq_true.1 key n.toNat (List.mem_range.2 (by have:=h.1;have:=h.2;omega))
 rw [show ((n.toNat:Nat):Int)=n from by have:=h.1;omega] at this
 exact bu (eq_of_beq this)
theorem rb {n:Int} (h0:0≤n) (h1:n≤9):gg n=ofL (dL n):=by
 rw [kH h0 h1];exact vp ⟨h0,by omega⟩
def hwC (h:Int):UInt8:=lets.data.getD h.toNat 0
theorem Fh {h:Int} (h0:0≤h) (h1:h≤10):tC h=ofL [hwC h]:=by
 have key :((List.range 11).all fun k=>(tC (k:Int)).data.toList==[hwC (k:Int)])=true:=by kernel_rfl
 have:=List.all_eq_true.1 key h.toNat (List.mem_range.2 (by omega))
 rw [show ((h.toNat:Nat):Int)=h from by omega] at this
 exact bu (eq_of_beq this)
theorem Fm {h:Int} (h0:0≤h) (h1:h≤10) (t:List UInt8):hwV (ofL (hwC h::t))=h:=by
 unfold hwV;rw [xu]
 have key :((List.range 11).all fun k=>IntKind.u8.wrap (mxI (ixW lets ((hwC (k:Int)).toNat:Int))) ==(k:Int))=true:=by kernel_rfl
 have:=List.all_eq_true.1 key h.toNat (List.mem_range.2 (by omega))
 rw [show ((h.toNat:Nat):Int)=h from by omega] at this
 exact eq_of_beq this
def hoX (x:Int):Nat→Int→Int
 | 0,h=>h
 | k+1,h=>hoX x k (if x==atB lets (10 - k) then 10 - k else h)
theorem AQ (x:UInt8) (t:List UInt8) :∀ (k:Nat) (h:Int),hoF (ofL (x::t)) k h=hoX (x.toNat:Int) k h
 | 0,_=>rfl
 | k+1,h=>by
  show hoF _ k (if tkB _ (atB lets (10 - k)) then _ else _)=hoX _ k _
  rw [dB _ (zP _ _).1,AQ x t k];rfl
theorem Fg {h:Int} (h0:0≤h) (h1:h≤10) (t:List UInt8):hoF (ofL (hwC h::t)) 11 0=h:=by
 rw [AQ]
 have key :((List.range 11).all fun k=>hoX ((hwC (k:Int)).toNat:Int) 11 0 ==(k:Int))=true:=by kernel_rfl
 have:=List.all_eq_true.1 key h.toNat (List.mem_range.2 (by omega))
 rw [show ((h.toNat:Nat):Int)=h from by omega] at this
 exact eq_of_beq this
def okD (d:Delivery):Prop:=aU d=0∧0≤d.Source∧0≤d.How
theorem FJ {d:Delivery} (h:okD d):d.Boundary=0∨d.Boundary=4∨d.Boundary=6:=by
 have h:=h.1
 unfold aU at h
 split at h
 ·cases h
 ·split at h
  ·cases h
  ·rename_i h1 h2
   simp [inW] at h2
   omega
def fI (d:Delivery) (t:List UInt8):List UInt8:=if d.Sub then 115::41::t else 41::t
def gK (d:Delivery) (t:List UInt8):List UInt8:=if d.Second != 0 then 44 ::(dL d.Second++fI d t) else fI d t
def cH (d:Delivery) (t:List UInt8):List UInt8:=if fj d then 40 ::(dL d.Fielder++gK d t) else t
def wkN (d:Delivery):Bool:=d.How==0&&(d.Victim==0&&!fj d)
def wkL (d:Delivery) (t:List UInt8):List UInt8:=if wkN d then t else 47::hwC d.How ::(dL d.Victim++cH d t)
theorem Gl {d:Delivery} (h:okD d) (t:List UInt8):kF d++ofL t=ofL (wkL d t):=by
 obtain ⟨⟨_,_⟩,_,hw,⟨f0,f1⟩,s0,s1⟩:=cu h.1
 obtain ⟨_,_,⟨v0,v1⟩,_⟩:=cC h.1
 have e1:tC d.How=ofL [hwC d.How]:=Fh h.2.2 hw
 have e2:gg d.Victim=ofL (dL d.Victim):=rb v0 (by omega)
 have e3:bh d.Fielder=ofL (dL d.Fielder):=vp ⟨f0,by omega⟩
 have e4:bh d.Second=ofL (dL d.Second):=vp ⟨s0,by omega⟩
 have c1:ByteArray.mk #[47]=ofL [47]:=rfl
 have c2:ByteArray.mk #[40]=ofL [40]:=rfl
 have c3:ByteArray.mk #[44]=ofL [44]:=rfl
 have c4:ByteArray.mk #[115]=ofL [115]:=rfl
 have c5:ByteArray.mk #[41]=ofL [41]:=rfl
 have c6:ByteArray.mk #[]=ofL []:=rfl
 have e:kF d=if wkN d then ⟨#[]⟩ else if fj d then sM d ++⟨#[41]⟩ else pd d:=rfl
 have el:wkL d t=if wkN d then t else 47::hwC d.How ::(dL d.Victim++cH d t):=rfl
 have ew:pd d=ofL (47::hwC d.How::dL d.Victim):=by unfold pd;rw [c1,e1,e2];simp only [ee];rfl
 rw [e,el]
 cases wkN d with
 | true=>rw [if_pos rfl,if_pos rfl,c6,ee];rfl
 | false=>
  rw [if_neg Bool.false_ne_true,if_neg Bool.false_ne_true]
  have el:cH d t=if fj d then 40 ::(dL d.Fielder++gK d t) else t:=rfl
  rw [el]
  cases fj d with
  | false=>rw [if_neg Bool.false_ne_true,if_neg Bool.false_ne_true,ew,ee];rfl
  | true=>
   rw [if_pos rfl,if_pos rfl]
   unfold sM sL w9 gK fI
   rw [ew,e3,e4,c2,c3,c4,c5]
   cases d.Second != 0 <;> cases d.Sub <;> simp [ee]
def hdT (t:List UInt8):Prop:=hL t = -1∨hL t=64
theorem Bn {a b:Int} (h:a≠b) :(a==b)=false:=by simp [h]
theorem DN {d e:Delivery} (h:okD d) {t:List UInt8} (ht:hdT t) (z:e.How=0∧e.Victim=0∧e.Fielder=0∧e.Second=0∧e.Sub=false) :
  wkR (ofL (wkL d t))=ofL t∧wkD e (ofL (wkL d t))={ e with How:=d.How,Victim:=d.Victim,Fielder:=d.Fielder,Second:=d.Second,Sub:=d.Sub }:=by
 obtain ⟨⟨_,_⟩,_,hw,⟨f0,f1⟩,s0,s1⟩:=cu h.1
 obtain ⟨_,_,⟨v0,v1⟩,_⟩:=cC h.1
 obtain ⟨z1,z2,z3,z4,z5⟩:=z
 have htk :∀ c:Int,0≤c→c≠64→tkB (ofL t) c=false:=fun c h0 h1=>by
  rw [dB _ h0];exact Bn (by rcases ht with h|h <;> omega)
 cases hn:wkN d with
 | true=>
  have hl:wkL d t=t:=by unfold wkL;rw [hn];rfl
  unfold wkN fj at hn
  simp at hn
  obtain ⟨a1,a2,a3,a4,a5⟩:=hn
  rw [hl]
  have hg:sK (ofL t)=false:=by unfold sK;rw [htk 47 (by decide) (by decide)];rfl
  unfold wkR wkD wk1
  rw [hg,bc (htk 47 (by decide) (by decide)),a1,a2,a3,a4,a5]
  refine ⟨rfl,?_⟩
  obtain ⟨_,_,_,_,_,_,_,_,_,_,_,_⟩:=e
  simp only at z1 z2 z3 z4 z5
  subst z1 z2 z3 z4 z5
  rfl
 | false=>
  have hl:wkL d t=47::hwC d.How ::(dL d.Victim++cH d t):=by unfold wkL;rw [hn];rfl
  rw [hl]
  have b0:tkB (ofL (47::hwC d.How ::(dL d.Victim++cH d t))) 47=true:=by rw [dB _ (by decide)];rfl
  have w1:wk1 (ofL (47::hwC d.How ::(dL d.Victim++cH d t)))=ofL (hwC d.How ::(dL d.Victim++cH d t)):=by unfold wk1;rw [aK b0,bn]
  have hg:sK (ofL (47::hwC d.How ::(dL d.Victim++cH d t)))=true:=by unfold sK;rw [b0,w1,rh];rfl
  have w2:wk2 (ofL (47::hwC d.How ::(dL d.Victim++cH d t)))=ofL (dL d.Victim++cH d t):=by unfold wk2;rw [w1,bn]
  have w3:wk3 (ofL (47::hwC d.How ::(dL d.Victim++cH d t)))=ofL (cH d t):=by unfold wk3;rw [w2,(m2 v0 (by omega) _).2]
  have w2v:dgV (ofL (dL d.Victim++cH d t))=d.Victim:=(m2 v0 (by omega) _).1
  have wh:hwV (ofL (hwC d.How ::(dL d.Victim++cH d t)))=d.How:=Fm h.2.2 hw _
  generalize hs:ofL (47::hwC d.How ::(dL d.Victim++cH d t))=s at *
  have d1:DM e s={ e with How:=d.How,Victim:=d.Victim }:=by unfold DM;rw [w1,w2,w2v,wh]
  cases ha:fj d with
  | false=>
   have hl:cH d t=t:=by unfold cH;rw [ha];rfl
   rw [hl] at w3
   have b3:tkB (wk3 s) 40=false:=by rw [w3];exact htk 40 (by decide) (by decide)
   unfold fj at ha
   simp at ha
   obtain ⟨a3,a4,a5⟩:=ha
   unfold wkR wkD
   rw [hg,b3,w3,d1,a3,a4,a5]
   refine ⟨rfl,?_⟩
   obtain ⟨_,_,_,_,_,_,_,_,_,_,_,_⟩:=e
   simp only at z1 z2 z3 z4 z5
   subst z1 z2 z3 z4 z5
   rfl
  | true=>
   have hl:cH d t=40 ::(dL d.Fielder++gK d t):=by unfold cH;rw [ha];rfl
   rw [hl] at w3
   have b3:tkB (wk3 s) 40=true:=by rw [w3,dB _ (by decide)];rfl
   have w4:wk4 s=ofL (dL d.Fielder++gK d t):=by unfold wk4;rw [aK b3,w3,bn]
   have h3:hL (fI d t)=115∨hL (fI d t)=41:=by unfold fI;cases d.Sub;exact .inr rfl;exact .inl rfl
   have h2:nd (gK d t):=by
    unfold gK nd
    split
    ·exact .inl (show (44:Int)<48 by decide)
    ·rcases h3 with h|h <;> rw [h] <;> decide
   obtain ⟨n1,n2⟩:=iY ⟨f0,by omega⟩ h2
   have w5:wk5 s=ofL (gK d t):=by unfold wk5;rw [w4,n2]
   have w4v:nmV (wk4 s)=d.Fielder:=by rw [w4,n1]
   have w56:wk6 s=ofL (fI d t)∧(if tkB (wk5 s) 44 then nmV (tl (wk5 s)) else e.Second)=d.Second:=by
    unfold wk6;rw [w5]
    cases hc:d.Second != 0 with
    | true=>
     have hl:gK d t=44 ::(dL d.Second++fI d t):=by unfold gK;rw [hc];rfl
     obtain ⟨n1,n2⟩:=iY (t:=fI d t) ⟨s0,by omega⟩ (by unfold nd;rcases h3 with h|h <;> rw [h] <;> decide)
     have b:tkB (ofL (44 ::(dL d.Second++fI d t))) 44=true:=by rw [dB _ (by decide)];rfl
     rw [hl,b,if_pos rfl,if_pos rfl,bn,n1,n2];exact ⟨rfl,rfl⟩
    | false=>
     have hl:gK d t=fI d t:=by unfold gK;rw [hc];rfl
     have b:tkB (ofL (fI d t)) 44=false:=by rw [dB _ (by decide)];rcases h3 with h|h <;> rw [h] <;> rfl
     simp at hc
     rw [hl,b,z4,hc];exact ⟨rfl,rfl⟩
   obtain ⟨w6,ws⟩:=w56
   have w7:tkB (wk6 s) 115=d.Sub∧wk7 s=ofL (41::t):=by
    unfold wk7;rw [w6];unfold fI
    cases d.Sub with
    | true=>
     have b:tkB (ofL (115::41::t)) 115=true:=by rw [dB _ (by decide)];rfl
     exact ⟨b,by rw [if_pos rfl,aK b,bn]⟩
    | false=>
     have b:tkB (ofL (41::t)) 115=false:=by rw [dB _ (by decide)];rfl
     exact ⟨b,by rw [if_neg (by decide),bc b]⟩
   have w8:tkR (wk7 s) 41=ofL t:=by
    have b:tkB (ofL (41::t)) 41=true:=by rw [dB _ (by decide)];rfl
    rw [w7.2,aK b,bn]
   have d2:Gk e s={ e with How:=d.How,Victim:=d.Victim,Fielder:=d.Fielder,Second:=d.Second,Sub:=d.Sub }:=by
    unfold Gk;rw [d1,w4v,ws,w7.1]
   unfold wkR wkD
   rw [hg,b3,w8,d2]
   exact ⟨rfl,rfl⟩
end Go.Proofs.YtkajjbambnpbiaaGreatDoor
namespace Go.Proofs.YtkajjbambnpbiaaGreatDoor
open Go Go.Mir
attribute [local irreducible] Go.Mir.DT.sat Go.Mir.evPat Go.Mir.RT.sat Go.Mir.evFn
theorem Bx {d e:Delivery} (h:okD d) {t:List UInt8} (ht:hdT t) (z:e.How=0∧e.Victim=0∧e.Fielder=0∧e.Second=0∧e.Sub=false) :
  (if tkB (ofL (wkL d t)) 47 then ouR (tl (ofL (wkL d t))) else ofL (wkL d t))=ofL t∧(if tkB (ofL (wkL d t)) 47 then ouD e (tl (ofL (wkL d t))) else e)={ e with How:=d.How,Victim:=d.Victim,Fielder:=d.Fielder,Second:=d.Second,Sub:=d.Sub }:=by
 obtain ⟨⟨_,_⟩,_,hw,⟨f0,f1⟩,s0,s1⟩:=cu h.1
 obtain ⟨_,_,⟨v0,v1⟩,_⟩:=cC h.1
 obtain ⟨z1,z2,z3,z4,z5⟩:=z
 have htk :∀ c:Int,0≤c→c≠64→tkB (ofL t) c=false:=fun c h0 h1=>by
  rw [dB _ h0];exact Bn (by rcases ht with h|h <;> omega)
 cases hn:wkN d with
 | true=>
  have hl:wkL d t=t:=by unfold wkL;rw [hn];rfl
  unfold wkN fj at hn
  simp at hn
  obtain ⟨a1,a2,a3,a4,a5⟩:=hn
  rw [hl,htk 47 (by decide) (by decide),a1,a2,a3,a4,a5]
  refine ⟨rfl,?_⟩
  obtain ⟨_,_,_,_,_,_,_,_,_,_,_,_⟩:=e
  simp only at z1 z2 z3 z4 z5
  subst z1 z2 z3 z4 z5
  rfl
 | false=>
  have hl:wkL d t=47::hwC d.How ::(dL d.Victim++cH d t):=by unfold wkL;rw [hn];rfl
  rw [hl]
  have b0:tkB (ofL (47::hwC d.How ::(dL d.Victim++cH d t))) 47=true:=by rw [dB _ (by decide)];rfl
  rw [b0,if_pos rfl,if_pos rfl,bn]
  have hg:emp (ofL (hwC d.How ::(dL d.Victim++cH d t)))=false:=by rw [rh];rfl
  have h1:nd (cH d t):=by
   unfold cH nd
   split
   ·exact .inl (show (40:Int)<48 by decide)
   ·rcases ht with h|h <;> rw [h] <;> decide
  obtain ⟨n1,n2⟩:=iY ⟨v0,by omega⟩ h1
  have w1:ou1 (ofL (hwC d.How ::(dL d.Victim++cH d t)))=ofL (cH d t):=by unfold ou1;rw [bn,n2]
  have wh:hoF (ofL (hwC d.How ::(dL d.Victim++cH d t))) 11 e.How=d.How:=by rw [z1];exact Fg h.2.2 hw _
  have d1:Df e (ofL (hwC d.How ::(dL d.Victim++cH d t)))={ e with How:=d.How,Victim:=d.Victim }:=by unfold Df hoD;rw [wh,bn,n1]
  generalize hs:ofL (hwC d.How ::(dL d.Victim++cH d t))=s at *
  cases ha:fj d with
  | false=>
   have hl:cH d t=t:=by unfold cH;rw [ha];rfl
   rw [hl] at w1
   have b3:tkB (ou1 s) 40=false:=by rw [w1];exact htk 40 (by decide) (by decide)
   unfold fj at ha
   simp at ha
   obtain ⟨a3,a4,a5⟩:=ha
   unfold ouR ouD
   rw [hg,b3,w1,d1,a3,a4,a5]
   refine ⟨rfl,?_⟩
   obtain ⟨_,_,_,_,_,_,_,_,_,_,_,_⟩:=e
   simp only at z1 z2 z3 z4 z5
   subst z1 z2 z3 z4 z5
   rfl
  | true=>
   have hl:cH d t=40 ::(dL d.Fielder++gK d t):=by unfold cH;rw [ha];rfl
   rw [hl] at w1
   have b3:tkB (ou1 s) 40=true:=by rw [w1,dB _ (by decide)];rfl
   have h3:hL (fI d t)=115∨hL (fI d t)=41:=by unfold fI;cases d.Sub;exact .inr rfl;exact .inl rfl
   have h2:nd (gK d t):=by
    unfold gK nd
    split
    ·exact .inl (show (44:Int)<48 by decide)
    ·rcases h3 with h|h <;> rw [h] <;> decide
   obtain ⟨n1,n2⟩:=iY ⟨f0,by omega⟩ h2
   have w2:ou2 s=ofL (gK d t):=by unfold ou2;rw [w1,bn,n2]
   have w2v:nmV (tl (ou1 s))=d.Fielder:=by rw [w1,bn,n1]
   have w3s:ou3 s=ofL (fI d t)∧(if tkB (ou2 s) 44 then nmV (tl (ou2 s)) else e.Second)=d.Second:=by
    unfold ou3;rw [w2]
    cases hc:d.Second != 0 with
    | true=>
     have hl:gK d t=44 ::(dL d.Second++fI d t):=by unfold gK;rw [hc];rfl
     obtain ⟨n1,n2⟩:=iY (t:=fI d t) ⟨s0,by omega⟩ (by unfold nd;rcases h3 with h|h <;> rw [h] <;> decide)
     have b:tkB (ofL (44 ::(dL d.Second++fI d t))) 44=true:=by rw [dB _ (by decide)];rfl
     rw [hl,b,if_pos rfl,if_pos rfl,bn,n1,n2];exact ⟨rfl,rfl⟩
    | false=>
     have hl:gK d t=fI d t:=by unfold gK;rw [hc];rfl
     have b:tkB (ofL (fI d t)) 44=false:=by rw [dB _ (by decide)];rcases h3 with h|h <;> rw [h] <;> rfl
     simp at hc
     rw [hl,b,z4,hc];exact ⟨rfl,rfl⟩
   obtain ⟨w3,ws⟩:=w3s
   have w7 :(tkB (ou3 s) 115||e.Sub)=d.Sub∧ou4 s=ofL (41::t):=by
    unfold ou4;rw [w3,z5,Bool.or_false];unfold fI
    cases d.Sub with
    | true=>
     have b:tkB (ofL (115::41::t)) 115=true:=by rw [dB _ (by decide)];rfl
     exact ⟨b,by rw [if_pos rfl,aK b,bn]⟩
    | false=>
     have b:tkB (ofL (41::t)) 115=false:=by rw [dB _ (by decide)];rfl
     exact ⟨b,by rw [if_neg (by decide),bc b]⟩
   have w8:tkR (ou4 s) 41=ofL t:=by
    have b:tkB (ofL (41::t)) 41=true:=by rw [dB _ (by decide)];rfl
    rw [w7.2,aK b,bn]
   have d2:FR e s={ e with How:=d.How,Victim:=d.Victim,Fielder:=d.Fielder,Second:=d.Second,Sub:=d.Sub }:=by
    unfold FR;rw [d1,w2v,ws,w7.1]
   unfold ouR ouD
   rw [hg,b3,w8,d2]
   exact ⟨rfl,rfl⟩
def L8 (d:Delivery):List UInt8:=if decide (d.Sector>0) then 64::dL d.Sector else []
def L7 (d:Delivery):List UInt8:=wkL d (L8 d)
def L6 (d:Delivery):List UInt8:=if d.Crossed then 120::L7 d else L7 d
def L5 (d:Delivery):List UInt8:=if decide (d.Short>0) then 45 ::(dL d.Short++L6 d) else L6 d
def L4 (d:Delivery):List UInt8:=if d.Boundary==4 then 70::L5 d else if d.Boundary==6 then 83::L5 d else L5 d
def L3 (d:Delivery):List UInt8:=if uT d (cP d.Typ d.Source) then dL d.Runs++L4 d else L4 d
def zl (t s:Int):List UInt8:=if s==0 then (if t != 2 then [46] else []) else if s==1 then (if t==2 then [111] else []) else if s==2 then [98] else if s==3 then [108] else []
def DG (t:Int):List UInt8:=if t==2 then [119] else if t==3 then [110] else []
def L2 (d:Delivery):List UInt8:=zl d.Typ d.Source++L3 d
def L1 (d:Delivery):List UInt8:=DG d.Typ++L2 d
theorem F4 (t s:Int):cP t s=ofL (zl t s):=by
 unfold cP zl;repeat' split
 all_goals rfl
theorem Gf (t:Int):l5 t=ofL (DG t):=by
 unfold l5 DG;repeat' split
 all_goals rfl
theorem zN (a b c:ByteArray) :(a++b)++c=a ++(b++c):=bu (by simp [ByteArray.data_append])
theorem qL (b:Bool) (x:ByteArray) (a t:List UInt8):cb b (x++ofL a) x++ofL t=x++ofL (if b then a++t else t):=by
 cases b
 ·rfl
 ·show (x++ofL a)++ofL t=x++ofL (a++t)
  rw [zN,ee]
theorem BE {d:Delivery} (h:okD d):prS d=ofL (L1 d):=by
 obtain ⟨⟨r0,r1⟩,⟨h0,h1⟩,⟨v0,v1⟩,c0,c1⟩:=cC h.1
 have e8:prG d=prF d++ofL (L8 d):=by
  unfold prG L8
  rw [rb c0 (by omega)]
  cases decide (d.Sector>0) with
  | true=>show prF d ++(ofL [64]++ofL (dL d.Sector))=_;rw [ee];rfl
  | false=>show prF d=prF d++ByteArray.mk #[];rw [pk]
 have e7:prF d++ofL (L8 d)=prE d++ofL (L7 d):=by unfold prF L7;rw [zN,Gl h]
 have e6:prE d++ofL (L7 d)=prD d++ofL (L6 d):=qL d.Crossed (prD d) [120] (L7 d)
 have e5:prD d++ofL (L6 d)=prC d++ofL (L5 d):=by
  unfold prD L5
  rw [rb h0 (by omega),show ByteArray.mk #[45]=ofL [45] from rfl,ee,qL];rfl
 have e4:prC d++ofL (L5 d)=prB d++ofL (L4 d):=by
  unfold prC L4
  cases d.Boundary==4 with
  | true=>exact (zN _ _ _).trans (congrArg _ (ee [70] (L5 d)))
  | false=>exact qL (d.Boundary==6) (prB d) [83] (L5 d)
 have e3:prB d++ofL (L4 d)=prA d++ofL (L3 d):=by
  unfold prB L3
  rw [rb r0 (by omega),qL]
 have e:prS d=prG d:=by unfold prS;rw [h.1];rfl
 rw [e,e8,e7,e6,e5,e4,e3]
 unfold prA L1 L2
 rw [F4,Gf,ee,ee,List.append_assoc]
theorem H8 {d:Delivery}:hdT (L8 d):=by
 unfold hdT L8;split
 ·exact .inr rfl
 ·exact .inl rfl
theorem H7 (d:Delivery):hL (L7 d) = -1∨hL (L7 d)=64∨hL (L7 d)=47:=by
 unfold L7 wkL;split
 ·have:=H8 (d:=d);unfold hdT at this;omega
 ·exact .inr (.inr rfl)
theorem H6 (d:Delivery):hL (L6 d) = -1∨hL (L6 d)=64∨hL (L6 d)=47∨hL (L6 d)=120:=by
 unfold L6;split
 ·exact .inr (.inr (.inr rfl))
 ·have:=H7 d;omega
theorem H5 (d:Delivery):hL (L5 d) = -1∨hL (L5 d)=64∨hL (L5 d)=47∨hL (L5 d)=120∨hL (L5 d)=45:=by
 unfold L5;split
 ·exact .inr (.inr (.inr (.inr rfl)))
 ·have:=H6 d;omega
theorem H4 (d:Delivery):hL (L4 d) = -1∨hL (L4 d)=64∨hL (L4 d)=47∨hL (L4 d)=120∨hL (L4 d)=45∨hL (L4 d)=70∨hL (L4 d)=83:=by
 unfold L4;split
 ·exact .inr (.inr (.inr (.inr (.inr (.inl rfl)))))
 ·split
  ·exact .inr (.inr (.inr (.inr (.inr (.inr rfl)))))
  ·have:=H5 d;omega
def FH (x:Int):Prop:=x≠119∧x≠110∧x≠46∧x≠98∧x≠108∧x≠111
theorem H3 {d:Delivery} (h:okD d):FH (hL (L3 d)):=by
 obtain ⟨⟨r0,r1⟩,_⟩:=cC h.1
 unfold L3 FH;split
 ·have:=GF (n:=d.Runs) ⟨r0,by omega⟩ (L4 d);omega
 ·have:=H4 d;omega
theorem H2 {d:Delivery} (h:okD d):hL (L2 d)≠119∧hL (L2 d)≠110:=by
 have h3:=H3 h
 unfold FH at h3
 unfold L2 zl
 repeat' split
 all_goals first
  | exact ⟨h3.1,h3.2.1⟩
  | exact ⟨(by decide :((46:UInt8).toNat:Int)≠119),(by decide :((46:UInt8).toNat:Int)≠110)⟩
  | exact ⟨(by decide :((111:UInt8).toNat:Int)≠119),(by decide :((111:UInt8).toNat:Int)≠110)⟩
  | exact ⟨(by decide :((98:UInt8).toNat:Int)≠119),(by decide :((98:UInt8).toNat:Int)≠110)⟩
  | exact ⟨(by decide :((108:UInt8).toNat:Int)≠119),(by decide :((108:UInt8).toNat:Int)≠110)⟩
theorem bJ {l:List UInt8} {c:Int} (hc:0≤c) (h:hL l≠c):tkB (ofL l) c=false:=by rw [dB _ hc];exact Bn h
theorem fE (x:UInt8) (l:List UInt8):tkB (ofL (x::l)) (x.toNat:Int)=true:=by
 rw [dB _ (Int.natCast_nonneg _)];exact beq_self_eq_true _
theorem rd1 {d:Delivery} (h:okD d):paT (ofL (L1 d))=d.Typ∧pa1 (ofL (L1 d))=ofL (L2 d)∧tkB (ofL (L1 d)) 119 =(d.Typ==2):=by
 obtain ⟨⟨t0,t1⟩,_⟩:=cu h.1
 obtain ⟨h1,h2⟩:=H2 h
 have ht:d.Typ=1∨d.Typ=2∨d.Typ=3:=by omega
 unfold paT pa1 L1 DG
 rcases ht with e|e|e
 ·rw [e]
  have b1:tkB (ofL (L2 d)) 119=false:=bJ (by decide) h1
  have b2:tkB (ofL (L2 d)) 110=false:=bJ (by decide) h2
  show (if tkB (ofL (L2 d)) 119 then (2:Int) else if tkB (ofL (L2 d)) 110 then 3 else 1)=1∧(if tkB (ofL (L2 d)) 119 then _ else tkR (ofL (L2 d)) 110)=_∧tkB (ofL (L2 d)) 119=false
  rw [b1,b2,bc b2];exact ⟨rfl,rfl,rfl⟩
 ·rw [e]
  have b1:tkB (ofL (119::L2 d)) 119=true:=fE 119 _
  show (if tkB (ofL (119::L2 d)) 119 then (2:Int) else if tkB (ofL (119::L2 d)) 110 then 3 else 1)=2∧(if tkB (ofL (119::L2 d)) 119 then tl (ofL (119::L2 d)) else tkR (ofL (119::L2 d)) 110)=_∧tkB (ofL (119::L2 d)) 119=true
  rw [b1,bn];exact ⟨rfl,rfl,rfl⟩
 ·rw [e]
  have b1:tkB (ofL (110::L2 d)) 119=false:=bJ (by decide) (show (110:Int)≠119 by decide)
  have b2:tkB (ofL (110::L2 d)) 110=true:=fE 110 _
  show (if tkB (ofL (110::L2 d)) 119 then (2:Int) else if tkB (ofL (110::L2 d)) 110 then 3 else 1)=3∧(if tkB (ofL (110::L2 d)) 119 then tl (ofL (110::L2 d)) else tkR (ofL (110::L2 d)) 110)=_∧tkB (ofL (110::L2 d)) 119=false
  rw [b1,b2,aK b2,bn];exact ⟨rfl,rfl,rfl⟩
theorem rd2 {d:Delivery} (h:okD d):soV d.Typ (ofL (L2 d))=d.Source∧soR d.Typ (ofL (L2 d))=ofL (L3 d):=by
 obtain ⟨_,s1,_⟩:=cu h.1
 have s0:=h.2.1
 obtain ⟨_,_,n46,n98,n108,n111⟩:=H3 h
 have hs:d.Source=0∨d.Source=1∨d.Source=2∨d.Source=3:=by omega
 have m46:=bJ (l:=L3 d) (by decide) n46
 have m98:=bJ (l:=L3 d) (by decide) n98
 have m108:=bJ (l:=L3 d) (by decide) n108
 have m111:=bJ (l:=L3 d) (by decide) n111
 unfold soV soR L2 zl
 rcases hs with e|e|e|e <;> rw [e]
 ·cases ht:d.Typ==2 with
  | true=>
   have :(d.Typ != 2)=false:=by simp only [bne,ht];rfl
   rw [this]
   show (if tkB (ofL (L3 d)) 98 then (2:Int) else if tkB (ofL (L3 d)) 108 then 3 else if (true&&tkB (ofL (L3 d)) 111) then 1 else 0)=0∧(if tkB (ofL (L3 d)) 98 then _ else if tkB (ofL (L3 d)) 108 then _ else if (true&&tkB (ofL (L3 d)) 111) then _ else ofL (L3 d))=_
   rw [m98,m108,m111];exact ⟨rfl,rfl⟩
  | false=>
   have :(d.Typ != 2)=true:=by simp only [bne,ht];rfl
   rw [this]
   have b1:tkB (ofL (46::L3 d)) 98=false:=bJ (by decide) (show (46:Int)≠98 by decide)
   have b2:tkB (ofL (46::L3 d)) 108=false:=bJ (by decide) (show (46:Int)≠108 by decide)
   have b3:tkB (ofL (46::L3 d)) 46=true:=fE 46 _
   show (if tkB (ofL (46::L3 d)) 98 then (2:Int) else if tkB (ofL (46::L3 d)) 108 then 3 else if tkB (ofL (46::L3 d)) 46 then 0 else 1)=0∧(if tkB (ofL (46::L3 d)) 98 then _ else if tkB (ofL (46::L3 d)) 108 then _ else tkR (ofL (46::L3 d)) 46)=_
   rw [b1,b2,b3,aK b3,bn];exact ⟨rfl,rfl⟩
 ·cases ht:d.Typ==2 with
  | true=>
   have b1:tkB (ofL (111::L3 d)) 98=false:=bJ (by decide) (show (111:Int)≠98 by decide)
   have b2:tkB (ofL (111::L3 d)) 108=false:=bJ (by decide) (show (111:Int)≠108 by decide)
   have b3:tkB (ofL (111::L3 d)) 111=true:=fE 111 _
   show (if tkB (ofL (111::L3 d)) 98 then (2:Int) else if tkB (ofL (111::L3 d)) 108 then 3 else if (true&&tkB (ofL (111::L3 d)) 111) then 1 else 0)=1∧(if tkB (ofL (111::L3 d)) 98 then _ else if tkB (ofL (111::L3 d)) 108 then _ else if (true&&tkB (ofL (111::L3 d)) 111) then tl (ofL (111::L3 d)) else _)=_
   rw [b1,b2,b3,bn];exact ⟨rfl,rfl⟩
  | false=>
   show (if tkB (ofL (L3 d)) 98 then (2:Int) else if tkB (ofL (L3 d)) 108 then 3 else if tkB (ofL (L3 d)) 46 then 0 else 1)=1∧(if tkB (ofL (L3 d)) 98 then _ else if tkB (ofL (L3 d)) 108 then _ else tkR (ofL (L3 d)) 46)=_
   rw [m98,m108,m46,bc m46];exact ⟨rfl,rfl⟩
 ·have b1:tkB (ofL (98::L3 d)) 98=true:=fE 98 _
  show (if tkB (ofL (98::L3 d)) 98 then (2:Int) else _)=2∧(if tkB (ofL (98::L3 d)) 98 then tl (ofL (98::L3 d)) else _)=_
  rw [b1,bn];exact ⟨rfl,rfl⟩
 ·have b1:tkB (ofL (108::L3 d)) 98=false:=bJ (by decide) (show (108:Int)≠98 by decide)
  have b2:tkB (ofL (108::L3 d)) 108=true:=fE 108 _
  show (if tkB (ofL (108::L3 d)) 98 then (2:Int) else if tkB (ofL (108::L3 d)) 108 then 3 else _)=3∧(if tkB (ofL (108::L3 d)) 98 then _ else if tkB (ofL (108::L3 d)) 108 then tl (ofL (108::L3 d)) else _)=_
  rw [b1,b2,bn];exact ⟨rfl,rfl⟩
theorem nd4 (d:Delivery):nd (L4 d):=by have:=H4 d;unfold nd;omega
theorem nd6 (d:Delivery):nd (L6 d):=by have:=H6 d;unfold nd;omega
theorem rd3 {d:Delivery} (h:okD d) :(dgV (ofL (L3 d))=d.Runs∧dgR (ofL (L3 d))=ofL (L4 d))∧nmV (ofL (L3 d))=d.Runs∧nmR (ofL (L3 d))=ofL (L4 d):=by
 obtain ⟨⟨r0,r1⟩,_⟩:=cC h.1
 cases hb:uT d (cP d.Typ d.Source) with
 | true=>
  have hl:L3 d=dL d.Runs++L4 d:=by unfold L3;rw [hb];rfl
  rw [hl]
  exact ⟨m2 r0 (by omega) _,iY ⟨r0,by omega⟩ (nd4 d)⟩
 | false=>
  have hl:L3 d=L4 d:=by unfold L3;rw [hb];rfl
  have hr:d.Runs=0:=by
   unfold uT at hb
   simp only [Bool.or_eq_false_iff,decide_eq_false_iff_not] at hb
   omega
  rw [hl,hr]
  exact ⟨Aj (nd4 d),G4 (nd4 d)⟩
theorem rd4 {d:Delivery} (h:okD d) :(if tkB (ofL (L4 d)) 70 then (4:Int) else if tkB (ofL (L4 d)) 83 then 6 else 0)=d.Boundary∧(if tkB (ofL (L4 d)) 70 then tl (ofL (L4 d)) else tkR (ofL (L4 d)) 83)=ofL (L5 d):=by
 have h5:=H5 d
 rcases FJ h with e|e|e
 ·have hl:L4 d=L5 d:=by unfold L4;rw [e];rfl
  have b1:tkB (ofL (L5 d)) 70=false:=bJ (by decide) (by omega)
  have b2:tkB (ofL (L5 d)) 83=false:=bJ (by decide) (by omega)
  rw [hl,b1,b2,bc b2,e];exact ⟨rfl,rfl⟩
 ·have hl:L4 d=70::L5 d:=by unfold L4;rw [e];rfl
  have b1:tkB (ofL (70::L5 d)) 70=true:=fE 70 _
  rw [hl,b1,bn,e];exact ⟨rfl,rfl⟩
 ·have hl:L4 d=83::L5 d:=by unfold L4;rw [e];rfl
  have b1:tkB (ofL (83::L5 d)) 70=false:=bJ (by decide) (show (83:Int)≠70 by decide)
  have b2:tkB (ofL (83::L5 d)) 83=true:=fE 83 _
  rw [hl,b1,b2,aK b2,bn,e];exact ⟨rfl,rfl⟩
theorem rd5 {d:Delivery} (h:okD d) :((if tkB (ofL (L5 d)) 45 then dgV (tl (ofL (L5 d))) else 0)=d.Short∧(if tkB (ofL (L5 d)) 45 then dgR (tl (ofL (L5 d))) else ofL (L5 d))=ofL (L6 d))∧((if tkB (ofL (L5 d)) 45 then nmV (tl (ofL (L5 d))) else 0)=d.Short∧(if tkB (ofL (L5 d)) 45 then nmR (tl (ofL (L5 d))) else ofL (L5 d))=ofL (L6 d)):=by
 obtain ⟨_,⟨r0,r1⟩,_⟩:=cC h.1
 have h6:=H6 d
 by_cases hb:d.Short>0
 ·have hl:L5 d=45 ::(dL d.Short++L6 d):=by unfold L5;rw [decide_eq_true hb];rfl
  have b1:tkB (ofL (45 ::(dL d.Short++L6 d))) 45=true:=fE 45 _
  have a:=m2 r0 (by omega) (L6 d)
  have b:=iY ⟨r0,by omega⟩ (nd6 d)
  rw [hl,b1,bn,a.1,a.2,b.1,b.2];exact ⟨⟨rfl,rfl⟩,rfl,rfl⟩
 ·have hl:L5 d=L6 d:=by unfold L5;rw [decide_eq_false hb];rfl
  have b1:tkB (ofL (L6 d)) 45=false:=bJ (by decide) (by omega)
  have hr:d.Short=0:=by omega
  rw [hl,b1,hr];exact ⟨⟨rfl,rfl⟩,rfl,rfl⟩
theorem rd6 (d:Delivery):tkB (ofL (L6 d)) 120=d.Crossed∧tkR (ofL (L6 d)) 120=ofL (L7 d):=by
 have h7:=H7 d
 unfold L6
 cases d.Crossed with
 | true=>
  have b1:tkB (ofL (120::L7 d)) 120=true:=fE 120 _
  rw [if_pos rfl,b1,aK b1,bn];exact ⟨rfl,rfl⟩
 | false=>
  have b1:tkB (ofL (L7 d)) 120=false:=bJ (by decide) (by omega)
  rw [if_neg Bool.false_ne_true,b1,bc b1];exact ⟨rfl,rfl⟩
theorem rd8 {d:Delivery} (h:okD d) :(if tkB (ofL (L8 d)) 64 then dgV (tl (ofL (L8 d))) else 0)=d.Sector∧(if tkB (ofL (L8 d)) 64 then nmV (tl (ofL (L8 d))) else 0)=d.Sector:=by
 obtain ⟨_,_,_,r0,r1⟩:=cC h.1
 by_cases hb:d.Sector>0
 ·have hl:L8 d=64 ::(dL d.Sector++[]):=by unfold L8;rw [decide_eq_true hb,List.append_nil];rfl
  have b1:tkB (ofL (64 ::(dL d.Sector++[]))) 64=true:=fE 64 _
  have a:=m2 r0 (by omega) []
  have b:=iY (n:=d.Sector) (t:= []) ⟨r0,by omega⟩ (.inl (by decide))
  rw [hl,b1,bn,a.1,b.1];exact ⟨rfl,rfl⟩
 ·have hl:L8 d=[]:=by unfold L8;rw [decide_eq_false hb];rfl
  have b1:tkB (ofL []) 64=false:=bJ (by decide) (show (-1:Int)≠64 by decide)
  have hr:d.Sector=0:=by omega
  rw [hl,b1,hr];exact ⟨rfl,rfl⟩
theorem FS {d:Delivery} (h:okD d):jL (ofL (L1 d))=d:=by
 obtain ⟨a1,a2,_⟩:=rd1 h
 obtain ⟨b1,b2⟩:=rd2 h
 obtain ⟨⟨c1,c2⟩,_⟩:=rd3 h
 obtain ⟨d1,d2⟩:=rd4 h
 obtain ⟨⟨e1,e2⟩,_⟩:=rd5 h
 obtain ⟨f1,f2⟩:=rd6 d
 obtain ⟨g1,_⟩:=rd8 h
 generalize hs:ofL (L1 d)=s at *
 have p2:pa2 s=ofL (L3 d):=by unfold pa2;rw [a1,a2,b2]
 have p3:pa3 s=ofL (L4 d):=by unfold pa3;rw [p2,c2]
 have p4:pa4 s=ofL (L5 d):=by unfold pa4;rw [p3,d2]
 have p5:pa5 s=ofL (L6 d):=by unfold pa5;rw [p4,e2]
 have p6:pa6 s=ofL (L7 d):=by unfold pa6;rw [p5,f2]
 have pD:paD s={ d with How:=0,Victim:=0,Fielder:=0,Second:=0,Sub:=false,Sector:=0 }:=by
  unfold paD;rw [a1,a2,b1,p2,c1,p3,d1,p4,e1,p5,f1]
 have w:=DN (e:=paD s) h (H8 (d:=d)) (by rw [pD];exact ⟨rfl,rfl,rfl,rfl,rfl⟩)
 have p7:pa7 s=ofL (L8 d):=by unfold pa7;rw [p6];exact w.1
 have pW:paW s={ d with Sector:=0 }:=by unfold paW;rw [p6];refine w.2.trans ?_;rw [pD]
 unfold jL;rw [p7,pW,g1]
theorem Fe {d:Delivery} (h:okD d):gQ (ofL (L1 d))=d:=by
 obtain ⟨a1,a2,a3⟩:=rd1 h
 obtain ⟨_,s1,_⟩:=cu h.1
 obtain ⟨_,⟨c1,c2⟩⟩:=rd3 h
 obtain ⟨d1,d2⟩:=rd4 h
 obtain ⟨_,e1,e2⟩:=rd5 h
 obtain ⟨f1,f2⟩:=rd6 d
 obtain ⟨_,g1⟩:=rd8 h
 have b:gsV (ofL (L1 d))=d.Source∧gs2 (ofL (L1 d))=ofL (L3 d):=by
  have s0:=h.2.1
  obtain ⟨_,_,n46,n98,n108,n111⟩:=H3 h
  have hs:d.Source=0∨d.Source=1∨d.Source=2∨d.Source=3:=by omega
  have m46:=bJ (l:=L3 d) (by decide) n46
  have m98:=bJ (l:=L3 d) (by decide) n98
  have m108:=bJ (l:=L3 d) (by decide) n108
  have m111:=bJ (l:=L3 d) (by decide) n111
  unfold gsV gs2 gs0
  rw [a2,a3]
  unfold L2 zl
  rcases hs with e|e|e|e <;> rw [e]
  ·cases ht:d.Typ==2 with
   | true=>
    have :(d.Typ != 2)=false:=by simp only [bne,ht];rfl
    rw [this]
    show (if tkB (ofL (L3 d)) 46 then (0:Int) else if tkB (ofL (L3 d)) 98 then 2 else if tkB (ofL (L3 d)) 108 then 3 else if tkB (ofL (L3 d)) 111 then 1 else 0)=0∧(if tkB (ofL (L3 d)) 46 then _ else if tkB (ofL (L3 d)) 98 then _ else if tkB (ofL (L3 d)) 108 then _ else tkR (ofL (L3 d)) 111)=_
    rw [m46,m98,m108,m111,bc m111];exact ⟨rfl,rfl⟩
   | false=>
    have :(d.Typ != 2)=true:=by simp only [bne,ht];rfl
    rw [this]
    have b3:tkB (ofL (46::L3 d)) 46=true:=fE 46 _
    show (if tkB (ofL (46::L3 d)) 46 then (0:Int) else _)=0∧(if tkB (ofL (46::L3 d)) 46 then tl (ofL (46::L3 d)) else _)=_
    rw [b3,bn];exact ⟨rfl,rfl⟩
  ·cases ht:d.Typ==2 with
   | true=>
    have b0:tkB (ofL (111::L3 d)) 46=false:=bJ (by decide) (show (111:Int)≠46 by decide)
    have b1:tkB (ofL (111::L3 d)) 98=false:=bJ (by decide) (show (111:Int)≠98 by decide)
    have b2:tkB (ofL (111::L3 d)) 108=false:=bJ (by decide) (show (111:Int)≠108 by decide)
    have b3:tkB (ofL (111::L3 d)) 111=true:=fE 111 _
    show (if tkB (ofL (111::L3 d)) 46 then (0:Int) else if tkB (ofL (111::L3 d)) 98 then 2 else if tkB (ofL (111::L3 d)) 108 then 3 else if tkB (ofL (111::L3 d)) 111 then 1 else 0)=1∧(if tkB (ofL (111::L3 d)) 46 then _ else if tkB (ofL (111::L3 d)) 98 then _ else if tkB (ofL (111::L3 d)) 108 then _ else tkR (ofL (111::L3 d)) 111)=_
    rw [b0,b1,b2,b3,aK b3,bn];exact ⟨rfl,rfl⟩
   | false=>
    show (if tkB (ofL (L3 d)) 46 then (0:Int) else if tkB (ofL (L3 d)) 98 then 2 else if tkB (ofL (L3 d)) 108 then 3 else if tkB (ofL (L3 d)) 111 then 1 else 1)=1∧(if tkB (ofL (L3 d)) 46 then _ else if tkB (ofL (L3 d)) 98 then _ else if tkB (ofL (L3 d)) 108 then _ else tkR (ofL (L3 d)) 111)=_
    rw [m46,m98,m108,m111,bc m111];exact ⟨rfl,rfl⟩
  ·have b0:tkB (ofL (98::L3 d)) 46=false:=bJ (by decide) (show (98:Int)≠46 by decide)
   have b1:tkB (ofL (98::L3 d)) 98=true:=fE 98 _
   show (if tkB (ofL (98::L3 d)) 46 then (0:Int) else if tkB (ofL (98::L3 d)) 98 then 2 else _)=2∧(if tkB (ofL (98::L3 d)) 46 then _ else if tkB (ofL (98::L3 d)) 98 then tl (ofL (98::L3 d)) else _)=_
   rw [b0,b1,bn];exact ⟨rfl,rfl⟩
  ·have b0:tkB (ofL (108::L3 d)) 46=false:=bJ (by decide) (show (108:Int)≠46 by decide)
   have b1:tkB (ofL (108::L3 d)) 98=false:=bJ (by decide) (show (108:Int)≠98 by decide)
   have b2:tkB (ofL (108::L3 d)) 108=true:=fE 108 _
   show (if tkB (ofL (108::L3 d)) 46 then (0:Int) else if tkB (ofL (108::L3 d)) 98 then 2 else if tkB (ofL (108::L3 d)) 108 then 3 else _)=3∧(if tkB (ofL (108::L3 d)) 46 then _ else if tkB (ofL (108::L3 d)) 98 then _ else if tkB (ofL (108::L3 d)) 108 then tl (ofL (108::L3 d)) else _)=_
   rw [b0,b1,b2,bn];exact ⟨rfl,rfl⟩
 obtain ⟨b1,p2⟩:=b
 generalize hs:ofL (L1 d)=s at *
 have p3:gs3 s=ofL (L4 d):=by unfold gs3;rw [p2,c2]
 have p4:gs4 s=ofL (L5 d):=by unfold gs4;rw [p3,d2]
 have p5:gs5 s=ofL (L6 d):=by unfold gs5;rw [p4,e2]
 have p6:gs6 s=ofL (L7 d):=by unfold gs6;rw [p5,f2]
 have pD:gsD s={ d with How:=0,Victim:=0,Fielder:=0,Second:=0,Sub:=false,Sector:=0 }:=by
  unfold gsD;rw [a1,b1,p2,c1,p3,d1,p4,e1,p5,f1]
 have w:=Bx (e:=gsD s) h (H8 (d:=d)) (by rw [pD];exact ⟨rfl,rfl,rfl,rfl,rfl⟩)
 have p7:gs7 s=ofL (L8 d):=by unfold gs7;rw [p6];exact w.1
 have pW:gsW s={ d with Sector:=0 }:=by unfold gsW;rw [p6];refine w.2.trans ?_;rw [pD]
 unfold gQ;rw [p7,pW,g1]
theorem u6 (x:Int):0≤IntKind.u8.wrap x:=by
 simp only [IntKind.wrap,IntKind.bits,IntKind.signed]
 simp
 omega
theorem AP (s:ByteArray) :∀ (k:Nat) (h:Int),k≤11→0≤h→0≤hoF s k h
 | 0,_,_,h=>h
 | k+1,x,hk,h=>by
  unfold hoF
  apply AP s k _ (by omega)
  split <;> omega
theorem AU (s:ByteArray):0≤(jL s).How∧0≤(gQ s).How:=by
 constructor
 ·show 0≤(paW s).How
  unfold paW wkD
  split
  ·exact Int.le_refl _
  ·split
   ·exact u6 _
   ·exact u6 _
 ·show 0≤(gsW s).How
  unfold gsW ouD
  have hh :∀ x,0≤(hoD x 11 (gsD s)).How:=fun x=>AP _ 11 0 (Nat.le_refl _) (Int.le_refl _)
  repeat' split
  ·exact hh _
  ·exact hh _
  ·exact hh _
  ·exact Int.le_refl _
theorem B4 (s:ByteArray):0≤(jL s).Source∧0≤(gQ s).Source:=by
 constructor
 ·have :(jL s).Source=soV (paT s) (pa1 s):=by
   show (paW s).Source=_
   unfold paW wkD
   split
   ·rfl
   ·split <;> rfl
  rw [this];unfold soV
  repeat' split
  all_goals decide
 ·have :(gQ s).Source=gsV s:=by
   show (gsW s).Source=_
   unfold gsW ouD
   repeat' split
   all_goals rfl
  rw [this];unfold gsV gs0
  repeat' split
  all_goals decide
theorem xU {s:ByteArray} (h:iz s=false):gQ s=jL s:=by
 unfold iz at h
 simp only [Bool.or_eq_false_iff,Bool.not_eq_false'] at h
 have h1:aU (jL s)=0:=by simpa using h.1
 have ok:okD (jL s):=⟨h1,(B4 s).1,(AU s).1⟩
 have e:prS (jL s)=s:=bu (bytes_eq_iff.1 h.2)
 have:=Fe ok
 rw [←BE ok,e] at this;exact this
theorem CR {s:ByteArray} (h:iU s=false):jL s=gQ s:=by
 unfold iU at h
 simp only [Bool.or_eq_false_iff,Bool.not_eq_false'] at h
 have h1:aU (gQ s)=0:=by simpa using h.1
 have ok:okD (gQ s):=⟨h1,(B4 s).2,(AU s).2⟩
 have e:prS (gQ s)=s:=bu (bytes_eq_iff.1 h.2)
 have:=FS ok
 rw [←BE ok,e] at this;exact this
theorem BA (s:ByteArray):iU s=iz s∧AM s=lW s∧AL s=jb s:=by
 have e:iU s=iz s:=by
  cases h:iz s with
  | false=>rw [←h];unfold iU iz;rw [xU h]
  | true=>
   cases g:iU s with
   | true=>rfl
   | false=>rw [←h,←g];unfold iU iz;rw [CR g]
 refine ⟨e,?_,?_⟩
 ·unfold AM lW;rw [e]
  cases h:iz s with
  | true=>rfl
  | false=>rw [xU h]
 ·unfold AL jb;rw [e]
end Go.Proofs.YtkajjbambnpbiaaGreatDoor
namespace Go.Proofs.YtkajjbambnpbiaaGreatDoor
open Go Go.Mir
attribute [local irreducible] Go.Mir.DT.sat Go.Mir.evPat Go.Mir.RT.sat Go.Mir.evFn
abbrev Rws:Ty:= .slice (.nm .Row)
abbrev Dvs:Ty:= .slice (.nm .Delivery)
abbrev qRw:Pat:=eT [Rws]
abbrev we:Pat:=eT [Dvs,I]
def rdF:List Row→List Delivery→Sum (Int×Unit) (List Delivery×Unit)
 | [],o=> .inr (o,())
 | x::l,o=>if jb x.Symbol != 0 then .inl (4,()) else rdF l (o++[lW x.Symbol])
def Ha (x:Sum (Int×Unit) (List Delivery×Unit)):List Delivery×Int:=match x with | .inl _=>([],4) | .inr y=>(y.1,0)
def eO (l:List Row):List Delivery×Int:=Ha (rdF l [])
def l4 (l:List Row):Prop:=l.length≤4000
def qn:Den (tyP qRw)→List Prop×Den (tyP we):=fun x=>([l4 x.1],((eO x.1).1,(eO x.1).2,()))
abbrev Fi:List (Nat×PB):= [(0,.row 1 (.nm .Delivery))]
abbrev qLr:Pat:=⟨[(4,.c (.osl 0 1)),(9,.h Rws),(10,.h I),(11,.h I)],Fi,2⟩
abbrev qLs:Pat:=⟨[(4,.c (.osl 0 1)),(10,.h Rws),(11,.h I),(12,.h I)],Fi,2⟩
abbrev xLr:List (Lf×Pat):= [(.ret,⟨[(2,.c .nilsl),(3,.h I)],[],0⟩),(.ext 0,⟨[(4,.c (.osl 0 1))],Fi,2⟩)]
abbrev TLr:Type:=List Row×Int×Int×List Delivery×Unit
def iw (x:TLr):Prop:=(x.2.1 =(x.1.length:Int)∧0≤x.2.2.1∧x.2.2.1≤x.2.1∧x.1.length≤4000)∧(x.2.2.2.1.length:Int)≤x.2.2.1
def mG (x:TLr):Nat:=(x.2.1 - x.2.2.1).toNat
def bI (x:TLr):Sum (Int×Unit) (List Delivery×Unit):=rdF (x.1.drop x.2.2.1.toNat) x.2.2.2.1
theorem wu :∀ {l:List Row} {o:List Delivery} {z:Int×Unit},rdF l o = .inl z→z =(4,())
 | [],_,_,h=>by cases h
 | x::l,o,z,h=>by
  unfold rdF at h
  split at h
  ·cases h;rfl
  ·exact wu h
theorem wG (s:ByteArray) :(evPat (aB [tN,tM] Tryz.f56) (fun _=>none) Tryz.f56 qS1 wc (s,())).sat fun z_=>z_ =(l3 (s,())).2:=by
 refine cast (by kernel_rfl) (?_:let r1:Delivery:=Delivery.mk (gsW s).1 (gsW s).2 (gsW s).3 (gsW s).4 (gsW s).5 (gsW s).6 (gsW s).7 (gsW s).8 (gsW s).9 (gsW s).10 (gsW s).11 (if tkB (gs7 s) (64:Int)=true then nmV (tl (gs7 s)) else (gsW s).12);let r2:Bool:=bif aU r1 !=(0:Int) then true else !(prS r1).toList==s.toList;(r2=true→(Delivery.mk (0:Int) (0:Int) (0:Int) (0:Int) (0:Int) false (0:Int) (0:Int) (0:Int) (0:Int) false (0:Int),(4:Int),()) =(lW s,jb s,()))∧(r2=false→(r1,(0:Int),()) =(lW s,jb s,())))
 intro r1 r2
 clear_value (hr1:r1=_) (hr2:r2=_)
 obtain ⟨g1,g2,g3⟩:=BA s
 rw [show lW s=AM s from g2.symm,show jb s=AL s from g3.symm]
 have e1:r1=gQ s:=hr1
 have e2:r2=iU s:=by rw [hr2,e1];unfold iU;cases aU (gQ s) != 0 <;> rfl
 refine ⟨fun h=>?_,fun h=>?_⟩
 ·rw [e2] at h;unfold AM AL;rw [h];rfl
 ·rw [e2] at h;unfold AM AL;rw [h,e1];rfl
def nK:FuncId×Ctr:=(56,ae KE qS1 wc l3)
theorem qb:CtrOK Tryz.prog KE 56 (ae KE qS1 wc l3):=by
 refine aJ (C:=aB [tN,tM] Tryz.f56) (ay (.consU yY rfl (.consU yX rfl .nil)) _) mixed (fn:=Tryz.f56) Tryz.func56 (by kernel_rfl) (by kernel_rfl) (by kernel_rfl) (by kernel_rfl) (by kernel_rfl) (by kernel_rfl) (Λ:=fun _ _=>none) ?_ ?_
 ·exact fun _ _ _ _ _ _ _ _ h=>by cases h
 ·rintro ⟨s,⟨⟩⟩ hw hn
  exact wG s
noncomputable def lpLr:Lp:=(⟨0,aB [rO] Tryz.f19,(fun _=>none),(cN Tryz.f19 0),qLr,xLr⟩:Lp)
theorem F7 (xs:List Row) (n:Int) (i:Int) (o:List Delivery) (hi:iw (xs,n,i,o,())) :(Go.Mir.stepG lpLr bI (fun y:Den (tyP lpLr.q)=>iw y∧mG y<mG (xs,n,i,o,())) (xs,n,i,o,())∧Go.Mir.stepE lpLr bI (xs,n,i,o,())=bI (xs,n,i,o,())):=by
 refine cast (by kernel_rfl) (?_:let r1:List Delivery:= [lW (xs.getD i.toNat (dflt (Ty.nm Nm.Row))).7];let r2:Bool:=jb (xs.getD i.toNat (dflt (Ty.nm Nm.Row))).7 !=(0:Int);((decide (i<n)=true→((0:Int)≤i∧i <(↑xs.length:Int))∧(r2=true→True)∧(r2=false→(o.length+r1.length) *(80:Nat)≤(70368744177664:Nat)∧iw (xs,n,IntKind.i64.wrap (i +(1:Int)),o++r1,())∧mG (xs,n,IntKind.i64.wrap (i +(1:Int)),o++r1,())<mG (xs,n,i,o,())))∧(decide (i<n)=false→True))∧(bif decide (i<n) then bif r2 then Sum.inl ((4:Int),()) else bI (xs,n,IntKind.i64.wrap (i +(1:Int)),o++r1,()) else Sum.inr (o,()))=bI (xs,n,i,o,()))
 intro r1 r2
 clear_value (hr1:r1=_) (hr2:r2=_)
 obtain ⟨⟨h1,h2,h3,h4⟩,h5⟩:=hi
 simp only at h1 h2 h3 h4 h5
 by_cases h:i<n
 ·have e:xs.drop i.toNat=xs.getD i.toNat (dflt (Ty.nm Nm.Row))::xs.drop (i+1).toNat:=re h2 (by omega) _
  have e2:IntKind.i64.wrap (i+1)=i+1:=iA (by omega) (by omega)
  rw [decide_eq_true h,e2,cond_true]
  have hl :(o++r1).length=o.length+1:=by rw [hr1,List.length_append];rfl
  have hl1:r1.length=1:=by rw [hr1];rfl
  refine ⟨⟨fun _=>⟨⟨h2,by omega⟩,fun _=>trivial,fun _=>⟨by omega,⟨⟨h1,by simp only;omega,by simp only;omega,h4⟩,by simp only;omega⟩,by simp only [mG];omega⟩⟩,fun z=>Bool.noConfusion z⟩,?_⟩
  simp only [bI]
  rw [e,hr1,hr2]
  show _=if jb (xs.getD i.toNat (dflt (Ty.nm Nm.Row))).Symbol != 0 then _ else _
  cases jb (xs.getD i.toNat (dflt (Ty.nm Nm.Row))).Symbol != 0 <;> rfl
 ·rw [decide_eq_false h,cond_false]
  refine ⟨⟨fun z=>Bool.noConfusion z,fun _=>trivial⟩,?_⟩
  simp only [bI]
  rw [m4 (l:=xs) (by omega)]
  rfl
noncomputable def Ep:LoopSum:=bL lpLr bI iw
noncomputable def Ea:Nat:=rid (cN Tryz.f19 0)
theorem Fv:LoopOKp Tryz.prog 0 Tryz.f19.ntmps (cN Tryz.f19 0) (bL lpLr bI iw):=
 dG lpLr (ay (.consU ug rfl .nil) _) mixed (fun b hb S hS=>by cases hS) bI iw mG (fun |⟨xs,n,i,o,⟨⟩⟩,hi=>F7 xs n i o hi)
theorem y7 (l:List Row) (hx:l4 l) :(evPat (aB [rO] Tryz.f19) (find [(Ea,Ep)]) Tryz.f19 qRw we (l,())).sat fun z_=>z_ =(qn (l,())).2:=by
 refine cast (by kernel_rfl) (?_:let r1:Bool:=isL (bI (l,(↑l.length:Int),(0:Int),[],()));((ub fun x=>none)∧((↑l.length:Int) =(↑l.length:Int)∧(0:Int)≤(0:Int)∧(0:Int)≤(↑l.length:Int)∧l.length≤(4000:Nat))∧(↑(0:Nat):Int)≤(0:Int))∧(r1=true→([],CP (dflt (I.prod Ty.unit)) (bI (l,(↑l.length:Int),(0:Int),[],()))) =((eO l).1,(eO l).2,()))∧(r1=false→((Fb (dflt ((Ty.nm Nm.Delivery).slice.prod Ty.unit)) (bI (l,(↑l.length:Int),(0:Int),[],()))).1,(0:Int),()) =((eO l).1,(eO l).2,())))
 intro r1
 clear_value (hr1:r1=_)
 have hx:l.length≤4000:=hx
 have e:bI (l,(l.length:Int),0,[],())=rdF l []:=rfl
 rw [e] at hr1 ⊢
 refine ⟨⟨rfl,⟨rfl,Int.le_refl _,by omega,hx⟩,Int.le_refl _⟩,?_⟩
 unfold eO
 cases h:rdF l [] with
 | inl z=>
  rw [h] at hr1
  have e1:r1=true:=hr1
  rw [e1]
  exact ⟨fun _=>(by rw [wu h];rfl),fun z=>Bool.noConfusion z⟩
 | inr z=>
  rw [h] at hr1
  have e1:r1=false:=hr1
  rw [e1]
  exact ⟨fun z=>Bool.noConfusion z,fun _=>rfl⟩
def xC:FuncId×Ctr:=(19,ae KE qRw we qn)
theorem Bs:CtrOK Tryz.prog KE 19 (ae KE qRw we qn):=by
 refine aJ (C:=aB [rO] Tryz.f19) (ay (.consU ug rfl .nil) _) mixed (fn:=Tryz.f19) Tryz.func19 (by kernel_rfl) (by kernel_rfl) (by kernel_rfl) (by kernel_rfl) (by kernel_rfl) (by kernel_rfl) (Λ:=fun x=>find [(Ea,Ep)]) ?_ ?_
 ·rintro ⟨l,⟨⟩⟩ hw hn
  exact LoopsOKp.at (by kernel_rfl) (.cons (by kernel_rfl) (Fv) .nil)
 ·rintro ⟨l,⟨⟩⟩ hw hn
  exact y7 l (hn _ List.mem_cons_self)
noncomputable def lpLs:Lp:=(⟨0,aB [nK] Tryz.f20,(fun _=>none),(cN Tryz.f20 0),qLs,xLr⟩:Lp)
theorem F8 (xs:List Row) (n:Int) (i:Int) (o:List Delivery) (hi:iw (xs,n,i,o,())) :(Go.Mir.stepG lpLs bI (fun y:Den (tyP lpLs.q)=>iw y∧mG y<mG (xs,n,i,o,())) (xs,n,i,o,())∧Go.Mir.stepE lpLs bI (xs,n,i,o,())=bI (xs,n,i,o,())):=by
 refine cast (by kernel_rfl) (?_:let r1:List Delivery:= [lW (xs.getD i.toNat (dflt (Ty.nm Nm.Row))).7];let r2:Bool:=jb (xs.getD i.toNat (dflt (Ty.nm Nm.Row))).7 !=(0:Int);((decide (i<n)=true→((0:Int)≤i∧i <(↑xs.length:Int))∧(r2=true→True)∧(r2=false→(o.length+r1.length) *(80:Nat)≤(70368744177664:Nat)∧iw (xs,n,IntKind.i64.wrap (i +(1:Int)),o++r1,())∧mG (xs,n,IntKind.i64.wrap (i +(1:Int)),o++r1,())<mG (xs,n,i,o,())))∧(decide (i<n)=false→True))∧(bif decide (i<n) then bif r2 then Sum.inl ((4:Int),()) else bI (xs,n,IntKind.i64.wrap (i +(1:Int)),o++r1,()) else Sum.inr (o,()))=bI (xs,n,i,o,()))
 intro r1 r2
 clear_value (hr1:r1=_) (hr2:r2=_)
 obtain ⟨⟨h1,h2,h3,h4⟩,h5⟩:=hi
 simp only at h1 h2 h3 h4 h5
 by_cases h:i<n
 ·have e:xs.drop i.toNat=xs.getD i.toNat (dflt (Ty.nm Nm.Row))::xs.drop (i+1).toNat:=re h2 (by omega) _
  have e2:IntKind.i64.wrap (i+1)=i+1:=iA (by omega) (by omega)
  rw [decide_eq_true h,e2,cond_true]
  have hl :(o++r1).length=o.length+1:=by rw [hr1,List.length_append];rfl
  have hl1:r1.length=1:=by rw [hr1];rfl
  refine ⟨⟨fun _=>⟨⟨h2,by omega⟩,fun _=>trivial,fun _=>⟨by omega,⟨⟨h1,by simp only;omega,by simp only;omega,h4⟩,by simp only;omega⟩,by simp only [mG];omega⟩⟩,fun z=>Bool.noConfusion z⟩,?_⟩
  simp only [bI]
  rw [e,hr1,hr2]
  show _=if jb (xs.getD i.toNat (dflt (Ty.nm Nm.Row))).Symbol != 0 then _ else _
  cases jb (xs.getD i.toNat (dflt (Ty.nm Nm.Row))).Symbol != 0 <;> rfl
 ·rw [decide_eq_false h,cond_false]
  refine ⟨⟨fun z=>Bool.noConfusion z,fun _=>trivial⟩,?_⟩
  simp only [bI]
  rw [m4 (l:=xs) (by omega)]
  rfl
noncomputable def Er:LoopSum:=bL lpLs bI iw
noncomputable def Ee:Nat:=rid (cN Tryz.f20 0)
theorem Fw:LoopOKp Tryz.prog 0 Tryz.f20.ntmps (cN Tryz.f20 0) (bL lpLs bI iw):=
 dG lpLs (ay (.consU qb rfl .nil) _) mixed (fun b hb S hS=>by cases hS) bI iw mG (fun |⟨xs,n,i,o,⟨⟩⟩,hi=>F8 xs n i o hi)
theorem wE (l:List Row) (hx:l4 l) :(evPat (aB [nK] Tryz.f20) (find [(Ee,Er)]) Tryz.f20 qRw we (l,())).sat fun z_=>z_ =(qn (l,())).2:=by
 refine cast (by kernel_rfl) (?_:let r1:Bool:=isL (bI (l,(↑l.length:Int),(0:Int),[],()));((ub fun x=>none)∧((↑l.length:Int) =(↑l.length:Int)∧(0:Int)≤(0:Int)∧(0:Int)≤(↑l.length:Int)∧l.length≤(4000:Nat))∧(↑(0:Nat):Int)≤(0:Int))∧(r1=true→([],CP (dflt (I.prod Ty.unit)) (bI (l,(↑l.length:Int),(0:Int),[],()))) =((eO l).1,(eO l).2,()))∧(r1=false→((Fb (dflt ((Ty.nm Nm.Delivery).slice.prod Ty.unit)) (bI (l,(↑l.length:Int),(0:Int),[],()))).1,(0:Int),()) =((eO l).1,(eO l).2,())))
 intro r1
 clear_value (hr1:r1=_)
 have hx:l.length≤4000:=hx
 have e:bI (l,(l.length:Int),0,[],())=rdF l []:=rfl
 rw [e] at hr1 ⊢
 refine ⟨⟨rfl,⟨rfl,Int.le_refl _,by omega,hx⟩,Int.le_refl _⟩,?_⟩
 unfold eO
 cases h:rdF l [] with
 | inl z=>
  rw [h] at hr1
  have e1:r1=true:=hr1
  rw [e1]
  exact ⟨fun _=>(by rw [wu h];rfl),fun z=>Bool.noConfusion z⟩
 | inr z=>
  rw [h] at hr1
  have e1:r1=false:=hr1
  rw [e1]
  exact ⟨fun z=>Bool.noConfusion z,fun _=>rfl⟩
def tK:FuncId×Ctr:=(20,ae KE qRw we qn)
theorem yV:CtrOK Tryz.prog KE 20 (ae KE qRw we qn):=by
 refine aJ (C:=aB [nK] Tryz.f20) (ay (.consU qb rfl .nil) _) mixed (fn:=Tryz.f20) Tryz.func20 (by kernel_rfl) (by kernel_rfl) (by kernel_rfl) (by kernel_rfl) (by kernel_rfl) (by kernel_rfl) (Λ:=fun x=>find [(Ee,Er)]) ?_ ?_
 ·rintro ⟨l,⟨⟩⟩ hw hn
  exact LoopsOKp.at (by kernel_rfl) (.cons (by kernel_rfl) (Fw) .nil)
 ·rintro ⟨l,⟨⟩⟩ hw hn
  exact wE l (hn _ List.mem_cons_self)
end Go.Proofs.YtkajjbambnpbiaaGreatDoor
namespace Go.Mir
open Go.RowKit
inductive Rn (γ:Type) where
 | ok (r:γ)
 | no (w:List Nat)
inductive Tri (α:Type) where
 | lf
 | nd (l:Tri α) (v:Option α) (r:Tri α)
def Tri.get {α:Type} (t:Tri α):Nat→Option α:=
 match t with
 | .lf=>fun _=>none
 | .nd l v r=>fun k=>Nat.casesOn (motive:=fun _=>Option α) k v fun k=>Bool.casesOn (motive:=fun _=>Option α) (Nat.beq (Nat.mod k 2) 0) (r.get (Nat.div k 2)) (l.get (Nat.div k 2))
def IntKind.eqb (a b:IntKind):Bool:=decide (a=b)
mutual
def V.eqb:V→V→Bool
 | .any,.any=>true
 | .int k n,.int k' n'=>decide (k=k')&&decide (n=n')
 | .bool a,.bool b=>decide (a=b)
 | .kb a,.kb b=>decide (a=b)
 | .str s,.str t=>decide (s.data.toList=t.data.toList)
 | .nilptr,.nilptr=>true
 | .ptr h o,.ptr h' o'=>Nat.beq h h'&&Nat.beq o o'
 | .nilsl,.nilsl=>true
 | .esl,.esl=>true
 | .gsl h v e o l,.gsl h' v' e' o' l'=>Nat.beq h h'&&Nat.beq v v'&&Nat.beq e e'&&Nat.beq o o'&&Nat.beq l l'
 | .gp h v o,.gp h' v' o'=>Nat.beq h h'&&Nat.beq v v'&&Nat.beq o o'
 | .mpv h,.mpv h'=>Nat.beq h h'
 | .nilfn,.nilfn=>true
 | .nilmap,.nilmap=>true
 | .fn f cs,.fn f' cs'=>Nat.beq f f'&&s9 cs cs'
 | .agg cs,.agg cs'=>s9 cs cs'
 | .tup cs,.tup cs'=>s9 cs cs'
 | _,_=>false
def s9:List V→List V→Bool
 | [],[]=>true
 | x::xs,y::ys=>V.eqb x y&&s9 xs ys
 | _,_=>false
end
mutual
theorem V.eqb_eq :∀ (x y:V),V.eqb x y=true→x=y
 | .any,y,h=>by cases y <;> simp_all [V.eqb]
 | .int k n,y,h=>by cases y <;> simp_all [V.eqb]
 | .bool _,y,h=>by cases y <;> simp_all [V.eqb]
 | .kb _,y,h=>by cases y <;> simp_all [V.eqb]
 | .hint _ _,y,h=>by cases y <;> simp [V.eqb] at h
 | .str s,y,h=>by
  cases y <;> simp only [V.eqb,Bool.false_eq_true,decide_eq_true_eq] at h
  rename_i t
  have:s=t:=ByteArray.ext (Array.toList_inj.1 h)
  rw [this]
 | .nilptr,y,h=>by cases y <;> simp_all [V.eqb]
 | .ptr _ _,y,h=>by cases y <;> simp_all [V.eqb]
 | .fp _ _ _ _,y,h=>by cases y <;> simp [V.eqb] at h
 | .rp _ _ _ _,y,h=>by cases y <;> simp [V.eqb] at h
 | .nilsl,y,h=>by cases y <;> simp_all [V.eqb]
 | .esl,y,h=>by cases y <;> simp_all [V.eqb]
 | .osl _ _,y,h=>by cases y <;> simp [V.eqb] at h
 | .fsl _ _,y,h=>by cases y <;> simp [V.eqb] at h
 | .gsl _ _ _ _ _,y,h=>by cases y <;> simp_all [V.eqb]
 | .gp _ _ _,y,h=>by cases y <;> simp_all [V.eqb]
 | .mpv _,y,h=>by cases y <;> simp_all [V.eqb]
 | .nilfn,y,h=>by cases y <;> simp_all [V.eqb]
 | .nilmap,y,h=>by cases y <;> simp_all [V.eqb]
 | .fn f cs,y,h=>by
  cases y <;> simp only [V.eqb,Bool.false_eq_true,Bool.and_eq_true,Nat.beq_eq] at h
  rw [h.1,mK _ _ h.2]
 | .agg cs,y,h=>by
  cases y <;> simp only [V.eqb,Bool.false_eq_true] at h
  rw [mK _ _ h]
 | .tup cs,y,h=>by
  cases y <;> simp only [V.eqb,Bool.false_eq_true] at h
  rw [mK _ _ h]
theorem mK :∀ (xs ys:List V),s9 xs ys=true→xs=ys
 | [],[],_=>rfl
 | [],_::_,h=>by simp [s9] at h
 | _::_,[],h=>by simp [s9] at h
 | x::xs,y::ys,h=>by
  simp only [s9,Bool.and_eq_true] at h
  rw [V.eqb_eq _ _ h.1,mK _ _ h.2]
end
def yC:List (V×V)→List (V×V)→Bool
 | [],[]=>true
 |(a,b)::xs,(c,d)::ys=>V.eqb a c&&V.eqb b d&&yC xs ys
 | _,_=>false
theorem xi :∀ (xs ys:List (V×V)),yC xs ys=true→xs=ys
 | [],[],_=>rfl
 | [],_::_,h=>by simp [yC] at h
 | _::_,[],h=>by simp [yC] at h
 |(a,b)::xs,(c,d)::ys,h=>by
  simp only [yC,Bool.and_eq_true] at h
  rw [V.eqb_eq _ _ h.1.1,V.eqb_eq _ _ h.1.2,xi _ _ h.2]
end Go.Mir
namespace Go.Mir
open Go.RowKit
variable {P:Program}
def Ob.chk:Ob→Bool
 | .rng n len=>decide (0≤n)&&decide (n <(len:Int))
 | .sub l h len=>decide (0≤l)&&decide (l≤h)&&decide (h≤(len:Int))
 | .mk n c=>decide (0≤n)&&decide (c=n)&&decide (n≤17179869184)
 | .mkc n c=>decide (0≤n)&&decide (n≤c)&&decide (c≤17179869184)
 | .ne0 n=>!decide (n=0)
 | .leN a b=>Nat.ble a b
 | .prop _=>false
theorem Ob.chk_holds :∀ {p:Ob},p.chk=true→p.holds
 | .rng n len,h=>by simpa [Ob.chk,Ob.holds] using h
 | .sub l h len,hh=>by simp only [Ob.chk,Bool.and_eq_true,decide_eq_true_eq] at hh;exact ⟨hh.1.1,hh.1.2,hh.2⟩
 | .mk n c,h=>by simp only [Ob.chk,Bool.and_eq_true,decide_eq_true_eq] at h;exact ⟨h.1.1,h.1.2,h.2⟩
 | .mkc n c,h=>by simp only [Ob.chk,Bool.and_eq_true,decide_eq_true_eq] at h;exact ⟨h.1.1,h.1.2,h.2⟩
 | .ne0 n,h=>by simpa [Ob.chk,Ob.holds] using h
 | .leN a b,h=>Nat.le_of_ble_eq_true h
def fZ:V→V
 | .bool b=> .kb b
 | v=>v
structure RS where
 tm:Tri V
 hp:Tri Blk
 nx:Nat
abbrev zy:=FuncId→List V→Tri Blk→Nat→Rn (V×Tri Blk×Nat)
def jg (r:Res):Option (List Ob×V×List (Nat×Blk)):=match r with
 | .val ps v dh=>some (ps,v,dh)
 | _=>none
abbrev R1:=Option (List Ob×V×List (Nat×Blk))
def wq (tb:Tbl) (H:aj) (ev:Operand→V) (t:TypeId) (a x:Operand):R1:=match tb t with
 | some td=>match b9 td H (ev a) (ev x) with
  | .skip ps dh=>some (ps,.tup [],dh)
  | _=>none
 | none=>none
def qi (ev:Operand→V) (x:Operand):R1:=some ([],ev x,[])
def D8 (ev:Operand→V) (c a b:Operand):R1:=jg (lK (ev c) (ev a) (ev b))
def wi (tb:Tbl) (m:Nat) (t:TypeId):R1:=match tb t with|some td=>some ([],.ptr m 0,[(m,.cells td.zero)])|none=>none
def FX (m:Nat) (ev:Operand→V) (x:Operand):R1:=match cellsOf (ev x) with|some cs=>some ([],.ptr m 0,[(m,.cells cs)])|none=>none
def wj (tb:Tbl) (ev:Operand→V) (t:TypeId) (parts:Array (Nat×Operand)):R1:=match tb t with|some td=>jg (jo tb td (parts.toList.map fun p=>(p.1,ev p.2)))|none=>none
def jf (tb:Tbl) (m:Nat) (H:aj) (ev:Operand→V) (t:TypeId) (n:Nat) (parts:Array (Nat×Operand)):R1:=match tb t with|some td=>jg (ca tb td H m n (parts.toList.map fun p=>(p.1,ev p.2)))|none=>none
def BJ (tb:Tbl) (H:aj) (ev:Operand→V) (t:TypeId) (a:Operand):R1:=match tb t with|some td=>jg (dw td H (ev a))|none=>none
def G9 (ev:Operand→V) (x:Operand):R1:=jg (tj (ev x))
def FW (tb:Tbl) (ev:Operand→V) (op:BinOp) (t:TypeId) (x y:Operand):R1:=match tb t with|some td=>jg (dF td op (ev x) (ev y))|none=>none
def rUn (ev:Operand→V) (op:UnOp) (x:Operand):R1:=jg (Au op (ev x))
def BG (tb:Tbl) (m:Nat) (ev:Operand→V) (s d:TypeId) (x:Operand):R1:=match tb s,tb d with|some ts,some td=>jg (mL tb ts td m (ev x))|_,_=>none
def bg:List V→Bool
 | []=>true
 | .ptr _ _::_=>true
 | _=>false
theorem v8 {asz caps:List V} (h:bg caps=true):lL asz caps=some (asz++caps):=by
 cases caps with
 | nil=>simp [lL]
 | cons c cs=>cases c <;> simp only [bg,Bool.false_eq_true] at h;rfl
theorem wa {f:FuncId} {caps:List V} (h:bg caps=true):lI f [] caps = .val [] (.fn f caps) []:=by
 cases caps with
 | nil=>rfl
 | cons c cs=>cases c <;> simp only [bg,Bool.false_eq_true] at h;rfl
theorem BC {E:Env} {f:FuncId} {caps:List V} {l:Array Value} (h:bg caps=true) (hl:ab E caps l.toList):fnV f l = .func (.func f) #[] l:=by
 obtain ⟨l⟩:=l
 cases caps with
 | nil=>cases l with
  | nil=>rfl
  | cons=>simp [ab] at hl
 | cons c cs=>
  cases c <;> simp only [bg,Bool.false_eq_true] at h
  cases l with
  | nil=>simp [ab] at hl
  | cons v vs=>
   simp only [ab,aa] at hl
   obtain ⟨⟨_,⟨a,rfl⟩,_⟩,_⟩:=hl
   rfl
def BH (ev:Operand→V) (fn:Fn) (first caps:Array Operand):R1:=match fn with
 | .func f=>jg (lI f (first.toList.map ev) (caps.toList.map ev))
 | _=>none
def BK (tb:Tbl) (m:Nat) (H:aj) (ev:Operand→V) (t:TypeId) (l c:Operand):R1:=match tb t with|some td=>jg (eU tb td H m (ev l) (ev c))|none=>none
def wo (tb:Tbl) (H:aj) (ev:Operand→V) (t:TypeId) (x:Operand) (lo hi mx:Option Operand):R1:=match tb t with|some td=>jg (dx tb td H (ev x) (lo.map ev) (hi.map ev) (mx.map ev))|none=>none
def wk (tb:Tbl) (ev:Operand→V) (t:TypeId) (x:Operand) (f:Nat):R1:=match tb t with|some td=>jg (gk tb td (ev x) f)|none=>none
def sm (tb:Tbl) (ev:Operand→V) (t:TypeId) (x:Operand) (f:Nat):R1:=match tb t with|some td=>jg (fm tb td (ev x) f)|none=>none
def wm (tb:Tbl) (H:aj) (ev:Operand→V) (t:TypeId) (x i:Operand):R1:=match tb t with|some td=>jg (cr tb td H (ev x) (ev i))|none=>none
def BI (tb:Tbl) (ev:Operand→V) (t:TypeId) (x i:Operand):R1:=match tb t with|some td=>jg (iJ tb td (ev x) (ev i))|none=>none
def uA (ev:Operand→V) (t:Operand) (i:Nat):R1:=jg (jq (ev t) i)
theorem zm {td:TD} {H:aj} {a x:V} {ps:List Ob} {dh:List (Nat×Blk)} (h:b9 td H a x = .skip ps dh):dy td H a x = .skip ps dh:=by
 unfold dy
 split
 ·rw [h]
 ·exact h
def m7 (tb:Tbl) (N m:Nat) (H:aj) (ev:Operand→V) (op:Op):R1:=match op with
 | .store t a x=>wq tb H ev t a x
 | .move x=>qi ev x
 | .assign x=>qi ev x
 | .pick c a b=>D8 ev c a b
 | .alloc t=>wi tb m t
 | .box _ x=>FX m ev x
 | .build t parts=>wj tb ev t parts
 | .buildSlice t n parts=>jf tb m H ev t n parts
 | .load t a=>BJ tb H ev t a
 | .nilCheck x=>G9 ev x
 | .binOp op t x y _=>FW tb ev op t x y
 | .unOp op _ x=>rUn ev op x
 | .convert s d x=>BG tb m ev s d x
 | .makeFunc fn first caps=>BH ev fn first caps
 | .makeSlice t l c=>BK tb m H ev t l c
 | .slice t x lo hi mx=>wo tb H ev t x lo hi mx
 | .fieldAddr t x f=>wk tb ev t x f
 | .field t x f=>sm tb ev t x f
 | .indexAddr t x i=>wm tb H ev t x i
 | .index t x i=>BI tb ev t x i
 | .extract t i=>uA ev t i
 | op=>ao ⟨tb,fun _=>none,1,N⟩ m H ev op
theorem lG (tb:Tbl) (N m:Nat) (H:aj) (ev:Operand→V) (op:Op) {q:List Ob×V×List (Nat×Blk)} (h:m7 tb N m H ev op=some q):ao ⟨tb,fun _=>none,1,N⟩ m H ev op=some q:=by
 have key :∀ {r:Res},jg r=some q→(match r with | .val ps v dh=>some (ps,v,dh)|_=>none:R1)=some q:=fun {r} h=>by cases r <;> first|exact h|cases h
 cases op <;> simp only [m7] at h <;> simp only [ao,bj,bb]
 case store t a x=>simp only [wq] at h;cases ht:tb t <;> rw [ht] at h <;> simp only [reduceCtorEq] at h ⊢;cases hs:b9 _ H (ev a) (ev x) <;> rw [hs] at h <;> simp only [reduceCtorEq] at h ⊢;rw [zm hs];exact h
 case move=>simpa [qi] using h
 case assign=>simpa [qi] using h
 case pick=>exact key h
 case alloc t=>simp only [wi] at h;cases ht:tb t <;> rw [ht] at h <;> simp only [reduceCtorEq] at h ⊢;exact h
 case box t x=>simp only [FX] at h;cases ht:cellsOf (ev x) <;> rw [ht] at h <;> simp only [reduceCtorEq] at h ⊢;exact h
 case build t parts=>simp only [wj] at h;cases ht:tb t <;> rw [ht] at h <;> simp only [reduceCtorEq] at h ⊢;exact key h
 case buildSlice t n parts=>simp only [jf] at h;cases ht:tb t <;> rw [ht] at h <;> simp only [reduceCtorEq] at h ⊢;exact key h
 case load t a=>simp only [BJ] at h;cases ht:tb t <;> rw [ht] at h <;> simp only [reduceCtorEq] at h ⊢;exact key h
 case nilCheck=>exact key h
 case binOp o t x y t2=>simp only [FW] at h;cases ht:tb t <;> rw [ht] at h <;> simp only [reduceCtorEq] at h ⊢;exact key h
 case unOp=>exact key h
 case convert s d x=>
  simp only [BG] at h
  cases ht:tb s with
  | none=>rw [ht] at h;cases h
  | some ts=>
   rw [ht] at h
   cases ht2:tb d with
   | none=>rw [ht2] at h;cases h
   | some td=>rw [ht2] at h;exact key h
 case makeFunc fn first caps=>
  cases fn <;> simp only [BH,reduceCtorEq] at h
  exact key h
 case makeSlice t l c=>simp only [BK] at h;cases ht:tb t <;> rw [ht] at h <;> simp only [reduceCtorEq] at h ⊢;exact key h
 case slice t x lo hi mx=>simp only [wo] at h;cases ht:tb t <;> rw [ht] at h <;> simp only [reduceCtorEq] at h ⊢;exact key h
 case fieldAddr t x f=>simp only [wk] at h;cases ht:tb t <;> rw [ht] at h <;> simp only [reduceCtorEq] at h ⊢;exact key h
 case field t x f=>simp only [sm] at h;cases ht:tb t <;> rw [ht] at h <;> simp only [reduceCtorEq] at h ⊢;exact key h
 case indexAddr t x i=>simp only [wm] at h;cases ht:tb t <;> rw [ht] at h <;> simp only [reduceCtorEq] at h ⊢;exact key h
 case index t x i=>simp only [BI] at h;cases ht:tb t <;> rw [ht] at h <;> simp only [reduceCtorEq] at h ⊢;exact key h
 case extract=>exact key h
 all_goals (simp only [ao,bj,bb] at h;exact h)
inductive Act1 where
 | plain (r:R1)
 | call (g:FuncId) (args:List V)
def Ab (tb:Tbl) (N m:Nat) (H:aj) (ev:Operand→V) (c:Call):Act1:=match c.callee with
 | .value f=>match ev f with
  | .fn g caps=>bif bg caps then .call g (c.args.toList.map ev++caps) else .plain none
  | _=> .plain none
 | _=> .plain (ao ⟨tb,fun _=>none,1,N⟩ m H ev (.call c))
def evA (tb:Tbl) (N m:Nat) (H:aj) (ev:Operand→V) (op:Op):Act1:=match op with
 | .call c=>Ab tb N m H ev c
 | .store t a x=> .plain (wq tb H ev t a x)
 | .move x=> .plain (qi ev x)
 | .assign x=> .plain (qi ev x)
 | .pick c a b=> .plain (D8 ev c a b)
 | .alloc t=> .plain (wi tb m t)
 | .box _ x=> .plain (FX m ev x)
 | .build t parts=> .plain (wj tb ev t parts)
 | .buildSlice t n parts=> .plain (jf tb m H ev t n parts)
 | .load t a=> .plain (BJ tb H ev t a)
 | .nilCheck x=> .plain (G9 ev x)
 | .binOp op t x y _=> .plain (FW tb ev op t x y)
 | .unOp op _ x=> .plain (rUn ev op x)
 | .convert s d x=> .plain (BG tb m ev s d x)
 | .makeFunc fn first caps=> .plain (BH ev fn first caps)
 | .makeSlice t l c=> .plain (BK tb m H ev t l c)
 | .slice t x lo hi mx=> .plain (wo tb H ev t x lo hi mx)
 | .fieldAddr t x f=> .plain (wk tb ev t x f)
 | .field t x f=> .plain (sm tb ev t x f)
 | .indexAddr t x i=> .plain (wm tb H ev t x i)
 | .index t x i=> .plain (BI tb ev t x i)
 | .extract t i=> .plain (uA ev t i)
 | op=> .plain (ao ⟨tb,fun _=>none,1,N⟩ m H ev op)
theorem yD (tb:Tbl) (N m:Nat) (H:aj) (ev:Operand→V) (op:Op) {q:List Ob×V×List (Nat×Blk)} (h:evA tb N m H ev op = .plain (some q)):ao ⟨tb,fun _=>none,1,N⟩ m H ev op=some q:=by
 cases op
 case call c=>
  simp only [evA,Ab] at h
  split at h
  ·split at h
   ·rename_i caps _
    cases hb:bg caps with
    | true=>rw [hb] at h;cases h
    | false=>rw [hb] at h;cases h
   ·cases h
  ·exact Act1.plain.inj h
 all_goals (exact lG tb N m H ev _ (Act1.plain.inj h))
theorem Ar (tb:Tbl) (N m:Nat) (H:aj) (ev:Operand→V) (op:Op) {g:FuncId} {args:List V} (h:evA tb N m H ev op = .call g args) :∃ c f caps,op = .call c∧c.callee = .value f∧ev f = .fn g caps∧args=c.args.toList.map ev++caps∧bg caps=true:=by
 cases op
 case call c=>
  simp only [evA,Ab] at h
  split at h
  ·rename_i f hf
   split at h
   ·rename_i g' caps he
    cases hb:bg caps with
    | false=>rw [hb] at h;cases h
    | true=>
     rw [hb] at h
     cases h
     exact ⟨c,f,caps,rfl,hf,he,rfl,hb⟩
   ·cases h
  ·cases h
 all_goals (cases h)
def D6 (ps:List Ob):Bool:=List.casesOn (motive:=fun _=>Bool) ps true fun _ _=>ps.all Ob.chk
def An (N:Nat) (ops:List Oper):Bool:=ops.all fun o=>dstIn N o.dst
end Go.Mir
namespace Go.Mir
open Go.RowKit
variable {P:Program}
inductive DoesV (C:Cfg) (alt:Option (Nat×(Blk→Bool))) (all:List Oper) (tm:List (Nat×V)) (H:aj) (m:Nat) (o:Oper):Rec→Prop
 | old {r:Rec}:Does C true all tm H m o r→DoesV C alt all tm H m o r
 | dir {ps:List Ob} {v v':V} {dh:List (Nat×Blk)} {R:List Nat}:dstIn C.N o.dst=true→dz all tm o=some true→ao C m H (aG (af all o) tm) o.op=some (ps,v,dh)→
   (∀ H2:aj,(∀ h∈R,H2 h=H h)→(∀ h0 okB,alt=some (h0,okB)→H2 h0=H h0∨∃ b,H2 h0=some b∧okB b=true)→ao C m H2 (aG (af all o) tm) o.op=ao C m H (aG (af all o) tm) o.op)→(∀ p∈ps,p.holds)→
   (v'=v∨∃ b,v = .bool b∧v' = .kb b)→DoesV C alt all tm H m o ⟨o.dst,v',dh,R,af all o⟩
theorem DoesV.dstIn {C:Cfg} {alt:Option (Nat×(Blk→Bool))} {all:List Oper} {tm:List (Nat×V)} {H:aj} {m:Nat} {o:Oper} {r:Rec} (h:DoesV C alt all tm H m o r):dstIn C.N o.dst=true∧r.dst=o.dst∧r.rs=af all o:=by
 cases h with
 | old h=>exact h.dstIn
 | dir h _ _ _ _ _=>exact ⟨h,rfl,rfl⟩
inductive RunV (Cf:Nat→Cfg) (lo:Nat→Nat) (al:Nat→Option (Nat×(Blk→Bool))) (all:List Oper) (st:St):Nat→List Oper→Dl→List Rec→Dl→List Rec→Prop
 | nil {i:Nat} {d:Dl} {recs:List Rec}:RunV Cf lo al all st i [] d recs d recs
 | cons {i:Nat} {o:Oper} {rest:List Oper} {d:Dl} {recs:List Rec} {r:Rec} {df:Dl} {rf:List Rec}:DoesV (Cf i) (al i) all (d.tm++st.tm) (ak st.H d.hp) (lo i) o r→
   RunV Cf lo al all st (i+1) rest ⟨bq r.dst r.v++d.tm,r.dh++d.hp⟩ (recs++[r]) df rf→RunV Cf lo al all st i (o::rest) d recs df rf
theorem ql {Cf:Nat→Cfg} {lo:Nat→Nat} {al:Nat→Option (Nat×(Blk→Bool))} {all:List Oper} {st:St} :∀ (rest:List Oper) (i:Nat) (d:Dl) (recs:List Rec) (df:Dl) (rf:List Rec),RunV Cf lo al all st i rest d recs df rf→recs.length=i→
  find (d.tm++st.tm) =(recs.map cQ).foldl cj (find st.tm)→ak st.H d.hp =(recs.map Rec.dh).foldl cj st.H→
  (∃ more,rf=recs++more∧more.length=rest.length)∧find (df.tm++st.tm) =(rf.map cQ).foldl cj (find st.tm)∧ak st.H df.hp =(rf.map Rec.dh).foldl cj st.H∧
  ∀ j o,rest[j]?=some o→∃ r tm H,rf[i+j]?=some r∧DoesV (Cf (i+j)) (al (i+j)) all tm H (lo (i+j)) o r∧find tm =((rf.take (i+j)).map cQ).foldl cj (find st.tm)∧H =((rf.take (i+j)).map Rec.dh).foldl cj st.H
 | [],i,d,recs,df,rf,hr,hl,h1,h2=>by
  cases hr
  exact ⟨⟨[],by simp,rfl⟩,h1,h2,fun j o h=>by simp at h⟩
 | o::rest,i,d,recs,df,rf,hr,hl,h1,h2=>by
  cases hr with
  | @cons _ _ _ _ _ r _ _ hdo hrun=>
   obtain ⟨⟨more,e1,e2⟩,g1,g2,g3⟩:=ql rest (i+1) _ _ _ _ hrun (by simp [hl])
    (by rw [List.append_assoc,pG,h1];simp [cQ]) (by rw [bB,h2];simp [jt])
   refine ⟨⟨r::more,by rw [e1];simp,by simp [e2]⟩,g1,g2,fun j o' hj=>?_⟩
   cases j with
   | zero=>
    simp only [List.getElem?_cons_zero,Option.some.injEq] at hj
    subst hj
    have et:rf.take i=recs:=by rw [e1,List.append_assoc,List.take_append_of_le_length (by omega),List.take_of_length_le (by omega)]
    refine ⟨r,_,_,?_,hdo,?_,?_⟩
    ·rw [e1,Nat.add_zero,List.append_assoc,List.getElem?_append_right (by omega)]
     simp [hl]
    ·rw [Nat.add_zero,et];exact h1
    ·rw [Nat.add_zero,et];exact h2
   | succ j=>
    obtain ⟨r',tm,H,k1,k2,k3,k4⟩:=g3 j o' (by simpa using hj)
    rw [show i+1+j=i +(j+1) by omega] at k1 k2 k3 k4
    exact ⟨r',tm,H,k1,k2,k3,k4⟩
structure InvV (Cf:Nat→Cfg) (lo:Nat→Nat) (N:Nat) (B:Base) (E0:Env) (st:St) (rf:List Rec) (L:Nat→Bool) (a:Act) (w:World):Prop where
 ex :∃ E,HRel B E∧E.w=w∧Ext E0 E∧E.H=aZ L st.H 0 (rf.map Rec.dh)∧(∀ n,E.U n→E0.U n∨∃ i,i<rf.length∧L i=true∧lo i≤n∧n<lo i +(Cf i).K)∧cX E (aZ L (find st.tm) 0 (rf.map cQ)) a
 size:a.tmps.size=N
 defers:a.defers=[]
theorem uS {L L':Nat→Bool} {k:Nat} {okB:Blk→Bool} :∀ (us:List (List (Nat×Blk))) (i:Nat) (f f':Nat→Option Blk),(f k=f' k∨∃ b,f k=some b∧okB b=true)→
  (∀ j u,us[j]?=some u→find u k≠none→L (i+j)=L' (i+j)∨(L' (i+j)=false∧∀ b,find u k=some b→okB b=true))→aZ L f i us k=aZ L' f' i us k∨∃ b,aZ L f i us k=some b∧okB b=true
 | [],_,_,_,h,_=>h
 | u::us,i,f,f',h,hu=>by
  unfold aZ
  refine uS us (i+1) _ _ ?_ (fun j u' hj hf=>by
   have:=hu (j+1) u' (by simpa using hj) hf
   rwa [show i +(j+1)=i+1+j by omega] at this)
  cases hf:find u k with
  | none=>
   have e1 :(if L i=true then cj f u else f) k=f k:=by split <;> simp [fi hf]
   have e2 :(if L' i=true then cj f' u else f') k=f' k:=by split <;> simp [fi hf]
   rw [e1,e2]
   exact h
  | some v=>
   rcases hu 0 u (by simp) (by rw [hf];simp) with h1 |⟨h1,h2⟩
   ·simp only [Nat.add_zero] at h1
    rw [h1]
    split
    ·left;rw [dN hf,dN hf]
    ·exact h
   ·simp only [Nat.add_zero] at h1
    rw [h1]
    simp only [Bool.false_eq_true,if_false]
    split
    ·right;exact ⟨v,dN hf,h2 v hf⟩
    ·exact h
theorem yK {Cf:Nat→Cfg} {lo:Nat→Nat} {al:Nat→Option (Nat×(Blk→Bool))} {N:Nat} (hC :∀ i,CfgOK P (Cf i)) (hN :∀ i,(Cf i).N=N) {B:Base} {E0:Env} {all:List Oper} {st:St} {rf:List Rec} (hfr0 :∀ i,i<rf.length→∀ n,lo i≤n→n<lo i +(Cf i).K→¬ E0.U n) (hlo :∀ i j,i<j→j<rf.length→lo i +(Cf i).K≤lo j) {L L':Nat→Bool} {i:Nat} {o:Oper} {r:Rec} (ho:all[i]?=some o) (hr:rf[i]?=some r) (hLi:L i=false) (hL' :∀ j,L' j=if j=i then true else L j)
  {tm:List (Nat×V)} {H:aj} (hdo:DoesV (Cf i) (al i) all tm H (lo i) o r) (htm:find tm=aZ (fun j=>Nat.blt j i) (find st.tm) 0 (rf.map cQ)) (hH:H=aZ (fun j=>Nat.blt j i) st.H 0 (rf.map Rec.dh))
  (hcomm :∀ j s,rf[j]?=some s→(j<i∧L j=false)∨(i<j∧L j=true)→Comm r s) (halt :∀ h0 okB,al i=some (h0,okB)→∀ j s b,rf[j]?=some s→find s.dh h0=some b→(j<i→L j=true)∧(i<j→L j=true→okB b=true)) {Q:Exit→Act→World→Prop} {a:Act} {w:World} (hI:InvV Cf lo N B E0 st rf L a w) {K:Act→World→Prop} (hK :∀ a w,InvV Cf lo N B E0 st rf L' a w→K a w) :
  wpOp P all.toArray Q i K a w:=by
 obtain ⟨⟨E,hE,rfl,hX,hEH,hU,hT⟩,hsz,hdf⟩:=hI
 obtain ⟨hd,he,hrs⟩:=hdo.dstIn
 have hiL:i<rf.length:=(List.getElem?_eq_some_iff.1 hr).1
 have hLsel :∀ {α:Type} (us:List (List (Nat×α))) (f:Nat→Option α) (k:Nat) (g:Rec→List (Nat×α)),us=rf.map g→(∀ j s,rf[j]?=some s→find (g s) k≠none→j≠i→Comm r s→False)→aZ L f 0 us k=aZ (fun j=>Nat.blt j i) f 0 us k:=by
  intro α us f k g hus hno
  refine dS us 0 f f rfl (fun j u hj hu=>?_)
  rw [Nat.zero_add]
  subst hus
  rw [List.getElem?_map] at hj
  cases hs:rf[j]? with
  | none=>rw [hs] at hj;simp at hj
  | some s=>
   rw [hs] at hj
   simp only [Option.map_some,Option.some.injEq] at hj
   subst hj
   by_cases hji:j=i
   ·subst hji
    rw [hLi]
    cases hb:Nat.blt j j with
    | false=>rfl
    | true=>rw [Nat.blt_eq] at hb;omega
   ·rcases Nat.lt_or_gt_of_ne hji with hlt|hgt
    ·have hb:Nat.blt j i=true:=by rw [Nat.blt_eq];exact hlt
     rw [hb]
     cases hLj:L j with
     | true=>rfl
     | false=>exact (hno j s hs hu hji (hcomm j s hs (.inl ⟨hlt,hLj⟩))).elim
    ·have hb:Nat.blt j i=false:=by cases hb:Nat.blt j i with|false=>rfl|true=>rw [Nat.blt_eq] at hb;omega
     rw [hb]
     cases hLj:L j with
     | false=>rfl
     | true=>exact (hno j s hs hu hji (hcomm j s hs (.inr ⟨hgt,hLj⟩))).elim
 have hslot :∀ s∈af all o,aZ L (find st.tm) 0 (rf.map cQ) s=find tm s:=fun s hs=>by
  rw [htm]
  refine hLsel _ _ s cQ rfl (fun j s' hs' hne hji hc=>?_)
  exact hc.sd s (gJ hne) (by rw [hrs];exact hs)
 have hlook :∀ s∈af all o,aa E (bN tm s) (a.tmps.getD s undef):=fun s hs=>by
  unfold bN
  cases hf:find tm s with
  | none=>simp [aa]
  | some v=>exact hT s v (by rw [hslot s hs];exact hf)
 have hL0 :∀ {α:Type} (us:List (List (Nat×α))) (f:Nat→Option α) (g:Rec→List (Nat×α)),us=rf.map g→(∀ j s,i<j→rf[j]?=some s→Comm r s→∀ k,find (g r) k≠none→find (g s) k=none)→aZ L' f 0 us=cj (aZ L f 0 us) (g r):=by
  intro α us f g hus hno
  subst hus
  refine uR (rf.map g) f i (g r) (by rw [List.getElem?_map,hr];rfl) hL' (fun j u hj hu hLj k hk=>?_)
  rw [List.getElem?_map] at hu
  cases hs:rf[j]? with
  | none=>rw [hs] at hu;simp at hu
  | some s=>
   rw [hs] at hu
   simp only [Option.map_some,Option.some.injEq] at hu
   subst hu
   exact hno j s hj hs (hcomm j s hs (.inr ⟨hj,hLj⟩)) k hk
 have none_of :∀ {α:Type} {l:List (Nat×α)} {k:Nat},(k∈l.map (·.1)→False)→find l k=none:=fun {α l k} h=>by
  cases hf:find l k with
  | none=>rfl
  | some v=>exact (h (cM (by rw [hf];simp))).elim
 have hT':aZ L' (find st.tm) 0 (rf.map cQ)=cj (aZ L (find st.tm) 0 (rf.map cQ)) (cQ r):=hL0 _ _ cQ rfl (fun j s _ _ hc k hk=>by
  cases hf:find (cQ s) k with
  | none=>rfl
  | some v=>exact (hc.d k (gJ hk) (gJ (by rw [hf];simp))).elim)
 have hH':aZ L' st.H 0 (rf.map Rec.dh)=cj (aZ L st.H 0 (rf.map Rec.dh)) r.dh:=hL0 _ _ Rec.dh rfl (fun j s _ _ hc k hk=>none_of fun hm=>hc.k k (cM hk) hm)
 have after :∀ (E':Env) (v':Value),GoodK B E (lo i) (Cf i).K r.dh E'.w E'→aa E' r.v v'→InvV Cf lo N B E0 st rf L' (a.put o.dst v') E'.w:=fun E' v' G hv=>by
  refine ⟨⟨E',G.rel,rfl,hX.trans G.ext,by rw [G.h,hH',hEH,jt],fun n hn=>?_,?_⟩,by rw [je];exact hsz,by rw [fB];exact hdf⟩
  ·rcases G.u n hn with h|h
   ·rcases hU n h with h1 |⟨j,h1,h2,h3⟩
    ·exact .inl h1
    ·refine .inr ⟨j,h1,?_,h3⟩
     rw [hL']
     split
     ·rfl
     ·exact h2
   ·exact .inr ⟨i,hiL,by rw [hL',if_pos rfl],h.1,h.2⟩
  ·rw [hT']
   exact si G.ext hT hsz (by rw [←hN i];exact hd) (v:=r.v) hv (fun s u hu=>by
    unfold cj cQ at hu
    rw [he] at hu
    cases hf:find (bq o.dst r.v) s with
    | some x=>rw [hf] at hu;exact .inl hu
    | none=>rw [hf] at hu;exact .inr ⟨rfl,hu⟩)
 unfold wpOp
 simp only [List.getElem?_toArray,ho]
 have hfresh :∀ n,lo i≤n→n<lo i +(Cf i).K→¬ E.U n:=fun n h1 h2 hu=>by
  rcases hU n hu with h3 |⟨j,h3,h4,h5,h6⟩
  ·exact hfr0 i hiL n h1 h2 h3
  ·have hji:j≠i:=fun e=>by subst e;rw [hLi] at h4;cases h4
   rcases Nat.lt_or_gt_of_ne hji with hlt|hgt
   ·have:=hlo j i hlt hiL;omega
   ·have:=hlo i j hgt h3;omega
 cases hdo with
 | @dir ps v v' dh R _ hg hev hcg hps hv=>
  rw [bl hlook hg]
  simp only [if_true]
  left
  have hHR :∀ h∈R,E.H h=H h:=fun h hh=>by
   rw [hEH,hH]
   refine hLsel _ _ h Rec.dh rfl (fun j s hs hne hji hc=>?_)
   exact hc.sk h (cM hne) hh
  have hev2:=hcg E.H hHR (fun h0 okB hal=>by
   have hal:=halt h0 okB hal
   rw [hEH,hH]
   refine uS (rf.map Rec.dh) 0 st.H st.H (.inl rfl) (fun j u hj hu=>?_)
   rw [Nat.zero_add]
   rw [List.getElem?_map] at hj
   cases hs:rf[j]? with
   | none=>rw [hs] at hj;simp at hj
   | some s=>
    rw [hs] at hj
    simp only [Option.map_some,Option.some.injEq] at hj
    subst hj
    rcases Nat.lt_trichotomy j i with hlt|heq|hgt
    ·left
     obtain ⟨b,hb⟩ :∃ b,find s.dh h0=some b:=by
      cases hf:find s.dh h0 with
      | none=>exact absurd hf hu
      | some b=>exact ⟨b,rfl⟩
     rw [(hal j s b hs hb).1 hlt]
     exact (by rw [Nat.blt_eq];exact hlt:Nat.blt j i=true).symm
    ·left
     subst heq
     rw [hLi]
     cases hb:Nat.blt j j with
     | false=>rfl
     | true=>rw [Nat.blt_eq] at hb;omega
    ·have hbf:Nat.blt j i=false:=by cases hb:Nat.blt j i with|false=>rfl|true=>rw [Nat.blt_eq] at hb;omega
     cases hLj:L j with
     | false=>exact .inl hbf.symm
     | true=>exact .inr ⟨hbf,fun b hb=>(hal j s b hs hb).2 hgt hLj⟩)
  rw [hev] at hev2
  have hevm :∀ x,aa E (aG (af all o) tm x) (a.eval x):=fun x=>by
   cases x with
   | tmp t=>
    simp only [aG]
    cases hm:memN (af all o) t with
    | false=>simp [aa]
    | true=>exact hlook t (memN_iff.1 hm)
   | const v=>exact eg v
   | func f=>simp only [aG,aa,Act.eval];exact ⟨#[],rfl,by simp [ab]⟩
   | _=>simp [aG,aa]
  exact cq hE (hC i).tb (hC i).K (hC i).Γ hfresh hevm hev2 hps fun v'' E' G hv'=>by
   have hw:E'.w=E'.w:=rfl
   exact hK _ _ (after E' _ G (zq hv hv'))
 | old hdo=>
 cases hdo with
 | skip _ hg=>
  rw [bl hlook hg]
  simp only [Bool.false_eq_true,if_false]
  exact hK _ _ (after E undef ⟨hE,Ext.refl E,rfl,rfl,fun n h=> .inl h⟩ (by simp [aa,undef,ab]))
 | @dir ps v v' dh _ _ hg hdr hev hps hv=>
  rw [bl hlook hg]
  simp only [if_true]
  left
  have hev2:=pC (C:=Cf i) (m:=lo i) (H1:=E.H) (H2:=H) hdr fun k hk=>by
   rw [hEH,hH]
   refine hLsel _ _ k Rec.dh rfl (fun j s hs hne hji hc=>?_)
   exact hc.sk k (cM hne) hk
  rw [hev] at hev2
  have hevm :∀ x,aa E (aG (af all o) tm x) (a.eval x):=fun x=>by
   cases x with
   | tmp t=>
    simp only [aG]
    cases hm:memN (af all o) t with
    | false=>simp [aa]
    | true=>exact hlook t (memN_iff.1 hm)
   | const v=>exact eg v
   | func f=>simp only [aG,aa,Act.eval];exact ⟨#[],rfl,by simp [ab]⟩
   | _=>simp [aG,aa]
  exact cq hE (hC i).tb (hC i).K (hC i).Γ hfresh hevm hev2 hps fun v'' E' G hv'=>hK _ _ (after E' _ G (zq hv hv'))
 | @run ps v v' dh R _ hg hst hps hv=>
  rw [bl hlook hg]
  simp only [if_true]
  left
  simp only [jl] at hst
  split at hst
  case h_2=>cases hst
  rename_i ps' v2 dh' hev
  cases hfr:eY H (jS H 8 (o.op.operands.toList.flatMap fun x=>(aG (af all o) tm x).hs) []) (lo i) (Cf i).K v2 dh' with
  | false=>rw [hfr] at hst;cases hst
  | true=>
   rw [hfr] at hst
   simp only [cond_true,Option.some.injEq,Prod.mk.injEq] at hst
   obtain ⟨rfl,rfl,rfl,hR⟩:=hst
   rw [hR] at hfr hev
   have hHR :∀ h∈R,E.H h=H h:=fun h hh=>by
    rw [hEH,hH]
    refine hLsel _ _ h Rec.dh rfl (fun j s hs hne hji hc=>?_)
    exact hc.sk h (cM hne) hh
   have hrest:restr H R=restr E.H R:=by
    funext h
    unfold restr
    cases hm:memN R h with
    | false=>rfl
    | true=>simp only [cond_true];exact (hHR h (memN_iff.1 hm)).symm
   simp only [eY,Bool.and_eq_true] at hfr
   obtain ⟨⟨f1,f2⟩,f3⟩:=hfr
   have fR :∀ h∈R,∃ b,H h=some b∧jK R (lo i) (Cf i).K b.hs=true:=fun h hh=>by
    have:=List.all_eq_true.1 f1 h hh
    split at this
    ·rename_i b hb;exact ⟨b,hb,this⟩
    ·cases this
   have hfresh :∀ n,lo i≤n→n<lo i +(Cf i).K→¬ E.U n:=fun n h1 h2 hu=>by
    rcases hU n hu with h3 |⟨j,h3,h4,h5,h6⟩
    ·exact hfr0 i hiL n h1 h2 h3
    ·have hji:j≠i:=fun e=>by subst e;rw [hLi] at h4;cases h4
     rcases Nat.lt_or_gt_of_ne hji with hlt|hgt
     ·have:=hlo j i hlt hiL;omega
     ·have:=hlo i j hgt h3;omega
   have hEs:=hE.restr R
   have Xs:=Ext.restr E R
   rw [hrest] at hev
   have hevm :∀ x,aa { E with H:=Mir.restr E.H R } (aG (af all o) tm x) (a.eval x):=fun x=>by
    cases x with
    | tmp t=>
     simp only [aG]
     cases hm:memN (af all o) t with
     | false=>simp [aa]
     | true=>exact aP Xs _ _ (hlook t (memN_iff.1 hm))
    | const v=>exact eg v
    | func f=>simp only [aG,aa,Act.eval];exact ⟨#[],rfl,by simp [ab]⟩
    | _=>simp [aG,aa]
   exact cq (E:={ E with H:=Mir.restr E.H R }) hEs (hC i).tb (hC i).K (hC i).Γ hfresh hevm hev hps fun v'' Es G hv'=>by
    obtain ⟨E',G',tr⟩:=DW hE hfresh G (fun h hh=>by obtain ⟨b,hb,_⟩:=fR h hh;exact ⟨b,by rw [hHR h hh];exact hb⟩)
     (fun h hh k hk x hx=>by
      obtain ⟨b,hb,hb2⟩:=fR h hh
      rw [hHR h hh,hb] at hk
      cases hk
      exact c8 hb2 x hx)
     (fun h k hk=>by
      have hq:=ag hk
      have:=List.all_eq_true.1 f2 _ hq
      simp only [Bool.and_eq_true] at this
      exact ⟨c8 this.1 h (by simp),c8 this.2⟩)
    have hw:E'.w=Es.w:=G'.w
    have hv2:aa E' v2 v'':=tr _ _ (c8 f3) hv'
    have:=hK _ _ (after E' _ (by rw [hw];exact G') (zq hv hv2))
    rw [hw] at this
    exact this
def AltOK (al:Nat→Option (Nat×(Blk→Bool))) (ms:List Nat) (rf:List Rec):Prop:=∀ i h0 okB,al i=some (h0,okB)→∀ j s b,rf[j]?=some s→find s.dh h0=some b→j≠i→
 (j<i→((ms[i]?).getD 0).testBit j=true)∧(i<j→((ms[j]?).getD 0).testBit i=true∨okB b=true)
theorem AltOK.none {ms:List Nat} {rf:List Rec}:AltOK (fun _=>Option.none) ms rf:=fun i h0 okB h=>by cases h
theorem yw {Cf:Nat→Cfg} {lo:Nat→Nat} {al:Nat→Option (Nat×(Blk→Bool))} {N:Nat} (hC :∀ i,CfgOK P (Cf i)) (hN :∀ i,(Cf i).N=N) {B:Base} {E0:Env} {all:List Oper} {st:St} {df:Dl} {rf:List Rec} (hrun:RunV Cf lo al all st 0 all ⟨[],[]⟩ [] df rf) (hE:bW 0 all=true) (hck:cV (bf all []) 0 rf=true) (hal:AltOK al (bf all []) rf) {Q:Exit→Act→World→Prop}
  (hfr0 :∀ i,i<all.length→∀ n,lo i≤n→n<lo i +(Cf i).K→¬ E0.U n) (hlo :∀ i j,i<j→j<all.length→lo i +(Cf i).K≤lo j)
  (hQ :∀ E a,HRel B E→Ext E0 E→E.H=ak st.H df.hp→(∀ n,E.U n→E0.U n∨∃ i,i<all.length∧lo i≤n∧n<lo i +(Cf i).K)→cX E (find (df.tm++st.tm)) a→a.tmps.size=N→a.defers=[]→Q .normal a E.w) :
  ∀ (fuel:Nat) (listed:Array Bool) (a:Act) (w:World),listed.size=all.length→unl all.length listed=fuel→
   (∀ j oj,all[j]?=some oj→listed.getD j false=true→∀ e∈oj.after,Region.binds .any e=true→listed.getD e.on false=true)→
   InvV Cf lo N B E0 st rf (fun i=>listed.getD i false) a w→wpAny P .any all.toArray Q fuel listed a w:=by
 obtain ⟨⟨more,e1,e2⟩,g1,g2,g3⟩:=ql all 0 ⟨[],[]⟩ [] df rf hrun rfl rfl rfl
 have hlen:rf.length=all.length:=by rw [e1];simpa using e2
 have full :∀ (listed:Array Bool),listed.size=all.length→Region.ready .any all.toArray listed=[]→∀ i,i<all.length→listed.getD i false=true:=by
  intro listed hsz hrd i
  induction i using Nat.strongRecOn with
  | _ i ih=>
   intro hi
   cases hb:listed.getD i false with
   | true=>rfl
   | false=>
    have hun:listed.getD i true=false:=by
     have:i<listed.size:=by omega
     simp [this] at hb ⊢
     exact hb
    have hoi:all[i]?=some all[i]:=List.getElem?_eq_getElem hi
    have:i∈Region.ready .any all.toArray listed:=mem_ready.2 ⟨hun,all[i],by simp,fun e he hbd=>by
     have:=du all 0 hE i _ hoi e he hbd
     exact ih e.on (by omega) (by omega)⟩
    rw [hrd] at this
    cases this
 have close :∀ (listed:Array Bool) (a:Act) (w:World),listed.size=all.length→(∀ i,i<all.length→listed.getD i false=true)→InvV Cf lo N B E0 st rf (fun i=>listed.getD i false) a w→Q .normal a w:=by
  intro listed a w hsz hall hI
  obtain ⟨⟨E,hE',rfl,hX,hEH,hU,hT⟩,hs,hd⟩:=hI
  have hsel :∀ {α:Type} (us:List (List (Nat×α))) (f:Nat→Option α),us.length=all.length→aZ (fun i=>listed.getD i false) f 0 us=us.foldl cj f:=fun us f hl=>by
   have h1:=hY us f 0 us.length
   rw [List.take_of_length_le (Nat.le_refl _)] at h1
   rw [←h1]
   funext k
   refine dS us 0 f f rfl (fun j u hj _=>?_)
   have hjl:j<us.length:=(List.getElem?_eq_some_iff.1 hj).1
   rw [Nat.zero_add,hall j (by omega)]
   exact (by rw [Nat.blt_eq];omega:Nat.blt j (0+us.length)=true).symm
  refine hQ E a hE' hX ?_ (fun n hn=>?_) (fun s v hv=>?_) hs hd
  ·rw [hEH,hsel _ _ (by simp [hlen]),g2]
  ·rcases hU n hn with h |⟨i,h1,_,h3,h4⟩
   ·exact .inl h
   ·exact .inr ⟨i,by omega,h3,h4⟩
  ·refine hT s v ?_
   rw [hsel _ _ (by simp [hlen]),←g1]
   exact hv
 intro fuel
 induction fuel with
 | zero=>
  intro listed a w hsz hun _ hI
  have hall :∀ i,i<all.length→listed.getD i false=true:=fun i hi=>by
   have h0 :(List.range all.length).filter (fun i=>!listed.getD i true)=[]:=List.eq_nil_of_length_eq_zero hun
   have:=List.filter_eq_nil_iff.1 h0 i (List.mem_range.2 hi)
   have hi':i<listed.size:=by omega
   simp [hi'] at this ⊢
   exact this
  refine ⟨?_,close listed a w hsz hall hI⟩
  cases hr:Region.ready .any all.toArray listed with
  | nil=>rfl
  | cons i l=>
   have hm:i∈Region.ready .any all.toArray listed:=by rw [hr];exact List.mem_cons_self
   obtain ⟨h1,o,h2,_⟩:=mem_ready.1 hm
   have hi:i<all.length:=by
    have:=(Array.getElem?_eq_some_iff.1 h2).1
    simpa using this
   have h3:=hall i hi
   have hi':i<listed.size:=by omega
   simp [hi'] at h1 h3
   rw [h1] at h3;cases h3
 | succ fuel ih=>
  intro listed a w hsz hun hclosed hI
  refine ⟨fun hr=>close listed a w hsz (full listed hsz hr) hI,fun i hi=>?_⟩
  obtain ⟨h1,o,h2,hdir⟩:=mem_ready.1 hi
  have ho:all[i]?=some o:=by simpa using h2
  have hil:i<all.length:=(List.getElem?_eq_some_iff.1 ho).1
  have his:i<listed.size:=by omega
  have hLi:listed.getD i false=false:=by simp [his] at h1 ⊢;exact h1
  obtain ⟨r,tm,H,k1,k2,k3,k4⟩:=g3 i o ho
  simp only [Nat.zero_add] at k1 k2 k3 k4
  have hget :∀ j,(listed.setIfInBounds i true).getD j false=if j=i then true else listed.getD j false:=fun j=>by
   by_cases e:j=i
   ·subst e;simp [his]
   ·simp [e,Array.getElem?_setIfInBounds_ne (Ne.symm e),Array.getD_eq_getD_getElem?]
  have hgetT :∀ j,j≠i→(listed.setIfInBounds i true).getD j true=listed.getD j true:=fun j e=>by
   simp [Array.getElem?_setIfInBounds_ne (Ne.symm e),Array.getD_eq_getD_getElem?]
  refine yK hC hN (E0:=E0) (by rw [hlen];exact hfr0) (by rw [hlen];exact hlo) (L:=fun i=>listed.getD i false) (L':=fun j=>(listed.setIfInBounds i true).getD j false) ho k1 hLi hget k2 ?_ ?_ (fun j s hs hor=>?_) (fun h0 okB ha j s b hs hb=>⟨fun hlt=>?_,fun hgt hLj=>?_⟩) hI (fun a w hI'=>ih _ a w (by simpa using hsz) ?_ ?_ hI')
  ·rw [k3]
   have:=hY (rf.map cQ) (find st.tm) 0 i
   rw [←List.map_take,] at this
   simpa using this.symm
  ·rw [k4]
   have:=hY (rf.map Rec.dh) st.H 0 i
   rw [←List.map_take] at this
   simpa using this.symm
  ·rcases hor with ⟨hlt,hLj⟩ |⟨hgt,hLj⟩
   ·rcases ef rf 0 hck j i s r hlt hs k1 with h|h
    ·simp only [Nat.zero_add] at h
     have:=bV hE hclosed i i (Nat.le_refl _) o ho hdir j h
     rw [this] at hLj;cases hLj
    ·exact h.symm
   ·rcases ef rf 0 hck i j r s hgt k1 hs with h|h
    ·simp only [Nat.zero_add] at h
     have hjl:j<all.length:=by rw [←hlen];exact (List.getElem?_eq_some_iff.1 hs).1
     have hoj:all[j]?=some all[j]:=List.getElem?_eq_getElem hjl
     have:=bV hE hclosed j j (Nat.le_refl _) _ hoj (hclosed j _ hoj hLj) i h
     rw [this] at hLi;cases hLi
    ·exact h
  ·exact bV hE hclosed i i (Nat.le_refl _) o ho hdir j ((hal i h0 okB ha j s b hs hb (by omega)).1 hlt)
  ·rcases (hal i h0 okB ha j s b hs hb (by omega)).2 hgt with h|h
   ·have hjl:j<all.length:=by rw [←hlen];exact (List.getElem?_eq_some_iff.1 hs).1
    have hoj:all[j]?=some all[j]:=List.getElem?_eq_getElem hjl
    have:=bV hE hclosed j j (Nat.le_refl _) _ hoj (hclosed j _ hoj hLj) i h
    rw [this] at hLi;cases hLi
   ·exact h
  ·have:=kg (p:=fun j=>!listed.getD j true) (q:=fun j=>!(listed.setIfInBounds i true).getD j true) (i:=i) (by simp [h1]) (by simp [his]) (fun j e=>by simp [hgetT j e]) (List.range all.length) List.nodup_range (List.mem_range.2 hil)
   unfold unl at hun ⊢
   omega
  ·intro j oj hj hlj e he hb
   rw [hget] at hlj ⊢
   by_cases e1:e.on=i
   ·rw [if_pos e1]
   ·rw [if_neg e1]
    by_cases e2:j=i
    ·subst e2
     rw [ho] at hj;cases hj
     exact hdir e he hb
    ·rw [if_neg e2] at hlj
     exact hclosed j oj hj hlj e he hb
theorem yx {Cf:Nat→Cfg} {lo:Nat→Nat} {al:Nat→Option (Nat×(Blk→Bool))} {N:Nat} (hC :∀ i,CfgOK P (Cf i)) (hN :∀ i,(Cf i).N=N) (hP:P.follows .mixedOrders=true) {B:Base} {all:List Oper} {st:St} {df:Dl} {rf:List Rec} (hrun:RunV Cf lo al all st 0 all ⟨[],[]⟩ [] df rf) (hE:bW 0 all=true) (hck:cV (bf all []) 0 rf=true) (hal:AltOK al (bf all []) rf) {Q:Exit→Act→World→Prop}
  {E:Env} (hE':HRel B E) (hH:E.H=st.H) {a:Act} (hT:cX E (find st.tm) a) (hsz:a.tmps.size=N) (hdf:a.defers=[])
  (hfr0 :∀ i,i<all.length→∀ n,lo i≤n→n<lo i +(Cf i).K→¬ E.U n) (hlo :∀ i j,i<j→j<all.length→lo i +(Cf i).K≤lo j)
  (hQ :∀ E' a,HRel B E'→Ext E E'→E'.H=ak st.H df.hp→(∀ n,E'.U n→E.U n∨∃ i,i<all.length∧lo i≤n∧n<lo i +(Cf i).K)→cX E' (find (df.tm++st.tm)) a→a.tmps.size=N→a.defers=[]→Q .normal a E'.w) (id:Nat) :
  (Code.region id all.toArray true).wp P Q a E.w:=by
 refine wp_region_any hP ?_
 obtain ⟨R,X⟩:=qt hE' { E.w with drawn:=E.w.drawn+1 } rfl rfl rfl rfl
 have hfalse :∀ i,(Array.replicate all.toArray.size false).getD i false=false:=fun i=>by
  rcases Nat.lt_or_ge i all.length with h|h
  ·simp [h]
  ·simp [h]
 have hno :∀ {α:Type} (us:List (List (Nat×α))) (f:Nat→Option α) (i:Nat),aZ (fun i=>(Array.replicate all.toArray.size false).getD i false) f i us=f:=by
  intro α us
  induction us with
  | nil=>intro f i;rfl
  | cons u us ih=>intro f i;unfold aZ;rw [hfalse];simp only [Bool.false_eq_true,if_false];exact ih f _
 refine yw hC hN (E0:={ E with w:={ E.w with drawn:=E.w.drawn+1 } }) hrun hE hck hal hfr0 hlo (fun E1 a1 r1 x1 h1 u1 t1 s1 d1=>hQ E1 a1 r1 (X.trans x1) h1 u1 t1 s1 d1) _ _ a _ (by simp) ?_ (fun j oj hj hl=>by rw [hfalse] at hl;cases hl) ⟨⟨_,R,rfl,Ext.refl _,?_,fun n hn=> .inl hn,fun s v hv=>?_⟩,hsz,hdf⟩
 ·unfold unl
  have :(List.range all.length).filter (fun i=>!(Array.replicate all.toArray.size false).getD i true)=List.range all.length:=List.filter_eq_self.2 fun i hi=>by
   have:=List.mem_range.1 hi
   simp [this]
  rw [this]
  simp
 ·rw [hno _ _ _];exact hH
 ·rw [hno] at hv
  exact aP X _ _ (hT s v hv)
end Go.Mir
namespace Go.Mir
open Go.RowKit
variable {P:Program}
theorem ig {E:Env} {v:V} {u:Value} (h:aa E v u):aa E (fZ v) u:=by
 cases v <;> first|exact h|simpa [fZ,aa] using h
theorem CC {a:Act} {w:World} {c:Call} {o:Oper} (ho:o.op = .call c) {f:Operand} (hf:c.callee = .value f) {g:FuncId} {l:Array Value} (hfe:a.eval f = .func (.func g) #[] l)
  (hfn :∃ fn,P.funcs[g]?=some fn∧fn.body.isSome=true∧(fn.name == "runtime.NumGoroutine")=false) {R:Ending→World→Prop} (hcalls:Calls P g (c.args.toList.map a.eval++l.toList).toArray w R)
  {next:Act→World→Prop} {Q:Exit→Act→World→Prop} (hn :∀ e w',R e w'→∃ v',e = .returned v'∧next (a.put o.dst v') w'):o.wp P a w next Q:=by
 obtain ⟨fn,h1,h2,h3⟩:=hfn
 have hb :¬ fn.body=none:=by cases hb:fn.body with|none=>rw [hb] at h2;cases h2|some _=>simp
 have h4 :¬ fn.name = "runtime.NumGoroutine":=by simpa using h3
 have hrun :(execOp a.eval o).run P w = .ok (.enter g (c.args.toList.map a.eval++l.toList).toArray) w:=by
  have e :(c.args.toList.map a.eval++l.toList).toArray=#[]++c.args.map a.eval++l:=by
   apply Array.ext'
   simp
  rw [e]
  simp [execOp,ho,resolve,hf,Deferred.ofValue,hfe,invoke,callFunc,h1,h4,hb]
 unfold Oper.wp
 rw [hrun]
 simp only [Oper.upon]
 refine hcalls.mono fun e w' hh=>?_
 obtain ⟨v',rfl,h⟩:=hn e w' hh
 exact h
structure RR (B:Base) (E0:Env) (n0 N:Nat) (s:RS) (E:Env) (a:Act):Prop where
 rel:HRel B E
 ext:Ext E0 E
 h:E.H=s.hp.get
 u :∀ n,E.U n→E0.U n∨(n0≤n∧n<s.nx)
 le:n0≤s.nx
 tm:cX E s.tm.get a
 size:a.tmps.size=N
 defers:a.defers=[]
structure Came (B:Base) (E:Env) (hp':aj) (nx nx':Nat) (v:V) (v':Value) (w':World) (E':Env):Prop where
 rel:HRel B E'
 w:E'.w=w'
 h:E'.H=hp'
 ext:Ext E E'
 u :∀ n,E'.U n→E.U n∨(nx≤n∧n<nx')
 v:aa E' v v'
variable {tb:Tbl} {N:Nat} {call:zy} {all:List Oper} {B:Base} {E0:Env} {n0:Nat}
theorem RR.put {s:RS} {E:Env} {a:Act} (hR:RR B E0 n0 N s E a) {E':Env} {hp:Tri Blk} {nx:Nat} (hrel:HRel B E') (hext:Ext E E') (hh:E'.H=hp.get) (hu :∀ n,E'.U n→E.U n∨(s.nx≤n∧n<nx)) (hle:s.nx≤nx)
  {d:Option Nat} (hd:dstIn N d=true) {v:V} {v':Value} (hv:aa E' v v') {tm:Tri V} (htm :∀ k,tm.get k=match find (bq d (fZ v)) k with|some u=>some u|none=>s.tm.get k):RR B E0 n0 N ⟨tm,hp,nx⟩ E' (a.put d v'):=by
 have hle0:=hR.le
 refine ⟨hrel,hR.ext.trans hext,hh,fun n hn=>?_,Nat.le_trans hle0 hle,si hext hR.tm hR.size hd (ig hv) (fun k u hk=>?_),by rw [je];exact hR.size,by rw [fB];exact hR.defers⟩
 ·show E0.U n∨(n0≤n∧n<nx)
  rcases hu n hn with h|h
  ·rcases hR.u n h with h|h
   ·exact .inl h
   ·exact .inr ⟨h.1,by omega⟩
  ·exact .inr ⟨by omega,h.2⟩
 ·rw [htm] at hk
  cases hf:find (bq d (fZ v)) k with
  | some x=>rw [hf] at hk;exact .inl hk
  | none=>rw [hf] at hk;exact .inr ⟨rfl,hk⟩
end Go.Mir
namespace Go.Mir
open Go.RowKit
variable {P:Program}
theorem rA {α:Type} {l:List (Nat×α)} {k:Nat} (h:memN (l.map (·.1)) k=true):find l k≠none:=by
 induction l with
 | nil=>simp [memN] at h
 | cons q l ih=>
  obtain ⟨a,b⟩:=q
  simp only [List.map_cons,memN,Bool.or_eq_true] at h
  simp only [find]
  cases hb:Nat.beq a k with
  | true=>simp
  | false=>
   simp only [cond_false]
   refine ih ?_
   rcases h with h|h
   ·rw [hb] at h;cases h
   ·exact h
def Chain:Nat→List (Nat×Cfg)→Nat→Prop
 | n,[],e=>n=e
 | n,q::r,e=>q.1=n∧∃ n2,n+q.2.K≤n2∧Chain n2 r e
theorem Chain.le :∀ {n:Nat} {l:List (Nat×Cfg)} {e:Nat},Chain n l e→n≤e
 | n,[],e,h=>Nat.le_of_eq h
 | n,q::r,e,⟨_,n2,h1,h2⟩=>by have:=h2.le;omega
theorem Chain.at :∀ {n:Nat} {l:List (Nat×Cfg)} {e:Nat},Chain n l e→∀ (j:Nat) (q:Nat×Cfg),l[j]?=some q→n≤q.1∧q.1+q.2.K≤e
 | n,[],e,_,j,q,hq=>by simp at hq
 | n,p::r,e,⟨h0,n2,h1,h2⟩,j,q,hq=>by
  have hle:=h2.le
  cases j with
  | zero=>
   simp only [List.getElem?_cons_zero,Option.some.injEq] at hq
   subst hq
   omega
  | succ j=>
   have:=h2.at j q (by simpa using hq)
   omega
theorem Chain.lt :∀ {n:Nat} {l:List (Nat×Cfg)} {e:Nat},Chain n l e→∀ (i j:Nat) (p q:Nat×Cfg),i<j→l[i]?=some p→l[j]?=some q→p.1+p.2.K≤q.1
 | n,[],e,_,i,j,p,q,_,hp,_=>by simp at hp
 | n,x::r,e,⟨h0,n2,h1,h2⟩,i,j,p,q,hij,hp,hq=>by
  cases j with
  | zero=>omega
  | succ j=>
   cases i with
   | zero=>
    simp only [List.getElem?_cons_zero,Option.some.injEq] at hp
    subst hp
    have:=(h2.at j q (by simpa using hq)).1
    omega
   | succ i=>exact h2.lt i j p q (by omega) (by simpa using hp) (by simpa using hq)
variable {tb:Tbl} {N:Nat} {call:zy} {all:List Oper}
end Go.Mir
namespace Go.Mir
open Go.RowKit
variable {P:Program}
def Tri.toL {α:Type}:Tri α→List (Nat×α)
 | .lf=> []
 | .nd l v r=>(match v with|some x=> [(0,x)]|none=> []) ++((l.toL.map fun p=>(2*p.1+1,p.2)) ++(r.toL.map fun p=>(2*p.1+2,p.2)))
variable {tb:Tbl} {N:Nat} {call:zy} {B:Base} {E0:Env} {n0:Nat}
def HH (td:TD):TD:=⟨td.kind,td.size,td.bytes,td.zero,none⟩
def zo (tb:Tbl):Tbl:=fun t=>match tb t with
 | some td=>some (HH td)
 | none=>none
theorem DC {tb:Tbl} (h:aH P tb):aH P (zo tb):=fun t td ht=>by
 unfold zo at ht
 split at ht
 case h_2=>cases ht
 rename_i td0 h0
 cases ht
 have:=h _ _ h0
 exact ⟨fun hp=>this.eqk hp,this.info,this.kind,this.zagg⟩
def xJ (P:Program):Bool:=P.funcs.toList.all fun fn=>!(fn.name == "runtime.NumGoroutine")
theorem tZ (h:xJ P=true) (f:FuncId) (fn:Func) (hf:P.funcs[f]?=some fn) :(fn.name == "runtime.NumGoroutine")=false:=by
 have:=List.all_eq_true.1 h fn (by
  obtain ⟨hl,he⟩:=Array.getElem?_eq_some_iff.1 hf
  rw [←he]
  exact Array.mem_toList_iff.2 (Array.getElem_mem hl))
 simpa using this
end Go.Mir
