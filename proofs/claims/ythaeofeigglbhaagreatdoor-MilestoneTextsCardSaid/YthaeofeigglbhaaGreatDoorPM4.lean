/- Texts of the mirror and contracts, put together. -/
import Derived.Test.YthaeofeigglbhaaGreatDoorPM3
import Derived.Test.YthaeofeigglbhaaGreatDoorPM2
namespace Go.Proofs.YthaeofeigglbhaaGreatDoor
open Go Go.Mir
attribute [local irreducible] Go.Mir.DT.sat Go.Mir.evPat Go.Mir.RT.sat Go.Mir.evFn
abbrev E9:List (Nat×PB):= [(0,.row 1 .str)]
abbrev qWd:Pat:=⟨[(0,.h .str),(1,.h U8),(5,.c (.osl 0 1)),(6,.h I),(7,.h I)],E9,2⟩
abbrev xWd:List (Lf×Pat):= [(.ext 0,⟨[(5,.c (.osl 0 1))],E9,2⟩)]
abbrev TWd:Type:=ByteArray×Int×Int×Int×List ByteArray×Unit
def BA (l:List UInt8):List (List UInt8)→List ByteArray
 | []=> []
 | x::r=>toB (l++x)::r.map toB
def fU (s:ByteArray) (c a i:Int):List ByteArray:=if i >(s.size:Int) then [] else BA ((s.data.toList.take i.toNat).drop a.toNat) (cy (UInt8.ofNat c.toNat) (s.data.toList.drop i.toNat))
def nT (x:TWd):Prop:=x.1.size≤1000000∧(0≤x.2.1∧x.2.1<256)∧0≤x.2.2.1∧x.2.2.1≤x.2.2.2.1∧x.2.2.2.1≤(x.1.size:Int)+1∧(x.2.2.2.2.1.length:Int)≤x.2.2.2.1
def uf (x:TWd):Nat:=((x.1.size:Int)+1 - x.2.2.2.1).toNat
def js (x:TWd):List ByteArray×Unit:=(x.2.2.2.2.1++fU x.1 x.2.1 x.2.2.1 x.2.2.2.1,())
abbrev qSC:Pat:=gT [.str,U8]
abbrev yG:Pat:=gT [.slice .str]
def wz:Den (tyP qSC)→List Prop×Den (tyP yG):=fun x=>([x.1.size≤1000000],(aV x.1 (UInt8.ofNat x.2.1.toNat),()))
theorem EB {n:Int} (h:wfD (.int .u8) n):0≤n∧n≤255:=by
 obtain ⟨S,w,cs,h⟩:=h
 cases h with|int h=>exact h
theorem s7 :∀ L,BA [] L=L.map toB
 | []=>rfl
 | _::_=>rfl
theorem sJ (s:ByteArray) (a i:Nat):toB ((s.data.toList.take i).drop a)=s.extract a i:=by
 apply ByteArray.ext
 apply Array.ext'
 show ((s.data.toList.take i).drop a)=_
 rw [Lib.extract_data]
 simp [Array.toList_extract,List.extract_eq_take_drop,List.drop_take]
theorem eqC {c:Int} (b:UInt8) (h0:0≤c) (h1:c<256) :((b.toNat:Int)==c) =(b==UInt8.ofNat c.toNat):=by
 apply Bool.eq_iff_iff.2
 simp only [beq_iff_eq]
 constructor
 ·intro h
  have:c.toNat=b.toNat:=by omega
  rw [this];simp
 ·rintro rfl
  have:c.toNat<256:=by omega
  simp [UInt8.toNat_ofNat']
  omega
theorem A3 (s:ByteArray) (c a:Int):fU s c a (s.size:Int)=[s.extract a.toNat s.size]:=by
 unfold fU
 rw [if_neg (by omega)]
 have:s.data.toList.drop (s.size:Int).toNat=[]:=by
  apply List.drop_eq_nil_of_le
  rw [Array.length_toList]
  exact Nat.le_of_eq (by show s.data.size =(s.size:Int).toNat;rw [Int.toNat_natCast];rfl)
 rw [this]
 show [toB (_++[])]=_
 rw [List.append_nil,sJ,Int.toNat_natCast]
theorem qD (s:ByteArray) (c a:Int):fU s c a ((s.size:Int)+1)=[]:=if_pos (by omega)
theorem yP (s:ByteArray) {c a i:Int} (h0:0≤a) (h1:a≤i) (h2:i<s.size) :
  fU s c a i=if s.data.getD i.toNat 0==UInt8.ofNat c.toNat then s.extract a.toNat i.toNat::fU s c (i+1) (i+1) else fU s c a (i+1):=by
 obtain ⟨n,rfl⟩ :∃ n:Nat,i=n:=⟨i.toNat,by omega⟩
 obtain ⟨m,rfl⟩ :∃ m:Nat,a=m:=⟨a.toNat,by omega⟩
 have hn:n<s.data.toList.length:=by rw [Array.length_toList];show n<s.size;omega
 have hb:s.data.getD (n:Int).toNat 0=s.data.toList[n]:=by
  rw [Int.toNat_natCast]
  have:n<s.data.size:=by rw [Array.length_toList] at hn;exact hn
  exact dif_pos this
 have e1 :((n:Int)+1).toNat=n+1:=by omega
 have tw :∀ x y:Int,y≤(s.size:Int)→fU s c x y=BA ((s.data.toList.take y.toNat).drop x.toNat) (cy (UInt8.ofNat c.toNat) (s.data.toList.drop y.toNat)):=fun x y h=>if_neg (by omega)
 rw [tw _ _ (by omega),tw _ _ (by omega),tw _ _ (by omega),hb,e1,Int.toNat_natCast,Int.toNat_natCast,List.drop_eq_getElem_cons hn]
 generalize hg:s.data.toList[n]=b
 conv=>lhs;unfold cy
 split
 ·have :(s.data.toList.take (n+1)).drop (n+1)=[]:=List.drop_eq_nil_of_le (List.length_take_le _ _)
  rw [this,s7]
  show toB (_++[])::_=_
  rw [List.append_nil,sJ]
 ·have :(s.data.toList.take (n+1)).drop m =(s.data.toList.take n).drop m++[b]:=by
   rw [List.take_succ_eq_append_getElem hn,List.drop_append_of_le_length (by rw [List.length_take];omega),hg]
  rw [this]
  split
  ·rename_i h;exact absurd h (ri _ _)
  ·simp [BA, *]
noncomputable def lpWd:Lp:=(⟨0,bt [] Tryz.f80,(fun _=>none),(aA Tryz.f80 0),qWd,xWd⟩:Lp)
theorem Eu (s:ByteArray) (c:Int) (a:Int) (i:Int) (o:List ByteArray) (hi:nT (s,c,a,i,o,())) :(Go.Mir.stepG lpWd js (fun y:Den (tyP lpWd.q)=>nT y∧uf y<uf (s,c,a,i,o,())) (s,c,a,i,o,())∧Go.Mir.stepE lpWd js (s,c,a,i,o,())=js (s,c,a,i,o,())):=by
 refine cast (by kernel_rfl) (?_:let r1:Int:=IntKind.i64.wrap (i +(1:Int));let r2:Bool:=decide (i≤(↑s.size:Int));let r3:Bool:=bif i ==(↑s.size:Int) then true else (↑(s.1.getD i.toNat (0:UInt8)).toNat:Int)==c;let r4:List ByteArray×PUnit:=bif r3 then js (s,c,r1,r1,o++[s.extract a.toNat i.toNat],()) else js (s,c,a,r1,o,());((r2=true→(((i ==(↑s.size:Int))=true→True)∧((i ==(↑s.size:Int))=false→((0:Int)≤i∧i <(↑s.size:Int))∧True))∧(true=true→(r3=true→((0:Int)≤a∧a≤i∧i≤(↑s.size:Int))∧(o.length+[s.extract a.toNat i.toNat].length) *(16:Nat)≤(70368744177664:Nat)∧nT (s,c,r1,r1,o++[s.extract a.toNat i.toNat],())∧uf (s,c,r1,r1,o++[s.extract a.toNat i.toNat],())<uf (s,c,a,i,o,()))∧(r3=false→nT (s,c,a,r1,o,())∧uf (s,c,a,r1,o,())<uf (s,c,a,i,o,()))))∧(r2=false→True))∧(bif r2 then bif true&&true then r4 else bif true then r4 else bif i ==(↑s.size:Int) then dflt (Ty.str.slice.prod Ty.unit) else dflt (Ty.str.slice.prod Ty.unit) else (o,()))=js (s,c,a,i,o,()))
 intro r1 r2 r3 r4
 clear_value (hr1:r1=_) (hr2:r2=_) (hr3:r3=_) (hr4:r4=_)
 obtain ⟨h1,⟨h2,h3⟩,h4,h5,h6,h7⟩:=hi
 simp only at h1 h2 h3 h4 h5 h6 h7
 by_cases h:i≤(s.size:Int)
 ·have er2:r2=true:=by rw [hr2];exact decide_eq_true h
  have ew:r1=i+1:=by rw [hr1];exact iC (by omega) (by omega)
  have el :(o++[s.extract a.toNat i.toNat]).length=o.length+1:=by rw [List.length_append];rfl
  have key:fU s c a i=if r3 then s.extract a.toNat i.toNat::fU s c (i+1) (i+1) else fU s c a (i+1):=by
   by_cases he:i=s.size
   ·have:r3=true:=by rw [hr3,he];simp
    rw [this,he,if_pos rfl,A3,qD,Int.toNat_natCast]
   ·rw [yP s h4 h5 (by omega),hr3,eqC _ h2 h3]
    have :(i ==(s.size:Int))=false:=by simpa using he
    rw [this]
    rfl
  have hlt :(i ==(s.size:Int))=false→i<s.size:=fun he=>by
   have :¬ i =(s.size:Int):=by simpa using he
   omega
  rw [er2]
  refine ⟨⟨fun _=>⟨⟨fun _=>trivial,fun he=>⟨⟨by omega,hlt he⟩,trivial⟩⟩,fun _=>⟨fun h3'=>⟨⟨h4,h5,h⟩,by simp only [List.length_cons,List.length_nil];omega,⟨h1,⟨h2,h3⟩,?_,?_,?_,?_⟩,?_⟩,fun _=>⟨⟨h1,⟨h2,h3⟩,h4,?_,?_,?_⟩,?_⟩⟩⟩,fun z=>Bool.noConfusion z⟩,?_⟩
  all_goals (try simp only [uf,el,ew])
  all_goals (try omega)
  rw [hr4]
  simp only [cond_true,Bool.and_true]
  simp only [js,ew,key]
  cases r3
  ·rfl
  ·simp
 ·have er2:r2=false:=by rw [hr2];exact decide_eq_false h
  rw [er2]
  refine ⟨⟨fun z=>Bool.noConfusion z,fun _=>trivial⟩,?_⟩
  have:i =(s.size:Int)+1:=by omega
  simp only [cond_false,js]
  rw [this,qD,List.append_nil]
noncomputable def C2:LoopSum:=c8 lpWd js nT
noncomputable def CN:Nat:=rid (aA Tryz.f80 0)
theorem DV:LoopOKp Tryz.prog 0 Tryz.f80.ntmps (aA Tryz.f80 0) (c8 lpWd js nT):=
 gl lpWd (bR (CtrsOK.nil) _) mixed (fun b hb S hS=>by cases hS) js nT uf (fun |⟨s,c,a,i,o,⟨⟩⟩,hi=>Eu s c a i o hi)
theorem uN (s:ByteArray) (c:Int) (hs:s.size≤1000000) (hc:0≤c∧c≤255) :(evPat (bt [] Tryz.f80) (find [(CN,C2)]) Tryz.f80 qSC yG (s,c,())).sat fun z_=>z_ =(wz (s,c,())).2:=by
 refine cast (by kernel_rfl) (?_ :((yx fun x=>none)∧s.size≤(1000000:Nat)∧((0:Int)≤c∧c <(256:Int))∧(0:Int)≤(0:Int)∧(0:Int)≤(0:Int)∧(0:Int)≤(↑s.size:Int) +(1:Int)∧(↑(0:Nat):Int)≤(0:Int))∧([]++fU s c (0:Int) (0:Int),()) =(aV s (UInt8.ofNat c.toNat),()))
 refine ⟨⟨rfl,hs,⟨hc.1,by omega⟩,Int.le_refl _,Int.le_refl _,by omega,Int.le_refl _⟩,?_⟩
 have:fU s c 0 0=aV s (UInt8.ofNat c.toNat):=by
  unfold fU aV
  rw [if_neg (by omega)]
  exact s7 _
 rw [this]
 rfl
theorem vP:CtrOK Tryz.prog KE 80 (aB KE qSC yG wz):=by
 refine ij (C:=bt [] Tryz.f80) (bR (CtrsOK.nil) _) mixed (fn:=Tryz.f80) Tryz.func80 (by kernel_rfl) (by kernel_rfl) (by kernel_rfl) (by kernel_rfl) (by kernel_rfl) (by kernel_rfl) (Λ:=fun x=>find [(CN,C2)]) ?_ ?_
 ·rintro ⟨s,c,⟨⟩⟩ hw hn
  exact LoopsOKp.at (by kernel_rfl) (.cons (by kernel_rfl) (DV) .nil)
 ·rintro ⟨s,c,⟨⟩⟩ hw hn
  exact uN s c (hn _ List.mem_cons_self) (EB (Bh (EC hw)))
end Go.Proofs.YthaeofeigglbhaaGreatDoor
namespace Go.Proofs.YthaeofeigglbhaaGreatDoor
open Go Go.Mir
attribute [local irreducible] Go.Mir.DT.sat Go.Mir.evPat Go.Mir.RT.sat Go.Mir.evFn
abbrev qTn:Pat:=gT [I]
abbrev qTw:Pat:=gT [I,I]
abbrev uE:Pat:=gT [.str]
def yu (n:Int):Prop:=0≤n∧n≤1000000000000
def Ea (w:Int):Prop:=w=1
def AW:Den (tyP qTw)→List Prop×Den (tyP uE):=fun x=>([yu x.1,Ea x.2.1],(cz x.1,()))
def AR:Den (tyP qTn)→List Prop×Den (tyP uE):=fun x=>([yu x.1],(cz x.1,()))
abbrev qPt:Pat:=⟨[(1,.h I),(5,.h .str),(6,.h (.int .u64)),(7,.h .str),(8,.h .str)],[],0⟩
abbrev xPt:List (Lf×Pat):= [(.ext 0,⟨[(5,.h .str),(8,.h .str)],[],0⟩)]
abbrev TPt:Type:=Int×ByteArray×Int×ByteArray×ByteArray×Unit
def tenB:ByteArray:=⟨#[48,49,50,51,52,53,54,55,56,57]⟩
def sa (n:Int):ByteArray:=tenB.extract n.toNat (n+1).toNat
def oc (u:Int) (s:ByteArray):ByteArray:=if decide (u>0)||decide ((s.size:Int)<1) then toB (Lib.decDigits u.toNat++s.data.toList) else s
def pV (x:TPt):Prop:=x.1=1∧(0≤x.2.2.1∧x.2.2.1≤1000000000000)∧x.2.2.2.1=tenB∧(x.2.2.2.2.1.size:Int)+x.2.2.1≤2000000000000
def Ao (x:TPt):Nat:=x.2.2.1.toNat +(if x.2.2.2.2.1.size=0 then 1 else 0)
def mK (x:TPt):ByteArray×ByteArray×Unit:=(x.2.1,oc x.2.2.1 x.2.2.2.2.1,())
theorem fW {a b:ByteArray} (h:a.data.toList=b.data.toList):a=b:=ByteArray.ext (Array.toList_inj.1 h)
theorem qH {n:Int} (h0:0≤n) (h1:n<18446744073709551616):IntKind.u64.wrap n=n:=by
 simp only [IntKind.wrap,IntKind.bits,IntKind.signed]
 simp
 omega
theorem qk {n:Int} (h0:0≤n) (h1:n≤9) :(sa n).data.toList=[UInt8.ofNat (48+n.toNat)]:=by
 have key :((List.range 10).all fun k=>(sa (k:Int)).data.toList==[UInt8.ofNat (48+k)])=true:=by kernel_rfl
 have:=List.all_eq_true.1 key n.toNat (List.mem_range.2 (by omega))
 rw [show ((n.toNat:Nat):Int)=n from by omega] at this
 exact eq_of_beq this
theorem ql {n:Int} (h0:0≤n) (h1:n≤9) :(sa n).size=1:=by
 have :(sa n).data.toList.length=1:=by rw [qk h0 h1];rfl
 rw [Array.length_toList] at this
 exact this
theorem Az {u:Int} {s:ByteArray} (h0:0≤u) (hb :(decide (u>0)||decide ((s.size:Int)<1))=true):oc (u / 10) (sa (u % 10)++s)=oc u s:=by
 have z :(sa (u % 10)++s).size=1+s.size:=by rw [ByteArray.size_append,ql (by omega) (by omega)]
 have l :(sa (u % 10)++s).data.toList=UInt8.ofNat (48 +(u % 10).toNat)::s.data.toList:=by
  rw [ByteArray.data_append,Array.toList_append,qk (by omega) (by omega)];rfl
 have hd:decide (((sa (u % 10)++s).size:Int)<1)=false:=decide_eq_false (by rw [z];omega)
 unfold oc
 rw [hd,Bool.or_false,if_pos hb]
 by_cases h10:u / 10>0
 ·rw [if_pos (decide_eq_true h10),l]
  have hu :¬ u.toNat<10:=by omega
  have e1 :(u / 10).toNat=u.toNat / 10:=by omega
  have e2 :(u % 10).toNat=u.toNat % 10:=by omega
  conv=>rhs;rw [Lib.decDigits,dif_neg hu]
  rw [e1,e2,List.append_assoc]
  rfl
 ·rw [if_neg (by simpa using h10)]
  apply fW
  rw [l]
  have hu:u.toNat<10:=by omega
  have e2 :(u % 10).toNat=u.toNat:=by omega
  rw [Lib.decDigits,dif_pos hu,e2]
  rfl
noncomputable def lpPt:Lp:=(⟨0,bt [] Tryz.f150,(fun _=>none),(aA Tryz.f150 0),qPt,xPt⟩:Lp)
theorem Ep (w:Int) (sg:ByteArray) (u:Int) (dg:ByteArray) (s:ByteArray) (hi:pV (w,sg,u,dg,s,())) :(Go.Mir.stepG lpPt mK (fun y:Den (tyP lpPt.q)=>pV y∧Ao y<Ao (w,sg,u,dg,s,())) (w,sg,u,dg,s,())∧Go.Mir.stepE lpPt mK (w,sg,u,dg,s,())=mK (w,sg,u,dg,s,())):=by
 refine cast (by kernel_rfl) (?_:let r1:Int:=IntKind.u64.wrap (u.tmod (10:Int) +(1:Int));let r2:Int:=if (20:Int)<w then (20:Int) else w;let r3:ByteArray:=dg.extract (u.tmod (10:Int)).toNat r1.toNat;let r4:Int:=if r2 >(1:Int) then r2 else (1:Int);let r5:Bool:=bif decide (u >(0:Int)) then true else decide ((↑s.size:Int)<r4);((r5=true→(10:Int)≠(0:Int)∧(10:Int)≠(0:Int)∧((0:Int)≤u.tmod (10:Int)∧u.tmod (10:Int)≤r1∧r1≤(↑dg.size:Int))∧r3.size+s.size≤az∧(10:Int)≠(0:Int)∧pV (w,sg,IntKind.u64.wrap (u.tdiv (10:Int)),dg,r3++s,())∧Ao (w,sg,IntKind.u64.wrap (u.tdiv (10:Int)),dg,r3++s,())<Ao (w,sg,u,dg,s,()))∧(r5=false→True))∧(bif r5 then mK (w,sg,IntKind.u64.wrap (u.tdiv (10:Int)),dg,r3++s,()) else (sg,s,()))=mK (w,sg,u,dg,s,()))
 intro r1 r2 r3 r4 r5
 clear_value (hr1:r1=_) (hr2:r2=_) (hr3:r3=_) (hr4:r4=_) (hr5:r5=_)
 obtain ⟨h1,⟨h2,h3⟩,h4,h5⟩:=hi
 have h1:w=1:=h1
 have h2:0≤u:=h2
 have h3:u≤1000000000000:=h3
 have h4:dg=tenB:=h4
 have h5 :(s.size:Int)+u≤2000000000000:=h5
 have et:u.tmod 10=u % 10:=Int.tmod_eq_emod_of_nonneg h2
 have ed:u.tdiv 10=u / 10:=Int.tdiv_eq_ediv_of_nonneg h2
 rw [ed]
 rw [et] at hr1 hr3 ⊢
 have e1:r1=u % 10+1:=by rw [hr1];exact qH (by omega) (by omega)
 have e2:r2=1:=by rw [hr2,h1];rfl
 have e4:r4=1:=by rw [hr4,e2];rfl
 have e3:r3=sa (u % 10):=by rw [hr3,e1,h4];rfl
 have z3:=ql (n:=u % 10) (by omega) (by omega)
 have zs :(r3++s).size=1+s.size:=by rw [ByteArray.size_append,e3,z3]
 have eW:IntKind.u64.wrap (u / 10)=u / 10:=qH (by omega) (by omega)
 have hL :(3000000000000:Nat)≤az:=by decide
 have e5:r5 =(decide (u>0)||decide ((s.size:Int)<1)):=by rw [hr5,e4];cases decide (u>0) <;> rfl
 have hc:r5=true→u>0∨(s.size:Int)<1:=fun h=>by rw [e5] at h;simpa using h
 have z10 :(tenB.size:Int)=10:=rfl
 rw [eW]
 refine ⟨⟨fun h=>⟨by decide,by decide,⟨by omega,by omega,by rw [h4];omega⟩,by rw [e3,z3];omega,by decide,⟨h1,⟨by show 0≤u / 10;omega,by show u / 10≤1000000000000;omega⟩,h4,?_⟩,?_⟩,fun _=>trivial⟩,?_⟩
 ·show ((r3++s).size:Int)+u / 10≤2000000000000
  rw [zs]
  rcases hc h with h|h <;> omega
 ·show (u / 10).toNat +(if (r3++s).size=0 then 1 else 0)<u.toNat +(if s.size=0 then 1 else 0)
  rw [zs,if_neg (by omega)]
  rcases hc h with h|h
  ·omega
  ·rw [if_pos (by omega)];omega
 ·cases hb:r5 with
  | true=>
   show (sg,oc (u / 10) (r3++s),()) =(sg,oc u s,())
   rw [e3,Az h2 (e5▸hb)]
  | false=>
   rw [e5] at hb
   show (sg,s,()) =(sg,oc u s,())
   unfold oc
   rw [hb]
   rfl
noncomputable def CY:LoopSum:=c8 lpPt mK pV
noncomputable def CK:Nat:=rid (aA Tryz.f150 0)
theorem DR:LoopOKp Tryz.prog 0 Tryz.f150.ntmps (aA Tryz.f150 0) (c8 lpPt mK pV):=
 gl lpPt (bR (CtrsOK.nil) _) mixed (fun b hb S hS=>by cases hS) mK pV Ao (fun |⟨w,sg,u,dg,s,⟨⟩⟩,hi=>Ep w sg u dg s hi)
theorem uO (n:Int) (w:Int) (hk:yu n) (hw1:Ea w) :(evPat (bt [] Tryz.f150) (find [(CK,CY)]) Tryz.f150 qTw uE (n,w,())).sat fun z_=>z_ =(AW (n,w,())).2:=by
 refine cast (by kernel_rfl) (?_:let r1:Bool:=decide (n <(0:Int));let r2:ByteArray:=bif r1 then ByteArray.mk #[45] else ByteArray.mk #[];let r3:Int:=bif r1 then IntKind.u64.wrap ((0:Int) - IntKind.u64.wrap n) else IntKind.u64.wrap n;let r4:ByteArray:=oc r3 (ByteArray.mk #[]);((yx fun x=>none)∧w =(1:Int)∧((0:Int)≤r3∧r3≤(1000000000000:Int))∧ByteArray.mk #[48,49,50,51,52,53,54,55,56,57]=tenB∧(↑(ByteArray.mk #[]).size:Int)+r3≤(2000000000000:Int))∧r2.size+r4.size≤az∧(r2++r4,()) =(cz n,()))
 intro r1 r2 r3 r4
 clear_value (hr1:r1=_) (hr2:r2=_) (hr3:r3=_) (hr4:r4=_)
 obtain ⟨k0,k1⟩:=hk
 have e1:r1=false:=by rw [hr1];exact decide_eq_false (by omega)
 have e2:r2=ByteArray.mk #[]:=by rw [hr2,e1];rfl
 have e3:r3=n:=by rw [hr3,e1];exact qH k0 (by omega)
 have hz:oc n ⟨#[]⟩=cz n:=by
  unfold oc cz
  rw [if_pos (Bool.or_eq_true_iff.2 (.inr (by decide))),Lib.itoa,if_neg (by omega)]
  simp [toB]
 have e4:r4=cz n:=by rw [hr4,e3];exact hz
 have hl :(cz n).size≤21:=by
  show (Lib.itoa n).toArray.size≤21
  rw [List.size_toArray]
  exact Lib.itoa_length_le n (by omega) (by omega)
 have hL :(500:Nat)≤az:=by decide
 have z0 :(ByteArray.mk #[]).size=0:=rfl
 rw [e2,e3,e4,z0]
 exact ⟨⟨rfl,hw1,⟨k0,k1⟩,rfl,by omega⟩,by omega,congrArg (fun z=>(z,())) (fW (by simp [ByteArray.data_append]))⟩
def pZ:FuncId×Ctr:=(150,aB KE qTw uE AW)
theorem vQ:CtrOK Tryz.prog KE 150 (aB KE qTw uE AW):=by
 refine ij (C:=bt [] Tryz.f150) (bR (CtrsOK.nil) _) mixed (fn:=Tryz.f150) Tryz.func150 (by kernel_rfl) (by kernel_rfl) (by kernel_rfl) (by kernel_rfl) (by kernel_rfl) (by kernel_rfl) (Λ:=fun x=>find [(CK,CY)]) ?_ ?_
 ·rintro ⟨n,w,⟨⟩⟩ hw hn
  exact LoopsOKp.at (by kernel_rfl) (.cons (by kernel_rfl) (DR) .nil)
 ·rintro ⟨n,w,⟨⟩⟩ hw hn
  exact uO n w (hn _ List.mem_cons_self) (hn _ (List.mem_cons_of_mem _ List.mem_cons_self))
theorem sA (n:Int) (hk:yu n) :(evPat (bt [pZ] Tryz.f77) (fun _=>none) Tryz.f77 qTn uE (n,())).sat fun z_=>z_ =(AR (n,())).2:=by
 refine cast (by kernel_rfl) (?_:yu n∧Ea (1:Int)∧(cz n,()) =(cz n,()))
 exact ⟨hk,rfl,rfl⟩
def kG:FuncId×Ctr:=(77,aB KE qTn uE AR)
theorem mE:CtrOK Tryz.prog KE 77 (aB KE qTn uE AR):=by
 refine ij (C:=bt [pZ] Tryz.f77) (bR (.consU vQ rfl .nil) _) mixed (fn:=Tryz.f77) Tryz.func77 (by kernel_rfl) (by kernel_rfl) (by kernel_rfl) (by kernel_rfl) (by kernel_rfl) (by kernel_rfl) (Λ:=fun _ _=>none) ?_ ?_
 ·exact fun _ _ _ _ _ _ _ _ h=>by cases h
 ·rintro ⟨n,⟨⟩⟩ hw hn
  exact sA n (hn _ List.mem_cons_self)
end Go.Proofs.YthaeofeigglbhaaGreatDoor
namespace Go.Proofs.YthaeofeigglbhaaGreatDoor
open Go Go.Mir
attribute [local irreducible] Go.Mir.DT.sat Go.Mir.evPat Go.Mir.RT.sat Go.Mir.evFn
abbrev qNr:Pat:=gT [.str,I,I]
abbrev Cc:Pat:=gT [I,I]
abbrev qNl:Pat:=⟨[(1,.h I),(2,.h I),(8,.h .bool),(9,.h .str),(10,.h (.int .u64)),(11,.h .bool),(12,.h I)],[],0⟩
abbrev xNl:List (Lf×Pat):= [(.ret,⟨[(6,.h I),(7,.h I)],[],0⟩),(.ext 0,⟨[(1,.h I),(2,.h I),(8,.h .bool),(10,.h (.int .u64)),(11,.h .bool)],[],0⟩)]
abbrev TNl:Type:=Int×Int×Bool×ByteArray×Int×Bool×Int×Unit
def xg (n:Int) (b:Int):Int:=IntKind.u64.wrap (IntKind.u64.wrap (n*10)+IntKind.u64.wrap (IntKind.u8.wrap (b - 48)))
def jX:List UInt8→Int→Bool→Option (Int×Bool)
 | [],n,b=>some (n,b)
 | x::r,n,b=>if decide ((x.toNat:Int)<48)||decide ((x.toNat:Int)>57) then none else jX r (xg n x.toNat) (b||decide (n>1152921504606846976))
def pU (x:TNl):Prop:=0≤x.2.2.2.2.2.2.1∧x.2.2.2.2.2.2.1≤(x.2.2.2.1.size:Int)∧x.2.2.2.1.size≤az
def An (x:TNl):Nat:=((x.2.2.2.1.size:Int) - x.2.2.2.2.2.2.1).toNat
def EV (lo hi:Int) (g:Bool):Option (Int×Bool)→Sum (Int×Int×Unit) (Int×Int×Bool×Int×Bool×Unit)
 | none=> .inl (0,4,())
 | some p=> .inr (lo,hi,g,p.1,p.2,())
def eO (x:TNl):Sum (Int×Int×Unit) (Int×Int×Bool×Int×Bool×Unit):=EV x.1 x.2.1 x.2.2.1 (jX (x.2.2.2.1.data.toList.drop x.2.2.2.2.2.2.1.toNat) x.2.2.2.2.1 x.2.2.2.2.2.1)
def dK (s:ByteArray):Bool:=!s.data.toList.isEmpty&&s.data.toList.headD 0==45
def aL (s:ByteArray):ByteArray:=if dK s then s.extract 1 s.size else s
def vA (neg:Bool) (lo hi:Int):Option (Int×Bool)→Int×Int
 | none=>(0,4)
 | some p=>
  if p.2 ||(decide (p.1>9223372036854775808) ||(p.1==9223372036854775808&&!neg)) then (0,2)
  else
   let v:=if neg then IntKind.i64.wrap (0 - IntKind.i64.wrap p.1) else IntKind.i64.wrap p.1
   if decide (v<lo)||decide (v>hi) then (0,2) else (v,0)
def ba (s:ByteArray) (lo hi:Int):Int×Int:=
 let d:=aL s
 if d.data.toList.isEmpty ||(d.data.toList.headD 0==48&&(dK s||decide ((d.size:Int)>1))) then (0,4)
 else vA (dK s) lo hi (jX d.data.toList 0 false)
def AU:Den (tyP qNr)→List Prop×Den (tyP Cc):=fun x=>([],((ba x.1 x.2.1 x.2.2.1).1,(ba x.1 x.2.1 x.2.2.1).2,()))
theorem FK {s:ByteArray} (h:wfD .str s):s.size≤az:=by
 obtain ⟨S,w,cs,h⟩:=h
 cases h with|str h=>exact h
theorem isE (s:ByteArray) :(s.toList ==(ByteArray.mk #[]).toList)=s.data.toList.isEmpty:=by
 rw [Lib.toList_data,Lib.toList_data]
 cases s.data.toList <;> rfl
theorem CP {s:ByteArray} (h :(!s.data.toList.isEmpty)=true):0 <(s.size:Int):=by
 have:s.data.toList.length≠0:=by
  cases hs:s.data.toList with
  | nil=>rw [hs] at h;cases h
  | cons=>simp
 rw [Array.length_toList] at this
 show 0 <(s.data.size:Int)
 omega
theorem w3 (s:ByteArray):s.data.getD (Int.toNat 0) 0=s.data.toList.headD 0:=by
 cases s with|mk d=>cases d with|mk l=>cases l <;> rfl
theorem FY (b:UInt8) :((b.toNat:Int)==45) =(b==45):=by
 apply Bool.eq_iff_iff.2
 rw [beq_iff_eq,beq_iff_eq,←UInt8.toNat_inj]
 show _↔b.toNat=45
 omega
theorem FZ (b:UInt8) :((b.toNat:Int)==48) =(b==48):=by
 apply Bool.eq_iff_iff.2
 rw [beq_iff_eq,beq_iff_eq,←UInt8.toNat_inj]
 show _↔b.toNat=48
 omega
theorem mc (x:UInt8) (r:List UInt8) (n:Int) (b:Bool):jX (x::r) n b=if decide ((x.toNat:Int)<48)||decide ((x.toNat:Int)>57) then none else jX r (xg n x.toNat) (b||decide (n>1152921504606846976)):=rfl
noncomputable def lpNl:Lp:=(⟨0,bt [] Tryz.f81,(fun _=>none),(aA Tryz.f81 0),qNl,xNl⟩:Lp)
theorem Eo (lo:Int) (hi_:Int) (g:Bool) (d:ByteArray) (n:Int) (b:Bool) (i:Int) (hi:pU (lo,hi_,g,d,n,b,i,())) :(Go.Mir.stepG lpNl eO (fun y:Den (tyP lpNl.q)=>pU y∧An y<An (lo,hi_,g,d,n,b,i,())) (lo,hi_,g,d,n,b,i,())∧Go.Mir.stepE lpNl eO (lo,hi_,g,d,n,b,i,())=eO (lo,hi_,g,d,n,b,i,())):=by
 refine cast (by kernel_rfl) (?_:let r1:Int:=(↑(d.1.getD i.toNat (0:UInt8)).toNat:Int);let r2:Bool:=decide (i <(↑d.size:Int));let r3:Bool:=decide (r1 <(48:Int));let r4:Bool:=bif r3 then true else decide (r1 >(57:Int));((r2=true→(((0:Int)≤i∧i <(↑d.size:Int))∧(r3=true→True)∧(r3=false→((0:Int)≤i∧i <(↑d.size:Int))∧True))∧(true=true→(r4=true→True)∧(r4=false→((0:Int)≤i∧i <(↑d.size:Int))∧pU (lo,hi_,g,d,IntKind.u64.wrap (IntKind.u64.wrap (n *(10:Int))+IntKind.u64.wrap (IntKind.u8.wrap (r1 - (48:Int)))),bif decide (n >(1152921504606846976:Int)) then true else b,IntKind.i64.wrap (i +(1:Int)),())∧An (lo,hi_,g,d,IntKind.u64.wrap (IntKind.u64.wrap (n *(10:Int))+IntKind.u64.wrap (IntKind.u8.wrap (r1 - (48:Int)))),bif decide (n >(1152921504606846976:Int)) then true else b,IntKind.i64.wrap (i +(1:Int)),())<An (lo,hi_,g,d,n,b,i,()))))∧(r2=false→True))∧(bif r2 then bif true&&true then bif r4 then Sum.inl ((0:Int),(4:Int),()) else eO (lo,hi_,g,d,IntKind.u64.wrap (IntKind.u64.wrap (n *(10:Int))+IntKind.u64.wrap (IntKind.u8.wrap (r1 - (48:Int)))),bif decide (n >(1152921504606846976:Int)) then true else b,IntKind.i64.wrap (i +(1:Int)),()) else bif true then bif r4 then Sum.inl ((0:Int),(4:Int),()) else eO (lo,hi_,g,d,IntKind.u64.wrap (IntKind.u64.wrap (n *(10:Int))+IntKind.u64.wrap (IntKind.u8.wrap (r1 - (48:Int)))),bif decide (n >(1152921504606846976:Int)) then true else b,IntKind.i64.wrap (i +(1:Int)),()) else bif r3 then Sum.inl (dflt (I.prod (I.prod Ty.unit))) else Sum.inl (dflt (I.prod (I.prod Ty.unit))) else Sum.inr (lo,hi_,g,n,b,()))=eO (lo,hi_,g,d,n,b,i,()))
 intro r1 r2 r3 r4
 clear_value (hr1:r1=_) (hr2:r2=_) (hr3:r3=_) (hr4:r4=_)
 obtain ⟨h1,h2,h3⟩:=hi
 have h1:0≤i:=h1
 have h2:i≤(d.size:Int):=h2
 have h3:d.size≤az:=h3
 have hL:az<9223372036854775807:=by decide
 by_cases h:i <(d.size:Int)
 ·have er2:r2=true:=by rw [hr2];exact decide_eq_true h
  have ew:IntKind.i64.wrap (i+1)=i+1:=iC (by omega) (by omega)
  have hn:i.toNat<d.data.toList.length:=by rw [Array.length_toList];show i.toNat<d.size;omega
  have hx:d.data.getD i.toNat 0=d.data.toList[i.toNat]:=by
   have:i.toNat<d.data.size:=by rw [Array.length_toList] at hn;exact hn
   exact dif_pos this
  have e1 :(i+1).toNat=i.toNat+1:=by omega
  have key:eO (lo,hi_,g,d,n,b,i,())=if r4 then .inl (0,4,()) else eO (lo,hi_,g,d,xg n r1,(b||decide (n>1152921504606846976)),i+1,()):=by
   unfold eO
   simp only []
   rw [List.drop_eq_getElem_cons hn,←hx,e1,hr4,hr3,hr1,mc]
   cases decide (((d.data.getD i.toNat 0).toNat:Int)<48) <;> cases decide (((d.data.getD i.toNat 0).toNat:Int)>57) <;> rfl
  rw [er2,key,ew]
  refine ⟨⟨fun _=>⟨⟨⟨h1,h⟩,fun _=>trivial,fun _=>⟨⟨h1,h⟩,trivial⟩⟩,fun _=>⟨fun _=>trivial,fun _=>⟨⟨h1,h⟩,⟨?_,?_,h3⟩,?_⟩⟩⟩,fun z=>Bool.noConfusion z⟩,?_⟩
  ·show 0≤i+1;omega
  ·show i+1≤(d.size:Int);omega
  ·show ((d.size:Int) - (i+1)).toNat <((d.size:Int) - i).toNat;omega
  ·cases r4
   ·cases b <;> cases decide (n>1152921504606846976) <;> rfl
   ·rfl
 ·have er2:r2=false:=by rw [hr2];exact decide_eq_false h
  rw [er2]
  refine ⟨⟨fun z=>Bool.noConfusion z,fun _=>trivial⟩,?_⟩
  unfold eO
  simp only [cond_false]
  rw [List.drop_eq_nil_of_le (by rw [Array.length_toList];show d.size≤i.toNat;omega)]
  rfl
noncomputable def CX:LoopSum:=c8 lpNl eO pU
noncomputable def CJ:Nat:=rid (aA Tryz.f81 0)
theorem DQ:LoopOKp Tryz.prog 0 Tryz.f81.ntmps (aA Tryz.f81 0) (c8 lpNl eO pU):=
 gl lpNl (bR (CtrsOK.nil) _) mixed (fun b hb S hS=>by cases hS) eO pU An (fun |⟨lo,hi_,g,d,n,b,i,⟨⟩⟩,hi=>Eo lo hi_ g d n b i hi)
theorem uM (s:ByteArray) (lo:Int) (hi:Int) (hs:s.size≤az) :(evPat (bt [] Tryz.f81) (find [(CJ,CX)]) Tryz.f81 qNr Cc (s,lo,hi,())).sat fun z_=>z_ =(AU (s,lo,hi,())).2:=by
 refine cast (by kernel_rfl) (?_:let r1:Bool:=!s.toList ==(ByteArray.mk #[]).toList;let r2:Bool:=bif r1 then (↑(s.1.getD (Int.toNat (0:Int)) (0:UInt8)).toNat:Int) ==(45:Int) else false;let r3:ByteArray:=bif r2 then s.extract (Int.toNat (1:Int)) (↑s.size:Int).toNat else s;let r4:Int:=(↑r3.size:Int);let r5:Bool:=r3.toList ==(ByteArray.mk #[]).toList;let r6:Bool:=(↑(r3.1.getD (Int.toNat (0:Int)) (0:UInt8)).toNat:Int) ==(48:Int);let r7:Bool:=bif r5 then true else bif r6 then bif r2 then true else decide (r4 >(1:Int)) else false;let r8:Bool:=isL (eO (lo,hi,r2,r3,(0:Int),false,(0:Int),()));let r9:Int×Int×Bool×Int×Bool×PUnit:=BK (dflt (I.prod (I.prod (Ty.bool.prod ((Ty.int IntKind.u64).prod (Ty.bool.prod Ty.unit)))))) (eO (lo,hi,r2,r3,(0:Int),false,(0:Int),()));let r10:Int:=IntKind.i64.wrap r9.2.2.2.1;let r11:Int:=bif r9.2.2.1 then IntKind.i64.wrap ((0:Int) - r10) else r10;let r12:Bool:=bif r9.2.2.2.2.1 then true else bif decide (r9.2.2.2.1 >(9223372036854775808:Int)) then true else bif r9.2.2.2.1 ==(9223372036854775808:Int) then !r9.2.2.1 else false;let r13:Bool:=bif decide (r11<r9.1) then true else decide (r11>r9.2.1);((r1=true→((0:Int)≤(0:Int)∧(0:Int) <(↑s.size:Int))∧True)∧(r1=false→True))∧(true=true→((r2=true→((0:Int)≤(1:Int)∧(1:Int)≤(↑s.size:Int)∧(↑s.size:Int)≤(↑s.size:Int))∧True)∧(r2=false→True))∧(true=true→((r5=true→True)∧(r5=false→((0:Int)≤(0:Int)∧(0:Int)<r4)∧(r6=true→(r2=true→True)∧(r2=false→True))∧(r6=false→True)))∧(true=true→(r7=true→((0:Int),(4:Int),()) =((ba s lo hi).1,(ba s lo hi).2,()))∧(r7=false→((yx fun x=>none)∧(0:Int)≤(0:Int)∧(0:Int)≤r4∧r3.size≤az)∧(r8=true→zO (dflt (I.prod (I.prod Ty.unit))) (eO (lo,hi,r2,r3,(0:Int),false,(0:Int),())) =((ba s lo hi).1,(ba s lo hi).2,()))∧(r8=false→(r12=true→((0:Int),(2:Int),()) =((ba s lo hi).1,(ba s lo hi).2,()))∧(r12=false→(r13=true→((0:Int),(2:Int),()) =((ba s lo hi).1,(ba s lo hi).2,()))∧(r13=false→(r11,(0:Int),()) =((ba s lo hi).1,(ba s lo hi).2,())))))))))
 intro r1 r2 r3 r4 r5 r6 r7 r8 r9 r10 r11 r12 r13
 clear_value (hr1:r1=_) (hr2:r2=_) (hr3:r3=_) (hr4:r4=_) (hr5:r5=_) (hr6:r6=_) (hr7:r7=_) (hr8:r8=_) (hr9:r9=_) (hr10:r10=_) (hr11:r11=_) (hr12:r12=_) (hr13:r13=_)
 have e1:r1=!s.data.toList.isEmpty:=by rw [hr1,isE]
 have hz:r1=true→0 <(s.size:Int):=fun h=>by rw [e1] at h;exact CP h
 have e2:r2=dK s:=by
  rw [hr2,e1]
  unfold dK
  cases he:s.data.toList.isEmpty
  ·rw [w3,FY]
   rfl
  ·rfl
 have h2:r2=true→0 <(s.size:Int):=fun h=>hz (by rw [hr2] at h;cases r1;exact h;rfl)
 have e3:r3=aL s:=by
  rw [hr3,e2]
  unfold aL
  cases dK s <;> rfl
 have hd :(aL s).size≤az:=by
  unfold aL
  split
  ·rw [ByteArray.size_extract];omega
  ·exact hs
 have e5:r5 =(aL s).data.toList.isEmpty:=by rw [hr5,e3,isE]
 have e6:r6 =((aL s).data.toList.headD 0==48):=by rw [hr6,e3,w3,FZ]
 have e7:r7 =((aL s).data.toList.isEmpty ||((aL s).data.toList.headD 0==48&&(dK s||decide (((aL s).size:Int)>1)))):=by
  rw [hr7,e5,e6,e2,hr4,e3]
  cases (aL s).data.toList.isEmpty <;> cases ((aL s).data.toList.headD 0==48) <;> cases dK s <;> rfl
 have er:eO (lo,hi,r2,r3,0,false,0,())=EV lo hi (dK s) (jX (aL s).data.toList 0 false):=by
  rw [e2,e3];rfl
 have eN:r7=true→ba s lo hi =(0,4):=fun h=>by
  unfold ba;simp only [];rw [←e7,h];rfl
 have eF:r7=false→ba s lo hi=vA (dK s) lo hi (jX (aL s).data.toList 0 false):=fun h=>by
  unfold ba;simp only [];rw [←e7,h];rfl
 refine ⟨⟨fun h=>⟨⟨Int.le_refl _,hz h⟩,trivial⟩,fun _=>trivial⟩,fun _=>⟨⟨fun h=>⟨⟨by decide,by have:=h2 h;omega,Int.le_refl _⟩,trivial⟩,fun _=>trivial⟩,fun _=>⟨⟨fun _=>trivial,fun h=>⟨⟨Int.le_refl _,?_⟩,fun _=>⟨fun _=>trivial,fun _=>trivial⟩,fun _=>trivial⟩⟩,fun _=>⟨fun h=>by rw [eN h],fun h7=>⟨⟨rfl,Int.le_refl _,by omega,by rw [e3];exact hd⟩,?_⟩⟩⟩⟩⟩
 ·rw [hr4,e3]
  exact CP (by rw [←e5,h];rfl)
 ·rw [eF h7]
  rw [er] at hr8 hr9 ⊢
  cases hp:jX (aL s).data.toList 0 false with
  | none=>
   rw [hp] at hr8 hr9
   have:r8=true:=hr8
   exact ⟨fun _=>rfl,fun h=>absurd (this▸h) (by decide)⟩
  | some p=>
   rw [hp] at hr8 hr9
   have h8:r8=false:=hr8
   have h9:r9 =(lo,hi,dK s,p.1,p.2,()):=hr9
   rw [h9] at hr10 hr11 hr12 hr13
   simp only at hr10 hr11 hr12 hr13
   refine ⟨fun h=>absurd (h8▸h) (by decide),fun _=>?_⟩
   have c12:r12 =(p.2 ||(decide (p.1>9223372036854775808) ||(p.1==9223372036854775808&&!dK s))):=by
    rw [hr12]
    cases p.2 <;> cases decide (p.1>9223372036854775808) <;> cases (p.1==9223372036854775808) <;> rfl
   have c11:r11=if dK s then IntKind.i64.wrap (0 - IntKind.i64.wrap p.1) else IntKind.i64.wrap p.1:=by
    rw [hr11,hr10]
    cases dK s <;> rfl
   have c13:r13 =(decide (r11<lo)||decide (r11>hi)):=by
    rw [hr13]
    cases decide (r11<lo) <;> rfl
   unfold vA
   simp only []
   rw [←c12,←c11,←c13]
   refine ⟨fun h=>by rw [h];rfl,fun h=>⟨fun h'=>by rw [h,h'];rfl,fun h'=>by rw [h,h'];rfl⟩⟩
def bE:FuncId×Ctr:=(81,aB KE qNr Cc AU)
theorem n7:CtrOK Tryz.prog KE 81 (aB KE qNr Cc AU):=by
 refine ij (C:=bt [] Tryz.f81) (bR (CtrsOK.nil) _) mixed (fn:=Tryz.f81) Tryz.func81 (by kernel_rfl) (by kernel_rfl) (by kernel_rfl) (by kernel_rfl) (by kernel_rfl) (by kernel_rfl) (Λ:=fun x=>find [(CJ,CX)]) ?_ ?_
 ·rintro ⟨s,lo,hi,⟨⟩⟩ hw hn
  exact LoopsOKp.at (by kernel_rfl) (.cons (by kernel_rfl) (DQ) .nil)
 ·rintro ⟨s,lo,hi,⟨⟩⟩ hw hn
  exact uM s lo hi (FK (Bh hw))
end Go.Proofs.YthaeofeigglbhaaGreatDoor
namespace Go.Proofs.YthaeofeigglbhaaGreatDoor
open Go Go.Mir
def eV (c:UInt8):Bool:=decide (48≤c.toNat)&&decide (c.toNat≤57)
def eP:List UInt8→Nat→Nat
 | [],a=>a
 | c::r,a=>eP r (a*10 +(c.toNat - 48))
theorem sN :∀ (l:List UInt8) (a:Nat),a≤eP l a
 | [],_=>Nat.le_refl _
 | c::r,a=>by
  have:=sN r (a*10 +(c.toNat - 48))
  unfold eP
  omega
theorem x9 (c:UInt8):digsB.data.toList.contains c=eV c:=by
 have key :∀ c:Fin 256,digsB.data.toList.contains (UInt8.ofNat c.val)=eV (UInt8.ofNat c.val):=by decide +kernel
 have:=key ⟨c.toNat,UInt8.toNat_lt c⟩
 simpa using this
theorem vr (p:UInt8→Bool) :∀ l:List UInt8,l.dropWhile p=[]↔∀ x∈l,p x=true
 | []=>by simp
 | x::r=>by
  have ih:=vr p r
  rw [List.dropWhile_cons]
  cases hp:p x
  ·simp [hp]
  ·simp [hp,ih]
theorem Bb (p:UInt8→Bool) (l:List UInt8) :((l.reverse.dropWhile p).reverse.dropWhile p).isEmpty=l.all p:=by
 apply Bool.eq_iff_iff.2
 rw [List.isEmpty_iff,vr,List.all_eq_true]
 constructor
 ·intro h
  by_cases he:l.reverse.dropWhile p=[]
  ·intro x hx
   exact ((vr p _).1 he) x (List.mem_reverse.2 hx)
  ·have h1:=List.head_dropWhile_not p he
   have h2:=h _ (List.mem_reverse.2 (List.head_mem he))
   rw [h1] at h2;cases h2
 ·intro h x hx
  have hx:=List.mem_reverse.1 hx
  exact h x (List.mem_reverse.1 ((List.dropWhile_sublist p).mem hx))
theorem F0 (s:ByteArray) :(s.extract 1 s.size).data.toList=s.data.toList.drop 1:=by
 rw [←sJ]
 show ((s.data.toList.take s.size).drop 1)=_
 rw [List.take_of_length_le (by rw [Array.length_toList];exact Nat.le_refl _)]
theorem gu (s:ByteArray) :(aL s).data.toList=if dK s then s.data.toList.drop 1 else s.data.toList:=by
 unfold aL
 split
 ·exact F0 s
 ·rfl
theorem wI (s:ByteArray):Lib.trimPrefix s.data.toList minusB.data.toList =(aL s).data.toList:=by
 rw [gu]
 unfold dK Lib.trimPrefix Lib.hasPrefix minusB
 cases s.data.toList with
 | nil=>rfl
 | cons b t=>
  have:List.isPrefixOf [45] (b::t) =(b==45):=by
   show ((45:UInt8)==b&&List.isPrefixOf [] t)=_
   rw [BEq.comm]
   simp [List.isPrefixOf]
  show (if List.isPrefixOf [45] (b::t) then _ else _)=_
  rw [this]
  simp
theorem oD (s:ByteArray):s.size=s.data.toList.length:=by rw [Array.length_toList];rfl
theorem mS (s:ByteArray):iT s =(!(aL s).data.toList.isEmpty&&!((aL s).data.toList.headD 0==48&&(dK s||decide (((aL s).size:Int)>1)))&&(aL s).data.toList.all eV):=by
 unfold iT
 rw [wI,Lib.toList_data]
 have ht :(Lib.trimS (aL s).data.toList digsB.data.toList).isEmpty =(aL s).data.toList.all eV:=by
  unfold Lib.trimS Lib.trimLeftS Lib.trimRightS
  have :(fun x=>digsB.data.toList.contains x)=eV:=funext x9
  rw [this,Bb]
 simp only [ht,oD]
 rw [gu]
 cases hn:dK s with
 | true=>
  simp only [if_true,Bool.true_or,Bool.and_true]
  have :(s.data.toList==[48])=false:=by
   unfold dK at hn
   cases hs:s.data.toList with
   | nil=>rfl
   | cons b t=>
    rw [hs] at hn
    have hb:b=45:=by simpa using hn
    subst hb
    simp
  rw [this]
  cases (s.data.toList.drop 1).isEmpty <;> simp
 | false=>
  simp only [Bool.false_or,Bool.false_eq_true,if_false]
  cases hs:s.data.toList with
  | nil=>rfl
  | cons b t=>
   cases t with
   | nil=>simp
   | cons c r=>
    have h1:decide (((b::c::r).length:Int)>1)=true:=decide_eq_true (by simp only [List.length_cons];omega)
    have h2 :(b::c::r==[(48:UInt8)])=false:=by simp
    rw [h1,h2]
    simp
theorem qd :∀ (l:List UInt8) (n:Int) (b:Bool),l.all eV=false→jX l n b=none
 | [],_,_,h=>by cases h
 | c::r,n,b,h=>by
  rw [mc]
  by_cases hc:eV c=true
  ·have h':r.all eV=false:=by
    rw [List.all_cons,hc] at h;exact h
   unfold eV at hc
   rw [if_neg (by simp at hc ⊢;omega)]
   exact qd r _ _ h'
  ·unfold eV at hc
   rw [if_pos (by simp at hc ⊢;omega)]
def EF (n:Int) (b:Bool) (a:Nat):Prop:=(b=false∧n=a∧a≤11529215046068469769)∨(b=true∧a>9223372036854775808)
theorem qe :∀ (l:List UInt8) (n:Int) (b:Bool) (a:Nat),l.all eV=true→EF n b a→∃ n' b',jX l n b=some (n',b')∧EF n' b' (eP l a)
 | [],n,b,a,_,h=>⟨n,b,rfl,h⟩
 | c::r,n,b,a,h,hi=>by
  rw [List.all_cons,Bool.and_eq_true] at h
  have hc:=h.1
  unfold eV at hc
  simp only [Bool.and_eq_true,decide_eq_true_eq] at hc
  rw [mc,if_neg (by simp;omega)]
  refine qe r _ _ (a*10 +(c.toNat - 48)) h.2 ?_
  rcases hi with ⟨rfl,rfl,h3⟩ |⟨rfl,h3⟩
  ·by_cases hb:a>1152921504606846976
   ·refine .inr ⟨by simp;omega,by omega⟩
   ·refine .inl ⟨by simp;omega,?_,by omega⟩
    unfold xg
    have e1:IntKind.u8.wrap ((c.toNat:Int) - 48) =(c.toNat:Int) - 48:=by
     simp only [IntKind.wrap,IntKind.bits,IntKind.signed]
     simp
     omega
    have e2:IntKind.u64.wrap ((a:Int)*10) =(a:Int)*10:=qH (by omega) (by omega)
    have e3:IntKind.u64.wrap ((c.toNat:Int) - 48) =(c.toNat:Int) - 48:=qH (by omega) (by omega)
    rw [e1,e2,e3,qH (by omega) (by omega)]
    omega
  ·exact .inr ⟨by simp,by omega⟩
theorem u4 :∀ (l:List UInt8) (a:Nat),l.all eV=true→a≤18446744073709551615→
  (Lib.parseUintM 18446744073709551615 a l = .ok (eP l a)∧eP l a≤18446744073709551615)∨(Lib.parseUintM 18446744073709551615 a l = .range∧eP l a>18446744073709551615)
 | [],a,_,h=> .inl ⟨rfl,h⟩
 | c::r,a,h,ha=>by
  rw [List.all_cons,Bool.and_eq_true] at h
  have hc:=h.1
  unfold eV at hc
  simp only [Bool.and_eq_true,decide_eq_true_eq] at hc
  unfold Lib.parseUintM
  rw [if_pos hc]
  have hv:=sN r (a*10 +(c.toNat - 48))
  split
  ·exact .inr ⟨rfl,by unfold eP;omega⟩
  ·split
   ·exact .inr ⟨rfl,by unfold eP;omega⟩
   ·exact u4 r _ h.2 (by omega)
theorem B3 {s:ByteArray} {lo hi:Int} (h:iT s=false):ba s lo hi =(0,4):=by
 rw [mS] at h
 unfold ba
 simp only []
 split
 ·rfl
 ·rename_i h1
  have h1 :((aL s).data.toList.isEmpty ||((aL s).data.toList.headD 0==48&&(dK s||decide (((aL s).size:Int)>1))))=false:=by simpa using h1
  rw [Bool.or_eq_false_iff] at h1
  rw [h1.1,h1.2] at h
  rw [qd _ _ _ (by simpa using h)]
  rfl
theorem ui {s:ByteArray} {lo hi:Int} (h:iT s=true) :(aL s).data.toList≠ []∧(aL s).data.toList.all eV=true∧ba s lo hi=vA (dK s) lo hi (jX (aL s).data.toList 0 false):=by
 rw [mS,Bool.and_eq_true,Bool.and_eq_true] at h
 obtain ⟨⟨h1,h2⟩,h3⟩:=h
 refine ⟨fun e=>(by rw [e] at h1;cases h1),h3,?_⟩
 unfold ba
 simp only []
 rw [if_neg]
 have h1 :(aL s).data.toList.isEmpty=false:=by simpa using h1
 rw [Bool.not_eq_true'] at h2
 rw [h1,h2]
 decide
theorem mh {s:ByteArray} (h1 :(aL s).data.toList≠ []) (h2 :(aL s).data.toList.all eV=true) :
  Lib.parseIntB 64 s.data.toList =(if (if dK s then eP (aL s).data.toList 0>9223372036854775808 else eP (aL s).data.toList 0≥9223372036854775808) then .range else .ok (if dK s then -(eP (aL s).data.toList 0:Int) else eP (aL s).data.toList 0)):=by
 have hl:=gu s
 generalize (aL s).data.toList=d at *
 unfold dK at *
 generalize s.data.toList=l at *
 cases l with
 | nil=>exact absurd hl h1
 | cons c r=>
  have hv:=u4 d 0 h2 (by decide)
  have hd:Lib.parseUintB 64 (if c.toNat=43∨c.toNat=45 then r else c::r)=Lib.parseUintM 18446744073709551615 0 d:=by
   have :(if c.toNat=43∨c.toNat=45 then r else c::r)=d:=by
    rw [hl]
    by_cases h:c=45
    ·subst h;rfl
    ·have hb :(c==45)=false:=by simpa using h
     have hn :(!(c::r).isEmpty&&(c::r).headD 0==45)=false:=by simpa using hb
     rw [hn] at hl ⊢
     simp only [if_false,Bool.false_eq_true] at hl ⊢
     rw [if_neg]
     rw [hl,List.all_cons,Bool.and_eq_true] at h2
     have:=h2.1
     unfold eV at this
     simp only [Bool.and_eq_true,decide_eq_true_eq] at this
     omega
   rw [this]
   unfold Lib.parseUintB
   rw [if_neg h1]
  unfold Lib.parseIntB
  simp only []
  rw [hd]
  have hneg :(c.toNat=45)↔(!(c::r).isEmpty&&(c::r).headD 0==45)=true:=by
   simp only [List.isEmpty_cons,Bool.not_false,Bool.true_and,List.headD_cons,beq_iff_eq]
   rw [←UInt8.toNat_inj]
   exact Iff.rfl
  cases hb :(!(c::r).isEmpty&&(c::r).headD 0==45) with
  | true=>
   have hc:c.toNat=45:=hneg.2 hb
   rcases hv with ⟨e,hle⟩ |⟨e,hgt⟩
   ·rw [e]
    simp only [hc,not_true,false_and,if_false,true_and,if_true]
   ·rw [e]
    simp only [if_true]
    rw [if_pos (by omega)]
  | false=>
   have hc :¬ c.toNat=45:=fun h=>by rw [hneg.1 h] at hb;cases hb
   rcases hv with ⟨e,hle⟩ |⟨e,hgt⟩
   ·rw [e]
    simp only [hc,not_false_iff,true_and,false_and,if_false,Bool.false_eq_true]
   ·rw [e]
    simp only [Bool.false_eq_true,if_false]
    rw [if_pos (by omega)]
theorem bs (s:ByteArray) (lo hi:Int):ba s lo hi=fF s lo hi:=by
 unfold fF
 cases hb:iT s with
 | false=>exact B3 hb
 | true=>
  obtain ⟨h1,h2,h3⟩:=ui (lo:=lo) (hi:=hi) hb
  rw [h3,mh h1 h2]
  obtain ⟨n,b,hn,hi'⟩:=qe (aL s).data.toList 0 false 0 h2 (.inl ⟨rfl,rfl,by omega⟩)
  rw [hn]
  generalize eP (aL s).data.toList 0=V at *
  unfold vA
  simp only [if_true]
  rcases hi' with ⟨rfl,rfl,hV⟩ |⟨rfl,hV⟩
  ·cases dK s with
   | true=>
    by_cases hg:V>9223372036854775808
    ·rw [if_pos (by simp;omega)]
     simp [hg]
    ·rw [if_neg (by simp;omega)]
     simp only [if_true,hg,if_false]
     have e1:IntKind.i64.wrap (0 - IntKind.i64.wrap (V:Int)) = -(V:Int):=by
      by_cases h63:V=9223372036854775808
      ·subst h63;decide
      ·rw [iC (n:=(V:Int)) (by omega) (by omega),iC (by omega) (by omega)];omega
     rw [e1]
     by_cases hr:-(V:Int)<lo∨hi < -(V:Int)
     ·rw [if_pos (by simpa using hr),if_pos hr]
     ·rw [if_neg (by simpa using hr),if_neg hr]
   | false=>
    by_cases hg:V≥9223372036854775808
    ·rw [if_pos (by simp;omega)]
     simp [hg]
    ·rw [if_neg (by simp;omega)]
     simp only [Bool.false_eq_true,if_false,hg]
     have e1:IntKind.i64.wrap (V:Int) =(V:Int):=iC (by omega) (by omega)
     rw [e1]
     by_cases hr :(V:Int)<lo∨hi <(V:Int)
     ·rw [if_pos (by simpa using hr),if_pos hr]
     ·rw [if_neg (by simpa using hr),if_neg hr]
  ·rw [if_pos (by simp)]
   cases dK s
   ·simp only [Bool.false_eq_true,if_false]
    rw [if_pos (by omega)]
   ·simp only [if_true]
    rw [if_pos (by omega)]
end Go.Proofs.YthaeofeigglbhaaGreatDoor
namespace Go.Proofs.YthaeofeigglbhaaGreatDoor
open Go Go.Mir
attribute [local irreducible] Go.Mir.DT.sat Go.Mir.evPat Go.Mir.RT.sat Go.Mir.evFn
abbrev qT0:Pat:=gT []
abbrev wc:Pat:=gT [.slice .str]
def kindL:List ByteArray:= [⟨#[66,65,84,84,69,82]⟩,⟨#[66,79,87,76,69,82]⟩,⟨#[84,69,65,77]⟩,⟨#[83,84,65,78,68]⟩,⟨#[72,65,84,84,82,73,67,75]⟩]
def mm:Den (tyP qT0)→List Prop×Den (tyP wc):=fun _=>([],(kindL,()))
abbrev qMk:Pat:=gT [.nm .Mark]
abbrev we:Pat:=gT [.str,I]
abbrev F3:List (Nat×PB):= [(0,.row 1 I)]
abbrev qTx:Pat:=⟨[(4,.h .str),(27,.c (.osl 0 1)),(28,.h I),(29,.h I)],F3,2⟩
abbrev xTx:List (Lf×Pat):= [(.ret,⟨[(2,.h .str),(3,.h I)],[],0⟩),(.ext 0,⟨[(4,.h .str)],[],0⟩)]
abbrev TTx:Type:=ByteArray×Int×Int×List Int×Unit
def dL (n:Int):ByteArray:=(ByteArray.mk #[32])++cz n
def uU:List Int→ByteArray→Sum (ByteArray×Int×Unit) (ByteArray×Unit)
 | [],s=> .inr (s,())
 | n::r,s=>if decide (n<0)||decide (n>1000000) then .inl (⟨#[]⟩,2,()) else uU r (s++dL n)
def iG (x:TTx):Prop:=x.2.1 =(x.2.2.2.1.length:Int)∧x.2.2.2.1.length≤3∧0≤x.2.2.1∧x.2.2.1≤x.2.1∧(x.1.size:Int)≤10+30*x.2.2.1
def pk (x:TTx):Nat:=(x.2.1 - x.2.2.1).toNat
def a7 (x:TTx):Sum (ByteArray×Int×Unit) (ByteArray×Unit):=uU (x.2.2.2.1.drop x.2.2.1.toNat) x.1
def pP:Sum (ByteArray×Int×Unit) (ByteArray×Unit)→ByteArray×Int
 | .inl p=>(p.1,p.2.1)
 | .inr p=>(p.1,0)
def aJ (m:Mir.Mark):ByteArray×Int:=
 if decide (m.Kind<1)||decide (m.Kind>5) then (⟨#[]⟩,3) else pP (uU [m.Player,m.Value,m.Event] (kindL.getD (m.Kind - 1).toNat ⟨#[]⟩))
def qy:Den (tyP qMk)→List Prop×Den (tyP we):=fun x=>([],((aJ x.1).1,(aJ x.1).2,()))
theorem Cy (xs:List Int) {i:Int} (h0:0≤i) (h1:i<xs.length):xs.drop i.toNat=xs.getD i.toNat 0::xs.drop (i+1).toNat:=by
 have hn:i.toNat<xs.length:=by omega
 have e1 :(i+1).toNat=i.toNat+1:=by omega
 rw [List.drop_eq_getElem_cons hn,e1,List.getD_eq_getElem?_getD,List.getElem?_eq_getElem hn]
 rfl
theorem lP {n:Int} (h0:0≤n) (h1:n≤1000000) :(cz n).size≤21:=by
 show (Lib.itoa n).toArray.size≤21
 rw [List.size_toArray]
 exact Lib.itoa_length_le n (by omega) (by omega)
theorem l7 (k:Nat) :(kindL.getD k ⟨#[]⟩).size≤10:=by
 rcases Nat.lt_or_ge k 5 with h|h
 ·have key :∀ k:Fin 5,(kindL.getD k.val ⟨#[]⟩).size≤10:=by decide +kernel
  exact key ⟨k,h⟩
 ·rw [List.getD_eq_getElem?_getD,List.getElem?_eq_none h]
  decide
theorem cG (n:Int) (r:List Int) (s:ByteArray):uU (n::r) s=if decide (n<0)||decide (n>1000000) then .inl (⟨#[]⟩,2,()) else uU r (s++dL n):=rfl
theorem wx :(evPat (bt [] Tryz.f74) (fun _=>none) Tryz.f74 qT0 wc ()).sat fun z_=>z_ =(mm ()).2:=by
 refine cast (by kernel_rfl) (?_ :([ByteArray.mk #[66,65,84,84,69,82],ByteArray.mk #[66,79,87,76,69,82],ByteArray.mk #[84,69,65,77],ByteArray.mk #[83,84,65,78,68],ByteArray.mk #[72,65,84,84,82,73,67,75]],()) =(kindL,()))
 rfl
def cX:FuncId×Ctr:=(74,aB KE qT0 wc mm)
theorem me:CtrOK Tryz.prog KE 74 (aB KE qT0 wc mm):=by
 refine ij (C:=bt [] Tryz.f74) (bR (CtrsOK.nil) _) mixed (fn:=Tryz.f74) Tryz.func74 (by kernel_rfl) (by kernel_rfl) (by kernel_rfl) (by kernel_rfl) (by kernel_rfl) (by kernel_rfl) (Λ:=fun _ _=>none) ?_ ?_
 ·exact fun _ _ _ _ _ _ _ _ h=>by cases h
 ·rintro ⟨⟩ hw hn
  exact wx
theorem uL :(evPat (bt [] Tryz.f76) (fun _=>none) Tryz.f76 qT0 wc ()).sat fun z_=>z_ =(mm ()).2:=by
 refine cast (by kernel_rfl) (?_ :([ByteArray.mk #[66,65,84,84,69,82],ByteArray.mk #[66,79,87,76,69,82],ByteArray.mk #[84,69,65,77],ByteArray.mk #[83,84,65,78,68],ByteArray.mk #[72,65,84,84,82,73,67,75]],()) =(kindL,()))
 rfl
def a6:FuncId×Ctr:=(76,aB KE qT0 wc mm)
theorem kN:CtrOK Tryz.prog KE 76 (aB KE qT0 wc mm):=by
 refine ij (C:=bt [] Tryz.f76) (bR (CtrsOK.nil) _) mixed (fn:=Tryz.f76) Tryz.func76 (by kernel_rfl) (by kernel_rfl) (by kernel_rfl) (by kernel_rfl) (by kernel_rfl) (by kernel_rfl) (Λ:=fun _ _=>none) ?_ ?_
 ·exact fun _ _ _ _ _ _ _ _ h=>by cases h
 ·rintro ⟨⟩ hw hn
  exact uL
noncomputable def lpTx:Lp:=(⟨0,bt [l8] Tryz.f27,(fun _=>none),(aA Tryz.f27 0),qTx,xTx⟩:Lp)
theorem Er (s:ByteArray) (n:Int) (i:Int) (xs:List Int) (hi:iG (s,n,i,xs,())) :(Go.Mir.stepG lpTx a7 (fun y:Den (tyP lpTx.q)=>iG y∧pk y<pk (s,n,i,xs,())) (s,n,i,xs,())∧Go.Mir.stepE lpTx a7 (s,n,i,xs,())=a7 (s,n,i,xs,())):=by
 refine cast (by kernel_rfl) (?_:let r1:ByteArray:=ByteArray.mk #[32]++cz (xs.getD i.toNat (dflt (Ty.int IntKind.i64)));let r2:Bool:=bif decide (xs.getD i.toNat (dflt (Ty.int IntKind.i64)) <(0:Int)) then true else decide (xs.getD i.toNat (dflt (Ty.int IntKind.i64)) >(1000000:Int));((decide (i<n)=true→((0:Int)≤i∧i <(↑xs.length:Int))∧(r2=true→True)∧(r2=false→(ByteArray.mk #[32]).size +(cz (xs.getD i.toNat (dflt (Ty.int IntKind.i64)))).size≤az∧s.size+r1.size≤az∧iG (s++r1,n,IntKind.i64.wrap (i +(1:Int)),xs,())∧pk (s++r1,n,IntKind.i64.wrap (i +(1:Int)),xs,())<pk (s,n,i,xs,())))∧(decide (i<n)=false→True))∧(bif decide (i<n) then bif r2 then Sum.inl (ByteArray.mk #[],(2:Int),()) else a7 (s++r1,n,IntKind.i64.wrap (i +(1:Int)),xs,()) else Sum.inr (s,()))=a7 (s,n,i,xs,()))
 intro r1 r2
 clear_value (hr1:r1=_) (hr2:r2=_)
 obtain ⟨h1,h1b,h2,h3,h4⟩:=hi
 have h1:n =(xs.length:Int):=h1
 have h1b:xs.length≤3:=h1b
 have h2:0≤i:=h2
 have h3:i≤n:=h3
 have h4 :(s.size:Int)≤10+30*i:=h4
 have hL :(1000:Nat)≤az:=by decide
 by_cases h:i<n
 ·have ew:IntKind.i64.wrap (i+1)=i+1:=iC (by omega) (by omega)
  have er:r2 =(decide (xs.getD i.toNat 0<0)||decide (xs.getD i.toNat 0>1000000)):=by
   rw [hr2]
   show (bif decide (xs.getD i.toNat 0<0) then true else decide (xs.getD i.toNat 0>1000000))=_
   cases decide (xs.getD i.toNat 0<0) <;> rfl
  have key:a7 (s,n,i,xs,())=if r2 then .inl (⟨#[]⟩,2,()) else a7 (s++r1,n,i+1,xs,()):=by
   unfold a7
   simp only []
   rw [Cy xs h2 (by omega),cG,er,hr1]
   rfl
  have hb:r2=false→0≤xs.getD i.toNat 0∧xs.getD i.toNat 0≤1000000:=fun e=>by
   rw [er] at e
   simp only [Bool.or_eq_false_iff,decide_eq_false_iff_not] at e
   omega
  have hz:r2=false→(cz (xs.getD i.toNat 0)).size≤21:=fun e=>lP (hb e).1 (hb e).2
  have z32 :(ByteArray.mk #[32]).size=1:=rfl
  have hz1:r2=false→r1.size≤22:=fun e=>by
   have:=hz e
   rw [hr1,ByteArray.size_append,z32]
   show 1 +(cz (xs.getD i.toNat 0)).size≤22
   omega
  rw [decide_eq_true h,key,ew]
  refine ⟨⟨fun _=>⟨⟨h2,by omega⟩,fun _=>trivial,fun e=>⟨by have:=hz e;show 1 +(cz (xs.getD i.toNat 0)).size≤az;omega,by have:=hz1 e;omega,⟨h1,h1b,?_,?_,?_⟩,?_⟩⟩,fun z=>Bool.noConfusion z⟩,?_⟩
  ·show 0≤i+1;omega
  ·show i+1≤n;omega
  ·show ((s++r1).size:Int)≤10+30 *(i+1)
   have:=hz1 e
   rw [ByteArray.size_append];omega
  ·show (n - (i+1)).toNat <(n - i).toNat;omega
  ·cases r2 <;> rfl
 ·rw [decide_eq_false h]
  refine ⟨⟨fun z=>Bool.noConfusion z,fun _=>trivial⟩,?_⟩
  unfold a7
  simp only [cond_false]
  rw [List.drop_eq_nil_of_le (by omega)]
  rfl
noncomputable def CZ:LoopSum:=c8 lpTx a7 iG
noncomputable def CL:Nat:=rid (aA Tryz.f27 0)
theorem DS:LoopOKp Tryz.prog 0 Tryz.f27.ntmps (aA Tryz.f27 0) (c8 lpTx a7 iG):=
 gl lpTx (bR (.consU n8 rfl .nil) _) mixed (fun b hb S hS=>by cases hS) a7 iG pk (fun |⟨s,n,i,xs,⟨⟩⟩,hi=>Er s n i xs hi)
noncomputable def lpTy:Lp:=(⟨0,bt [kG] Tryz.f28,(fun _=>none),(aA Tryz.f28 0),qTx,xTx⟩:Lp)
theorem Et (s:ByteArray) (n:Int) (i:Int) (xs:List Int) (hi:iG (s,n,i,xs,())) :(Go.Mir.stepG lpTy a7 (fun y:Den (tyP lpTy.q)=>iG y∧pk y<pk (s,n,i,xs,())) (s,n,i,xs,())∧Go.Mir.stepE lpTy a7 (s,n,i,xs,())=a7 (s,n,i,xs,())):=by
 refine cast (by kernel_rfl) (?_:let r1:ByteArray:=ByteArray.mk #[32]++cz (xs.getD i.toNat (dflt (Ty.int IntKind.i64)));let r2:Bool:=bif decide (xs.getD i.toNat (dflt (Ty.int IntKind.i64)) <(0:Int)) then true else decide (xs.getD i.toNat (dflt (Ty.int IntKind.i64)) >(1000000:Int));((decide (i<n)=true→((0:Int)≤i∧i <(↑xs.length:Int))∧(r2=true→True)∧(r2=false→yu (xs.getD i.toNat (dflt (Ty.int IntKind.i64)))∧(ByteArray.mk #[32]).size +(cz (xs.getD i.toNat (dflt (Ty.int IntKind.i64)))).size≤az∧s.size+r1.size≤az∧iG (s++r1,n,IntKind.i64.wrap (i +(1:Int)),xs,())∧pk (s++r1,n,IntKind.i64.wrap (i +(1:Int)),xs,())<pk (s,n,i,xs,())))∧(decide (i<n)=false→True))∧(bif decide (i<n) then bif r2 then Sum.inl (ByteArray.mk #[],(2:Int),()) else a7 (s++r1,n,IntKind.i64.wrap (i +(1:Int)),xs,()) else Sum.inr (s,()))=a7 (s,n,i,xs,()))
 intro r1 r2
 clear_value (hr1:r1=_) (hr2:r2=_)
 obtain ⟨h1,h1b,h2,h3,h4⟩:=hi
 have h1:n =(xs.length:Int):=h1
 have h1b:xs.length≤3:=h1b
 have h2:0≤i:=h2
 have h3:i≤n:=h3
 have h4 :(s.size:Int)≤10+30*i:=h4
 have hL :(1000:Nat)≤az:=by decide
 by_cases h:i<n
 ·have ew:IntKind.i64.wrap (i+1)=i+1:=iC (by omega) (by omega)
  have er:r2 =(decide (xs.getD i.toNat 0<0)||decide (xs.getD i.toNat 0>1000000)):=by
   rw [hr2]
   show (bif decide (xs.getD i.toNat 0<0) then true else decide (xs.getD i.toNat 0>1000000))=_
   cases decide (xs.getD i.toNat 0<0) <;> rfl
  have key:a7 (s,n,i,xs,())=if r2 then .inl (⟨#[]⟩,2,()) else a7 (s++r1,n,i+1,xs,()):=by
   unfold a7
   simp only []
   rw [Cy xs h2 (by omega),cG,er,hr1]
   rfl
  have hb:r2=false→0≤xs.getD i.toNat 0∧xs.getD i.toNat 0≤1000000:=fun e=>by
   rw [er] at e
   simp only [Bool.or_eq_false_iff,decide_eq_false_iff_not] at e
   omega
  have hz:r2=false→(cz (xs.getD i.toNat 0)).size≤21:=fun e=>lP (hb e).1 (hb e).2
  have z32 :(ByteArray.mk #[32]).size=1:=rfl
  have hz1:r2=false→r1.size≤22:=fun e=>by
   have:=hz e
   rw [hr1,ByteArray.size_append,z32]
   show 1 +(cz (xs.getD i.toNat 0)).size≤22
   omega
  rw [decide_eq_true h,key,ew]
  refine ⟨⟨fun _=>⟨⟨h2,by omega⟩,fun _=>trivial,fun e=>⟨⟨(hb e).1,Int.le_trans (hb e).2 (by decide)⟩,by have:=hz e;show 1 +(cz (xs.getD i.toNat 0)).size≤az;omega,by have:=hz1 e;omega,⟨h1,h1b,?_,?_,?_⟩,?_⟩⟩,fun z=>Bool.noConfusion z⟩,?_⟩
  ·show 0≤i+1;omega
  ·show i+1≤n;omega
  ·show ((s++r1).size:Int)≤10+30 *(i+1)
   have:=hz1 e
   rw [ByteArray.size_append];omega
  ·show (n - (i+1)).toNat <(n - i).toNat;omega
  ·cases r2 <;> rfl
 ·rw [decide_eq_false h]
  refine ⟨⟨fun z=>Bool.noConfusion z,fun _=>trivial⟩,?_⟩
  unfold a7
  simp only [cond_false]
  rw [List.drop_eq_nil_of_le (by omega)]
  rfl
noncomputable def C1:LoopSum:=c8 lpTy a7 iG
noncomputable def CM:Nat:=rid (aA Tryz.f28 0)
theorem DU:LoopOKp Tryz.prog 0 Tryz.f28.ntmps (aA Tryz.f28 0) (c8 lpTy a7 iG):=
 gl lpTy (bR (.consU mE rfl .nil) _) mixed (fun b hb S hS=>by cases hS) a7 iG pk (fun |⟨s,n,i,xs,⟨⟩⟩,hi=>Et s n i xs hi)
theorem yJ (m:Mir.Mark) :(evPat (bt [cX,l8] Tryz.f27) (find [(CL,CZ)]) Tryz.f27 qMk we (m,())).sat fun z_=>z_ =(qy (m,())).2:=by
 refine cast (by kernel_rfl) (?_:let r1:Int:=IntKind.i64.wrap (m.1 - (1:Int));let r2:List Int:= [m.2,m.3,m.4];let r3:ByteArray:=kindL.getD r1.toNat (dflt Ty.str);let r4:Int:=(↑r2.length:Int);let r5:Bool:=bif decide (m.1 <(1:Int)) then true else decide (m.1 >(5:Int));let r6:Bool:=isL (a7 (r3,r4,(0:Int),r2,()));(r5=true→(ByteArray.mk #[],(3:Int),()) =((aJ m).1,(aJ m).2,()))∧(r5=false→((0:Int)≤r1∧r1 <(↑kindL.length:Int))∧((yx fun x=>none)∧r4 =(↑r2.length:Int)∧r2.length≤(3:Nat)∧(0:Int)≤(0:Int)∧(0:Int)≤r4∧(↑r3.size:Int)≤(10:Int) +(30:Int) *(0:Int))∧(r6=true→zO (dflt (Ty.str.prod (I.prod Ty.unit))) (a7 (r3,r4,(0:Int),r2,())) =((aJ m).1,(aJ m).2,()))∧(r6=false→((BK (dflt (Ty.str.prod Ty.unit)) (a7 (r3,r4,(0:Int),r2,()))).1,(0:Int),()) =((aJ m).1,(aJ m).2,()))))
 intro r1 r2 r3 r4 r5 r6
 clear_value (hr1:r1=_) (hr2:r2=_) (hr3:r3=_) (hr4:r4=_) (hr5:r5=_) (hr6:r6=_)
 have e5:r5 =(decide (m.Kind<1)||decide (m.Kind>5)):=by rw [hr5];cases decide (m.Kind<1) <;> rfl
 have eT:r5=true→aJ m =(⟨#[]⟩,3):=fun h=>by unfold aJ;rw [←e5,h];rfl
 refine ⟨fun h=>by rw [eT h],fun h=>?_⟩
 have hk:1≤m.Kind∧m.Kind≤5:=by
  rw [e5] at h
  simp only [Bool.or_eq_false_iff,decide_eq_false_iff_not] at h
  omega
 have e1:r1=m.Kind - 1:=by rw [hr1];exact iC (by omega) (by omega)
 have hlen :(kindL.length:Int)=5:=rfl
 have e3:r3=kindL.getD (m.Kind - 1).toNat ⟨#[]⟩:=by rw [hr3,e1];rfl
 have hz:r3.size≤10:=by rw [e3];exact l7 _
 have eR:aJ m=pP (a7 (r3,r4,0,r2,())):=by
  unfold aJ
  rw [←e5,h,e3,hr2]
  rfl
 have h3:r2.length=3:=by rw [hr2];rfl
 refine ⟨⟨by omega,by omega⟩,⟨rfl,hr4,by omega,Int.le_refl _,by omega,by omega⟩,?_⟩
 rw [eR]
 cases hx:a7 (r3,r4,0,r2,()) with
 | inl p=>
  rw [hx] at hr6
  have:r6=true:=hr6
  exact ⟨fun _=>rfl,fun h=>absurd (this▸h) (by decide)⟩
 | inr p=>
  rw [hx] at hr6
  have:r6=false:=hr6
  exact ⟨fun h=>absurd (this▸h) (by decide),fun _=>rfl⟩
def xb:FuncId×Ctr:=(27,aB KE qMk we qy)
theorem Aw:CtrOK Tryz.prog KE 27 (aB KE qMk we qy):=by
 refine ij (C:=bt [cX,l8] Tryz.f27) (bR (.consU me rfl (.consU n8 rfl .nil)) _) mixed (fn:=Tryz.f27) Tryz.func27 (by kernel_rfl) (by kernel_rfl) (by kernel_rfl) (by kernel_rfl) (by kernel_rfl) (by kernel_rfl) (Λ:=fun x=>find [(CL,CZ)]) ?_ ?_
 ·rintro ⟨m,⟨⟩⟩ hw hn
  exact LoopsOKp.at (by kernel_rfl) (.cons (by kernel_rfl) (DS) .nil)
 ·rintro ⟨m,⟨⟩⟩ hw hn
  exact yJ m
theorem wy (m:Mir.Mark) :(evPat (bt [a6,kG] Tryz.f28) (find [(CM,C1)]) Tryz.f28 qMk we (m,())).sat fun z_=>z_ =(qy (m,())).2:=by
 refine cast (by kernel_rfl) (?_:let r1:Int:=IntKind.i64.wrap (m.1 - (1:Int));let r2:List Int:= [m.2,m.3,m.4];let r3:ByteArray:=kindL.getD r1.toNat (dflt Ty.str);let r4:Int:=(↑r2.length:Int);let r5:Bool:=bif decide (m.1 <(1:Int)) then true else decide (m.1 >(5:Int));let r6:Bool:=isL (a7 (r3,r4,(0:Int),r2,()));(r5=true→(ByteArray.mk #[],(3:Int),()) =((aJ m).1,(aJ m).2,()))∧(r5=false→((0:Int)≤r1∧r1 <(↑kindL.length:Int))∧((yx fun x=>none)∧r4 =(↑r2.length:Int)∧r2.length≤(3:Nat)∧(0:Int)≤(0:Int)∧(0:Int)≤r4∧(↑r3.size:Int)≤(10:Int) +(30:Int) *(0:Int))∧(r6=true→zO (dflt (Ty.str.prod (I.prod Ty.unit))) (a7 (r3,r4,(0:Int),r2,())) =((aJ m).1,(aJ m).2,()))∧(r6=false→((BK (dflt (Ty.str.prod Ty.unit)) (a7 (r3,r4,(0:Int),r2,()))).1,(0:Int),()) =((aJ m).1,(aJ m).2,()))))
 intro r1 r2 r3 r4 r5 r6
 clear_value (hr1:r1=_) (hr2:r2=_) (hr3:r3=_) (hr4:r4=_) (hr5:r5=_) (hr6:r6=_)
 have e5:r5 =(decide (m.Kind<1)||decide (m.Kind>5)):=by rw [hr5];cases decide (m.Kind<1) <;> rfl
 have eT:r5=true→aJ m =(⟨#[]⟩,3):=fun h=>by unfold aJ;rw [←e5,h];rfl
 refine ⟨fun h=>by rw [eT h],fun h=>?_⟩
 have hk:1≤m.Kind∧m.Kind≤5:=by
  rw [e5] at h
  simp only [Bool.or_eq_false_iff,decide_eq_false_iff_not] at h
  omega
 have e1:r1=m.Kind - 1:=by rw [hr1];exact iC (by omega) (by omega)
 have hlen :(kindL.length:Int)=5:=rfl
 have e3:r3=kindL.getD (m.Kind - 1).toNat ⟨#[]⟩:=by rw [hr3,e1];rfl
 have hz:r3.size≤10:=by rw [e3];exact l7 _
 have eR:aJ m=pP (a7 (r3,r4,0,r2,())):=by
  unfold aJ
  rw [←e5,h,e3,hr2]
  rfl
 have h3:r2.length=3:=by rw [hr2];rfl
 refine ⟨⟨by omega,by omega⟩,⟨rfl,hr4,by omega,Int.le_refl _,by omega,by omega⟩,?_⟩
 rw [eR]
 cases hx:a7 (r3,r4,0,r2,()) with
 | inl p=>
  rw [hx] at hr6
  have:r6=true:=hr6
  exact ⟨fun _=>rfl,fun h=>absurd (this▸h) (by decide)⟩
 | inr p=>
  rw [hx] at hr6
  have:r6=false:=hr6
  exact ⟨fun h=>absurd (this▸h) (by decide),fun _=>rfl⟩
def tQ:FuncId×Ctr:=(28,aB KE qMk we qy)
theorem yC:CtrOK Tryz.prog KE 28 (aB KE qMk we qy):=by
 refine ij (C:=bt [a6,kG] Tryz.f28) (bR (.consU kN rfl (.consU mE rfl .nil)) _) mixed (fn:=Tryz.f28) Tryz.func28 (by kernel_rfl) (by kernel_rfl) (by kernel_rfl) (by kernel_rfl) (by kernel_rfl) (by kernel_rfl) (Λ:=fun x=>find [(CM,C1)]) ?_ ?_
 ·rintro ⟨m,⟨⟩⟩ hw hn
  exact LoopsOKp.at (by kernel_rfl) (.cons (by kernel_rfl) (DU) .nil)
 ·rintro ⟨m,⟨⟩⟩ hw hn
  exact wy m
end Go.Proofs.YthaeofeigglbhaaGreatDoor
namespace Go.Mir
open Go.RowKit
variable {P:Program}
theorem xz {C0:Cfg} (hC0:CfgOK P C0) (hP:P.follows .mixedOrders=true) {f:FuncId} {fn:Func} (hf:P.funcs[f]?=some fn) (hbody:fn.body.isSome=true) (hname :(fn.name == "runtime.NumGoroutine")=false) (hN:C0.N=fn.ntmps)
  {K:Nat} {q q':Pat} {spec:Den (tyP q)→List Prop×Den (tyP q')} (hpair:jj q q'=true) (hres:q'.tm.length=fn.results.toList.length) (harg:Nat.ble q.tm.length fn.ntmps=true)
  (h :∀ x:Den (tyP q),wfD (tyP q) x→(∀ p∈(spec x).1,p)→∃ (C:Cfg) (Λ:Nat→Option LoopSum),CfgOK P C∧C.N=C0.N∧C.tb=C0.tb∧(∀ c,fn.body=some c→∀ b∈aw Λ c,∀ L,Λ (rid b)=some L→LoopOKp P q.nx C.N b L)∧(evPat C Λ fn q q' x).sat fun y=>y =(spec x).2):CtrOK P K f (aB K q q' spec):=by
 refine xy hC0 hf hbody hname hN hpair hres harg fun x hw hn c hc=>?_
 obtain ⟨C,Λ,hC,h1,h2,hΛ,hs⟩:=h x hw hn
 refine ⟨bB C Λ c (put q x),?_,?_⟩
 ·rw [←h1]
  exact fun B hB Q CQ hs hQ a w ha=>bF hC hP (B:=B) c (fun b hb S hS=>hΛ c hc b hb S hS B hB) (put q x) Q CQ hs hQ a w ha
 ·unfold evPat at hs
  rw [hc] at hs
  rw [←h2]
  exact hs
theorem uw {K:Nat} {f:FuncId} {q q':Pat} {A B:Den (tyP q)→List Prop×Den (tyP q')} (h :∀ x,(∀ p∈(B x).1,p)→(∀ p∈(A x).1,p)∧(A x).2 =(B x).2) (hA:CtrOK P K f (aB K q q' A)):CtrOK P K f (aB K q q' B):=by
 refine ⟨hA.fn,fun Bs E hE args av hav m hm ps v dh hct hps=>?_⟩
 unfold aB at hct
 simp only at hct
 split at hct
 case h_2=>cases hct
 rename_i x hx
 cases hle:qg q q' (fC q ⟨bp 0 args,[],E.H,m⟩)&&(Nat.beq args.length q.tm.length&&Nat.ble q'.nx K) with
 | false=>rw [hle] at hct;cases hct
 | true=>
 rw [hle] at hct
 simp only [cond_true,Option.some.injEq,Prod.mk.injEq] at hct
 obtain ⟨rfl,rfl,rfl⟩:=hct
 obtain ⟨h1,h2⟩:=h x hps
 refine hA.calls Bs E hE args av hav m hm (A x).1 _ _ ?_ h1
 unfold aB
 simp only [hx,hle,h2,cond_true]
theorem sn {K:Nat} {f:FuncId} {ps:Ty} {A B:Den ps→PRes} (h :∀ x,(∀ p∈(B x).needs,p)→(∀ p∈(A x).needs,p)∧(A x).v =(B x).v∧(A x).rows =(B x).rows) (hl :∀ x,Nat.ble (A x).rows.length K=Nat.ble (B x).rows.length K) (hA:CtrOK P K f (bg K ps A)):CtrOK P K f (bg K ps B):=by
 refine ⟨hA.fn,fun Bs E hE args av hav m hm ps' v dh hct hps=>?_⟩
 unfold bg at hct
 simp only at hct
 split at hct
 case h_2=>cases hct
 rename_i x hx
 cases hle:Nat.ble (B x).rows.length K with
 | false=>rw [hle] at hct;cases hct
 | true=>
 rw [hle] at hct
 simp only [cond_true,Option.some.injEq,Prod.mk.injEq] at hct
 obtain ⟨rfl,rfl,rfl⟩:=hct
 obtain ⟨h1,h2,h3⟩:=h x hps
 refine hA.calls Bs E hE args av hav m hm (A x).needs _ _ ?_ h1
 have hf :(A x).flat =(B x).flat:=by unfold PRes.flat;rw [h2,h3]
 unfold bg
 simp only [hx,hl,hle,hf,h2,h3,cond_true]
end Go.Mir
namespace Go.Proofs.YthaeofeigglbhaaGreatDoor
open Go Go.Mir
attribute [local irreducible] Go.Mir.DT.sat Go.Mir.evPat Go.Mir.RT.sat Go.Mir.evFn
abbrev qPm:Pat:=gT [.str]
abbrev sr:Pat:=gT [.nm .Mark,I]
def spB:ByteArray:=⟨#[32]⟩
def jv (s:ByteArray) (l:List ByteArray):Den wa→PRes:=fun x=>⟨[x.1=s∧x.2.1=spB],.osl 0 0,[⟨.str,l⟩]⟩
def eC (s:ByteArray) (l:List ByteArray):FuncId×Ctr:=(78,bg KE wa (jv s l))
def ox (s:ByteArray) (l:List ByteArray):Den (tyP qSC)→List Prop×Den (tyP yG):=fun x=>([x.1=s∧x.2.1 =(32:Int)],(l,()))
def ch (s:ByteArray) (l:List ByteArray):FuncId×Ctr:=(80,aB KE qSC yG (ox s l))
def bV (a:ByteArray):Int:=
 if (kindL.getD 0 ⟨#[]⟩).toList==a.toList then 1 else if (kindL.getD 1 ⟨#[]⟩).toList==a.toList then 2 else if (kindL.getD 2 ⟨#[]⟩).toList==a.toList then 3
 else if (kindL.getD 3 ⟨#[]⟩).toList==a.toList then 4 else if (kindL.getD 4 ⟨#[]⟩).toList==a.toList then 5 else 0
def cj (b:ByteArray):Int×Int:=fF b 0 1000000
def aa (a b c d:ByteArray):Mir.Mark×Int:=
 if (cj b).2 != 0 ||(cj c).2 != 0 ||(cj d).2 != 0||bV a==0 then (Mir.Mark.zero,4) else (⟨bV a,(cj b).1,(cj c).1,(cj d).1⟩,0)
def bC:List ByteArray→Mir.Mark×Int
 | [a,b,c,d]=>aa a b c d
 | _=>(Mir.Mark.zero,4)
def sB:Den (tyP qPm)→List Prop×Den (tyP sr):=fun x=>([x.1.size≤1000000],((bC (aV x.1 32)).1,(bC (aV x.1 32)).2,()))
def noP:Mir.Mark×Int:=(Mir.Mark.zero,4)
theorem Fw (s a b c d:ByteArray) :(evPat (bt [eC s [a,b,c,d],cX,eD] Tryz.f29) (find [(rid (aA Tryz.f29 0),b7 5 (bt [eC s [a,b,c,d],cX,eD] Tryz.f29) (fun _=>none) (aA Tryz.f29 0)),(rid (aA Tryz.f29 1),b7 7 (bt [eC s [a,b,c,d],cX,eD] Tryz.f29) (fun _=>none) (aA Tryz.f29 1))]) Tryz.f29 qPm sr (s,())).sat fun z_=>z_ =((aa a b c d).1,(aa a b c d).2,()):=by
 refine cast (by kernel_rfl) (?_:let r1:List ByteArray:= [a,b,c,d];let r2:Bool:=(0:Int) ==(↑(0:Nat):Int);let r3:Int:=IntKind.i64.wrap ((0:Int) +(1:Int));let r4:Int:=(↑r1.length:Int);let r5:Int:=(↑((0:Nat) +(1:Nat)):Int);let r6:Bool:=r4 !=(4:Int);let r7:Bool:=(0:Int)==r5;let r8:Bool:=r3 ==(↑(0:Nat):Int);let r9:Int:=(↑((0:Nat) +(1:Nat) +(1:Nat)):Int);let r10:Int:=IntKind.i64.wrap (r3 +(1:Int));let r11:Bool:=(0:Int)==r9;let r12:Bool:=r3==r5;let r13:Bool:=r10 ==(↑(0:Nat):Int);let r14:List ByteArray:=List.drop (Int.toNat (1:Int)) (List.take r4.toNat r1);let r15:Bool:=ByteArray.toList (kindL.getD (Int.toNat (0:Int)) (dflt Ty.str))==ByteArray.toList (r1.getD (Int.toNat (0:Int)) (dflt Ty.str));let r16:Int:=IntKind.i64.wrap (r10 +(1:Int));let r17:Int:=(↑r14.length:Int);let r18:Bool:=r3==r9;let r19:Bool:=r10==r5;let r20:Bool:=ByteArray.toList (kindL.getD r3.toNat (dflt Ty.str))==ByteArray.toList (r1.getD (Int.toNat (0:Int)) (dflt Ty.str));let r21:Int:=IntKind.i64.wrap (r16 +(1:Int));let r22:Int×Int:=fF (r14.getD (Int.toNat (0:Int)) (dflt Ty.str)) (0:Int) (1000000:Int);let r23:Bool:=r10==r9;let r24:Bool:=ByteArray.toList (kindL.getD r10.toNat (dflt Ty.str))==ByteArray.toList (r1.getD (Int.toNat (0:Int)) (dflt Ty.str));let r25:Int:=IntKind.i64.wrap (r21 +(1:Int));let r26:Bool:=r22.2 !=(0:Int);let r27:Int×Int:=fF (r14.getD r3.toNat (dflt Ty.str)) (0:Int) (1000000:Int);let r28:Bool:=ByteArray.toList (kindL.getD r16.toNat (dflt Ty.str))==ByteArray.toList (r1.getD (Int.toNat (0:Int)) (dflt Ty.str));let r29:Bool:=r27.2 !=(0:Int);let r30:Int×Int:=fF (r14.getD r10.toNat (dflt Ty.str)) (0:Int) (1000000:Int);let r31:Bool:=ByteArray.toList (kindL.getD r21.toNat (dflt Ty.str))==ByteArray.toList (r1.getD (Int.toNat (0:Int)) (dflt Ty.str));let r32:Bool:=r30.2 !=(0:Int);(s=s∧ByteArray.mk #[32]=spB)∧(r6=true→(Mir.Mark.mk (0:Int) (0:Int) (0:Int) (0:Int),(4:Int),()) =((aa a b c d).1,(aa a b c d).2,()))∧(r6=false→((0:Int)≤(1:Int)∧(1:Int)≤r4∧r4≤r4)∧True∧((0:Int)≤(0:Int)∧(0:Int)<r17)∧(r26=true→(Mir.Mark.mk (0:Int) (0:Int) (0:Int) (0:Int),(4:Int),()) =((aa a b c d).1,(aa a b c d).2,()))∧(r26=false→(r2=true→((0:Int)≤(↑(0:Nat):Int)∧(↑(0:Nat):Int) <(↑(3:Nat):Int))∧((0:Int)≤r3∧r3<r17)∧(r29=true→(Mir.Mark.mk (0:Int) (0:Int) (0:Int) (0:Int),(4:Int),()) =((aa a b c d).1,(aa a b c d).2,()))∧(r29=false→(r8=true→((0:Int)≤(↑(0:Nat):Int)∧(↑(0:Nat):Int) <(↑(3:Nat):Int))∧((0:Int)≤r10∧r10<r17)∧(r32=true→(Mir.Mark.mk (0:Int) (0:Int) (0:Int) (0:Int),(4:Int),()) =((aa a b c d).1,(aa a b c d).2,()))∧(r32=false→(r13=true→((0:Int)≤(↑(0:Nat):Int)∧(↑(0:Nat):Int) <(↑(3:Nat):Int))∧True∧((0:Int)≤(0:Int)∧(0:Int) <(↑kindL.length:Int))∧((0:Int)≤(0:Int)∧(0:Int)<r4)∧(r15=true→((0:Int)≤(0:Int)∧(0:Int) <(↑(3:Nat):Int))∧((0:Int)≤(1:Int)∧(1:Int) <(↑(3:Nat):Int))∧((0:Int)≤(2:Int)∧(2:Int) <(↑(3:Nat):Int))∧(Mir.Mark.mk r3 r30.1 (0:Int) (0:Int),(0:Int),()) =((aa a b c d).1,(aa a b c d).2,()))∧(r15=false→((0:Int)≤r3∧r3 <(↑kindL.length:Int))∧((0:Int)≤(0:Int)∧(0:Int)<r4)∧(r20=true→((0:Int)≤(0:Int)∧(0:Int) <(↑(3:Nat):Int))∧((0:Int)≤(1:Int)∧(1:Int) <(↑(3:Nat):Int))∧((0:Int)≤(2:Int)∧(2:Int) <(↑(3:Nat):Int))∧(Mir.Mark.mk r10 r30.1 (0:Int) (0:Int),(0:Int),()) =((aa a b c d).1,(aa a b c d).2,()))∧(r20=false→((0:Int)≤r10∧r10 <(↑kindL.length:Int))∧((0:Int)≤(0:Int)∧(0:Int)<r4)∧(r24=true→((0:Int)≤(0:Int)∧(0:Int) <(↑(3:Nat):Int))∧((0:Int)≤(1:Int)∧(1:Int) <(↑(3:Nat):Int))∧((0:Int)≤(2:Int)∧(2:Int) <(↑(3:Nat):Int))∧(Mir.Mark.mk r16 r30.1 (0:Int) (0:Int),(0:Int),()) =((aa a b c d).1,(aa a b c d).2,()))∧(r24=false→((0:Int)≤r16∧r16 <(↑kindL.length:Int))∧((0:Int)≤(0:Int)∧(0:Int)<r4)∧(r28=true→((0:Int)≤(0:Int)∧(0:Int) <(↑(3:Nat):Int))∧((0:Int)≤(1:Int)∧(1:Int) <(↑(3:Nat):Int))∧((0:Int)≤(2:Int)∧(2:Int) <(↑(3:Nat):Int))∧(Mir.Mark.mk r21 r30.1 (0:Int) (0:Int),(0:Int),()) =((aa a b c d).1,(aa a b c d).2,()))∧(r28=false→((0:Int)≤r21∧r21 <(↑kindL.length:Int))∧((0:Int)≤(0:Int)∧(0:Int)<r4)∧(r31=true→((0:Int)≤(0:Int)∧(0:Int) <(↑(3:Nat):Int))∧((0:Int)≤(1:Int)∧(1:Int) <(↑(3:Nat):Int))∧((0:Int)≤(2:Int)∧(2:Int) <(↑(3:Nat):Int))∧(Mir.Mark.mk r25 r30.1 (0:Int) (0:Int),(0:Int),()) =((aa a b c d).1,(aa a b c d).2,()))∧(r31=false→(Mir.Mark.mk (0:Int) (0:Int) (0:Int) (0:Int),(4:Int),()) =((aa a b c d).1,(aa a b c d).2,())))))))∧(r13=false→(r19=true→((0:Int)≤r5∧r5 <(↑(3:Nat):Int))∧True∧((0:Int)≤(0:Int)∧(0:Int) <(↑kindL.length:Int))∧((0:Int)≤(0:Int)∧(0:Int)<r4)∧(r15=true→((0:Int)≤(0:Int)∧(0:Int) <(↑(3:Nat):Int))∧((0:Int)≤(1:Int)∧(1:Int) <(↑(3:Nat):Int))∧((0:Int)≤(2:Int)∧(2:Int) <(↑(3:Nat):Int))∧(Mir.Mark.mk r3 r27.1 r30.1 (0:Int),(0:Int),()) =((aa a b c d).1,(aa a b c d).2,()))∧(r15=false→((0:Int)≤r3∧r3 <(↑kindL.length:Int))∧((0:Int)≤(0:Int)∧(0:Int)<r4)∧(r20=true→((0:Int)≤(0:Int)∧(0:Int) <(↑(3:Nat):Int))∧((0:Int)≤(1:Int)∧(1:Int) <(↑(3:Nat):Int))∧((0:Int)≤(2:Int)∧(2:Int) <(↑(3:Nat):Int))∧(Mir.Mark.mk r10 r27.1 r30.1 (0:Int),(0:Int),()) =((aa a b c d).1,(aa a b c d).2,()))∧(r20=false→((0:Int)≤r10∧r10 <(↑kindL.length:Int))∧((0:Int)≤(0:Int)∧(0:Int)<r4)∧(r24=true→((0:Int)≤(0:Int)∧(0:Int) <(↑(3:Nat):Int))∧((0:Int)≤(1:Int)∧(1:Int) <(↑(3:Nat):Int))∧((0:Int)≤(2:Int)∧(2:Int) <(↑(3:Nat):Int))∧(Mir.Mark.mk r16 r27.1 r30.1 (0:Int),(0:Int),()) =((aa a b c d).1,(aa a b c d).2,()))∧(r24=false→((0:Int)≤r16∧r16 <(↑kindL.length:Int))∧((0:Int)≤(0:Int)∧(0:Int)<r4)∧(r28=true→((0:Int)≤(0:Int)∧(0:Int) <(↑(3:Nat):Int))∧((0:Int)≤(1:Int)∧(1:Int) <(↑(3:Nat):Int))∧((0:Int)≤(2:Int)∧(2:Int) <(↑(3:Nat):Int))∧(Mir.Mark.mk r21 r27.1 r30.1 (0:Int),(0:Int),()) =((aa a b c d).1,(aa a b c d).2,()))∧(r28=false→((0:Int)≤r21∧r21 <(↑kindL.length:Int))∧((0:Int)≤(0:Int)∧(0:Int)<r4)∧(r31=true→((0:Int)≤(0:Int)∧(0:Int) <(↑(3:Nat):Int))∧((0:Int)≤(1:Int)∧(1:Int) <(↑(3:Nat):Int))∧((0:Int)≤(2:Int)∧(2:Int) <(↑(3:Nat):Int))∧(Mir.Mark.mk r25 r27.1 r30.1 (0:Int),(0:Int),()) =((aa a b c d).1,(aa a b c d).2,()))∧(r31=false→(Mir.Mark.mk (0:Int) (0:Int) (0:Int) (0:Int),(4:Int),()) =((aa a b c d).1,(aa a b c d).2,())))))))∧(r19=false→(r23=true→((0:Int)≤r9∧r9 <(↑(3:Nat):Int))∧True∧((0:Int)≤(0:Int)∧(0:Int) <(↑kindL.length:Int))∧((0:Int)≤(0:Int)∧(0:Int)<r4)∧(r15=true→((0:Int)≤(0:Int)∧(0:Int) <(↑(3:Nat):Int))∧((0:Int)≤(1:Int)∧(1:Int) <(↑(3:Nat):Int))∧((0:Int)≤(2:Int)∧(2:Int) <(↑(3:Nat):Int))∧(Mir.Mark.mk r3 r27.1 (0:Int) r30.1,(0:Int),()) =((aa a b c d).1,(aa a b c d).2,()))∧(r15=false→((0:Int)≤r3∧r3 <(↑kindL.length:Int))∧((0:Int)≤(0:Int)∧(0:Int)<r4)∧(r20=true→((0:Int)≤(0:Int)∧(0:Int) <(↑(3:Nat):Int))∧((0:Int)≤(1:Int)∧(1:Int) <(↑(3:Nat):Int))∧((0:Int)≤(2:Int)∧(2:Int) <(↑(3:Nat):Int))∧(Mir.Mark.mk r10 r27.1 (0:Int) r30.1,(0:Int),()) =((aa a b c d).1,(aa a b c d).2,()))∧(r20=false→((0:Int)≤r10∧r10 <(↑kindL.length:Int))∧((0:Int)≤(0:Int)∧(0:Int)<r4)∧(r24=true→((0:Int)≤(0:Int)∧(0:Int) <(↑(3:Nat):Int))∧((0:Int)≤(1:Int)∧(1:Int) <(↑(3:Nat):Int))∧((0:Int)≤(2:Int)∧(2:Int) <(↑(3:Nat):Int))∧(Mir.Mark.mk r16 r27.1 (0:Int) r30.1,(0:Int),()) =((aa a b c d).1,(aa a b c d).2,()))∧(r24=false→((0:Int)≤r16∧r16 <(↑kindL.length:Int))∧((0:Int)≤(0:Int)∧(0:Int)<r4)∧(r28=true→((0:Int)≤(0:Int)∧(0:Int) <(↑(3:Nat):Int))∧((0:Int)≤(1:Int)∧(1:Int) <(↑(3:Nat):Int))∧((0:Int)≤(2:Int)∧(2:Int) <(↑(3:Nat):Int))∧(Mir.Mark.mk r21 r27.1 (0:Int) r30.1,(0:Int),()) =((aa a b c d).1,(aa a b c d).2,()))∧(r28=false→((0:Int)≤r21∧r21 <(↑kindL.length:Int))∧((0:Int)≤(0:Int)∧(0:Int)<r4)∧(r31=true→((0:Int)≤(0:Int)∧(0:Int) <(↑(3:Nat):Int))∧((0:Int)≤(1:Int)∧(1:Int) <(↑(3:Nat):Int))∧((0:Int)≤(2:Int)∧(2:Int) <(↑(3:Nat):Int))∧(Mir.Mark.mk r25 r27.1 (0:Int) r30.1,(0:Int),()) =((aa a b c d).1,(aa a b c d).2,()))∧(r31=false→(Mir.Mark.mk (0:Int) (0:Int) (0:Int) (0:Int),(4:Int),()) =((aa a b c d).1,(aa a b c d).2,())))))))∧(r23=false→False∧True)))))∧(r8=false→(r12=true→((0:Int)≤r5∧r5 <(↑(3:Nat):Int))∧((0:Int)≤r10∧r10<r17)∧(r32=true→(Mir.Mark.mk (0:Int) (0:Int) (0:Int) (0:Int),(4:Int),()) =((aa a b c d).1,(aa a b c d).2,()))∧(r32=false→(r13=true→((0:Int)≤(↑(0:Nat):Int)∧(↑(0:Nat):Int) <(↑(3:Nat):Int))∧True∧((0:Int)≤(0:Int)∧(0:Int) <(↑kindL.length:Int))∧((0:Int)≤(0:Int)∧(0:Int)<r4)∧(r15=true→((0:Int)≤(0:Int)∧(0:Int) <(↑(3:Nat):Int))∧((0:Int)≤(1:Int)∧(1:Int) <(↑(3:Nat):Int))∧((0:Int)≤(2:Int)∧(2:Int) <(↑(3:Nat):Int))∧(Mir.Mark.mk r3 r30.1 r27.1 (0:Int),(0:Int),()) =((aa a b c d).1,(aa a b c d).2,()))∧(r15=false→((0:Int)≤r3∧r3 <(↑kindL.length:Int))∧((0:Int)≤(0:Int)∧(0:Int)<r4)∧(r20=true→((0:Int)≤(0:Int)∧(0:Int) <(↑(3:Nat):Int))∧((0:Int)≤(1:Int)∧(1:Int) <(↑(3:Nat):Int))∧((0:Int)≤(2:Int)∧(2:Int) <(↑(3:Nat):Int))∧(Mir.Mark.mk r10 r30.1 r27.1 (0:Int),(0:Int),()) =((aa a b c d).1,(aa a b c d).2,()))∧(r20=false→((0:Int)≤r10∧r10 <(↑kindL.length:Int))∧((0:Int)≤(0:Int)∧(0:Int)<r4)∧(r24=true→((0:Int)≤(0:Int)∧(0:Int) <(↑(3:Nat):Int))∧((0:Int)≤(1:Int)∧(1:Int) <(↑(3:Nat):Int))∧((0:Int)≤(2:Int)∧(2:Int) <(↑(3:Nat):Int))∧(Mir.Mark.mk r16 r30.1 r27.1 (0:Int),(0:Int),()) =((aa a b c d).1,(aa a b c d).2,()))∧(r24=false→((0:Int)≤r16∧r16 <(↑kindL.length:Int))∧((0:Int)≤(0:Int)∧(0:Int)<r4)∧(r28=true→((0:Int)≤(0:Int)∧(0:Int) <(↑(3:Nat):Int))∧((0:Int)≤(1:Int)∧(1:Int) <(↑(3:Nat):Int))∧((0:Int)≤(2:Int)∧(2:Int) <(↑(3:Nat):Int))∧(Mir.Mark.mk r21 r30.1 r27.1 (0:Int),(0:Int),()) =((aa a b c d).1,(aa a b c d).2,()))∧(r28=false→((0:Int)≤r21∧r21 <(↑kindL.length:Int))∧((0:Int)≤(0:Int)∧(0:Int)<r4)∧(r31=true→((0:Int)≤(0:Int)∧(0:Int) <(↑(3:Nat):Int))∧((0:Int)≤(1:Int)∧(1:Int) <(↑(3:Nat):Int))∧((0:Int)≤(2:Int)∧(2:Int) <(↑(3:Nat):Int))∧(Mir.Mark.mk r25 r30.1 r27.1 (0:Int),(0:Int),()) =((aa a b c d).1,(aa a b c d).2,()))∧(r31=false→(Mir.Mark.mk (0:Int) (0:Int) (0:Int) (0:Int),(4:Int),()) =((aa a b c d).1,(aa a b c d).2,())))))))∧(r13=false→(r19=true→((0:Int)≤r5∧r5 <(↑(3:Nat):Int))∧True∧((0:Int)≤(0:Int)∧(0:Int) <(↑kindL.length:Int))∧((0:Int)≤(0:Int)∧(0:Int)<r4)∧(r15=true→((0:Int)≤(0:Int)∧(0:Int) <(↑(3:Nat):Int))∧((0:Int)≤(1:Int)∧(1:Int) <(↑(3:Nat):Int))∧((0:Int)≤(2:Int)∧(2:Int) <(↑(3:Nat):Int))∧(Mir.Mark.mk r3 r22.1 r30.1 (0:Int),(0:Int),()) =((aa a b c d).1,(aa a b c d).2,()))∧(r15=false→((0:Int)≤r3∧r3 <(↑kindL.length:Int))∧((0:Int)≤(0:Int)∧(0:Int)<r4)∧(r20=true→((0:Int)≤(0:Int)∧(0:Int) <(↑(3:Nat):Int))∧((0:Int)≤(1:Int)∧(1:Int) <(↑(3:Nat):Int))∧((0:Int)≤(2:Int)∧(2:Int) <(↑(3:Nat):Int))∧(Mir.Mark.mk r10 r22.1 r30.1 (0:Int),(0:Int),()) =((aa a b c d).1,(aa a b c d).2,()))∧(r20=false→((0:Int)≤r10∧r10 <(↑kindL.length:Int))∧((0:Int)≤(0:Int)∧(0:Int)<r4)∧(r24=true→((0:Int)≤(0:Int)∧(0:Int) <(↑(3:Nat):Int))∧((0:Int)≤(1:Int)∧(1:Int) <(↑(3:Nat):Int))∧((0:Int)≤(2:Int)∧(2:Int) <(↑(3:Nat):Int))∧(Mir.Mark.mk r16 r22.1 r30.1 (0:Int),(0:Int),()) =((aa a b c d).1,(aa a b c d).2,()))∧(r24=false→((0:Int)≤r16∧r16 <(↑kindL.length:Int))∧((0:Int)≤(0:Int)∧(0:Int)<r4)∧(r28=true→((0:Int)≤(0:Int)∧(0:Int) <(↑(3:Nat):Int))∧((0:Int)≤(1:Int)∧(1:Int) <(↑(3:Nat):Int))∧((0:Int)≤(2:Int)∧(2:Int) <(↑(3:Nat):Int))∧(Mir.Mark.mk r21 r22.1 r30.1 (0:Int),(0:Int),()) =((aa a b c d).1,(aa a b c d).2,()))∧(r28=false→((0:Int)≤r21∧r21 <(↑kindL.length:Int))∧((0:Int)≤(0:Int)∧(0:Int)<r4)∧(r31=true→((0:Int)≤(0:Int)∧(0:Int) <(↑(3:Nat):Int))∧((0:Int)≤(1:Int)∧(1:Int) <(↑(3:Nat):Int))∧((0:Int)≤(2:Int)∧(2:Int) <(↑(3:Nat):Int))∧(Mir.Mark.mk r25 r22.1 r30.1 (0:Int),(0:Int),()) =((aa a b c d).1,(aa a b c d).2,()))∧(r31=false→(Mir.Mark.mk (0:Int) (0:Int) (0:Int) (0:Int),(4:Int),()) =((aa a b c d).1,(aa a b c d).2,())))))))∧(r19=false→(r23=true→((0:Int)≤r9∧r9 <(↑(3:Nat):Int))∧True∧((0:Int)≤(0:Int)∧(0:Int) <(↑kindL.length:Int))∧((0:Int)≤(0:Int)∧(0:Int)<r4)∧(r15=true→((0:Int)≤(0:Int)∧(0:Int) <(↑(3:Nat):Int))∧((0:Int)≤(1:Int)∧(1:Int) <(↑(3:Nat):Int))∧((0:Int)≤(2:Int)∧(2:Int) <(↑(3:Nat):Int))∧(Mir.Mark.mk r3 r22.1 r27.1 r30.1,(0:Int),()) =((aa a b c d).1,(aa a b c d).2,()))∧(r15=false→((0:Int)≤r3∧r3 <(↑kindL.length:Int))∧((0:Int)≤(0:Int)∧(0:Int)<r4)∧(r20=true→((0:Int)≤(0:Int)∧(0:Int) <(↑(3:Nat):Int))∧((0:Int)≤(1:Int)∧(1:Int) <(↑(3:Nat):Int))∧((0:Int)≤(2:Int)∧(2:Int) <(↑(3:Nat):Int))∧(Mir.Mark.mk r10 r22.1 r27.1 r30.1,(0:Int),()) =((aa a b c d).1,(aa a b c d).2,()))∧(r20=false→((0:Int)≤r10∧r10 <(↑kindL.length:Int))∧((0:Int)≤(0:Int)∧(0:Int)<r4)∧(r24=true→((0:Int)≤(0:Int)∧(0:Int) <(↑(3:Nat):Int))∧((0:Int)≤(1:Int)∧(1:Int) <(↑(3:Nat):Int))∧((0:Int)≤(2:Int)∧(2:Int) <(↑(3:Nat):Int))∧(Mir.Mark.mk r16 r22.1 r27.1 r30.1,(0:Int),()) =((aa a b c d).1,(aa a b c d).2,()))∧(r24=false→((0:Int)≤r16∧r16 <(↑kindL.length:Int))∧((0:Int)≤(0:Int)∧(0:Int)<r4)∧(r28=true→((0:Int)≤(0:Int)∧(0:Int) <(↑(3:Nat):Int))∧((0:Int)≤(1:Int)∧(1:Int) <(↑(3:Nat):Int))∧((0:Int)≤(2:Int)∧(2:Int) <(↑(3:Nat):Int))∧(Mir.Mark.mk r21 r22.1 r27.1 r30.1,(0:Int),()) =((aa a b c d).1,(aa a b c d).2,()))∧(r28=false→((0:Int)≤r21∧r21 <(↑kindL.length:Int))∧((0:Int)≤(0:Int)∧(0:Int)<r4)∧(r31=true→((0:Int)≤(0:Int)∧(0:Int) <(↑(3:Nat):Int))∧((0:Int)≤(1:Int)∧(1:Int) <(↑(3:Nat):Int))∧((0:Int)≤(2:Int)∧(2:Int) <(↑(3:Nat):Int))∧(Mir.Mark.mk r25 r22.1 r27.1 r30.1,(0:Int),()) =((aa a b c d).1,(aa a b c d).2,()))∧(r31=false→(Mir.Mark.mk (0:Int) (0:Int) (0:Int) (0:Int),(4:Int),()) =((aa a b c d).1,(aa a b c d).2,())))))))∧(r23=false→False∧True)))))∧(r12=false→(r18=true→((0:Int)≤r9∧r9 <(↑(3:Nat):Int))∧((0:Int)≤r10∧r10<r17)∧(r32=true→(Mir.Mark.mk (0:Int) (0:Int) (0:Int) (0:Int),(4:Int),()) =((aa a b c d).1,(aa a b c d).2,()))∧(r32=false→(r13=true→((0:Int)≤(↑(0:Nat):Int)∧(↑(0:Nat):Int) <(↑(3:Nat):Int))∧True∧((0:Int)≤(0:Int)∧(0:Int) <(↑kindL.length:Int))∧((0:Int)≤(0:Int)∧(0:Int)<r4)∧(r15=true→((0:Int)≤(0:Int)∧(0:Int) <(↑(3:Nat):Int))∧((0:Int)≤(1:Int)∧(1:Int) <(↑(3:Nat):Int))∧((0:Int)≤(2:Int)∧(2:Int) <(↑(3:Nat):Int))∧(Mir.Mark.mk r3 r30.1 (0:Int) r27.1,(0:Int),()) =((aa a b c d).1,(aa a b c d).2,()))∧(r15=false→((0:Int)≤r3∧r3 <(↑kindL.length:Int))∧((0:Int)≤(0:Int)∧(0:Int)<r4)∧(r20=true→((0:Int)≤(0:Int)∧(0:Int) <(↑(3:Nat):Int))∧((0:Int)≤(1:Int)∧(1:Int) <(↑(3:Nat):Int))∧((0:Int)≤(2:Int)∧(2:Int) <(↑(3:Nat):Int))∧(Mir.Mark.mk r10 r30.1 (0:Int) r27.1,(0:Int),()) =((aa a b c d).1,(aa a b c d).2,()))∧(r20=false→((0:Int)≤r10∧r10 <(↑kindL.length:Int))∧((0:Int)≤(0:Int)∧(0:Int)<r4)∧(r24=true→((0:Int)≤(0:Int)∧(0:Int) <(↑(3:Nat):Int))∧((0:Int)≤(1:Int)∧(1:Int) <(↑(3:Nat):Int))∧((0:Int)≤(2:Int)∧(2:Int) <(↑(3:Nat):Int))∧(Mir.Mark.mk r16 r30.1 (0:Int) r27.1,(0:Int),()) =((aa a b c d).1,(aa a b c d).2,()))∧(r24=false→((0:Int)≤r16∧r16 <(↑kindL.length:Int))∧((0:Int)≤(0:Int)∧(0:Int)<r4)∧(r28=true→((0:Int)≤(0:Int)∧(0:Int) <(↑(3:Nat):Int))∧((0:Int)≤(1:Int)∧(1:Int) <(↑(3:Nat):Int))∧((0:Int)≤(2:Int)∧(2:Int) <(↑(3:Nat):Int))∧(Mir.Mark.mk r21 r30.1 (0:Int) r27.1,(0:Int),()) =((aa a b c d).1,(aa a b c d).2,()))∧(r28=false→((0:Int)≤r21∧r21 <(↑kindL.length:Int))∧((0:Int)≤(0:Int)∧(0:Int)<r4)∧(r31=true→((0:Int)≤(0:Int)∧(0:Int) <(↑(3:Nat):Int))∧((0:Int)≤(1:Int)∧(1:Int) <(↑(3:Nat):Int))∧((0:Int)≤(2:Int)∧(2:Int) <(↑(3:Nat):Int))∧(Mir.Mark.mk r25 r30.1 (0:Int) r27.1,(0:Int),()) =((aa a b c d).1,(aa a b c d).2,()))∧(r31=false→(Mir.Mark.mk (0:Int) (0:Int) (0:Int) (0:Int),(4:Int),()) =((aa a b c d).1,(aa a b c d).2,())))))))∧(r13=false→(r19=true→((0:Int)≤r5∧r5 <(↑(3:Nat):Int))∧True∧((0:Int)≤(0:Int)∧(0:Int) <(↑kindL.length:Int))∧((0:Int)≤(0:Int)∧(0:Int)<r4)∧(r15=true→((0:Int)≤(0:Int)∧(0:Int) <(↑(3:Nat):Int))∧((0:Int)≤(1:Int)∧(1:Int) <(↑(3:Nat):Int))∧((0:Int)≤(2:Int)∧(2:Int) <(↑(3:Nat):Int))∧(Mir.Mark.mk r3 r22.1 r30.1 r27.1,(0:Int),()) =((aa a b c d).1,(aa a b c d).2,()))∧(r15=false→((0:Int)≤r3∧r3 <(↑kindL.length:Int))∧((0:Int)≤(0:Int)∧(0:Int)<r4)∧(r20=true→((0:Int)≤(0:Int)∧(0:Int) <(↑(3:Nat):Int))∧((0:Int)≤(1:Int)∧(1:Int) <(↑(3:Nat):Int))∧((0:Int)≤(2:Int)∧(2:Int) <(↑(3:Nat):Int))∧(Mir.Mark.mk r10 r22.1 r30.1 r27.1,(0:Int),()) =((aa a b c d).1,(aa a b c d).2,()))∧(r20=false→((0:Int)≤r10∧r10 <(↑kindL.length:Int))∧((0:Int)≤(0:Int)∧(0:Int)<r4)∧(r24=true→((0:Int)≤(0:Int)∧(0:Int) <(↑(3:Nat):Int))∧((0:Int)≤(1:Int)∧(1:Int) <(↑(3:Nat):Int))∧((0:Int)≤(2:Int)∧(2:Int) <(↑(3:Nat):Int))∧(Mir.Mark.mk r16 r22.1 r30.1 r27.1,(0:Int),()) =((aa a b c d).1,(aa a b c d).2,()))∧(r24=false→((0:Int)≤r16∧r16 <(↑kindL.length:Int))∧((0:Int)≤(0:Int)∧(0:Int)<r4)∧(r28=true→((0:Int)≤(0:Int)∧(0:Int) <(↑(3:Nat):Int))∧((0:Int)≤(1:Int)∧(1:Int) <(↑(3:Nat):Int))∧((0:Int)≤(2:Int)∧(2:Int) <(↑(3:Nat):Int))∧(Mir.Mark.mk r21 r22.1 r30.1 r27.1,(0:Int),()) =((aa a b c d).1,(aa a b c d).2,()))∧(r28=false→((0:Int)≤r21∧r21 <(↑kindL.length:Int))∧((0:Int)≤(0:Int)∧(0:Int)<r4)∧(r31=true→((0:Int)≤(0:Int)∧(0:Int) <(↑(3:Nat):Int))∧((0:Int)≤(1:Int)∧(1:Int) <(↑(3:Nat):Int))∧((0:Int)≤(2:Int)∧(2:Int) <(↑(3:Nat):Int))∧(Mir.Mark.mk r25 r22.1 r30.1 r27.1,(0:Int),()) =((aa a b c d).1,(aa a b c d).2,()))∧(r31=false→(Mir.Mark.mk (0:Int) (0:Int) (0:Int) (0:Int),(4:Int),()) =((aa a b c d).1,(aa a b c d).2,())))))))∧(r19=false→(r23=true→((0:Int)≤r9∧r9 <(↑(3:Nat):Int))∧True∧((0:Int)≤(0:Int)∧(0:Int) <(↑kindL.length:Int))∧((0:Int)≤(0:Int)∧(0:Int)<r4)∧(r15=true→((0:Int)≤(0:Int)∧(0:Int) <(↑(3:Nat):Int))∧((0:Int)≤(1:Int)∧(1:Int) <(↑(3:Nat):Int))∧((0:Int)≤(2:Int)∧(2:Int) <(↑(3:Nat):Int))∧(Mir.Mark.mk r3 r22.1 (0:Int) r30.1,(0:Int),()) =((aa a b c d).1,(aa a b c d).2,()))∧(r15=false→((0:Int)≤r3∧r3 <(↑kindL.length:Int))∧((0:Int)≤(0:Int)∧(0:Int)<r4)∧(r20=true→((0:Int)≤(0:Int)∧(0:Int) <(↑(3:Nat):Int))∧((0:Int)≤(1:Int)∧(1:Int) <(↑(3:Nat):Int))∧((0:Int)≤(2:Int)∧(2:Int) <(↑(3:Nat):Int))∧(Mir.Mark.mk r10 r22.1 (0:Int) r30.1,(0:Int),()) =((aa a b c d).1,(aa a b c d).2,()))∧(r20=false→((0:Int)≤r10∧r10 <(↑kindL.length:Int))∧((0:Int)≤(0:Int)∧(0:Int)<r4)∧(r24=true→((0:Int)≤(0:Int)∧(0:Int) <(↑(3:Nat):Int))∧((0:Int)≤(1:Int)∧(1:Int) <(↑(3:Nat):Int))∧((0:Int)≤(2:Int)∧(2:Int) <(↑(3:Nat):Int))∧(Mir.Mark.mk r16 r22.1 (0:Int) r30.1,(0:Int),()) =((aa a b c d).1,(aa a b c d).2,()))∧(r24=false→((0:Int)≤r16∧r16 <(↑kindL.length:Int))∧((0:Int)≤(0:Int)∧(0:Int)<r4)∧(r28=true→((0:Int)≤(0:Int)∧(0:Int) <(↑(3:Nat):Int))∧((0:Int)≤(1:Int)∧(1:Int) <(↑(3:Nat):Int))∧((0:Int)≤(2:Int)∧(2:Int) <(↑(3:Nat):Int))∧(Mir.Mark.mk r21 r22.1 (0:Int) r30.1,(0:Int),()) =((aa a b c d).1,(aa a b c d).2,()))∧(r28=false→((0:Int)≤r21∧r21 <(↑kindL.length:Int))∧((0:Int)≤(0:Int)∧(0:Int)<r4)∧(r31=true→((0:Int)≤(0:Int)∧(0:Int) <(↑(3:Nat):Int))∧((0:Int)≤(1:Int)∧(1:Int) <(↑(3:Nat):Int))∧((0:Int)≤(2:Int)∧(2:Int) <(↑(3:Nat):Int))∧(Mir.Mark.mk r25 r22.1 (0:Int) r30.1,(0:Int),()) =((aa a b c d).1,(aa a b c d).2,()))∧(r31=false→(Mir.Mark.mk (0:Int) (0:Int) (0:Int) (0:Int),(4:Int),()) =((aa a b c d).1,(aa a b c d).2,())))))))∧(r23=false→False∧True)))))∧(r18=false→False∧True)))))∧(r2=false→(r7=true→((0:Int)≤r5∧r5 <(↑(3:Nat):Int))∧((0:Int)≤r3∧r3<r17)∧(r29=true→(Mir.Mark.mk (0:Int) (0:Int) (0:Int) (0:Int),(4:Int),()) =((aa a b c d).1,(aa a b c d).2,()))∧(r29=false→(r8=true→((0:Int)≤(↑(0:Nat):Int)∧(↑(0:Nat):Int) <(↑(3:Nat):Int))∧((0:Int)≤r10∧r10<r17)∧(r32=true→(Mir.Mark.mk (0:Int) (0:Int) (0:Int) (0:Int),(4:Int),()) =((aa a b c d).1,(aa a b c d).2,()))∧(r32=false→(r13=true→((0:Int)≤(↑(0:Nat):Int)∧(↑(0:Nat):Int) <(↑(3:Nat):Int))∧True∧((0:Int)≤(0:Int)∧(0:Int) <(↑kindL.length:Int))∧((0:Int)≤(0:Int)∧(0:Int)<r4)∧(r15=true→((0:Int)≤(0:Int)∧(0:Int) <(↑(3:Nat):Int))∧((0:Int)≤(1:Int)∧(1:Int) <(↑(3:Nat):Int))∧((0:Int)≤(2:Int)∧(2:Int) <(↑(3:Nat):Int))∧(Mir.Mark.mk r3 r30.1 r22.1 (0:Int),(0:Int),()) =((aa a b c d).1,(aa a b c d).2,()))∧(r15=false→((0:Int)≤r3∧r3 <(↑kindL.length:Int))∧((0:Int)≤(0:Int)∧(0:Int)<r4)∧(r20=true→((0:Int)≤(0:Int)∧(0:Int) <(↑(3:Nat):Int))∧((0:Int)≤(1:Int)∧(1:Int) <(↑(3:Nat):Int))∧((0:Int)≤(2:Int)∧(2:Int) <(↑(3:Nat):Int))∧(Mir.Mark.mk r10 r30.1 r22.1 (0:Int),(0:Int),()) =((aa a b c d).1,(aa a b c d).2,()))∧(r20=false→((0:Int)≤r10∧r10 <(↑kindL.length:Int))∧((0:Int)≤(0:Int)∧(0:Int)<r4)∧(r24=true→((0:Int)≤(0:Int)∧(0:Int) <(↑(3:Nat):Int))∧((0:Int)≤(1:Int)∧(1:Int) <(↑(3:Nat):Int))∧((0:Int)≤(2:Int)∧(2:Int) <(↑(3:Nat):Int))∧(Mir.Mark.mk r16 r30.1 r22.1 (0:Int),(0:Int),()) =((aa a b c d).1,(aa a b c d).2,()))∧(r24=false→((0:Int)≤r16∧r16 <(↑kindL.length:Int))∧((0:Int)≤(0:Int)∧(0:Int)<r4)∧(r28=true→((0:Int)≤(0:Int)∧(0:Int) <(↑(3:Nat):Int))∧((0:Int)≤(1:Int)∧(1:Int) <(↑(3:Nat):Int))∧((0:Int)≤(2:Int)∧(2:Int) <(↑(3:Nat):Int))∧(Mir.Mark.mk r21 r30.1 r22.1 (0:Int),(0:Int),()) =((aa a b c d).1,(aa a b c d).2,()))∧(r28=false→((0:Int)≤r21∧r21 <(↑kindL.length:Int))∧((0:Int)≤(0:Int)∧(0:Int)<r4)∧(r31=true→((0:Int)≤(0:Int)∧(0:Int) <(↑(3:Nat):Int))∧((0:Int)≤(1:Int)∧(1:Int) <(↑(3:Nat):Int))∧((0:Int)≤(2:Int)∧(2:Int) <(↑(3:Nat):Int))∧(Mir.Mark.mk r25 r30.1 r22.1 (0:Int),(0:Int),()) =((aa a b c d).1,(aa a b c d).2,()))∧(r31=false→(Mir.Mark.mk (0:Int) (0:Int) (0:Int) (0:Int),(4:Int),()) =((aa a b c d).1,(aa a b c d).2,())))))))∧(r13=false→(r19=true→((0:Int)≤r5∧r5 <(↑(3:Nat):Int))∧True∧((0:Int)≤(0:Int)∧(0:Int) <(↑kindL.length:Int))∧((0:Int)≤(0:Int)∧(0:Int)<r4)∧(r15=true→((0:Int)≤(0:Int)∧(0:Int) <(↑(3:Nat):Int))∧((0:Int)≤(1:Int)∧(1:Int) <(↑(3:Nat):Int))∧((0:Int)≤(2:Int)∧(2:Int) <(↑(3:Nat):Int))∧(Mir.Mark.mk r3 r27.1 r30.1 (0:Int),(0:Int),()) =((aa a b c d).1,(aa a b c d).2,()))∧(r15=false→((0:Int)≤r3∧r3 <(↑kindL.length:Int))∧((0:Int)≤(0:Int)∧(0:Int)<r4)∧(r20=true→((0:Int)≤(0:Int)∧(0:Int) <(↑(3:Nat):Int))∧((0:Int)≤(1:Int)∧(1:Int) <(↑(3:Nat):Int))∧((0:Int)≤(2:Int)∧(2:Int) <(↑(3:Nat):Int))∧(Mir.Mark.mk r10 r27.1 r30.1 (0:Int),(0:Int),()) =((aa a b c d).1,(aa a b c d).2,()))∧(r20=false→((0:Int)≤r10∧r10 <(↑kindL.length:Int))∧((0:Int)≤(0:Int)∧(0:Int)<r4)∧(r24=true→((0:Int)≤(0:Int)∧(0:Int) <(↑(3:Nat):Int))∧((0:Int)≤(1:Int)∧(1:Int) <(↑(3:Nat):Int))∧((0:Int)≤(2:Int)∧(2:Int) <(↑(3:Nat):Int))∧(Mir.Mark.mk r16 r27.1 r30.1 (0:Int),(0:Int),()) =((aa a b c d).1,(aa a b c d).2,()))∧(r24=false→((0:Int)≤r16∧r16 <(↑kindL.length:Int))∧((0:Int)≤(0:Int)∧(0:Int)<r4)∧(r28=true→((0:Int)≤(0:Int)∧(0:Int) <(↑(3:Nat):Int))∧((0:Int)≤(1:Int)∧(1:Int) <(↑(3:Nat):Int))∧((0:Int)≤(2:Int)∧(2:Int) <(↑(3:Nat):Int))∧(Mir.Mark.mk r21 r27.1 r30.1 (0:Int),(0:Int),()) =((aa a b c d).1,(aa a b c d).2,()))∧(r28=false→((0:Int)≤r21∧r21 <(↑kindL.length:Int))∧((0:Int)≤(0:Int)∧(0:Int)<r4)∧(r31=true→((0:Int)≤(0:Int)∧(0:Int) <(↑(3:Nat):Int))∧((0:Int)≤(1:Int)∧(1:Int) <(↑(3:Nat):Int))∧((0:Int)≤(2:Int)∧(2:Int) <(↑(3:Nat):Int))∧(Mir.Mark.mk r25 r27.1 r30.1 (0:Int),(0:Int),()) =((aa a b c d).1,(aa a b c d).2,()))∧(r31=false→(Mir.Mark.mk (0:Int) (0:Int) (0:Int) (0:Int),(4:Int),()) =((aa a b c d).1,(aa a b c d).2,())))))))∧(r19=false→(r23=true→((0:Int)≤r9∧r9 <(↑(3:Nat):Int))∧True∧((0:Int)≤(0:Int)∧(0:Int) <(↑kindL.length:Int))∧((0:Int)≤(0:Int)∧(0:Int)<r4)∧(r15=true→((0:Int)≤(0:Int)∧(0:Int) <(↑(3:Nat):Int))∧((0:Int)≤(1:Int)∧(1:Int) <(↑(3:Nat):Int))∧((0:Int)≤(2:Int)∧(2:Int) <(↑(3:Nat):Int))∧(Mir.Mark.mk r3 r27.1 r22.1 r30.1,(0:Int),()) =((aa a b c d).1,(aa a b c d).2,()))∧(r15=false→((0:Int)≤r3∧r3 <(↑kindL.length:Int))∧((0:Int)≤(0:Int)∧(0:Int)<r4)∧(r20=true→((0:Int)≤(0:Int)∧(0:Int) <(↑(3:Nat):Int))∧((0:Int)≤(1:Int)∧(1:Int) <(↑(3:Nat):Int))∧((0:Int)≤(2:Int)∧(2:Int) <(↑(3:Nat):Int))∧(Mir.Mark.mk r10 r27.1 r22.1 r30.1,(0:Int),()) =((aa a b c d).1,(aa a b c d).2,()))∧(r20=false→((0:Int)≤r10∧r10 <(↑kindL.length:Int))∧((0:Int)≤(0:Int)∧(0:Int)<r4)∧(r24=true→((0:Int)≤(0:Int)∧(0:Int) <(↑(3:Nat):Int))∧((0:Int)≤(1:Int)∧(1:Int) <(↑(3:Nat):Int))∧((0:Int)≤(2:Int)∧(2:Int) <(↑(3:Nat):Int))∧(Mir.Mark.mk r16 r27.1 r22.1 r30.1,(0:Int),()) =((aa a b c d).1,(aa a b c d).2,()))∧(r24=false→((0:Int)≤r16∧r16 <(↑kindL.length:Int))∧((0:Int)≤(0:Int)∧(0:Int)<r4)∧(r28=true→((0:Int)≤(0:Int)∧(0:Int) <(↑(3:Nat):Int))∧((0:Int)≤(1:Int)∧(1:Int) <(↑(3:Nat):Int))∧((0:Int)≤(2:Int)∧(2:Int) <(↑(3:Nat):Int))∧(Mir.Mark.mk r21 r27.1 r22.1 r30.1,(0:Int),()) =((aa a b c d).1,(aa a b c d).2,()))∧(r28=false→((0:Int)≤r21∧r21 <(↑kindL.length:Int))∧((0:Int)≤(0:Int)∧(0:Int)<r4)∧(r31=true→((0:Int)≤(0:Int)∧(0:Int) <(↑(3:Nat):Int))∧((0:Int)≤(1:Int)∧(1:Int) <(↑(3:Nat):Int))∧((0:Int)≤(2:Int)∧(2:Int) <(↑(3:Nat):Int))∧(Mir.Mark.mk r25 r27.1 r22.1 r30.1,(0:Int),()) =((aa a b c d).1,(aa a b c d).2,()))∧(r31=false→(Mir.Mark.mk (0:Int) (0:Int) (0:Int) (0:Int),(4:Int),()) =((aa a b c d).1,(aa a b c d).2,())))))))∧(r23=false→False∧True)))))∧(r8=false→(r12=true→((0:Int)≤r5∧r5 <(↑(3:Nat):Int))∧((0:Int)≤r10∧r10<r17)∧(r32=true→(Mir.Mark.mk (0:Int) (0:Int) (0:Int) (0:Int),(4:Int),()) =((aa a b c d).1,(aa a b c d).2,()))∧(r32=false→(r13=true→((0:Int)≤(↑(0:Nat):Int)∧(↑(0:Nat):Int) <(↑(3:Nat):Int))∧True∧((0:Int)≤(0:Int)∧(0:Int) <(↑kindL.length:Int))∧((0:Int)≤(0:Int)∧(0:Int)<r4)∧(r15=true→((0:Int)≤(0:Int)∧(0:Int) <(↑(3:Nat):Int))∧((0:Int)≤(1:Int)∧(1:Int) <(↑(3:Nat):Int))∧((0:Int)≤(2:Int)∧(2:Int) <(↑(3:Nat):Int))∧(Mir.Mark.mk r3 r30.1 r27.1 (0:Int),(0:Int),()) =((aa a b c d).1,(aa a b c d).2,()))∧(r15=false→((0:Int)≤r3∧r3 <(↑kindL.length:Int))∧((0:Int)≤(0:Int)∧(0:Int)<r4)∧(r20=true→((0:Int)≤(0:Int)∧(0:Int) <(↑(3:Nat):Int))∧((0:Int)≤(1:Int)∧(1:Int) <(↑(3:Nat):Int))∧((0:Int)≤(2:Int)∧(2:Int) <(↑(3:Nat):Int))∧(Mir.Mark.mk r10 r30.1 r27.1 (0:Int),(0:Int),()) =((aa a b c d).1,(aa a b c d).2,()))∧(r20=false→((0:Int)≤r10∧r10 <(↑kindL.length:Int))∧((0:Int)≤(0:Int)∧(0:Int)<r4)∧(r24=true→((0:Int)≤(0:Int)∧(0:Int) <(↑(3:Nat):Int))∧((0:Int)≤(1:Int)∧(1:Int) <(↑(3:Nat):Int))∧((0:Int)≤(2:Int)∧(2:Int) <(↑(3:Nat):Int))∧(Mir.Mark.mk r16 r30.1 r27.1 (0:Int),(0:Int),()) =((aa a b c d).1,(aa a b c d).2,()))∧(r24=false→((0:Int)≤r16∧r16 <(↑kindL.length:Int))∧((0:Int)≤(0:Int)∧(0:Int)<r4)∧(r28=true→((0:Int)≤(0:Int)∧(0:Int) <(↑(3:Nat):Int))∧((0:Int)≤(1:Int)∧(1:Int) <(↑(3:Nat):Int))∧((0:Int)≤(2:Int)∧(2:Int) <(↑(3:Nat):Int))∧(Mir.Mark.mk r21 r30.1 r27.1 (0:Int),(0:Int),()) =((aa a b c d).1,(aa a b c d).2,()))∧(r28=false→((0:Int)≤r21∧r21 <(↑kindL.length:Int))∧((0:Int)≤(0:Int)∧(0:Int)<r4)∧(r31=true→((0:Int)≤(0:Int)∧(0:Int) <(↑(3:Nat):Int))∧((0:Int)≤(1:Int)∧(1:Int) <(↑(3:Nat):Int))∧((0:Int)≤(2:Int)∧(2:Int) <(↑(3:Nat):Int))∧(Mir.Mark.mk r25 r30.1 r27.1 (0:Int),(0:Int),()) =((aa a b c d).1,(aa a b c d).2,()))∧(r31=false→(Mir.Mark.mk (0:Int) (0:Int) (0:Int) (0:Int),(4:Int),()) =((aa a b c d).1,(aa a b c d).2,())))))))∧(r13=false→(r19=true→((0:Int)≤r5∧r5 <(↑(3:Nat):Int))∧True∧((0:Int)≤(0:Int)∧(0:Int) <(↑kindL.length:Int))∧((0:Int)≤(0:Int)∧(0:Int)<r4)∧(r15=true→((0:Int)≤(0:Int)∧(0:Int) <(↑(3:Nat):Int))∧((0:Int)≤(1:Int)∧(1:Int) <(↑(3:Nat):Int))∧((0:Int)≤(2:Int)∧(2:Int) <(↑(3:Nat):Int))∧(Mir.Mark.mk r3 (0:Int) r30.1 (0:Int),(0:Int),()) =((aa a b c d).1,(aa a b c d).2,()))∧(r15=false→((0:Int)≤r3∧r3 <(↑kindL.length:Int))∧((0:Int)≤(0:Int)∧(0:Int)<r4)∧(r20=true→((0:Int)≤(0:Int)∧(0:Int) <(↑(3:Nat):Int))∧((0:Int)≤(1:Int)∧(1:Int) <(↑(3:Nat):Int))∧((0:Int)≤(2:Int)∧(2:Int) <(↑(3:Nat):Int))∧(Mir.Mark.mk r10 (0:Int) r30.1 (0:Int),(0:Int),()) =((aa a b c d).1,(aa a b c d).2,()))∧(r20=false→((0:Int)≤r10∧r10 <(↑kindL.length:Int))∧((0:Int)≤(0:Int)∧(0:Int)<r4)∧(r24=true→((0:Int)≤(0:Int)∧(0:Int) <(↑(3:Nat):Int))∧((0:Int)≤(1:Int)∧(1:Int) <(↑(3:Nat):Int))∧((0:Int)≤(2:Int)∧(2:Int) <(↑(3:Nat):Int))∧(Mir.Mark.mk r16 (0:Int) r30.1 (0:Int),(0:Int),()) =((aa a b c d).1,(aa a b c d).2,()))∧(r24=false→((0:Int)≤r16∧r16 <(↑kindL.length:Int))∧((0:Int)≤(0:Int)∧(0:Int)<r4)∧(r28=true→((0:Int)≤(0:Int)∧(0:Int) <(↑(3:Nat):Int))∧((0:Int)≤(1:Int)∧(1:Int) <(↑(3:Nat):Int))∧((0:Int)≤(2:Int)∧(2:Int) <(↑(3:Nat):Int))∧(Mir.Mark.mk r21 (0:Int) r30.1 (0:Int),(0:Int),()) =((aa a b c d).1,(aa a b c d).2,()))∧(r28=false→((0:Int)≤r21∧r21 <(↑kindL.length:Int))∧((0:Int)≤(0:Int)∧(0:Int)<r4)∧(r31=true→((0:Int)≤(0:Int)∧(0:Int) <(↑(3:Nat):Int))∧((0:Int)≤(1:Int)∧(1:Int) <(↑(3:Nat):Int))∧((0:Int)≤(2:Int)∧(2:Int) <(↑(3:Nat):Int))∧(Mir.Mark.mk r25 (0:Int) r30.1 (0:Int),(0:Int),()) =((aa a b c d).1,(aa a b c d).2,()))∧(r31=false→(Mir.Mark.mk (0:Int) (0:Int) (0:Int) (0:Int),(4:Int),()) =((aa a b c d).1,(aa a b c d).2,())))))))∧(r19=false→(r23=true→((0:Int)≤r9∧r9 <(↑(3:Nat):Int))∧True∧((0:Int)≤(0:Int)∧(0:Int) <(↑kindL.length:Int))∧((0:Int)≤(0:Int)∧(0:Int)<r4)∧(r15=true→((0:Int)≤(0:Int)∧(0:Int) <(↑(3:Nat):Int))∧((0:Int)≤(1:Int)∧(1:Int) <(↑(3:Nat):Int))∧((0:Int)≤(2:Int)∧(2:Int) <(↑(3:Nat):Int))∧(Mir.Mark.mk r3 (0:Int) r27.1 r30.1,(0:Int),()) =((aa a b c d).1,(aa a b c d).2,()))∧(r15=false→((0:Int)≤r3∧r3 <(↑kindL.length:Int))∧((0:Int)≤(0:Int)∧(0:Int)<r4)∧(r20=true→((0:Int)≤(0:Int)∧(0:Int) <(↑(3:Nat):Int))∧((0:Int)≤(1:Int)∧(1:Int) <(↑(3:Nat):Int))∧((0:Int)≤(2:Int)∧(2:Int) <(↑(3:Nat):Int))∧(Mir.Mark.mk r10 (0:Int) r27.1 r30.1,(0:Int),()) =((aa a b c d).1,(aa a b c d).2,()))∧(r20=false→((0:Int)≤r10∧r10 <(↑kindL.length:Int))∧((0:Int)≤(0:Int)∧(0:Int)<r4)∧(r24=true→((0:Int)≤(0:Int)∧(0:Int) <(↑(3:Nat):Int))∧((0:Int)≤(1:Int)∧(1:Int) <(↑(3:Nat):Int))∧((0:Int)≤(2:Int)∧(2:Int) <(↑(3:Nat):Int))∧(Mir.Mark.mk r16 (0:Int) r27.1 r30.1,(0:Int),()) =((aa a b c d).1,(aa a b c d).2,()))∧(r24=false→((0:Int)≤r16∧r16 <(↑kindL.length:Int))∧((0:Int)≤(0:Int)∧(0:Int)<r4)∧(r28=true→((0:Int)≤(0:Int)∧(0:Int) <(↑(3:Nat):Int))∧((0:Int)≤(1:Int)∧(1:Int) <(↑(3:Nat):Int))∧((0:Int)≤(2:Int)∧(2:Int) <(↑(3:Nat):Int))∧(Mir.Mark.mk r21 (0:Int) r27.1 r30.1,(0:Int),()) =((aa a b c d).1,(aa a b c d).2,()))∧(r28=false→((0:Int)≤r21∧r21 <(↑kindL.length:Int))∧((0:Int)≤(0:Int)∧(0:Int)<r4)∧(r31=true→((0:Int)≤(0:Int)∧(0:Int) <(↑(3:Nat):Int))∧((0:Int)≤(1:Int)∧(1:Int) <(↑(3:Nat):Int))∧((0:Int)≤(2:Int)∧(2:Int) <(↑(3:Nat):Int))∧(Mir.Mark.mk r25 (0:Int) r27.1 r30.1,(0:Int),()) =((aa a b c d).1,(aa a b c d).2,()))∧(r31=false→(Mir.Mark.mk (0:Int) (0:Int) (0:Int) (0:Int),(4:Int),()) =((aa a b c d).1,(aa a b c d).2,())))))))∧(r23=false→False∧True)))))∧(r12=false→(r18=true→((0:Int)≤r9∧r9 <(↑(3:Nat):Int))∧((0:Int)≤r10∧r10<r17)∧(r32=true→(Mir.Mark.mk (0:Int) (0:Int) (0:Int) (0:Int),(4:Int),()) =((aa a b c d).1,(aa a b c d).2,()))∧(r32=false→(r13=true→((0:Int)≤(↑(0:Nat):Int)∧(↑(0:Nat):Int) <(↑(3:Nat):Int))∧True∧((0:Int)≤(0:Int)∧(0:Int) <(↑kindL.length:Int))∧((0:Int)≤(0:Int)∧(0:Int)<r4)∧(r15=true→((0:Int)≤(0:Int)∧(0:Int) <(↑(3:Nat):Int))∧((0:Int)≤(1:Int)∧(1:Int) <(↑(3:Nat):Int))∧((0:Int)≤(2:Int)∧(2:Int) <(↑(3:Nat):Int))∧(Mir.Mark.mk r3 r30.1 r22.1 r27.1,(0:Int),()) =((aa a b c d).1,(aa a b c d).2,()))∧(r15=false→((0:Int)≤r3∧r3 <(↑kindL.length:Int))∧((0:Int)≤(0:Int)∧(0:Int)<r4)∧(r20=true→((0:Int)≤(0:Int)∧(0:Int) <(↑(3:Nat):Int))∧((0:Int)≤(1:Int)∧(1:Int) <(↑(3:Nat):Int))∧((0:Int)≤(2:Int)∧(2:Int) <(↑(3:Nat):Int))∧(Mir.Mark.mk r10 r30.1 r22.1 r27.1,(0:Int),()) =((aa a b c d).1,(aa a b c d).2,()))∧(r20=false→((0:Int)≤r10∧r10 <(↑kindL.length:Int))∧((0:Int)≤(0:Int)∧(0:Int)<r4)∧(r24=true→((0:Int)≤(0:Int)∧(0:Int) <(↑(3:Nat):Int))∧((0:Int)≤(1:Int)∧(1:Int) <(↑(3:Nat):Int))∧((0:Int)≤(2:Int)∧(2:Int) <(↑(3:Nat):Int))∧(Mir.Mark.mk r16 r30.1 r22.1 r27.1,(0:Int),()) =((aa a b c d).1,(aa a b c d).2,()))∧(r24=false→((0:Int)≤r16∧r16 <(↑kindL.length:Int))∧((0:Int)≤(0:Int)∧(0:Int)<r4)∧(r28=true→((0:Int)≤(0:Int)∧(0:Int) <(↑(3:Nat):Int))∧((0:Int)≤(1:Int)∧(1:Int) <(↑(3:Nat):Int))∧((0:Int)≤(2:Int)∧(2:Int) <(↑(3:Nat):Int))∧(Mir.Mark.mk r21 r30.1 r22.1 r27.1,(0:Int),()) =((aa a b c d).1,(aa a b c d).2,()))∧(r28=false→((0:Int)≤r21∧r21 <(↑kindL.length:Int))∧((0:Int)≤(0:Int)∧(0:Int)<r4)∧(r31=true→((0:Int)≤(0:Int)∧(0:Int) <(↑(3:Nat):Int))∧((0:Int)≤(1:Int)∧(1:Int) <(↑(3:Nat):Int))∧((0:Int)≤(2:Int)∧(2:Int) <(↑(3:Nat):Int))∧(Mir.Mark.mk r25 r30.1 r22.1 r27.1,(0:Int),()) =((aa a b c d).1,(aa a b c d).2,()))∧(r31=false→(Mir.Mark.mk (0:Int) (0:Int) (0:Int) (0:Int),(4:Int),()) =((aa a b c d).1,(aa a b c d).2,())))))))∧(r13=false→(r19=true→((0:Int)≤r5∧r5 <(↑(3:Nat):Int))∧True∧((0:Int)≤(0:Int)∧(0:Int) <(↑kindL.length:Int))∧((0:Int)≤(0:Int)∧(0:Int)<r4)∧(r15=true→((0:Int)≤(0:Int)∧(0:Int) <(↑(3:Nat):Int))∧((0:Int)≤(1:Int)∧(1:Int) <(↑(3:Nat):Int))∧((0:Int)≤(2:Int)∧(2:Int) <(↑(3:Nat):Int))∧(Mir.Mark.mk r3 (0:Int) r30.1 r27.1,(0:Int),()) =((aa a b c d).1,(aa a b c d).2,()))∧(r15=false→((0:Int)≤r3∧r3 <(↑kindL.length:Int))∧((0:Int)≤(0:Int)∧(0:Int)<r4)∧(r20=true→((0:Int)≤(0:Int)∧(0:Int) <(↑(3:Nat):Int))∧((0:Int)≤(1:Int)∧(1:Int) <(↑(3:Nat):Int))∧((0:Int)≤(2:Int)∧(2:Int) <(↑(3:Nat):Int))∧(Mir.Mark.mk r10 (0:Int) r30.1 r27.1,(0:Int),()) =((aa a b c d).1,(aa a b c d).2,()))∧(r20=false→((0:Int)≤r10∧r10 <(↑kindL.length:Int))∧((0:Int)≤(0:Int)∧(0:Int)<r4)∧(r24=true→((0:Int)≤(0:Int)∧(0:Int) <(↑(3:Nat):Int))∧((0:Int)≤(1:Int)∧(1:Int) <(↑(3:Nat):Int))∧((0:Int)≤(2:Int)∧(2:Int) <(↑(3:Nat):Int))∧(Mir.Mark.mk r16 (0:Int) r30.1 r27.1,(0:Int),()) =((aa a b c d).1,(aa a b c d).2,()))∧(r24=false→((0:Int)≤r16∧r16 <(↑kindL.length:Int))∧((0:Int)≤(0:Int)∧(0:Int)<r4)∧(r28=true→((0:Int)≤(0:Int)∧(0:Int) <(↑(3:Nat):Int))∧((0:Int)≤(1:Int)∧(1:Int) <(↑(3:Nat):Int))∧((0:Int)≤(2:Int)∧(2:Int) <(↑(3:Nat):Int))∧(Mir.Mark.mk r21 (0:Int) r30.1 r27.1,(0:Int),()) =((aa a b c d).1,(aa a b c d).2,()))∧(r28=false→((0:Int)≤r21∧r21 <(↑kindL.length:Int))∧((0:Int)≤(0:Int)∧(0:Int)<r4)∧(r31=true→((0:Int)≤(0:Int)∧(0:Int) <(↑(3:Nat):Int))∧((0:Int)≤(1:Int)∧(1:Int) <(↑(3:Nat):Int))∧((0:Int)≤(2:Int)∧(2:Int) <(↑(3:Nat):Int))∧(Mir.Mark.mk r25 (0:Int) r30.1 r27.1,(0:Int),()) =((aa a b c d).1,(aa a b c d).2,()))∧(r31=false→(Mir.Mark.mk (0:Int) (0:Int) (0:Int) (0:Int),(4:Int),()) =((aa a b c d).1,(aa a b c d).2,())))))))∧(r19=false→(r23=true→((0:Int)≤r9∧r9 <(↑(3:Nat):Int))∧True∧((0:Int)≤(0:Int)∧(0:Int) <(↑kindL.length:Int))∧((0:Int)≤(0:Int)∧(0:Int)<r4)∧(r15=true→((0:Int)≤(0:Int)∧(0:Int) <(↑(3:Nat):Int))∧((0:Int)≤(1:Int)∧(1:Int) <(↑(3:Nat):Int))∧((0:Int)≤(2:Int)∧(2:Int) <(↑(3:Nat):Int))∧(Mir.Mark.mk r3 (0:Int) r22.1 r30.1,(0:Int),()) =((aa a b c d).1,(aa a b c d).2,()))∧(r15=false→((0:Int)≤r3∧r3 <(↑kindL.length:Int))∧((0:Int)≤(0:Int)∧(0:Int)<r4)∧(r20=true→((0:Int)≤(0:Int)∧(0:Int) <(↑(3:Nat):Int))∧((0:Int)≤(1:Int)∧(1:Int) <(↑(3:Nat):Int))∧((0:Int)≤(2:Int)∧(2:Int) <(↑(3:Nat):Int))∧(Mir.Mark.mk r10 (0:Int) r22.1 r30.1,(0:Int),()) =((aa a b c d).1,(aa a b c d).2,()))∧(r20=false→((0:Int)≤r10∧r10 <(↑kindL.length:Int))∧((0:Int)≤(0:Int)∧(0:Int)<r4)∧(r24=true→((0:Int)≤(0:Int)∧(0:Int) <(↑(3:Nat):Int))∧((0:Int)≤(1:Int)∧(1:Int) <(↑(3:Nat):Int))∧((0:Int)≤(2:Int)∧(2:Int) <(↑(3:Nat):Int))∧(Mir.Mark.mk r16 (0:Int) r22.1 r30.1,(0:Int),()) =((aa a b c d).1,(aa a b c d).2,()))∧(r24=false→((0:Int)≤r16∧r16 <(↑kindL.length:Int))∧((0:Int)≤(0:Int)∧(0:Int)<r4)∧(r28=true→((0:Int)≤(0:Int)∧(0:Int) <(↑(3:Nat):Int))∧((0:Int)≤(1:Int)∧(1:Int) <(↑(3:Nat):Int))∧((0:Int)≤(2:Int)∧(2:Int) <(↑(3:Nat):Int))∧(Mir.Mark.mk r21 (0:Int) r22.1 r30.1,(0:Int),()) =((aa a b c d).1,(aa a b c d).2,()))∧(r28=false→((0:Int)≤r21∧r21 <(↑kindL.length:Int))∧((0:Int)≤(0:Int)∧(0:Int)<r4)∧(r31=true→((0:Int)≤(0:Int)∧(0:Int) <(↑(3:Nat):Int))∧((0:Int)≤(1:Int)∧(1:Int) <(↑(3:Nat):Int))∧((0:Int)≤(2:Int)∧(2:Int) <(↑(3:Nat):Int))∧(Mir.Mark.mk r25 (0:Int) r22.1 r30.1,(0:Int),()) =((aa a b c d).1,(aa a b c d).2,()))∧(r31=false→(Mir.Mark.mk (0:Int) (0:Int) (0:Int) (0:Int),(4:Int),()) =((aa a b c d).1,(aa a b c d).2,())))))))∧(r23=false→False∧True)))))∧(r18=false→False∧True)))))∧(r7=false→(r11=true→((0:Int)≤r9∧r9 <(↑(3:Nat):Int))∧((0:Int)≤r3∧r3<r17)∧(r29=true→(Mir.Mark.mk (0:Int) (0:Int) (0:Int) (0:Int),(4:Int),()) =((aa a b c d).1,(aa a b c d).2,()))∧(r29=false→(r8=true→((0:Int)≤(↑(0:Nat):Int)∧(↑(0:Nat):Int) <(↑(3:Nat):Int))∧((0:Int)≤r10∧r10<r17)∧(r32=true→(Mir.Mark.mk (0:Int) (0:Int) (0:Int) (0:Int),(4:Int),()) =((aa a b c d).1,(aa a b c d).2,()))∧(r32=false→(r13=true→((0:Int)≤(↑(0:Nat):Int)∧(↑(0:Nat):Int) <(↑(3:Nat):Int))∧True∧((0:Int)≤(0:Int)∧(0:Int) <(↑kindL.length:Int))∧((0:Int)≤(0:Int)∧(0:Int)<r4)∧(r15=true→((0:Int)≤(0:Int)∧(0:Int) <(↑(3:Nat):Int))∧((0:Int)≤(1:Int)∧(1:Int) <(↑(3:Nat):Int))∧((0:Int)≤(2:Int)∧(2:Int) <(↑(3:Nat):Int))∧(Mir.Mark.mk r3 r30.1 (0:Int) r22.1,(0:Int),()) =((aa a b c d).1,(aa a b c d).2,()))∧(r15=false→((0:Int)≤r3∧r3 <(↑kindL.length:Int))∧((0:Int)≤(0:Int)∧(0:Int)<r4)∧(r20=true→((0:Int)≤(0:Int)∧(0:Int) <(↑(3:Nat):Int))∧((0:Int)≤(1:Int)∧(1:Int) <(↑(3:Nat):Int))∧((0:Int)≤(2:Int)∧(2:Int) <(↑(3:Nat):Int))∧(Mir.Mark.mk r10 r30.1 (0:Int) r22.1,(0:Int),()) =((aa a b c d).1,(aa a b c d).2,()))∧(r20=false→((0:Int)≤r10∧r10 <(↑kindL.length:Int))∧((0:Int)≤(0:Int)∧(0:Int)<r4)∧(r24=true→((0:Int)≤(0:Int)∧(0:Int) <(↑(3:Nat):Int))∧((0:Int)≤(1:Int)∧(1:Int) <(↑(3:Nat):Int))∧((0:Int)≤(2:Int)∧(2:Int) <(↑(3:Nat):Int))∧(Mir.Mark.mk r16 r30.1 (0:Int) r22.1,(0:Int),()) =((aa a b c d).1,(aa a b c d).2,()))∧(r24=false→((0:Int)≤r16∧r16 <(↑kindL.length:Int))∧((0:Int)≤(0:Int)∧(0:Int)<r4)∧(r28=true→((0:Int)≤(0:Int)∧(0:Int) <(↑(3:Nat):Int))∧((0:Int)≤(1:Int)∧(1:Int) <(↑(3:Nat):Int))∧((0:Int)≤(2:Int)∧(2:Int) <(↑(3:Nat):Int))∧(Mir.Mark.mk r21 r30.1 (0:Int) r22.1,(0:Int),()) =((aa a b c d).1,(aa a b c d).2,()))∧(r28=false→((0:Int)≤r21∧r21 <(↑kindL.length:Int))∧((0:Int)≤(0:Int)∧(0:Int)<r4)∧(r31=true→((0:Int)≤(0:Int)∧(0:Int) <(↑(3:Nat):Int))∧((0:Int)≤(1:Int)∧(1:Int) <(↑(3:Nat):Int))∧((0:Int)≤(2:Int)∧(2:Int) <(↑(3:Nat):Int))∧(Mir.Mark.mk r25 r30.1 (0:Int) r22.1,(0:Int),()) =((aa a b c d).1,(aa a b c d).2,()))∧(r31=false→(Mir.Mark.mk (0:Int) (0:Int) (0:Int) (0:Int),(4:Int),()) =((aa a b c d).1,(aa a b c d).2,())))))))∧(r13=false→(r19=true→((0:Int)≤r5∧r5 <(↑(3:Nat):Int))∧True∧((0:Int)≤(0:Int)∧(0:Int) <(↑kindL.length:Int))∧((0:Int)≤(0:Int)∧(0:Int)<r4)∧(r15=true→((0:Int)≤(0:Int)∧(0:Int) <(↑(3:Nat):Int))∧((0:Int)≤(1:Int)∧(1:Int) <(↑(3:Nat):Int))∧((0:Int)≤(2:Int)∧(2:Int) <(↑(3:Nat):Int))∧(Mir.Mark.mk r3 r27.1 r30.1 r22.1,(0:Int),()) =((aa a b c d).1,(aa a b c d).2,()))∧(r15=false→((0:Int)≤r3∧r3 <(↑kindL.length:Int))∧((0:Int)≤(0:Int)∧(0:Int)<r4)∧(r20=true→((0:Int)≤(0:Int)∧(0:Int) <(↑(3:Nat):Int))∧((0:Int)≤(1:Int)∧(1:Int) <(↑(3:Nat):Int))∧((0:Int)≤(2:Int)∧(2:Int) <(↑(3:Nat):Int))∧(Mir.Mark.mk r10 r27.1 r30.1 r22.1,(0:Int),()) =((aa a b c d).1,(aa a b c d).2,()))∧(r20=false→((0:Int)≤r10∧r10 <(↑kindL.length:Int))∧((0:Int)≤(0:Int)∧(0:Int)<r4)∧(r24=true→((0:Int)≤(0:Int)∧(0:Int) <(↑(3:Nat):Int))∧((0:Int)≤(1:Int)∧(1:Int) <(↑(3:Nat):Int))∧((0:Int)≤(2:Int)∧(2:Int) <(↑(3:Nat):Int))∧(Mir.Mark.mk r16 r27.1 r30.1 r22.1,(0:Int),()) =((aa a b c d).1,(aa a b c d).2,()))∧(r24=false→((0:Int)≤r16∧r16 <(↑kindL.length:Int))∧((0:Int)≤(0:Int)∧(0:Int)<r4)∧(r28=true→((0:Int)≤(0:Int)∧(0:Int) <(↑(3:Nat):Int))∧((0:Int)≤(1:Int)∧(1:Int) <(↑(3:Nat):Int))∧((0:Int)≤(2:Int)∧(2:Int) <(↑(3:Nat):Int))∧(Mir.Mark.mk r21 r27.1 r30.1 r22.1,(0:Int),()) =((aa a b c d).1,(aa a b c d).2,()))∧(r28=false→((0:Int)≤r21∧r21 <(↑kindL.length:Int))∧((0:Int)≤(0:Int)∧(0:Int)<r4)∧(r31=true→((0:Int)≤(0:Int)∧(0:Int) <(↑(3:Nat):Int))∧((0:Int)≤(1:Int)∧(1:Int) <(↑(3:Nat):Int))∧((0:Int)≤(2:Int)∧(2:Int) <(↑(3:Nat):Int))∧(Mir.Mark.mk r25 r27.1 r30.1 r22.1,(0:Int),()) =((aa a b c d).1,(aa a b c d).2,()))∧(r31=false→(Mir.Mark.mk (0:Int) (0:Int) (0:Int) (0:Int),(4:Int),()) =((aa a b c d).1,(aa a b c d).2,())))))))∧(r19=false→(r23=true→((0:Int)≤r9∧r9 <(↑(3:Nat):Int))∧True∧((0:Int)≤(0:Int)∧(0:Int) <(↑kindL.length:Int))∧((0:Int)≤(0:Int)∧(0:Int)<r4)∧(r15=true→((0:Int)≤(0:Int)∧(0:Int) <(↑(3:Nat):Int))∧((0:Int)≤(1:Int)∧(1:Int) <(↑(3:Nat):Int))∧((0:Int)≤(2:Int)∧(2:Int) <(↑(3:Nat):Int))∧(Mir.Mark.mk r3 r27.1 (0:Int) r30.1,(0:Int),()) =((aa a b c d).1,(aa a b c d).2,()))∧(r15=false→((0:Int)≤r3∧r3 <(↑kindL.length:Int))∧((0:Int)≤(0:Int)∧(0:Int)<r4)∧(r20=true→((0:Int)≤(0:Int)∧(0:Int) <(↑(3:Nat):Int))∧((0:Int)≤(1:Int)∧(1:Int) <(↑(3:Nat):Int))∧((0:Int)≤(2:Int)∧(2:Int) <(↑(3:Nat):Int))∧(Mir.Mark.mk r10 r27.1 (0:Int) r30.1,(0:Int),()) =((aa a b c d).1,(aa a b c d).2,()))∧(r20=false→((0:Int)≤r10∧r10 <(↑kindL.length:Int))∧((0:Int)≤(0:Int)∧(0:Int)<r4)∧(r24=true→((0:Int)≤(0:Int)∧(0:Int) <(↑(3:Nat):Int))∧((0:Int)≤(1:Int)∧(1:Int) <(↑(3:Nat):Int))∧((0:Int)≤(2:Int)∧(2:Int) <(↑(3:Nat):Int))∧(Mir.Mark.mk r16 r27.1 (0:Int) r30.1,(0:Int),()) =((aa a b c d).1,(aa a b c d).2,()))∧(r24=false→((0:Int)≤r16∧r16 <(↑kindL.length:Int))∧((0:Int)≤(0:Int)∧(0:Int)<r4)∧(r28=true→((0:Int)≤(0:Int)∧(0:Int) <(↑(3:Nat):Int))∧((0:Int)≤(1:Int)∧(1:Int) <(↑(3:Nat):Int))∧((0:Int)≤(2:Int)∧(2:Int) <(↑(3:Nat):Int))∧(Mir.Mark.mk r21 r27.1 (0:Int) r30.1,(0:Int),()) =((aa a b c d).1,(aa a b c d).2,()))∧(r28=false→((0:Int)≤r21∧r21 <(↑kindL.length:Int))∧((0:Int)≤(0:Int)∧(0:Int)<r4)∧(r31=true→((0:Int)≤(0:Int)∧(0:Int) <(↑(3:Nat):Int))∧((0:Int)≤(1:Int)∧(1:Int) <(↑(3:Nat):Int))∧((0:Int)≤(2:Int)∧(2:Int) <(↑(3:Nat):Int))∧(Mir.Mark.mk r25 r27.1 (0:Int) r30.1,(0:Int),()) =((aa a b c d).1,(aa a b c d).2,()))∧(r31=false→(Mir.Mark.mk (0:Int) (0:Int) (0:Int) (0:Int),(4:Int),()) =((aa a b c d).1,(aa a b c d).2,())))))))∧(r23=false→False∧True)))))∧(r8=false→(r12=true→((0:Int)≤r5∧r5 <(↑(3:Nat):Int))∧((0:Int)≤r10∧r10<r17)∧(r32=true→(Mir.Mark.mk (0:Int) (0:Int) (0:Int) (0:Int),(4:Int),()) =((aa a b c d).1,(aa a b c d).2,()))∧(r32=false→(r13=true→((0:Int)≤(↑(0:Nat):Int)∧(↑(0:Nat):Int) <(↑(3:Nat):Int))∧True∧((0:Int)≤(0:Int)∧(0:Int) <(↑kindL.length:Int))∧((0:Int)≤(0:Int)∧(0:Int)<r4)∧(r15=true→((0:Int)≤(0:Int)∧(0:Int) <(↑(3:Nat):Int))∧((0:Int)≤(1:Int)∧(1:Int) <(↑(3:Nat):Int))∧((0:Int)≤(2:Int)∧(2:Int) <(↑(3:Nat):Int))∧(Mir.Mark.mk r3 r30.1 r27.1 r22.1,(0:Int),()) =((aa a b c d).1,(aa a b c d).2,()))∧(r15=false→((0:Int)≤r3∧r3 <(↑kindL.length:Int))∧((0:Int)≤(0:Int)∧(0:Int)<r4)∧(r20=true→((0:Int)≤(0:Int)∧(0:Int) <(↑(3:Nat):Int))∧((0:Int)≤(1:Int)∧(1:Int) <(↑(3:Nat):Int))∧((0:Int)≤(2:Int)∧(2:Int) <(↑(3:Nat):Int))∧(Mir.Mark.mk r10 r30.1 r27.1 r22.1,(0:Int),()) =((aa a b c d).1,(aa a b c d).2,()))∧(r20=false→((0:Int)≤r10∧r10 <(↑kindL.length:Int))∧((0:Int)≤(0:Int)∧(0:Int)<r4)∧(r24=true→((0:Int)≤(0:Int)∧(0:Int) <(↑(3:Nat):Int))∧((0:Int)≤(1:Int)∧(1:Int) <(↑(3:Nat):Int))∧((0:Int)≤(2:Int)∧(2:Int) <(↑(3:Nat):Int))∧(Mir.Mark.mk r16 r30.1 r27.1 r22.1,(0:Int),()) =((aa a b c d).1,(aa a b c d).2,()))∧(r24=false→((0:Int)≤r16∧r16 <(↑kindL.length:Int))∧((0:Int)≤(0:Int)∧(0:Int)<r4)∧(r28=true→((0:Int)≤(0:Int)∧(0:Int) <(↑(3:Nat):Int))∧((0:Int)≤(1:Int)∧(1:Int) <(↑(3:Nat):Int))∧((0:Int)≤(2:Int)∧(2:Int) <(↑(3:Nat):Int))∧(Mir.Mark.mk r21 r30.1 r27.1 r22.1,(0:Int),()) =((aa a b c d).1,(aa a b c d).2,()))∧(r28=false→((0:Int)≤r21∧r21 <(↑kindL.length:Int))∧((0:Int)≤(0:Int)∧(0:Int)<r4)∧(r31=true→((0:Int)≤(0:Int)∧(0:Int) <(↑(3:Nat):Int))∧((0:Int)≤(1:Int)∧(1:Int) <(↑(3:Nat):Int))∧((0:Int)≤(2:Int)∧(2:Int) <(↑(3:Nat):Int))∧(Mir.Mark.mk r25 r30.1 r27.1 r22.1,(0:Int),()) =((aa a b c d).1,(aa a b c d).2,()))∧(r31=false→(Mir.Mark.mk (0:Int) (0:Int) (0:Int) (0:Int),(4:Int),()) =((aa a b c d).1,(aa a b c d).2,())))))))∧(r13=false→(r19=true→((0:Int)≤r5∧r5 <(↑(3:Nat):Int))∧True∧((0:Int)≤(0:Int)∧(0:Int) <(↑kindL.length:Int))∧((0:Int)≤(0:Int)∧(0:Int)<r4)∧(r15=true→((0:Int)≤(0:Int)∧(0:Int) <(↑(3:Nat):Int))∧((0:Int)≤(1:Int)∧(1:Int) <(↑(3:Nat):Int))∧((0:Int)≤(2:Int)∧(2:Int) <(↑(3:Nat):Int))∧(Mir.Mark.mk r3 (0:Int) r30.1 r22.1,(0:Int),()) =((aa a b c d).1,(aa a b c d).2,()))∧(r15=false→((0:Int)≤r3∧r3 <(↑kindL.length:Int))∧((0:Int)≤(0:Int)∧(0:Int)<r4)∧(r20=true→((0:Int)≤(0:Int)∧(0:Int) <(↑(3:Nat):Int))∧((0:Int)≤(1:Int)∧(1:Int) <(↑(3:Nat):Int))∧((0:Int)≤(2:Int)∧(2:Int) <(↑(3:Nat):Int))∧(Mir.Mark.mk r10 (0:Int) r30.1 r22.1,(0:Int),()) =((aa a b c d).1,(aa a b c d).2,()))∧(r20=false→((0:Int)≤r10∧r10 <(↑kindL.length:Int))∧((0:Int)≤(0:Int)∧(0:Int)<r4)∧(r24=true→((0:Int)≤(0:Int)∧(0:Int) <(↑(3:Nat):Int))∧((0:Int)≤(1:Int)∧(1:Int) <(↑(3:Nat):Int))∧((0:Int)≤(2:Int)∧(2:Int) <(↑(3:Nat):Int))∧(Mir.Mark.mk r16 (0:Int) r30.1 r22.1,(0:Int),()) =((aa a b c d).1,(aa a b c d).2,()))∧(r24=false→((0:Int)≤r16∧r16 <(↑kindL.length:Int))∧((0:Int)≤(0:Int)∧(0:Int)<r4)∧(r28=true→((0:Int)≤(0:Int)∧(0:Int) <(↑(3:Nat):Int))∧((0:Int)≤(1:Int)∧(1:Int) <(↑(3:Nat):Int))∧((0:Int)≤(2:Int)∧(2:Int) <(↑(3:Nat):Int))∧(Mir.Mark.mk r21 (0:Int) r30.1 r22.1,(0:Int),()) =((aa a b c d).1,(aa a b c d).2,()))∧(r28=false→((0:Int)≤r21∧r21 <(↑kindL.length:Int))∧((0:Int)≤(0:Int)∧(0:Int)<r4)∧(r31=true→((0:Int)≤(0:Int)∧(0:Int) <(↑(3:Nat):Int))∧((0:Int)≤(1:Int)∧(1:Int) <(↑(3:Nat):Int))∧((0:Int)≤(2:Int)∧(2:Int) <(↑(3:Nat):Int))∧(Mir.Mark.mk r25 (0:Int) r30.1 r22.1,(0:Int),()) =((aa a b c d).1,(aa a b c d).2,()))∧(r31=false→(Mir.Mark.mk (0:Int) (0:Int) (0:Int) (0:Int),(4:Int),()) =((aa a b c d).1,(aa a b c d).2,())))))))∧(r19=false→(r23=true→((0:Int)≤r9∧r9 <(↑(3:Nat):Int))∧True∧((0:Int)≤(0:Int)∧(0:Int) <(↑kindL.length:Int))∧((0:Int)≤(0:Int)∧(0:Int)<r4)∧(r15=true→((0:Int)≤(0:Int)∧(0:Int) <(↑(3:Nat):Int))∧((0:Int)≤(1:Int)∧(1:Int) <(↑(3:Nat):Int))∧((0:Int)≤(2:Int)∧(2:Int) <(↑(3:Nat):Int))∧(Mir.Mark.mk r3 (0:Int) r27.1 r30.1,(0:Int),()) =((aa a b c d).1,(aa a b c d).2,()))∧(r15=false→((0:Int)≤r3∧r3 <(↑kindL.length:Int))∧((0:Int)≤(0:Int)∧(0:Int)<r4)∧(r20=true→((0:Int)≤(0:Int)∧(0:Int) <(↑(3:Nat):Int))∧((0:Int)≤(1:Int)∧(1:Int) <(↑(3:Nat):Int))∧((0:Int)≤(2:Int)∧(2:Int) <(↑(3:Nat):Int))∧(Mir.Mark.mk r10 (0:Int) r27.1 r30.1,(0:Int),()) =((aa a b c d).1,(aa a b c d).2,()))∧(r20=false→((0:Int)≤r10∧r10 <(↑kindL.length:Int))∧((0:Int)≤(0:Int)∧(0:Int)<r4)∧(r24=true→((0:Int)≤(0:Int)∧(0:Int) <(↑(3:Nat):Int))∧((0:Int)≤(1:Int)∧(1:Int) <(↑(3:Nat):Int))∧((0:Int)≤(2:Int)∧(2:Int) <(↑(3:Nat):Int))∧(Mir.Mark.mk r16 (0:Int) r27.1 r30.1,(0:Int),()) =((aa a b c d).1,(aa a b c d).2,()))∧(r24=false→((0:Int)≤r16∧r16 <(↑kindL.length:Int))∧((0:Int)≤(0:Int)∧(0:Int)<r4)∧(r28=true→((0:Int)≤(0:Int)∧(0:Int) <(↑(3:Nat):Int))∧((0:Int)≤(1:Int)∧(1:Int) <(↑(3:Nat):Int))∧((0:Int)≤(2:Int)∧(2:Int) <(↑(3:Nat):Int))∧(Mir.Mark.mk r21 (0:Int) r27.1 r30.1,(0:Int),()) =((aa a b c d).1,(aa a b c d).2,()))∧(r28=false→((0:Int)≤r21∧r21 <(↑kindL.length:Int))∧((0:Int)≤(0:Int)∧(0:Int)<r4)∧(r31=true→((0:Int)≤(0:Int)∧(0:Int) <(↑(3:Nat):Int))∧((0:Int)≤(1:Int)∧(1:Int) <(↑(3:Nat):Int))∧((0:Int)≤(2:Int)∧(2:Int) <(↑(3:Nat):Int))∧(Mir.Mark.mk r25 (0:Int) r27.1 r30.1,(0:Int),()) =((aa a b c d).1,(aa a b c d).2,()))∧(r31=false→(Mir.Mark.mk (0:Int) (0:Int) (0:Int) (0:Int),(4:Int),()) =((aa a b c d).1,(aa a b c d).2,())))))))∧(r23=false→False∧True)))))∧(r12=false→(r18=true→((0:Int)≤r9∧r9 <(↑(3:Nat):Int))∧((0:Int)≤r10∧r10<r17)∧(r32=true→(Mir.Mark.mk (0:Int) (0:Int) (0:Int) (0:Int),(4:Int),()) =((aa a b c d).1,(aa a b c d).2,()))∧(r32=false→(r13=true→((0:Int)≤(↑(0:Nat):Int)∧(↑(0:Nat):Int) <(↑(3:Nat):Int))∧True∧((0:Int)≤(0:Int)∧(0:Int) <(↑kindL.length:Int))∧((0:Int)≤(0:Int)∧(0:Int)<r4)∧(r15=true→((0:Int)≤(0:Int)∧(0:Int) <(↑(3:Nat):Int))∧((0:Int)≤(1:Int)∧(1:Int) <(↑(3:Nat):Int))∧((0:Int)≤(2:Int)∧(2:Int) <(↑(3:Nat):Int))∧(Mir.Mark.mk r3 r30.1 (0:Int) r27.1,(0:Int),()) =((aa a b c d).1,(aa a b c d).2,()))∧(r15=false→((0:Int)≤r3∧r3 <(↑kindL.length:Int))∧((0:Int)≤(0:Int)∧(0:Int)<r4)∧(r20=true→((0:Int)≤(0:Int)∧(0:Int) <(↑(3:Nat):Int))∧((0:Int)≤(1:Int)∧(1:Int) <(↑(3:Nat):Int))∧((0:Int)≤(2:Int)∧(2:Int) <(↑(3:Nat):Int))∧(Mir.Mark.mk r10 r30.1 (0:Int) r27.1,(0:Int),()) =((aa a b c d).1,(aa a b c d).2,()))∧(r20=false→((0:Int)≤r10∧r10 <(↑kindL.length:Int))∧((0:Int)≤(0:Int)∧(0:Int)<r4)∧(r24=true→((0:Int)≤(0:Int)∧(0:Int) <(↑(3:Nat):Int))∧((0:Int)≤(1:Int)∧(1:Int) <(↑(3:Nat):Int))∧((0:Int)≤(2:Int)∧(2:Int) <(↑(3:Nat):Int))∧(Mir.Mark.mk r16 r30.1 (0:Int) r27.1,(0:Int),()) =((aa a b c d).1,(aa a b c d).2,()))∧(r24=false→((0:Int)≤r16∧r16 <(↑kindL.length:Int))∧((0:Int)≤(0:Int)∧(0:Int)<r4)∧(r28=true→((0:Int)≤(0:Int)∧(0:Int) <(↑(3:Nat):Int))∧((0:Int)≤(1:Int)∧(1:Int) <(↑(3:Nat):Int))∧((0:Int)≤(2:Int)∧(2:Int) <(↑(3:Nat):Int))∧(Mir.Mark.mk r21 r30.1 (0:Int) r27.1,(0:Int),()) =((aa a b c d).1,(aa a b c d).2,()))∧(r28=false→((0:Int)≤r21∧r21 <(↑kindL.length:Int))∧((0:Int)≤(0:Int)∧(0:Int)<r4)∧(r31=true→((0:Int)≤(0:Int)∧(0:Int) <(↑(3:Nat):Int))∧((0:Int)≤(1:Int)∧(1:Int) <(↑(3:Nat):Int))∧((0:Int)≤(2:Int)∧(2:Int) <(↑(3:Nat):Int))∧(Mir.Mark.mk r25 r30.1 (0:Int) r27.1,(0:Int),()) =((aa a b c d).1,(aa a b c d).2,()))∧(r31=false→(Mir.Mark.mk (0:Int) (0:Int) (0:Int) (0:Int),(4:Int),()) =((aa a b c d).1,(aa a b c d).2,())))))))∧(r13=false→(r19=true→((0:Int)≤r5∧r5 <(↑(3:Nat):Int))∧True∧((0:Int)≤(0:Int)∧(0:Int) <(↑kindL.length:Int))∧((0:Int)≤(0:Int)∧(0:Int)<r4)∧(r15=true→((0:Int)≤(0:Int)∧(0:Int) <(↑(3:Nat):Int))∧((0:Int)≤(1:Int)∧(1:Int) <(↑(3:Nat):Int))∧((0:Int)≤(2:Int)∧(2:Int) <(↑(3:Nat):Int))∧(Mir.Mark.mk r3 (0:Int) r30.1 r27.1,(0:Int),()) =((aa a b c d).1,(aa a b c d).2,()))∧(r15=false→((0:Int)≤r3∧r3 <(↑kindL.length:Int))∧((0:Int)≤(0:Int)∧(0:Int)<r4)∧(r20=true→((0:Int)≤(0:Int)∧(0:Int) <(↑(3:Nat):Int))∧((0:Int)≤(1:Int)∧(1:Int) <(↑(3:Nat):Int))∧((0:Int)≤(2:Int)∧(2:Int) <(↑(3:Nat):Int))∧(Mir.Mark.mk r10 (0:Int) r30.1 r27.1,(0:Int),()) =((aa a b c d).1,(aa a b c d).2,()))∧(r20=false→((0:Int)≤r10∧r10 <(↑kindL.length:Int))∧((0:Int)≤(0:Int)∧(0:Int)<r4)∧(r24=true→((0:Int)≤(0:Int)∧(0:Int) <(↑(3:Nat):Int))∧((0:Int)≤(1:Int)∧(1:Int) <(↑(3:Nat):Int))∧((0:Int)≤(2:Int)∧(2:Int) <(↑(3:Nat):Int))∧(Mir.Mark.mk r16 (0:Int) r30.1 r27.1,(0:Int),()) =((aa a b c d).1,(aa a b c d).2,()))∧(r24=false→((0:Int)≤r16∧r16 <(↑kindL.length:Int))∧((0:Int)≤(0:Int)∧(0:Int)<r4)∧(r28=true→((0:Int)≤(0:Int)∧(0:Int) <(↑(3:Nat):Int))∧((0:Int)≤(1:Int)∧(1:Int) <(↑(3:Nat):Int))∧((0:Int)≤(2:Int)∧(2:Int) <(↑(3:Nat):Int))∧(Mir.Mark.mk r21 (0:Int) r30.1 r27.1,(0:Int),()) =((aa a b c d).1,(aa a b c d).2,()))∧(r28=false→((0:Int)≤r21∧r21 <(↑kindL.length:Int))∧((0:Int)≤(0:Int)∧(0:Int)<r4)∧(r31=true→((0:Int)≤(0:Int)∧(0:Int) <(↑(3:Nat):Int))∧((0:Int)≤(1:Int)∧(1:Int) <(↑(3:Nat):Int))∧((0:Int)≤(2:Int)∧(2:Int) <(↑(3:Nat):Int))∧(Mir.Mark.mk r25 (0:Int) r30.1 r27.1,(0:Int),()) =((aa a b c d).1,(aa a b c d).2,()))∧(r31=false→(Mir.Mark.mk (0:Int) (0:Int) (0:Int) (0:Int),(4:Int),()) =((aa a b c d).1,(aa a b c d).2,())))))))∧(r19=false→(r23=true→((0:Int)≤r9∧r9 <(↑(3:Nat):Int))∧True∧((0:Int)≤(0:Int)∧(0:Int) <(↑kindL.length:Int))∧((0:Int)≤(0:Int)∧(0:Int)<r4)∧(r15=true→((0:Int)≤(0:Int)∧(0:Int) <(↑(3:Nat):Int))∧((0:Int)≤(1:Int)∧(1:Int) <(↑(3:Nat):Int))∧((0:Int)≤(2:Int)∧(2:Int) <(↑(3:Nat):Int))∧(Mir.Mark.mk r3 (0:Int) (0:Int) r30.1,(0:Int),()) =((aa a b c d).1,(aa a b c d).2,()))∧(r15=false→((0:Int)≤r3∧r3 <(↑kindL.length:Int))∧((0:Int)≤(0:Int)∧(0:Int)<r4)∧(r20=true→((0:Int)≤(0:Int)∧(0:Int) <(↑(3:Nat):Int))∧((0:Int)≤(1:Int)∧(1:Int) <(↑(3:Nat):Int))∧((0:Int)≤(2:Int)∧(2:Int) <(↑(3:Nat):Int))∧(Mir.Mark.mk r10 (0:Int) (0:Int) r30.1,(0:Int),()) =((aa a b c d).1,(aa a b c d).2,()))∧(r20=false→((0:Int)≤r10∧r10 <(↑kindL.length:Int))∧((0:Int)≤(0:Int)∧(0:Int)<r4)∧(r24=true→((0:Int)≤(0:Int)∧(0:Int) <(↑(3:Nat):Int))∧((0:Int)≤(1:Int)∧(1:Int) <(↑(3:Nat):Int))∧((0:Int)≤(2:Int)∧(2:Int) <(↑(3:Nat):Int))∧(Mir.Mark.mk r16 (0:Int) (0:Int) r30.1,(0:Int),()) =((aa a b c d).1,(aa a b c d).2,()))∧(r24=false→((0:Int)≤r16∧r16 <(↑kindL.length:Int))∧((0:Int)≤(0:Int)∧(0:Int)<r4)∧(r28=true→((0:Int)≤(0:Int)∧(0:Int) <(↑(3:Nat):Int))∧((0:Int)≤(1:Int)∧(1:Int) <(↑(3:Nat):Int))∧((0:Int)≤(2:Int)∧(2:Int) <(↑(3:Nat):Int))∧(Mir.Mark.mk r21 (0:Int) (0:Int) r30.1,(0:Int),()) =((aa a b c d).1,(aa a b c d).2,()))∧(r28=false→((0:Int)≤r21∧r21 <(↑kindL.length:Int))∧((0:Int)≤(0:Int)∧(0:Int)<r4)∧(r31=true→((0:Int)≤(0:Int)∧(0:Int) <(↑(3:Nat):Int))∧((0:Int)≤(1:Int)∧(1:Int) <(↑(3:Nat):Int))∧((0:Int)≤(2:Int)∧(2:Int) <(↑(3:Nat):Int))∧(Mir.Mark.mk r25 (0:Int) (0:Int) r30.1,(0:Int),()) =((aa a b c d).1,(aa a b c d).2,()))∧(r31=false→(Mir.Mark.mk (0:Int) (0:Int) (0:Int) (0:Int),(4:Int),()) =((aa a b c d).1,(aa a b c d).2,())))))))∧(r23=false→False∧True)))))∧(r18=false→False∧True)))))∧(r11=false→False∧True))))))
 intro r1 r2 r3 r4 r5 r6 r7 r8 r9 r10 r11 r12 r13 r14 r15 r16 r17 r18 r19 r20 r21 r22 r23 r24 r25 r26 r27 r28 r29 r30 r31 r32
 clear_value (hr1:r1=_) (hr2:r2=_) (hr3:r3=_) (hr4:r4=_) (hr5:r5=_) (hr6:r6=_) (hr7:r7=_) (hr8:r8=_) (hr9:r9=_) (hr10:r10=_) (hr11:r11=_) (hr12:r12=_) (hr13:r13=_) (hr14:r14=_) (hr15:r15=_) (hr16:r16=_) (hr17:r17=_) (hr18:r18=_) (hr19:r19=_) (hr20:r20=_) (hr21:r21=_) (hr22:r22=_) (hr23:r23=_) (hr24:r24=_) (hr25:r25=_) (hr26:r26=_) (hr27:r27=_) (hr28:r28=_) (hr29:r29=_) (hr30:r30=_) (hr31:r31=_) (hr32:r32=_)
 have e1:r1=[a,b,c,d]:=hr1
 subst e1
 have e2:r2=true:=hr2
 have e3:r3=1:=hr3.trans (by decide)
 have e4:r4=4:=hr4
 have e5:r5=1:=hr5
 have e9:r9=2:=hr9
 subst e2 e3 e4 e5 e9
 have e6:r6=false:=hr6
 have e7:r7=false:=hr7
 have e8:r8=false:=hr8
 have e10:r10=2:=hr10.trans (by decide)
 have e11:r11=false:=hr11
 have e12:r12=true:=hr12
 subst e6 e7 e8 e10 e11 e12
 have e13:r13=false:=hr13
 have e14:r14=[b,c,d]:=hr14
 have e16:r16=3:=hr16.trans (by decide)
 have e18:r18=false:=hr18
 have e19:r19=false:=hr19
 have e23:r23=true:=hr23
 subst e13 e14 e16 e18 e19 e23
 have e17:r17=3:=hr17
 have e21:r21=4:=hr21.trans (by decide)
 subst e17 e21
 have e25:r25=5:=hr25.trans (by decide)
 subst e25
 have e22:r22=cj b:=hr22
 have e27:r27=cj c:=hr27
 have e30:r30=cj d:=hr30
 have hP:aa a b c d=if r26||r29||r32||bV a==0 then (Mir.Mark.zero,4) else (⟨bV a,r22.1,r27.1,r30.1⟩,0):=by
  rw [hr26,hr29,hr32,e22,e27,e30];rfl
 have hK:bV a=if r15 then 1 else if r20 then 2 else if r24 then 3 else if r28 then 4 else if r31 then 5 else 0:=by
  rw [hr15,hr20,hr24,hr28,hr31];rfl
 have hl :(kindL.length:Int)=5:=rfl
 have hs :(ByteArray.mk #[32])=spB:=rfl
 generalize aa a b c d=p at hP ⊢
 rw [hK] at hP
 clear hK hr1 hr2 hr3 hr4 hr5 hr6 hr7 hr8 hr9 hr10 hr11 hr12 hr13 hr14 hr15 hr16 hr17 hr18 hr19 hr20 hr21 hr22 hr23 hr24 hr25 hr26 hr27 hr28 hr29 hr30 hr31 hr32 e22 e27 e30
 simp only [hl,hs,true_and,and_true,Bool.false_eq_true,false_implies,forall_const,reduceCtorEq,if_true,if_false]
 cases r26 with
 | true=>rw [hP];simp [Mir.Mark.zero]
 | false=>
 cases r29 with
 | true=>rw [hP];simp [Mir.Mark.zero]
 | false=>
 cases r32 with
 | true=>rw [hP];simp [Mir.Mark.zero]
 | false=>
 cases r15 with
 | true=>rw [hP];simp [Mir.Mark.zero]
 | false=>
 cases r20 with
 | true=>rw [hP];simp [Mir.Mark.zero]
 | false=>
 cases r24 with
 | true=>rw [hP];simp [Mir.Mark.zero]
 | false=>
 cases r28 with
 | true=>rw [hP];simp [Mir.Mark.zero]
 | false=>
 cases r31 with
 | true=>rw [hP];simp [Mir.Mark.zero]
 | false=>
 rw [hP];simp [Mir.Mark.zero]
end Go.Proofs.YthaeofeigglbhaaGreatDoor
namespace Go.Proofs.YthaeofeigglbhaaGreatDoor
open Go Go.Mir
attribute [local irreducible] Go.Mir.DT.sat Go.Mir.evPat Go.Mir.RT.sat Go.Mir.evFn
def hZ:LoopSum:=⟨fun _=>False,fun st=> .leaf .ret ⟨[],[]⟩ st.nx⟩
theorem rZ {P:Program} {p N:Nat} (b:Code):LoopOKp P p N b hZ:=fun _ _ _ _ _ h=>h.elim
theorem qh {s:ByteArray} {l:List ByteArray} (hs:s.size≤1000000) (h:aV s 32=l):CtrOK Tryz.prog KE 78 (bg KE wa (jv s l)):=
 sn (A:=AY) (B:=jv s l) (fun x hn=>by
  obtain ⟨x1,x2,⟨⟩⟩:=x
  obtain ⟨h1,h2⟩:=hn _ List.mem_cons_self
  have h1:x1=s:=h1
  have h2:x2=spB:=h2
  subst h1 h2
  refine ⟨fun p hp=>?_,rfl,?_⟩
  ·cases List.mem_singleton.1 hp
   exact ⟨hs,rfl⟩
  ·show [(⟨.str,aV x1 32⟩:RowD)]=[⟨.str,l⟩]
   rw [h]) (fun _=>rfl) B5
theorem qi {s:ByteArray} {l:List ByteArray} (hs:s.size≤1000000) (h:aV s 32=l):CtrOK Tryz.prog KE 80 (aB KE qSC yG (ox s l)):=
 uw (A:=wz) (B:=ox s l) (fun x hn=>by
  obtain ⟨x1,x2,⟨⟩⟩:=x
  obtain ⟨h1,h2⟩:=hn _ List.mem_cons_self
  have h1:x1=s:=h1
  have h2:x2 =(32:Int):=h2
  subst h1 h2
  refine ⟨fun p hp=>?_,?_⟩
  ·cases List.mem_singleton.1 hp
   exact hs
  ·show (aV x1 32,()) =(l,())
   rw [h]) vP
theorem Fx (s:ByteArray) (l:List ByteArray) (hl:l.length≠4) :(evPat (bt [eC s l,cX,eD] Tryz.f29) (find [(rid (aA Tryz.f29 0),hZ),(rid (aA Tryz.f29 1),hZ)]) Tryz.f29 qPm sr (s,())).sat fun z_=>z_ =(noP.1,noP.2,()):=by
 refine cast (by kernel_rfl) (?_ :(s=s∧ByteArray.mk #[32]=spB)∧(((↑l.length:Int) !=(4:Int))=true→(Mir.Mark.mk (0:Int) (0:Int) (0:Int) (0:Int),(4:Int),()) =(Mir.Mark.mk (0:Int) (0:Int) (0:Int) (0:Int),(4:Int),()))∧(((↑l.length:Int) !=(4:Int))=false→((0:Int)≤(1:Int)∧(1:Int)≤(↑l.length:Int)∧(↑l.length:Int)≤(↑l.length:Int))∧False∧(Mir.Mark.mk (0:Int) (0:Int) (0:Int) (0:Int),(0:Int),()) =(Mir.Mark.mk (0:Int) (0:Int) (0:Int) (0:Int),(4:Int),())))
 refine ⟨⟨rfl,rfl⟩,fun _=>rfl,fun h=>?_⟩
 have h4 :(l.length:Int)=4:=by simpa using h
 exact absurd (by omega) hl
theorem Fz (s:ByteArray) (l:List ByteArray) (hl:l.length≠4) :(evPat (bt [ch s l,a6,bE] Tryz.f30) (find [(rid (aA Tryz.f30 0),hZ),(rid (aA Tryz.f30 1),hZ)]) Tryz.f30 qPm sr (s,())).sat fun z_=>z_ =(noP.1,noP.2,()):=by
 refine cast (by kernel_rfl) (?_ :(s=s∧(32:Int) =(32:Int))∧(((↑l.length:Int) !=(4:Int))=true→(Mir.Mark.mk (0:Int) (0:Int) (0:Int) (0:Int),(4:Int),()) =(Mir.Mark.mk (0:Int) (0:Int) (0:Int) (0:Int),(4:Int),()))∧(((↑l.length:Int) !=(4:Int))=false→False∧(Mir.Mark.mk (0:Int) (0:Int) (0:Int) (0:Int),(0:Int),()) =(Mir.Mark.mk (0:Int) (0:Int) (0:Int) (0:Int),(4:Int),())))
 refine ⟨⟨rfl,rfl⟩,fun _=>rfl,fun h=>?_⟩
 have h4 :(l.length:Int)=4:=by simpa using h
 exact absurd (by omega) hl
theorem Fj {l:List ByteArray} (h:l.length=4) :∃ a b c d,l=[a,b,c,d]:=by
 match l,h with
 | [a,b,c,d],_=>exact ⟨a,b,c,d,rfl⟩
theorem qt {l:List ByteArray} (h:l.length≠4):bC l=noP:=by
 unfold bC
 split
 ·exact absurd rfl h
 ·rfl
def tP:FuncId×Ctr:=(29,aB KE qPm sr sB)
theorem yB:CtrOK Tryz.prog KE 29 (aB KE qPm sr sB):=by
 refine xz (C0:=bt [] Tryz.f29) (bR .nil _) mixed (fn:=Tryz.f29) Tryz.func29 (by kernel_rfl) (by kernel_rfl) (by kernel_rfl) (by kernel_rfl) (by kernel_rfl) (by kernel_rfl) ?_
 rintro ⟨s,⟨⟩⟩ hw hn
 have hs:s.size≤1000000:=hn _ List.mem_cons_self
 by_cases h4 :(aV s 32).length=4
 ·obtain ⟨a,b,c,d,he⟩:=Fj h4
  have hC:CfgOK Tryz.prog (bt [eC s [a,b,c,d],cX,eD] Tryz.f29):=bR (.consU (qh hs he) rfl (.consU me rfl (.consU qj rfl .nil))) _
  refine ⟨_,find [(rid (aA Tryz.f29 0),b7 5 (bt [eC s [a,b,c,d],cX,eD] Tryz.f29) (fun _=>none) (aA Tryz.f29 0)),(rid (aA Tryz.f29 1),b7 7 (bt [eC s [a,b,c,d],cX,eD] Tryz.f29) (fun _=>none) (aA Tryz.f29 1))],hC,rfl,rfl,?_,?_⟩
  ·exact LoopsOKp.at (by kernel_rfl) (.cons (by kernel_rfl) (jQ 5 hC mixed (Λ:=fun _=>none) (b:=aA Tryz.f29 0) rfl (fun _ _ _ h=>by cases h)) (.cons (by kernel_rfl) (jQ 7 hC mixed (Λ:=fun _=>none) (b:=aA Tryz.f29 1) rfl (fun _ _ _ h=>by cases h)) .nil))
  ·show DT.sat (fun y=>y =((bC (aV s 32)).1,(bC (aV s 32)).2,())) _
   rw [he]
   exact Fw s a b c d
 ·have hC:CfgOK Tryz.prog (bt [eC s (aV s 32),cX,eD] Tryz.f29):=bR (.consU (qh hs rfl) rfl (.consU me rfl (.consU qj rfl .nil))) _
  refine ⟨_,find [(rid (aA Tryz.f29 0),hZ),(rid (aA Tryz.f29 1),hZ)],hC,rfl,rfl,LoopsOKp.at (by kernel_rfl) (.cons (by kernel_rfl) (rZ (aA Tryz.f29 0)) (.cons (by kernel_rfl) (rZ (aA Tryz.f29 1)) .nil)),?_⟩
  show DT.sat (fun y=>y =((bC (aV s 32)).1,(bC (aV s 32)).2,())) _
  rw [qt h4]
  exact Fx s _ h4
end Go.Proofs.YthaeofeigglbhaaGreatDoor
namespace Go.Proofs.YthaeofeigglbhaaGreatDoor
open Go Go.Mir
attribute [local irreducible] Go.Mir.DT.sat Go.Mir.evPat Go.Mir.RT.sat Go.Mir.evFn
theorem tN (a:ByteArray):bV a=bif (kindL.getD 4 ⟨#[]⟩).toList==a.toList then 5 else bif (kindL.getD 3 ⟨#[]⟩).toList==a.toList then 4 else bif (kindL.getD 2 ⟨#[]⟩).toList==a.toList then 3 else bif (kindL.getD 1 ⟨#[]⟩).toList==a.toList then 2 else bif (kindL.getD 0 ⟨#[]⟩).toList==a.toList then 1 else 0:=by
 unfold bV
 simp only [Lib.toList_data]
 generalize a.data.toList=x
 by_cases h0 :(kindL.getD 0 ⟨#[]⟩).data.toList=x
 ·subst h0;decide +kernel
 by_cases h1 :(kindL.getD 1 ⟨#[]⟩).data.toList=x
 ·subst h1;decide +kernel
 by_cases h2 :(kindL.getD 2 ⟨#[]⟩).data.toList=x
 ·subst h2;decide +kernel
 by_cases h3 :(kindL.getD 3 ⟨#[]⟩).data.toList=x
 ·subst h3;decide +kernel
 by_cases h4 :(kindL.getD 4 ⟨#[]⟩).data.toList=x
 ·subst h4;decide +kernel
 rw [beq_eq_false_iff_ne.2 h0,beq_eq_false_iff_ne.2 h1,beq_eq_false_iff_ne.2 h2,beq_eq_false_iff_ne.2 h3,beq_eq_false_iff_ne.2 h4]
 rfl
theorem Fy (s a b c d:ByteArray) :(evPat (bt [ch s [a,b,c,d],a6,bE] Tryz.f30) (find [(rid (aA Tryz.f30 0),b7 7 (bt [ch s [a,b,c,d],a6,bE] Tryz.f30) (fun _=>none) (aA Tryz.f30 0)),(rid (aA Tryz.f30 1),b7 5 (bt [ch s [a,b,c,d],a6,bE] Tryz.f30) (fun _=>none) (aA Tryz.f30 1))]) Tryz.f30 qPm sr (s,())).sat fun z_=>z_ =((aa a b c d).1,(aa a b c d).2,()):=by
 refine cast (by kernel_rfl) (?_:let r1:List ByteArray:= [a,b,c,d];let r2:Int:=IntKind.i64.wrap ((0:Int) +(1:Int));let r3:Int:=(↑r1.length:Int);let r4:Bool:=r3 !=(4:Int);let r5:Int:=IntKind.i64.wrap (r2 +(1:Int));let r6:Bool:=ByteArray.toList (kindL.getD (Int.toNat (0:Int)) (dflt Ty.str))==ByteArray.toList (r1.getD (Int.toNat (0:Int)) (dflt Ty.str));let r7:Int:=IntKind.i64.wrap (r5 +(1:Int));let r8:List ByteArray:=List.drop (Int.toNat (1:Int)) (List.take r3.toNat r1);let r9:Int:=(↑r8.length:Int);let r10:Bool:=ByteArray.toList (kindL.getD r2.toNat (dflt Ty.str))==ByteArray.toList (r1.getD (Int.toNat (0:Int)) (dflt Ty.str));let r11:Int:=IntKind.i64.wrap (r7 +(1:Int));let r12:Int×Int:=ba (r8.getD (Int.toNat (0:Int)) (dflt Ty.str)) (0:Int) (1000000:Int);let r13:Bool:=ByteArray.toList (kindL.getD r5.toNat (dflt Ty.str))==ByteArray.toList (r1.getD (Int.toNat (0:Int)) (dflt Ty.str));let r14:List Int:= [r12.1];let r15:Bool:=r12.2 !=(0:Int);let r16:Int×Int:=ba (r8.getD r2.toNat (dflt Ty.str)) (0:Int) (1000000:Int);let r17:Bool:=ByteArray.toList (kindL.getD r7.toNat (dflt Ty.str))==ByteArray.toList (r1.getD (Int.toNat (0:Int)) (dflt Ty.str));let r18:List Int:= [r16.1];let r19:Bool:=r16.2 !=(0:Int);let r20:Int×Int:=ba (r8.getD r5.toNat (dflt Ty.str)) (0:Int) (1000000:Int);let r21:Bool:=ByteArray.toList (kindL.getD r11.toNat (dflt Ty.str))==ByteArray.toList (r1.getD (Int.toNat (0:Int)) (dflt Ty.str));let r22:List Int:= []++r14;let r23:List Int:= [r20.1];let r24:Bool:=r20.2 !=(0:Int);let r25:List Int:=r22++r18;let r26:List Int:=r25++r23;let r27:Int:=(↑r26.length:Int);let r28:Int:=bif r21 then IntKind.i64.wrap (r11 +(1:Int)) else bif r17 then r11 else bif r13 then r7 else bif r10 then r5 else bif r6 then r2 else (0:Int);let r29:Bool:=r28 ==(0:Int);(s=s∧(32:Int) =(32:Int))∧(r4=true→(Mir.Mark.mk (0:Int) (0:Int) (0:Int) (0:Int),(4:Int),()) =((aa a b c d).1,(aa a b c d).2,()))∧(r4=false→True∧(((0:Int)≤(0:Int)∧(0:Int) <(↑kindL.length:Int))∧((0:Int)≤(0:Int)∧(0:Int)<r3)∧(r6=true→True)∧(r6=false→True))∧(true=true→(((0:Int)≤r2∧r2 <(↑kindL.length:Int))∧((0:Int)≤(0:Int)∧(0:Int)<r3)∧(r10=true→True)∧(r10=false→True))∧(true=true→(((0:Int)≤r5∧r5 <(↑kindL.length:Int))∧((0:Int)≤(0:Int)∧(0:Int)<r3)∧(r13=true→True)∧(r13=false→True))∧(true=true→(((0:Int)≤r7∧r7 <(↑kindL.length:Int))∧((0:Int)≤(0:Int)∧(0:Int)<r3)∧(r17=true→True)∧(r17=false→True))∧(true=true→(((0:Int)≤r11∧r11 <(↑kindL.length:Int))∧((0:Int)≤(0:Int)∧(0:Int)<r3)∧(r21=true→True)∧(r21=false→True))∧(true=true→((0:Int)≤(1:Int)∧(1:Int)≤r3∧r3≤r3)∧True∧((0:Int)≤(0:Int)∧(0:Int)<r9)∧(r15=true→(Mir.Mark.mk (0:Int) (0:Int) (0:Int) (0:Int),(4:Int),()) =((aa a b c d).1,(aa a b c d).2,()))∧(r15=false→(((0:Nat)+r14.length) *(8:Nat)).le (70368744177664:Nat)∧((0:Int)≤r2∧r2<r9)∧(r19=true→(Mir.Mark.mk (0:Int) (0:Int) (0:Int) (0:Int),(4:Int),()) =((aa a b c d).1,(aa a b c d).2,()))∧(r19=false→((r22.length+r18.length) *(8:Nat)).le (70368744177664:Nat)∧((0:Int)≤r5∧r5<r9)∧(r24=true→(Mir.Mark.mk (0:Int) (0:Int) (0:Int) (0:Int),(4:Int),()) =((aa a b c d).1,(aa a b c d).2,()))∧(r24=false→((r25.length+r23.length) *(8:Nat)).le (70368744177664:Nat)∧(r29=true→(Mir.Mark.mk (0:Int) (0:Int) (0:Int) (0:Int),(4:Int),()) =((aa a b c d).1,(aa a b c d).2,()))∧(r29=false→((0:Int)≤(0:Int)∧(0:Int)<r27)∧((0:Int)≤(1:Int)∧(1:Int)<r27)∧((0:Int)≤(2:Int)∧(2:Int)<r27)∧(Mir.Mark.mk r28 (r26.getD (Int.toNat (0:Int)) (dflt (Ty.int IntKind.i64))) (r26.getD (Int.toNat (1:Int)) (dflt (Ty.int IntKind.i64))) (r26.getD (Int.toNat (2:Int)) (dflt (Ty.int IntKind.i64))),(0:Int),()) =((aa a b c d).1,(aa a b c d).2,()))))))))))))
 intro r1 r2 r3 r4 r5 r6 r7 r8 r9 r10 r11 r12 r13 r14 r15 r16 r17 r18 r19 r20 r21 r22 r23 r24 r25 r26 r27 r28 r29
 clear_value (hr1:r1=_) (hr2:r2=_) (hr3:r3=_) (hr4:r4=_) (hr5:r5=_) (hr6:r6=_) (hr7:r7=_) (hr8:r8=_) (hr9:r9=_) (hr10:r10=_) (hr11:r11=_) (hr12:r12=_) (hr13:r13=_) (hr14:r14=_) (hr15:r15=_) (hr16:r16=_) (hr17:r17=_) (hr18:r18=_) (hr19:r19=_) (hr20:r20=_) (hr21:r21=_) (hr22:r22=_) (hr23:r23=_) (hr24:r24=_) (hr25:r25=_) (hr26:r26=_) (hr27:r27=_) (hr28:r28=_) (hr29:r29=_)
 have e1:r1=[a,b,c,d]:=hr1
 subst e1
 have e2:r2=1:=hr2.trans (by decide)
 have e3:r3=4:=hr3
 subst e2 e3
 have e4:r4=false:=hr4
 have e5:r5=2:=hr5.trans (by decide)
 have e8:r8=[b,c,d]:=hr8
 subst e4 e5 e8
 have e7:r7=3:=hr7.trans (by decide)
 have e9:r9=3:=hr9
 subst e7 e9
 have e11:r11=4:=hr11.trans (by decide)
 subst e11
 have e12:r12=cj b:=hr12.trans (bs _ _ _)
 have e16:r16=cj c:=hr16.trans (bs _ _ _)
 have e20:r20=cj d:=hr20.trans (bs _ _ _)
 have e22:r22=[r12.1]:=by rw [hr22,hr14];rfl
 have e25:r25=[r12.1,r16.1]:=by rw [hr25,e22,hr18];rfl
 have e26:r26=[r12.1,r16.1,r20.1]:=by rw [hr26,e25,hr23];rfl
 have e27:r27=3:=by rw [hr27,e26];rfl
 have e28:r28=bV a:=by
  rw [tN,hr28,hr21,hr17,hr13,hr10,hr6]
  rfl
 have hP:aa a b c d=if r15||r19||r24||r29 then (Mir.Mark.zero,4) else (⟨r28,r12.1,r16.1,r20.1⟩,0):=by
  rw [hr15,hr19,hr24,hr29,e28,e12,e16,e20];rfl
 have hl :(kindL.length:Int)=5:=rfl
 generalize aa a b c d=p at hP ⊢
 rw [e22,e25,e26,e27,hr14,hr18,hr23]
 clear hr1 hr2 hr3 hr4 hr5 hr6 hr7 hr8 hr9 hr10 hr11 hr12 hr13 hr14 hr15 hr16 hr17 hr18 hr19 hr20 hr21 hr22 hr23 hr24 hr25 hr26 hr27 hr28 hr29 e12 e16 e20 e22 e25 e26 e27 e28
 simp only [hl,true_and,and_true,Bool.false_eq_true,false_implies,forall_const,reduceCtorEq,if_true,if_false]
 cases r15 with
 | true=>rw [hP];simp [Mir.Mark.zero]
 | false=>
 cases r19 with
 | true=>rw [hP];simp [Mir.Mark.zero]
 | false=>
 cases r24 with
 | true=>rw [hP];simp [Mir.Mark.zero]
 | false=>
 cases r29 with
 | true=>rw [hP];simp [Mir.Mark.zero]
 | false=>
 rw [hP];simp
 exact ⟨rfl,rfl,rfl⟩
theorem C5 {s a b c d:ByteArray} (hC:CfgOK Tryz.prog (bt [ch s [a,b,c,d],a6,bE] Tryz.f30)) :∀ c',(Tryz.f30).body=some c'→∀ b'∈aw (find [(rid (aA Tryz.f30 0),b7 7 (bt [ch s [a,b,c,d],a6,bE] Tryz.f30) (fun _=>none) (aA Tryz.f30 0)),(rid (aA Tryz.f30 1),b7 5 (bt [ch s [a,b,c,d],a6,bE] Tryz.f30) (fun _=>none) (aA Tryz.f30 1))]) c',∀ L,(find [(rid (aA Tryz.f30 0),b7 7 (bt [ch s [a,b,c,d],a6,bE] Tryz.f30) (fun _=>none) (aA Tryz.f30 0)),(rid (aA Tryz.f30 1),b7 5 (bt [ch s [a,b,c,d],a6,bE] Tryz.f30) (fun _=>none) (aA Tryz.f30 1))]) (rid b')=some L→LoopOKp Tryz.prog qPm.nx (bt [ch s [a,b,c,d],a6,bE] Tryz.f30).N b' L:=
 LoopsOKp.at (by kernel_rfl) (.cons (by kernel_rfl) (jQ 7 hC mixed (Λ:=fun _=>none) (b:=aA Tryz.f30 0) rfl (fun _ _ _ h=>by cases h)) (.cons (by kernel_rfl) (jQ 5 hC mixed (Λ:=fun _=>none) (b:=aA Tryz.f30 1) rfl (fun _ _ _ h=>by cases h)) .nil))
def pY:FuncId×Ctr:=(30,aB KE qPm sr sB)
theorem vO:CtrOK Tryz.prog KE 30 (aB KE qPm sr sB):=by
 refine xz (C0:=bt [] Tryz.f30) (bR .nil _) mixed (fn:=Tryz.f30) Tryz.func30 (by kernel_rfl) (by kernel_rfl) (by kernel_rfl) (by kernel_rfl) (by kernel_rfl) (by kernel_rfl) ?_
 rintro ⟨s,⟨⟩⟩ hw hn
 have hs:s.size≤1000000:=hn _ List.mem_cons_self
 by_cases h4 :(aV s 32).length=4
 ·obtain ⟨a,b,c,d,he⟩:=Fj h4
  have hC:CfgOK Tryz.prog (bt [ch s [a,b,c,d],a6,bE] Tryz.f30):=bR (.consU (qi hs he) rfl (.consU kN rfl (.consU n7 rfl .nil))) _
  refine ⟨_,_,hC,rfl,rfl,C5 hC,?_⟩
  show DT.sat (fun y=>y =((bC (aV s 32)).1,(bC (aV s 32)).2,())) _
  rw [he]
  exact Fy s a b c d
 ·have hC:CfgOK Tryz.prog (bt [ch s (aV s 32),a6,bE] Tryz.f30):=bR (.consU (qi hs rfl) rfl (.consU kN rfl (.consU n7 rfl .nil))) _
  refine ⟨_,find [(rid (aA Tryz.f30 0),hZ),(rid (aA Tryz.f30 1),hZ)],hC,rfl,rfl,LoopsOKp.at (by kernel_rfl) (.cons (by kernel_rfl) (rZ (aA Tryz.f30 0)) (.cons (by kernel_rfl) (rZ (aA Tryz.f30 1)) .nil)),?_⟩
  show DT.sat (fun y=>y =((bC (aV s 32)).1,(bC (aV s 32)).2,())) _
  rw [qt h4]
  exact Fz s _ h4
end Go.Proofs.YthaeofeigglbhaaGreatDoor
namespace Go.Proofs.YthaeofeigglbhaaGreatDoor
open Go Go.Mir
theorem wR (c:UInt8) :∀ a:List UInt8,c∉a→cy c a=[a]
 | [],_=>rfl
 | b::l,h=>by
  have h1:b≠c:=fun e=>h (by rw [e];exact List.mem_cons_self)
  have ih:=wR c l (fun e=>h (List.mem_cons_of_mem _ e))
  unfold cy
  rw [if_neg (by simpa using h1),ih]
theorem jx (c:UInt8) :∀ a r:List UInt8,c∉a→cy c (a++c::r)=a::cy c r
 | [],r,_=>by
  show cy c (c::r)=_
  conv=>lhs;unfold cy
  rw [if_pos (by simp)]
 | b::l,r,h=>by
  have h1:b≠c:=fun e=>h (by rw [e];exact List.mem_cons_self)
  have ih:=jx c l r (fun e=>h (List.mem_cons_of_mem _ e))
  show cy c (b ::(l++c::r))=_
  conv=>lhs;unfold cy
  rw [if_neg (by simpa using h1),ih]
theorem gr (c:UInt8) :∀ (l a:List UInt8) (r:List (List UInt8)),cy c l=a::r→c∉a∧(r=[]→l=a)∧(r≠ []→∃ t,l=a++c::t∧cy c t=r)
 | [],a,r,h=>by
  have h:[[]]=a::r:=h
  injection h with h1 h2
  subst h1 h2
  exact ⟨by simp,fun _=>rfl,fun h=>absurd rfl h⟩
 | b::l,a,r,h=>by
  unfold cy at h
  split at h
  ·rename_i hb
   injection h with h1 h2
   subst h1
   have hb:=eq_of_beq hb
   refine ⟨by simp,fun e=>absurd (h2.trans e) (ri c l),fun _=>⟨l,by rw [hb];rfl,h2⟩⟩
  ·rename_i hb
   split at h
   ·rename_i e;exact absurd e (ri c l)
   ·rename_i x r' e
    injection h with h1 h2
    subst h1 h2
    obtain ⟨k1,k2,k3⟩:=gr c l x r' e
    refine ⟨fun hm=>?_,fun e=>by rw [k2 e],fun e=>?_⟩
    ·rcases List.mem_cons.1 hm with rfl|hm
     ·exact hb (by simp)
     ·exact k1 hm
    ·obtain ⟨t,rfl,ht⟩:=k3 e
     exact ⟨t,rfl,ht⟩
theorem oR (c:UInt8) :∀ (l:List UInt8) (a:Nat),eP (l++[c]) a=eP l a*10 +(c.toNat - 48)
 | [],a=>rfl
 | x::r,a=>oR c r _
theorem iU {d:Nat} (h:d<10) :(UInt8.ofNat (48+d)).toNat=48+d:=by
 rw [UInt8.toNat_ofNat']
 omega
theorem s9 {n:Nat} (h :¬ n<10):Lib.decDigits n=Lib.decDigits (n / 10)++[UInt8.ofNat (48+n % 10)]:=by
 conv=>lhs;rw [Lib.decDigits]
 rw [dif_neg h]
theorem wS {n:Nat} (h:n<10):Lib.decDigits n=[UInt8.ofNat (48+n)]:=by
 rw [Lib.decDigits,dif_pos h]
theorem nf :∀ (k n:Nat),n<k→eP (Lib.decDigits n) 0=n∧(Lib.decDigits n).all eV=true∧Lib.decDigits n≠ []∧((Lib.decDigits n).headD 0=48→(Lib.decDigits n).length=1)
 | 0,n,h=>absurd h (Nat.not_lt_zero _)
 | k+1,n,h=>by
  by_cases h10:n<10
  ·rw [wS h10]
   refine ⟨?_,?_,by simp,fun _=>rfl⟩
   ·show 0*10 +((UInt8.ofNat (48+n)).toNat - 48)=n
    rw [iU h10];omega
   ·simp [eV,iU h10];omega
  ·obtain ⟨i1,i2,i3,i4⟩:=nf k (n / 10) (by omega)
   have hm:n % 10<10:=by omega
   rw [s9 h10]
   refine ⟨?_,?_,by simp,fun hh=>?_⟩
   ·rw [oR,i1,iU hm];omega
   ·rw [List.all_append,i2]
    simp [eV,iU hm];omega
   ·exfalso
    cases hd:Lib.decDigits (n / 10) with
    | nil=>exact i3 hd
    | cons x t=>
     rw [hd] at hh i4 i1
     have hx:x=48:=hh
     have hl:=i4 hx
     cases t with
     | cons=>simp at hl
     | nil=>
      subst hx
      have :(0:Nat)=n / 10:=i1
      omega
theorem u5 {c:UInt8} {r:List UInt8} (h:eV c=true) (h0:c≠48):1≤eP (c::r) 0:=by
 unfold eV at h
 simp only [Bool.and_eq_true,decide_eq_true_eq] at h
 have:c.toNat≠48:=fun e=>h0 (UInt8.toNat_inj.1 e)
 have:=sN r (0*10 +(c.toNat - 48))
 unfold eP
 omega
theorem wT :∀ (k:Nat) (l:List UInt8),l.length≤k→l≠ []→l.all eV=true→(l.headD 0=48→l.length=1)→Lib.decDigits (eP l 0)=l
 | 0,l,hk,h1,_,_=>absurd (List.length_eq_zero_iff.1 (Nat.le_zero.1 hk)) h1
 | k+1,l,hk,h1,h2,h3=>by
  obtain ⟨l',c,rfl⟩ :∃ l' c,l=l'++[c]:=⟨l.dropLast,l.getLast h1,(List.dropLast_concat_getLast h1).symm⟩
  rw [List.all_append,Bool.and_eq_true] at h2
  have hc:=h2.2
  simp only [List.all_cons,List.all_nil,Bool.and_true] at hc
  have hc':=hc
  unfold eV at hc'
  simp only [Bool.and_eq_true,decide_eq_true_eq] at hc'
  have hcc:UInt8.ofNat (48 +(c.toNat - 48))=c:=by
   apply UInt8.toNat_inj.1
   rw [iU (by omega)];omega
  cases l' with
  | nil=>
   show Lib.decDigits (0*10 +(c.toNat - 48))=[c]
   rw [Nat.zero_mul,Nat.zero_add,wS (by omega),hcc]
  | cons x t=>
   have hx:x≠48:=fun e=>by
    have:=h3 (by rw [e];rfl)
    simp at this
   have hx2:=h2.1
   rw [List.all_cons,Bool.and_eq_true] at hx2
   have hp:=u5 (r:=t) hx2.1 hx
   rw [oR]
   have ih:=wT k (x::t) (by simp at hk ⊢;omega) (by simp) h2.1 (fun e=>absurd e hx)
   rw [s9 (by omega)]
   have e1 :(eP (x::t) 0*10 +(c.toNat - 48)) / 10=eP (x::t) 0:=by omega
   have e2 :(eP (x::t) 0*10 +(c.toNat - 48)) % 10=c.toNat - 48:=by omega
   rw [e1,e2,ih,hcc]
theorem w6 {b:UInt8} (h:eV b=true):b≠45∧b≠32:=by
 constructor <;>(rintro rfl;exact absurd h (by decide))
theorem jy {n:Int} (h0:0≤n) :(cz n).data.toList=Lib.decDigits n.toNat:=by
 show (Lib.itoa n).toArray.toList=_
 unfold Lib.itoa
 rw [if_neg (by omega)]
theorem Ap {n:Int} (h0:0≤n):dK (cz n)=false:=by
 unfold dK
 rw [jy h0]
 obtain ⟨_,h2,h3,_⟩:=nf _ n.toNat (Nat.lt_succ_self _)
 cases hd:Lib.decDigits n.toNat with
 | nil=>exact absurd hd h3
 | cons x t=>
  rw [hd,List.all_cons,Bool.and_eq_true] at h2
  simpa using (w6 h2.1).1
theorem rX {n:Int} (h0:0≤n) (h1:n≤1000000):cj (cz n) =(n,0):=by
 obtain ⟨v1,v2,v3,v4⟩:=nf _ n.toNat (Nat.lt_succ_self _)
 have hn:=Ap h0
 have hl :(aL (cz n)).data.toList=Lib.decDigits n.toNat:=by
  rw [gu,hn,if_neg (by decide),jy h0]
 have hb:iT (cz n)=true:=by
  rw [mS,hl,hn,v2,oD,hl,Bool.false_or]
  have h1 :(Lib.decDigits n.toNat).isEmpty=false:=by simpa using v3
  rw [h1]
  cases h48 :((Lib.decDigits n.toNat).headD 0==48)
  ·rfl
  ·rw [v4 (eq_of_beq h48)];rfl
 unfold cj fF
 rw [if_pos hb,mh (by rw [hl];exact v3) (by rw [hl];exact v2),hl,hn,v1]
 simp only [Bool.false_eq_true,if_false]
 rw [if_neg (by omega)]
 simp only []
 rw [if_neg (by omega)]
 have :((n.toNat:Nat):Int)=n:=by omega
 rw [this]
theorem n3 {b:ByteArray} (h :(cj b).2=0):b=cz (cj b).1∧0≤(cj b).1∧(cj b).1≤1000000:=by
 unfold cj fF at *
 cases hb:iT b with
 | false=>rw [hb] at h;exact absurd h (by simp)
 | true=>
  rw [hb] at h
  obtain ⟨k1,k2,_⟩:=ui (lo:=0) (hi:=0) hb
  rw [mh k1 k2] at h ⊢
  rw [mS,Bool.and_eq_true,Bool.and_eq_true] at hb
  have hz:=hb.1.2
  generalize hd :(aL b).data.toList=d at *
  simp only [if_true] at h ⊢
  split at h
  ·rename_i v hv
   split at h
   ·exact absurd h (by simp)
   ·rename_i hr
    rw [if_neg hr]
    show b=cz v∧0≤v∧v≤1000000
    have hr1:0≤v∧v≤1000000:=by omega
    cases hn:dK b with
    | true=>
     exfalso
     rw [hn] at hv hz
     simp only [if_true] at hv
     by_cases hV:eP d 0>9223372036854775808
     ·rw [if_pos hV] at hv;cases hv
     ·rw [if_neg hV] at hv
      injection hv with hv
      cases d with
      | nil=>exact k1 rfl
      | cons x t=>
       rw [List.all_cons,Bool.and_eq_true] at k2
       have hx:x≠48:=by
        rintro rfl
        simp at hz
       have:=u5 (r:=t) k2.1 hx
       omega
    | false=>
     rw [hn] at hv hz
     simp only [Bool.false_eq_true,if_false] at hv
     by_cases hV:eP d 0≥9223372036854775808
     ·rw [if_pos hV] at hv;cases hv
     ·rw [if_neg hV] at hv
      injection hv with hv
      refine ⟨?_,hr1⟩
      apply fW
      have hbl:b.data.toList=d:=by rw [←hd,gu,hn];rfl
      rw [jy hr1.1,hbl]
      have hv2:v.toNat=eP d 0:=by omega
      rw [hv2,wT d.length d (Nat.le_refl _) k1 k2]
      intro h48
      have hsz :((aL b).size:Int)=d.length:=by rw [oD,hd]
      rw [h48,hsz] at hz
      cases d with
      | nil=>exact absurd rfl k1
      | cons x t=>
       cases t with
       | nil=>rfl
       | cons y t=>simp at hz;omega
  ·exact absurd h (by simp)
theorem BQ :∀ k:Nat,k<5→bV (kindL.getD k ⟨#[]⟩)=k+1:=by
 intro k hk
 have key :∀ k:Fin 5,bV (kindL.getD k.val ⟨#[]⟩)=k.val+1:=by
  unfold bV
  simp only [Lib.toList_data]
  decide +kernel
 exact key ⟨k,hk⟩
theorem yp {a:ByteArray} (h:bV a≠0):a=kindL.getD (bV a - 1).toNat ⟨#[]⟩∧1≤bV a∧bV a≤5:=by
 unfold bV at *
 simp only [Lib.toList_data] at *
 split at h
 ·rename_i e;rw [if_pos e];exact ⟨(fW (eq_of_beq e)).symm,by decide,by decide⟩
 rename_i e0
 rw [if_neg e0]
 split at h
 ·rename_i e;rw [if_pos e];exact ⟨(fW (eq_of_beq e)).symm,by decide,by decide⟩
 rename_i e1
 rw [if_neg e1]
 split at h
 ·rename_i e;rw [if_pos e];exact ⟨(fW (eq_of_beq e)).symm,by decide,by decide⟩
 rename_i e2
 rw [if_neg e2]
 split at h
 ·rename_i e;rw [if_pos e];exact ⟨(fW (eq_of_beq e)).symm,by decide,by decide⟩
 rename_i e3
 rw [if_neg e3]
 split at h
 ·rename_i e;rw [if_pos e];exact ⟨(fW (eq_of_beq e)).symm,by decide,by decide⟩
 ·exact absurd rfl h
end Go.Proofs.YthaeofeigglbhaaGreatDoor
namespace Go.Proofs.YthaeofeigglbhaaGreatDoor
open Go Go.Mir
theorem wB (n:Int) :(dL n).data.toList=32 ::(cz n).data.toList:=by
 unfold dL
 rw [ByteArray.data_append,Array.toList_append]
 rfl
theorem Ba (a:ByteArray):toB a.data.toList=a:=fW rfl
theorem pX (a:ByteArray) (n:Int) :(a++dL n).data.toList=a.data.toList++32 ::(cz n).data.toList:=by
 rw [ByteArray.data_append,Array.toList_append,wB]
theorem Ar {n:Int} (h0:0≤n) :(32:UInt8)∉(cz n).data.toList:=by
 intro h
 rw [jy h0] at h
 obtain ⟨_,h2,_,_⟩:=nf _ n.toNat (Nat.lt_succ_self _)
 exact (w6 (List.all_eq_true.1 h2 _ h)).2 rfl
theorem FV {a:ByteArray} {p v e:Int} (ha :(32:UInt8)∉a.data.toList) (hp:0≤p) (hv:0≤v) (he:0≤e):aV (((a++dL p)++dL v)++dL e) 32=[a,cz p,cz v,cz e]:=by
 unfold aV
 rw [pX,pX,pX]
 simp only [List.append_assoc,List.cons_append]
 rw [jx 32 _ _ ha,jx 32 _ _ (Ar hp),jx 32 _ _ (Ar hv),wR 32 _ (Ar he)]
 simp only [List.map_cons,List.map_nil,Ba]
theorem x7 {s a b c d:ByteArray} (h:aV s 32=[a,b,c,d]):s.data.toList=a.data.toList++32 ::(b.data.toList++32 ::(c.data.toList++32::d.data.toList)):=by
 have hm:cy 32 s.data.toList=[a.data.toList,b.data.toList,c.data.toList,d.data.toList]:=by
  have h2:=congrArg (List.map fun x:ByteArray=>x.data.toList) h
  unfold aV at h2
  rw [List.map_map] at h2
  have :((fun x:ByteArray=>x.data.toList) ∘ toB)=id:=by funext x;rfl
  rw [this,List.map_id] at h2
  exact h2
 obtain ⟨_,_,k1⟩:=gr _ _ _ _ hm
 obtain ⟨t1,e1,h1⟩:=k1 (by simp)
 obtain ⟨_,_,k2⟩:=gr _ _ _ _ h1
 obtain ⟨t2,e2,h2⟩:=k2 (by simp)
 obtain ⟨_,_,k3⟩:=gr _ _ _ _ h2
 obtain ⟨t3,e3,h3⟩:=k3 (by simp)
 obtain ⟨_,k4,_⟩:=gr _ _ _ _ h3
 rw [e1,e2,e3,k4 rfl]
def kAt (k:Int):ByteArray:=kindL.getD (k - 1).toNat ⟨#[]⟩
theorem oM {m:Mir.Mark} (h1:1≤m.Kind∧m.Kind≤5) (h2:0≤m.Player∧m.Player≤1000000) (h3:0≤m.Value∧m.Value≤1000000) (h4:0≤m.Event∧m.Event≤1000000):aJ m =(((kAt m.Kind++dL m.Player)++dL m.Value)++dL m.Event,0):=by
 unfold aJ
 rw [if_neg (by simp;omega),cG,if_neg (by simp;omega),cG,if_neg (by simp;omega),cG,if_neg (by simp;omega)]
 rfl
theorem uV {m:Mir.Mark} (h :(aJ m).2=0) :(1≤m.Kind∧m.Kind≤5)∧(0≤m.Player∧m.Player≤1000000)∧(0≤m.Value∧m.Value≤1000000)∧(0≤m.Event∧m.Event≤1000000):=by
 unfold aJ at h
 by_cases c1 :(decide (m.Kind<1)||decide (m.Kind>5))=true
 ·rw [if_pos c1] at h;exact absurd h (by simp)
 rw [if_neg c1,cG] at h
 by_cases c2 :(decide (m.Player<0)||decide (m.Player>1000000))=true
 ·rw [if_pos c2] at h;exact absurd h (by simp [pP])
 rw [if_neg c2,cG] at h
 by_cases c3 :(decide (m.Value<0)||decide (m.Value>1000000))=true
 ·rw [if_pos c3] at h;exact absurd h (by simp [pP])
 rw [if_neg c3,cG] at h
 by_cases c4 :(decide (m.Event<0)||decide (m.Event>1000000))=true
 ·rw [if_pos c4] at h;exact absurd h (by simp [pP])
 simp only [Bool.or_eq_true,decide_eq_true_eq] at c1 c2 c3 c4
 omega
theorem DP :∀ k:Nat,(32:UInt8)∉(kindL.getD k ⟨#[]⟩).data.toList:=by
 intro k
 rcases Nat.lt_or_ge k 5 with h|h
 ·have key :∀ k:Fin 5,(32:UInt8)∉(kindL.getD k.val ⟨#[]⟩).data.toList:=by decide +kernel
  exact key ⟨k,h⟩
 ·rw [List.getD_eq_getElem?_getD,List.getElem?_eq_none h]
  decide
theorem Ab {k:Int} (h:1≤k∧k≤5):bV (kAt k)=k:=by
 unfold kAt
 rw [BQ _ (by omega)]
 omega
theorem wF {m:Mir.Mark} (h :(aJ m).2=0):bC (aV (aJ m).1 32) =(m,0):=by
 obtain ⟨h1,h2,h3,h4⟩:=uV h
 rw [oM h1 h2 h3 h4]
 simp only []
 rw [FV (a:=kAt m.Kind) (DP _) h2.1 h3.1 h4.1]
 show aa _ _ _ _=_
 unfold aa
 rw [rX h2.1 h2.2,rX h3.1 h3.2,rX h4.1 h4.2,Ab h1]
 rw [if_neg (by simp;omega)]
theorem vX {s:ByteArray} {x:Mir.Mark} (h:bC (aV s 32) =(x,0)):aJ x =(s,0):=by
 unfold bC at h
 split at h
 case h_2=>exact absurd (congrArg Prod.snd h) (by simp)
 rename_i a b c d he
 unfold aa at h
 by_cases hc :((cj b).2 != 0 ||(cj c).2 != 0 ||(cj d).2 != 0||bV a==0)=true
 ·rw [if_pos hc] at h
  exact absurd (congrArg Prod.snd h) (by simp)
 rw [if_neg hc] at h
 simp only [Bool.or_eq_true,bne_iff_ne,beq_iff_eq,not_or,Decidable.not_not] at hc
 obtain ⟨⟨⟨c1,c2⟩,c3⟩,c4⟩:=hc
 injection h with h5 h6
 subst h5
 obtain ⟨b1,b2,b3⟩:=n3 c1
 obtain ⟨d1,d2,d3⟩:=n3 c2
 obtain ⟨f1,f2,f3⟩:=n3 c3
 obtain ⟨k1,k2,k3⟩:=yp c4
 rw [oM ⟨k2,k3⟩ ⟨b2,b3⟩ ⟨d2,d3⟩ ⟨f2,f3⟩]
 refine congrArg (fun z=>(z,(0:Int))) (fW ?_)
 show (((kAt (bV a)++dL (cj b).1)++dL (cj c).1)++dL (cj d).1).data.toList=_
 rw [pX,pX,pX,←b1,←d1,←f1,x7 he]
 have:kAt (bV a)=a:=k1.symm
 rw [this]
 simp only [List.append_assoc,List.cons_append]
theorem wE (m:Mir.Mark) (h :(aJ m).2=0) :(aJ m).1.size≤1000000:=by
 obtain ⟨h1,h2,h3,h4⟩:=uV h
 rw [oM h1 h2 h3 h4]
 have z :∀ {n:Int},0≤n→n≤1000000→(dL n).size≤22:=fun h0 h1=>by
  have:=lP h0 h1
  unfold dL
  rw [ByteArray.size_append]
  show 1+_≤22
  omega
 have z1:=z h2.1 h2.2
 have z2:=z h3.1 h3.2
 have z3:=z h4.1 h4.2
 have z0 :(kAt m.Kind).size≤10:=l7 _
 show (((kAt m.Kind++dL m.Player)++dL m.Value)++dL m.Event).size≤1000000
 rw [ByteArray.size_append,ByteArray.size_append,ByteArray.size_append]
 omega
end Go.Proofs.YthaeofeigglbhaaGreatDoor
namespace Go.Mir
open Go.RowKit
inductive Rn (γ:Type) where
 | ok (r:γ)
 | no (w:List Nat)
inductive Tri (α:Type) where
 | lf
 | nd (l:Tri α) (v:Option α) (r:Tri α)
def Tri.get {α:Type} (t:Tri α):Nat→Option α:=
 match t with
 | .lf=>fun _=>none
 | .nd l v r=>fun k=>Nat.casesOn (motive:=fun _=>Option α) k v fun k=>Bool.casesOn (motive:=fun _=>Option α) (Nat.beq (Nat.mod k 2) 0) (r.get (Nat.div k 2)) (l.get (Nat.div k 2))
def IntKind.eqb (a b:IntKind):Bool:=decide (a=b)
mutual
def V.eqb:V→V→Bool
 | .any,.any=>true
 | .int k n,.int k' n'=>decide (k=k')&&decide (n=n')
 | .bool a,.bool b=>decide (a=b)
 | .kb a,.kb b=>decide (a=b)
 | .str s,.str t=>decide (s.data.toList=t.data.toList)
 | .nilptr,.nilptr=>true
 | .ptr h o,.ptr h' o'=>Nat.beq h h'&&Nat.beq o o'
 | .nilsl,.nilsl=>true
 | .esl,.esl=>true
 | .gsl h v e o l,.gsl h' v' e' o' l'=>Nat.beq h h'&&Nat.beq v v'&&Nat.beq e e'&&Nat.beq o o'&&Nat.beq l l'
 | .gp h v o,.gp h' v' o'=>Nat.beq h h'&&Nat.beq v v'&&Nat.beq o o'
 | .mpv h,.mpv h'=>Nat.beq h h'
 | .nilfn,.nilfn=>true
 | .nilmap,.nilmap=>true
 | .fn f cs,.fn f' cs'=>Nat.beq f f'&&tj cs cs'
 | .agg cs,.agg cs'=>tj cs cs'
 | .tup cs,.tup cs'=>tj cs cs'
 | _,_=>false
def tj:List V→List V→Bool
 | [],[]=>true
 | x::xs,y::ys=>V.eqb x y&&tj xs ys
 | _,_=>false
end
mutual
theorem V.eqb_eq :∀ (x y:V),V.eqb x y=true→x=y
 | .any,y,h=>by cases y <;> simp_all [V.eqb]
 | .int k n,y,h=>by cases y <;> simp_all [V.eqb]
 | .bool _,y,h=>by cases y <;> simp_all [V.eqb]
 | .kb _,y,h=>by cases y <;> simp_all [V.eqb]
 | .hint _ _,y,h=>by cases y <;> simp [V.eqb] at h
 | .str s,y,h=>by
  cases y <;> simp only [V.eqb,Bool.false_eq_true,decide_eq_true_eq] at h
  rename_i t
  have:s=t:=ByteArray.ext (Array.toList_inj.1 h)
  rw [this]
 | .nilptr,y,h=>by cases y <;> simp_all [V.eqb]
 | .ptr _ _,y,h=>by cases y <;> simp_all [V.eqb]
 | .fp _ _ _ _,y,h=>by cases y <;> simp [V.eqb] at h
 | .rp _ _ _ _,y,h=>by cases y <;> simp [V.eqb] at h
 | .nilsl,y,h=>by cases y <;> simp_all [V.eqb]
 | .esl,y,h=>by cases y <;> simp_all [V.eqb]
 | .osl _ _,y,h=>by cases y <;> simp [V.eqb] at h
 | .fsl _ _,y,h=>by cases y <;> simp [V.eqb] at h
 | .gsl _ _ _ _ _,y,h=>by cases y <;> simp_all [V.eqb]
 | .gp _ _ _,y,h=>by cases y <;> simp_all [V.eqb]
 | .mpv _,y,h=>by cases y <;> simp_all [V.eqb]
 | .nilfn,y,h=>by cases y <;> simp_all [V.eqb]
 | .nilmap,y,h=>by cases y <;> simp_all [V.eqb]
 | .fn f cs,y,h=>by
  cases y <;> simp only [V.eqb,Bool.false_eq_true,Bool.and_eq_true,Nat.beq_eq] at h
  rw [h.1,mT _ _ h.2]
 | .agg cs,y,h=>by
  cases y <;> simp only [V.eqb,Bool.false_eq_true] at h
  rw [mT _ _ h]
 | .tup cs,y,h=>by
  cases y <;> simp only [V.eqb,Bool.false_eq_true] at h
  rw [mT _ _ h]
theorem mT :∀ (xs ys:List V),tj xs ys=true→xs=ys
 | [],[],_=>rfl
 | [],_::_,h=>by simp [tj] at h
 | _::_,[],h=>by simp [tj] at h
 | x::xs,y::ys,h=>by
  simp only [tj,Bool.and_eq_true] at h
  rw [V.eqb_eq _ _ h.1,mT _ _ h.2]
end
def yg:List (V×V)→List (V×V)→Bool
 | [],[]=>true
 |(a,b)::xs,(c,d)::ys=>V.eqb a c&&V.eqb b d&&yg xs ys
 | _,_=>false
theorem wV :∀ (xs ys:List (V×V)),yg xs ys=true→xs=ys
 | [],[],_=>rfl
 | [],_::_,h=>by simp [yg] at h
 | _::_,[],h=>by simp [yg] at h
 |(a,b)::xs,(c,d)::ys,h=>by
  simp only [yg,Bool.and_eq_true] at h
  rw [V.eqb_eq _ _ h.1.1,V.eqb_eq _ _ h.1.2,wV _ _ h.2]
end Go.Mir
namespace Go.Mir
open Go.RowKit
variable {P:Program}
def Ob.chk:Ob→Bool
 | .rng n len=>decide (0≤n)&&decide (n <(len:Int))
 | .sub l h len=>decide (0≤l)&&decide (l≤h)&&decide (h≤(len:Int))
 | .mk n c=>decide (0≤n)&&decide (c=n)&&decide (n≤17179869184)
 | .mkc n c=>decide (0≤n)&&decide (n≤c)&&decide (c≤17179869184)
 | .ne0 n=>!decide (n=0)
 | .leN a b=>Nat.ble a b
 | .prop _=>false
theorem Ob.chk_holds :∀ {p:Ob},p.chk=true→p.holds
 | .rng n len,h=>by simpa [Ob.chk,Ob.holds] using h
 | .sub l h len,hh=>by simp only [Ob.chk,Bool.and_eq_true,decide_eq_true_eq] at hh;exact ⟨hh.1.1,hh.1.2,hh.2⟩
 | .mk n c,h=>by simp only [Ob.chk,Bool.and_eq_true,decide_eq_true_eq] at h;exact ⟨h.1.1,h.1.2,h.2⟩
 | .mkc n c,h=>by simp only [Ob.chk,Bool.and_eq_true,decide_eq_true_eq] at h;exact ⟨h.1.1,h.1.2,h.2⟩
 | .ne0 n,h=>by simpa [Ob.chk,Ob.holds] using h
 | .leN a b,h=>Nat.le_of_ble_eq_true h
def gj:V→V
 | .bool b=> .kb b
 | v=>v
structure RS where
 tm:Tri V
 hp:Tri Blk
 nx:Nat
abbrev yU:=FuncId→List V→Tri Blk→Nat→Rn (V×Tri Blk×Nat)
def jq (r:Res):Option (List Ob×V×List (Nat×Blk)):=match r with
 | .val ps v dh=>some (ps,v,dh)
 | _=>none
abbrev R1:=Option (List Ob×V×List (Nat×Blk))
def wm (tb:Tbl) (H:aj) (ev:Operand→V) (t:TypeId) (a x:Operand):R1:=match tb t with
 | some td=>match cg td H (ev a) (ev x) with
  | .skip ps dh=>some (ps,.tup [],dh)
  | _=>none
 | none=>none
def qv (ev:Operand→V) (x:Operand):R1:=some ([],ev x,[])
def CI (ev:Operand→V) (c a b:Operand):R1:=jq (lY (ev c) (ev a) (ev b))
def wg (tb:Tbl) (m:Nat) (t:TypeId):R1:=match tb t with|some td=>some ([],.ptr m 0,[(m,.cells td.zero)])|none=>none
def Ei (m:Nat) (ev:Operand→V) (x:Operand):R1:=match cellsOf (ev x) with|some cs=>some ([],.ptr m 0,[(m,.cells cs)])|none=>none
def wh (tb:Tbl) (ev:Operand→V) (t:TypeId) (parts:Array (Nat×Operand)):R1:=match tb t with|some td=>jq (jB tb td (parts.toList.map fun p=>(p.1,ev p.2)))|none=>none
def jo (tb:Tbl) (m:Nat) (H:aj) (ev:Operand→V) (t:TypeId) (n:Nat) (parts:Array (Nat×Operand)):R1:=match tb t with|some td=>jq (ck tb td H m n (parts.toList.map fun p=>(p.1,ev p.2)))|none=>none
def AK (tb:Tbl) (H:aj) (ev:Operand→V) (t:TypeId) (a:Operand):R1:=match tb t with|some td=>jq (dD td H (ev a))|none=>none
def Fu (ev:Operand→V) (x:Operand):R1:=jq (tu (ev x))
def Eh (tb:Tbl) (ev:Operand→V) (op:BinOp) (t:TypeId) (x y:Operand):R1:=match tb t with|some td=>jq (dP td op (ev x) (ev y))|none=>none
def rUn (ev:Operand→V) (op:UnOp) (x:Operand):R1:=jq (zx op (ev x))
def AH (tb:Tbl) (m:Nat) (ev:Operand→V) (s d:TypeId) (x:Operand):R1:=match tb s,tb d with|some ts,some td=>jq (mU tb ts td m (ev x))|_,_=>none
def bk:List V→Bool
 | []=>true
 | .ptr _ _::_=>true
 | _=>false
theorem v7 {asz caps:List V} (h:bk caps=true):lZ asz caps=some (asz++caps):=by
 cases caps with
 | nil=>simp [lZ]
 | cons c cs=>cases c <;> simp only [bk,Bool.false_eq_true] at h;rfl
theorem v8 {f:FuncId} {caps:List V} (h:bk caps=true):lW f [] caps = .val [] (.fn f caps) []:=by
 cases caps with
 | nil=>rfl
 | cons c cs=>cases c <;> simp only [bk,Bool.false_eq_true] at h;rfl
theorem AC {E:Env} {f:FuncId} {caps:List V} {l:Array Value} (h:bk caps=true) (hl:ae E caps l.toList):fnV f l = .func (.func f) #[] l:=by
 obtain ⟨l⟩:=l
 cases caps with
 | nil=>cases l with
  | nil=>rfl
  | cons=>simp [ae] at hl
 | cons c cs=>
  cases c <;> simp only [bk,Bool.false_eq_true] at h
  cases l with
  | nil=>simp [ae] at hl
  | cons v vs=>
   simp only [ae,ab] at hl
   obtain ⟨⟨_,⟨a,rfl⟩,_⟩,_⟩:=hl
   rfl
def AI (ev:Operand→V) (fn:Fn) (first caps:Array Operand):R1:=match fn with
 | .func f=>jq (lW f (first.toList.map ev) (caps.toList.map ev))
 | _=>none
def AL (tb:Tbl) (m:Nat) (H:aj) (ev:Operand→V) (t:TypeId) (l c:Operand):R1:=match tb t with|some td=>jq (fc tb td H m (ev l) (ev c))|none=>none
def wk (tb:Tbl) (H:aj) (ev:Operand→V) (t:TypeId) (x:Operand) (lo hi mx:Option Operand):R1:=match tb t with|some td=>jq (dE tb td H (ev x) (lo.map ev) (hi.map ev) (mx.map ev))|none=>none
def wi (tb:Tbl) (ev:Operand→V) (t:TypeId) (x:Operand) (f:Nat):R1:=match tb t with|some td=>jq (gA tb td (ev x) f)|none=>none
def sw (tb:Tbl) (ev:Operand→V) (t:TypeId) (x:Operand) (f:Nat):R1:=match tb t with|some td=>jq (fv tb td (ev x) f)|none=>none
def wj (tb:Tbl) (H:aj) (ev:Operand→V) (t:TypeId) (x i:Operand):R1:=match tb t with|some td=>jq (cB tb td H (ev x) (ev i))|none=>none
def AJ (tb:Tbl) (ev:Operand→V) (t:TypeId) (x i:Operand):R1:=match tb t with|some td=>jq (iW tb td (ev x) (ev i))|none=>none
def uF (ev:Operand→V) (t:Operand) (i:Nat):R1:=jq (jC (ev t) i)
theorem yM {td:TD} {H:aj} {a x:V} {ps:List Ob} {dh:List (Nat×Blk)} (h:cg td H a x = .skip ps dh):dF td H a x = .skip ps dh:=by
 unfold dF
 split
 ·rw [h]
 ·exact h
def nt (tb:Tbl) (N m:Nat) (H:aj) (ev:Operand→V) (op:Op):R1:=match op with
 | .store t a x=>wm tb H ev t a x
 | .move x=>qv ev x
 | .assign x=>qv ev x
 | .pick c a b=>CI ev c a b
 | .alloc t=>wg tb m t
 | .box _ x=>Ei m ev x
 | .build t parts=>wh tb ev t parts
 | .buildSlice t n parts=>jo tb m H ev t n parts
 | .load t a=>AK tb H ev t a
 | .nilCheck x=>Fu ev x
 | .binOp op t x y _=>Eh tb ev op t x y
 | .unOp op _ x=>rUn ev op x
 | .convert s d x=>AH tb m ev s d x
 | .makeFunc fn first caps=>AI ev fn first caps
 | .makeSlice t l c=>AL tb m H ev t l c
 | .slice t x lo hi mx=>wk tb H ev t x lo hi mx
 | .fieldAddr t x f=>wi tb ev t x f
 | .field t x f=>sw tb ev t x f
 | .indexAddr t x i=>wj tb H ev t x i
 | .index t x i=>AJ tb ev t x i
 | .extract t i=>uF ev t i
 | op=>ao ⟨tb,fun _=>none,1,N⟩ m H ev op
theorem lU (tb:Tbl) (N m:Nat) (H:aj) (ev:Operand→V) (op:Op) {q:List Ob×V×List (Nat×Blk)} (h:nt tb N m H ev op=some q):ao ⟨tb,fun _=>none,1,N⟩ m H ev op=some q:=by
 have key :∀ {r:Res},jq r=some q→(match r with | .val ps v dh=>some (ps,v,dh)|_=>none:R1)=some q:=fun {r} h=>by cases r <;> first|exact h|cases h
 cases op <;> simp only [nt] at h <;> simp only [ao,bl,bf]
 case store t a x=>simp only [wm] at h;cases ht:tb t <;> rw [ht] at h <;> simp only [reduceCtorEq] at h ⊢;cases hs:cg _ H (ev a) (ev x) <;> rw [hs] at h <;> simp only [reduceCtorEq] at h ⊢;rw [yM hs];exact h
 case move=>simpa [qv] using h
 case assign=>simpa [qv] using h
 case pick=>exact key h
 case alloc t=>simp only [wg] at h;cases ht:tb t <;> rw [ht] at h <;> simp only [reduceCtorEq] at h ⊢;exact h
 case box t x=>simp only [Ei] at h;cases ht:cellsOf (ev x) <;> rw [ht] at h <;> simp only [reduceCtorEq] at h ⊢;exact h
 case build t parts=>simp only [wh] at h;cases ht:tb t <;> rw [ht] at h <;> simp only [reduceCtorEq] at h ⊢;exact key h
 case buildSlice t n parts=>simp only [jo] at h;cases ht:tb t <;> rw [ht] at h <;> simp only [reduceCtorEq] at h ⊢;exact key h
 case load t a=>simp only [AK] at h;cases ht:tb t <;> rw [ht] at h <;> simp only [reduceCtorEq] at h ⊢;exact key h
 case nilCheck=>exact key h
 case binOp o t x y t2=>simp only [Eh] at h;cases ht:tb t <;> rw [ht] at h <;> simp only [reduceCtorEq] at h ⊢;exact key h
 case unOp=>exact key h
 case convert s d x=>
  simp only [AH] at h
  cases ht:tb s with
  | none=>rw [ht] at h;cases h
  | some ts=>
   rw [ht] at h
   cases ht2:tb d with
   | none=>rw [ht2] at h;cases h
   | some td=>rw [ht2] at h;exact key h
 case makeFunc fn first caps=>
  cases fn <;> simp only [AI,reduceCtorEq] at h
  exact key h
 case makeSlice t l c=>simp only [AL] at h;cases ht:tb t <;> rw [ht] at h <;> simp only [reduceCtorEq] at h ⊢;exact key h
 case slice t x lo hi mx=>simp only [wk] at h;cases ht:tb t <;> rw [ht] at h <;> simp only [reduceCtorEq] at h ⊢;exact key h
 case fieldAddr t x f=>simp only [wi] at h;cases ht:tb t <;> rw [ht] at h <;> simp only [reduceCtorEq] at h ⊢;exact key h
 case field t x f=>simp only [sw] at h;cases ht:tb t <;> rw [ht] at h <;> simp only [reduceCtorEq] at h ⊢;exact key h
 case indexAddr t x i=>simp only [wj] at h;cases ht:tb t <;> rw [ht] at h <;> simp only [reduceCtorEq] at h ⊢;exact key h
 case index t x i=>simp only [AJ] at h;cases ht:tb t <;> rw [ht] at h <;> simp only [reduceCtorEq] at h ⊢;exact key h
 case extract=>exact key h
 all_goals (simp only [ao,bl,bf] at h;exact h)
inductive Act1 where
 | plain (r:R1)
 | call (g:FuncId) (args:List V)
def zk (tb:Tbl) (N m:Nat) (H:aj) (ev:Operand→V) (c:Call):Act1:=match c.callee with
 | .value f=>match ev f with
  | .fn g caps=>bif bk caps then .call g (c.args.toList.map ev++caps) else .plain none
  | _=> .plain none
 | _=> .plain (ao ⟨tb,fun _=>none,1,N⟩ m H ev (.call c))
def evA (tb:Tbl) (N m:Nat) (H:aj) (ev:Operand→V) (op:Op):Act1:=match op with
 | .call c=>zk tb N m H ev c
 | .store t a x=> .plain (wm tb H ev t a x)
 | .move x=> .plain (qv ev x)
 | .assign x=> .plain (qv ev x)
 | .pick c a b=> .plain (CI ev c a b)
 | .alloc t=> .plain (wg tb m t)
 | .box _ x=> .plain (Ei m ev x)
 | .build t parts=> .plain (wh tb ev t parts)
 | .buildSlice t n parts=> .plain (jo tb m H ev t n parts)
 | .load t a=> .plain (AK tb H ev t a)
 | .nilCheck x=> .plain (Fu ev x)
 | .binOp op t x y _=> .plain (Eh tb ev op t x y)
 | .unOp op _ x=> .plain (rUn ev op x)
 | .convert s d x=> .plain (AH tb m ev s d x)
 | .makeFunc fn first caps=> .plain (AI ev fn first caps)
 | .makeSlice t l c=> .plain (AL tb m H ev t l c)
 | .slice t x lo hi mx=> .plain (wk tb H ev t x lo hi mx)
 | .fieldAddr t x f=> .plain (wi tb ev t x f)
 | .field t x f=> .plain (sw tb ev t x f)
 | .indexAddr t x i=> .plain (wj tb H ev t x i)
 | .index t x i=> .plain (AJ tb ev t x i)
 | .extract t i=> .plain (uF ev t i)
 | op=> .plain (ao ⟨tb,fun _=>none,1,N⟩ m H ev op)
theorem yh (tb:Tbl) (N m:Nat) (H:aj) (ev:Operand→V) (op:Op) {q:List Ob×V×List (Nat×Blk)} (h:evA tb N m H ev op = .plain (some q)):ao ⟨tb,fun _=>none,1,N⟩ m H ev op=some q:=by
 cases op
 case call c=>
  simp only [evA,zk] at h
  split at h
  ·split at h
   ·rename_i caps _
    cases hb:bk caps with
    | true=>rw [hb] at h;cases h
    | false=>rw [hb] at h;cases h
   ·cases h
  ·exact Act1.plain.inj h
 all_goals (exact lU tb N m H ev _ (Act1.plain.inj h))
theorem zw (tb:Tbl) (N m:Nat) (H:aj) (ev:Operand→V) (op:Op) {g:FuncId} {args:List V} (h:evA tb N m H ev op = .call g args) :∃ c f caps,op = .call c∧c.callee = .value f∧ev f = .fn g caps∧args=c.args.toList.map ev++caps∧bk caps=true:=by
 cases op
 case call c=>
  simp only [evA,zk] at h
  split at h
  ·rename_i f hf
   split at h
   ·rename_i g' caps he
    cases hb:bk caps with
    | false=>rw [hb] at h;cases h
    | true=>
     rw [hb] at h
     cases h
     exact ⟨c,f,caps,rfl,hf,he,rfl,hb⟩
   ·cases h
  ·cases h
 all_goals (cases h)
def CG (ps:List Ob):Bool:=List.casesOn (motive:=fun _=>Bool) ps true fun _ _=>ps.all Ob.chk
def zq (N:Nat) (ops:List Oper):Bool:=ops.all fun o=>dstIn N o.dst
end Go.Mir
