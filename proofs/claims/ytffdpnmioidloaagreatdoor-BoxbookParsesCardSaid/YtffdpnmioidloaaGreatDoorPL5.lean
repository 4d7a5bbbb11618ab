/- Texts of the mirror and contracts, put together. -/
import Derived.Test.YtffdpnmioidloaaGreatDoorPL4
import Derived.Test.YtffdpnmioidloaaGreatDoorPL3
namespace Go.Proofs.YtffdpnmioidloaaGreatDoor
open Go Go.Mir
def jr (c:UInt8):Bool:=decide (48≤c.toNat)&&decide (c.toNat≤57)
def mm:List UInt8→Nat→Nat
 | [],a=>a
 | c::r,a=>mm r (a*10 +(c.toNat - 48))
theorem EZ :∀ (l:List UInt8) (a:Nat),a≤mm l a
 | [],_=>Nat.le_refl _
 | c::r,a=>by
  have:=EZ r (a*10 +(c.toNat - 48))
  unfold mm
  omega
theorem Fw (c:UInt8):digsB.data.toList.contains c=jr c:=by
 have key :∀ c:Fin 256,digsB.data.toList.contains (UInt8.ofNat c.val)=jr (UInt8.ofNat c.val):=by decide +kernel
 have:=key ⟨c.toNat,UInt8.toNat_lt c⟩
 simpa using this
theorem B3 (p:UInt8→Bool) :∀ l:List UInt8,l.dropWhile p=[]↔∀ x∈l,p x=true
 | []=>by simp
 | x::r=>by
  have ih:=B3 p r
  rw [List.dropWhile_cons]
  cases hp:p x
  ·simp [hp]
  ·simp [hp,ih]
theorem J5 (p:UInt8→Bool) (l:List UInt8) :((l.reverse.dropWhile p).reverse.dropWhile p).isEmpty=l.all p:=by
 apply Bool.eq_iff_iff.2
 rw [List.isEmpty_iff,B3,List.all_eq_true]
 constructor
 ·intro h
  by_cases he:l.reverse.dropWhile p=[]
  ·intro x hx
   exact ((B3 p _).1 he) x (List.mem_reverse.2 hx)
  ·have h1:=List.head_dropWhile_not p he
   have h2:=h _ (List.mem_reverse.2 (List.head_mem he))
   rw [h1] at h2;cases h2
 ·intro h x hx
  have hx:=List.mem_reverse.1 hx
  exact h x (List.mem_reverse.1 ((List.dropWhile_sublist p).mem hx))
theorem Sn (s:ByteArray) :(s.extract 1 s.size).data.toList=s.data.toList.drop 1:=by
 rw [←yL]
 show ((s.data.toList.take s.size).drop 1)=_
 rw [List.take_of_length_le (by rw [Array.length_toList];exact Nat.le_refl _)]
theorem mo (s:ByteArray) :(bk s).data.toList=if fB s then s.data.toList.drop 1 else s.data.toList:=by
 unfold bk
 split
 ·exact Sn s
 ·rfl
theorem Dr (s:ByteArray):Lib.trimPrefix s.data.toList minusB.data.toList =(bk s).data.toList:=by
 rw [mo]
 unfold fB Lib.trimPrefix Lib.hasPrefix minusB
 cases s.data.toList with
 | nil=>rfl
 | cons b t=>
  have:List.isPrefixOf [45] (b::t) =(b==45):=by
   show ((45:UInt8)==b&&List.isPrefixOf [] t)=_
   rw [BEq.comm]
   simp [List.isPrefixOf]
  show (if List.isPrefixOf [45] (b::t) then _ else _)=_
  rw [this]
  simp
theorem Bn (s:ByteArray):s.size=s.data.toList.length:=by rw [Array.length_toList];rfl
theorem xp (s:ByteArray):mR s =(!(bk s).data.toList.isEmpty&&!((bk s).data.toList.headD 0==48&&(fB s||decide (((bk s).size:Int)>1)))&&(bk s).data.toList.all jr):=by
 unfold mR
 rw [Dr,Lib.toList_data]
 have ht :(Lib.trimS (bk s).data.toList digsB.data.toList).isEmpty =(bk s).data.toList.all jr:=by
  unfold Lib.trimS Lib.trimLeftS Lib.trimRightS
  have :(fun x=>digsB.data.toList.contains x)=jr:=funext Fw
  rw [this,J5]
 simp only [ht,Bn]
 rw [mo]
 cases hn:fB s with
 | true=>
  simp only [if_true,Bool.true_or,Bool.and_true]
  have :(s.data.toList==[48])=false:=by
   unfold fB at hn
   cases hs:s.data.toList with
   | nil=>rfl
   | cons b t=>
    rw [hs] at hn
    have hb:b=45:=by simpa using hn
    subst hb
    simp
  rw [this]
  cases (s.data.toList.drop 1).isEmpty <;> simp
 | false=>
  simp only [Bool.false_or,Bool.false_eq_true,if_false]
  cases hs:s.data.toList with
  | nil=>rfl
  | cons b t=>
   cases t with
   | nil=>simp
   | cons c r=>
    have h1:decide (((b::c::r).length:Int)>1)=true:=decide_eq_true (by simp only [List.length_cons];omega)
    have h2 :(b::c::r==[(48:UInt8)])=false:=by simp
    rw [h1,h2]
    simp
theorem vW :∀ (l:List UInt8) (n:Int) (b:Bool),l.all jr=false→mV l n b=none
 | [],_,_,h=>by cases h
 | c::r,n,b,h=>by
  rw [pL]
  by_cases hc:jr c=true
  ·have h':r.all jr=false:=by
    rw [List.all_cons,hc] at h;exact h
   unfold jr at hc
   rw [if_neg (by simp at hc ⊢;omega)]
   exact vW r _ _ h'
  ·unfold jr at hc
   rw [if_pos (by simp at hc ⊢;omega)]
def Qz (n:Int) (b:Bool) (a:Nat):Prop:=(b=false∧n=a∧a≤11529215046068469769)∨(b=true∧a>9223372036854775808)
theorem vX :∀ (l:List UInt8) (n:Int) (b:Bool) (a:Nat),l.all jr=true→Qz n b a→∃ n' b',mV l n b=some (n',b')∧Qz n' b' (mm l a)
 | [],n,b,a,_,h=>⟨n,b,rfl,h⟩
 | c::r,n,b,a,h,hi=>by
  rw [List.all_cons,Bool.and_eq_true] at h
  have hc:=h.1
  unfold jr at hc
  simp only [Bool.and_eq_true,decide_eq_true_eq] at hc
  rw [pL,if_neg (by simp;omega)]
  refine vX r _ _ (a*10 +(c.toNat - 48)) h.2 ?_
  rcases hi with ⟨rfl,rfl,h3⟩ |⟨rfl,h3⟩
  ·by_cases hb:a>1152921504606846976
   ·refine .inr ⟨by simp;omega,by omega⟩
   ·refine .inl ⟨by simp;omega,?_,by omega⟩
    unfold Eo
    have e1:IntKind.u8.wrap ((c.toNat:Int) - 48) =(c.toNat:Int) - 48:=by
     simp only [IntKind.wrap,IntKind.bits,IntKind.signed]
     simp
     omega
    have e2:IntKind.u64.wrap ((a:Int)*10) =(a:Int)*10:=wO (by omega) (by omega)
    have e3:IntKind.u64.wrap ((c.toNat:Int) - 48) =(c.toNat:Int) - 48:=wO (by omega) (by omega)
    rw [e1,e2,e3,wO (by omega) (by omega)]
    omega
  ·exact .inr ⟨by simp,by omega⟩
theorem BB :∀ (l:List UInt8) (a:Nat),l.all jr=true→a≤18446744073709551615→
  (Lib.parseUintM 18446744073709551615 a l = .ok (mm l a)∧mm l a≤18446744073709551615)∨(Lib.parseUintM 18446744073709551615 a l = .range∧mm l a>18446744073709551615)
 | [],a,_,h=> .inl ⟨rfl,h⟩
 | c::r,a,h,ha=>by
  rw [List.all_cons,Bool.and_eq_true] at h
  have hc:=h.1
  unfold jr at hc
  simp only [Bool.and_eq_true,decide_eq_true_eq] at hc
  unfold Lib.parseUintM
  rw [if_pos hc]
  have hv:=EZ r (a*10 +(c.toNat - 48))
  split
  ·exact .inr ⟨rfl,by unfold mm;omega⟩
  ·split
   ·exact .inr ⟨rfl,by unfold mm;omega⟩
   ·exact BB r _ h.2 (by omega)
theorem Lb {s:ByteArray} {lo hi:Int} (h:mR s=false):bQ s lo hi =(0,4):=by
 rw [xp] at h
 unfold bQ
 simp only []
 split
 ·rfl
 ·rename_i h1
  have h1 :((bk s).data.toList.isEmpty ||((bk s).data.toList.headD 0==48&&(fB s||decide (((bk s).size:Int)>1))))=false:=by simpa using h1
  rw [Bool.or_eq_false_iff] at h1
  rw [h1.1,h1.2] at h
  rw [vW _ _ _ (by simpa using h)]
  rfl
theorem IW {s:ByteArray} {lo hi:Int} (h:mR s=true) :(bk s).data.toList≠ []∧(bk s).data.toList.all jr=true∧bQ s lo hi=Cb (fB s) lo hi (mV (bk s).data.toList 0 false):=by
 rw [xp,Bool.and_eq_true,Bool.and_eq_true] at h
 obtain ⟨⟨h1,h2⟩,h3⟩:=h
 refine ⟨fun e=>(by rw [e] at h1;cases h1),h3,?_⟩
 unfold bQ
 simp only []
 rw [if_neg]
 have h1 :(bk s).data.toList.isEmpty=false:=by simpa using h1
 rw [Bool.not_eq_true'] at h2
 rw [h1,h2]
 decide
theorem wm {s:ByteArray} (h1 :(bk s).data.toList≠ []) (h2 :(bk s).data.toList.all jr=true) :
  Lib.parseIntB 64 s.data.toList =(if (if fB s then mm (bk s).data.toList 0>9223372036854775808 else mm (bk s).data.toList 0≥9223372036854775808) then .range else .ok (if fB s then -(mm (bk s).data.toList 0:Int) else mm (bk s).data.toList 0)):=by
 have hl:=mo s
 generalize (bk s).data.toList=d at *
 unfold fB at *
 generalize s.data.toList=l at *
 cases l with
 | nil=>exact absurd hl h1
 | cons c r=>
  have hv:=BB d 0 h2 (by decide)
  have hd:Lib.parseUintB 64 (if c.toNat=43∨c.toNat=45 then r else c::r)=Lib.parseUintM 18446744073709551615 0 d:=by
   have :(if c.toNat=43∨c.toNat=45 then r else c::r)=d:=by
    rw [hl]
    by_cases h:c=45
    ·subst h;rfl
    ·have hb :(c==45)=false:=by simpa using h
     have hn :(!(c::r).isEmpty&&(c::r).headD 0==45)=false:=by simpa using hb
     rw [hn] at hl ⊢
     simp only [if_false,Bool.false_eq_true] at hl ⊢
     rw [if_neg]
     rw [hl,List.all_cons,Bool.and_eq_true] at h2
     have:=h2.1
     unfold jr at this
     simp only [Bool.and_eq_true,decide_eq_true_eq] at this
     omega
   rw [this]
   unfold Lib.parseUintB
   rw [if_neg h1]
  unfold Lib.parseIntB
  simp only []
  rw [hd]
  have hneg :(c.toNat=45)↔(!(c::r).isEmpty&&(c::r).headD 0==45)=true:=by
   simp only [List.isEmpty_cons,Bool.not_false,Bool.true_and,List.headD_cons,beq_iff_eq]
   rw [←UInt8.toNat_inj]
   exact Iff.rfl
  cases hb :(!(c::r).isEmpty&&(c::r).headD 0==45) with
  | true=>
   have hc:c.toNat=45:=hneg.2 hb
   rcases hv with ⟨e,hle⟩ |⟨e,hgt⟩
   ·rw [e]
    simp only [hc,not_true,false_and,if_false,true_and,if_true]
   ·rw [e]
    simp only [if_true]
    rw [if_pos (by omega)]
  | false=>
   have hc :¬ c.toNat=45:=fun h=>by rw [hneg.1 h] at hb;cases hb
   rcases hv with ⟨e,hle⟩ |⟨e,hgt⟩
   ·rw [e]
    simp only [hc,not_false_iff,true_and,false_and,if_false,Bool.false_eq_true]
   ·rw [e]
    simp only [Bool.false_eq_true,if_false]
    rw [if_pos (by omega)]
theorem cG (s:ByteArray) (lo hi:Int):bQ s lo hi=jM s lo hi:=by
 unfold jM
 cases hb:mR s with
 | false=>exact Lb hb
 | true=>
  obtain ⟨h1,h2,h3⟩:=IW (lo:=lo) (hi:=hi) hb
  rw [h3,wm h1 h2]
  obtain ⟨n,b,hn,hi'⟩:=vX (bk s).data.toList 0 false 0 h2 (.inl ⟨rfl,rfl,by omega⟩)
  rw [hn]
  generalize mm (bk s).data.toList 0=V at *
  unfold Cb
  simp only [if_true]
  rcases hi' with ⟨rfl,rfl,hV⟩ |⟨rfl,hV⟩
  ·cases fB s with
   | true=>
    by_cases hg:V>9223372036854775808
    ·rw [if_pos (by simp;omega)]
     simp [hg]
    ·rw [if_neg (by simp;omega)]
     simp only [if_true,hg,if_false]
     have e1:IntKind.i64.wrap (0 - IntKind.i64.wrap (V:Int)) = -(V:Int):=by
      by_cases h63:V=9223372036854775808
      ·subst h63;decide
      ·rw [wrap64 (n:=(V:Int)) (by omega) (by omega),wrap64 (by omega) (by omega)];omega
     rw [e1]
     by_cases hr:-(V:Int)<lo∨hi < -(V:Int)
     ·rw [if_pos (by simpa using hr),if_pos hr]
     ·rw [if_neg (by simpa using hr),if_neg hr]
   | false=>
    by_cases hg:V≥9223372036854775808
    ·rw [if_pos (by simp;omega)]
     simp [hg]
    ·rw [if_neg (by simp;omega)]
     simp only [Bool.false_eq_true,if_false,hg]
     have e1:IntKind.i64.wrap (V:Int) =(V:Int):=wrap64 (by omega) (by omega)
     rw [e1]
     by_cases hr :(V:Int)<lo∨hi <(V:Int)
     ·rw [if_pos (by simpa using hr),if_pos hr]
     ·rw [if_neg (by simpa using hr),if_neg hr]
  ·rw [if_pos (by simp)]
   cases fB s
   ·simp only [Bool.false_eq_true,if_false]
    rw [if_pos (by omega)]
   ·simp only [if_true]
    rw [if_pos (by omega)]
end Go.Proofs.YtffdpnmioidloaaGreatDoor
namespace Go.Mir
open Go.RowKit
variable {P:Program}
end Go.Mir
namespace Go.Proofs.YtffdpnmioidloaaGreatDoor
open Go Go.Mir
def vV (b:ByteArray):Int×Int:=jM b 0 1000000
theorem cJ {n:Int} (h0:0≤n) (h1:n≤1000000) :(aQ n).size≤21:=by
 show (Lib.itoa n).toArray.size≤21
 rw [List.size_toArray]
 exact Lib.itoa_length_le n (by omega) (by omega)
end Go.Proofs.YtffdpnmioidloaaGreatDoor
namespace Go.Proofs.YtffdpnmioidloaaGreatDoor
open Go Go.Mir Go.RowKit
attribute [local irreducible] Go.Mir.DT.sat Go.Mir.evPat Go.Mir.RT.sat Go.Mir.evFn
def dL (l:List Int) (s:ByteArray):ByteArray:=l.foldl (fun s n=>s ++(spV++aQ n)) s
def rb (l:List Int):Prop:=l.length≤1000∧∀ n∈l,0≤n∧n≤1000000
def JI:Den (tyP qIl)→List Prop×Den (tyP A4):=fun x=>([rb x.1],(dL x.1 ⟨#[]⟩,()))
abbrev qNv:Pat:=⟨[(3,.h .str),(6,.h (.slice I)),(7,.h I),(8,.h I)],[],0⟩
abbrev xNv:List (Lf×Pat):= [(.ext 0,⟨[(3,.h .str)],[],0⟩)]
abbrev TNv:Type:=ByteArray×List Int×Int×Int×Unit
def ni:TNv→ByteArray×Unit
 |(s,l,_,i,_)=>(dL (l.drop i.toNat) s,())
def vo:TNv→Prop
 |(s,l,n,i,_)=>(n =(l.length:Int)∧rb l)∧0≤i∧i≤n∧(s.size:Int)≤30*i
def Iz:TNv→Nat
 |(_,_,n,i,_)=>(n - i).toNat
noncomputable def lpNv:Lp:=(⟨0,aA [nF] Tryz.f49,(fun _=>none),(ao Tryz.f49 0),qNv,xNv⟩:Lp)
theorem P3 (s:ByteArray) (l:List Int) (n:Int) (i:Int) (hi:vo (s,l,n,i,())) :(Go.Mir.stepG lpNv ni (fun y:Den (tyP lpNv.q)=>vo y∧Iz y<Iz (s,l,n,i,())) (s,l,n,i,())∧Go.Mir.stepE lpNv ni (s,l,n,i,())=ni (s,l,n,i,())):=by
 refine cast (by kernel_rfl) (?_:let r1:ByteArray:=ByteArray.mk #[32]++aQ (l.getD i.toNat (dflt (Ty.int IntKind.i64)));((decide (i<n)=true→((0:Int)≤i∧i <(↑l.length:Int))∧FW (l.getD i.toNat (dflt (Ty.int IntKind.i64)))∧(ByteArray.mk #[32]).size +(aQ (l.getD i.toNat (dflt (Ty.int IntKind.i64)))).size≤au∧s.size+r1.size≤au∧vo (s++r1,l,n,IntKind.i64.wrap (i +(1:Int)),())∧Iz (s++r1,l,n,IntKind.i64.wrap (i +(1:Int)),())<Iz (s,l,n,i,()))∧(decide (i<n)=false→True))∧(bif decide (i<n) then ni (s++r1,l,n,IntKind.i64.wrap (i +(1:Int)),()) else (s,()))=ni (s,l,n,i,()))
 intro r1
 clear_value (hr1:r1=_)
 obtain ⟨⟨h1,h1b,hb⟩,h2,h3,h4⟩:=hi
 have h1:n =(l.length:Int):=h1
 have h1b:l.length≤1000:=h1b
 have h2:0≤i:=h2
 have h3:i≤n:=h3
 have h4 :(s.size:Int)≤30*i:=h4
 have hL :(1000000:Nat)≤au:=by decide
 by_cases h:i<n
 ·have e1:IntKind.i64.wrap (i+1)=i+1:=wrap64 (by omega) (by omega)
  have hd:l.drop i.toNat=l.getD i.toNat (dflt (Ty.int .i64))::l.drop (i+1).toNat:=aL h2 (by omega) _
  have hm:l.getD i.toNat (dflt (Ty.int .i64))∈l:=List.mem_of_mem_drop (i:=i.toNat) (by rw [hd];exact List.mem_cons_self)
  obtain ⟨b1,b2⟩:=hb _ hm
  generalize l.getD i.toNat (dflt (Ty.int .i64))=v at *
  have hz:=cJ b1 b2
  have hsp :(ByteArray.mk #[(32:UInt8)]).size=1:=rfl
  have hr:r1.size≤22:=by rw [hr1,ByteArray.size_append,hsp];omega
  have key:ni (s,l,n,i,())=ni (s++r1,l,n,i+1,()):=by
   show (dL (l.drop i.toNat) s,()) =(dL (l.drop (i+1).toNat) (s++r1),())
   rw [hd,hr1]
   rfl
  rw [decide_eq_true h,e1,key]
  refine ⟨⟨fun _=>⟨⟨h2,by omega⟩,⟨b1,by omega⟩,by rw [hsp];omega,by omega,⟨⟨h1,h1b,hb⟩,?_,?_,?_⟩,?_⟩,fun z=>Bool.noConfusion z⟩,rfl⟩
  ·show 0≤i+1;omega
  ·show i+1≤n;omega
  ·show ((s++r1).size:Int)≤30 *(i+1)
   rw [ByteArray.size_append];omega
  ·show (n - (i+1)).toNat <(n - i).toNat;omega
 ·rw [decide_eq_false h]
  refine ⟨⟨fun z=>Bool.noConfusion z,fun _=>trivial⟩,?_⟩
  show _ =(dL (l.drop i.toNat) s,())
  rw [aF (l:=l) (by omega)]
  rfl
noncomputable def Ng:LoopSum:=ah lpNv ni vo
noncomputable def MB:Nat:=rid (ao Tryz.f49 0)
theorem ON:LoopOKp Tryz.prog 0 Tryz.f49.ntmps (ao Tryz.f49 0) (ah lpNv ni vo):=
 ax lpNv (an (.consU qq rfl .nil) _) mixed (fun b hb S hS=>by cases hS) ni vo Iz (fun |⟨s,l,n,i,⟨⟩⟩,hi=>P3 s l n i hi)
theorem uy (l:List Int) (hl:rb l) :(evPat (aA [nF] Tryz.f49) (find [(MB,Ng)]) Tryz.f49 qIl A4 (l,())).sat fun z_=>z_ =(JI (l,())).2:=by
 refine cast (by kernel_rfl) (?_ :((cY fun x=>none)∧((↑l.length:Int) =(↑l.length:Int)∧rb l)∧(0:Int)≤(0:Int)∧(0:Int)≤(↑l.length:Int)∧(↑(ByteArray.mk #[]).size:Int)≤(30:Int) *(0:Int))∧(dL (List.drop (Int.toNat (0:Int)) l) (ByteArray.mk #[]),()) =(dL l (ByteArray.mk #[]),()))
 exact ⟨⟨rfl,⟨rfl,hl⟩,Int.le_refl _,by omega,by decide⟩,rfl⟩
def iW:FuncId×Ctr:=(49,ag KE qIl A4 JI)
theorem kO:CtrOK Tryz.prog KE 49 (ag KE qIl A4 JI):=by
 refine aZ (C:=aA [nF] Tryz.f49) (an (.consU qq rfl .nil) _) mixed (fn:=Tryz.f49) Tryz.func49 (by kernel_rfl) (by kernel_rfl) (by kernel_rfl) (by kernel_rfl) (by kernel_rfl) (by kernel_rfl) (Λ:=fun x=>find [(MB,Ng)]) ?_ ?_
 ·rintro ⟨l,⟨⟩⟩ hw hn
  exact LoopsOKp.at (by kernel_rfl) (.cons (by kernel_rfl) (ON) .nil)
 ·rintro ⟨l,⟨⟩⟩ hw hn
  exact uy l (hn _ List.mem_cons_self)
end Go.Proofs.YtffdpnmioidloaaGreatDoor
namespace Go.Proofs.YtffdpnmioidloaaGreatDoor
open Go Go.Mir
theorem DE (c:UInt8) :∀ a:List UInt8,c∉a→cS c a=[a]
 | [],_=>rfl
 | b::l,h=>by
  have h1:b≠c:=fun e=>h (by rw [e];exact List.mem_cons_self)
  have ih:=DE c l (fun e=>h (List.mem_cons_of_mem _ e))
  unfold cS
  rw [if_neg (by simpa using h1),ih]
theorem o9 (c:UInt8) :∀ a r:List UInt8,c∉a→cS c (a++c::r)=a::cS c r
 | [],r,_=>by
  show cS c (c::r)=_
  conv=>lhs;unfold cS
  rw [if_pos (by simp)]
 | b::l,r,h=>by
  have h1:b≠c:=fun e=>h (by rw [e];exact List.mem_cons_self)
  have ih:=o9 c l r (fun e=>h (List.mem_cons_of_mem _ e))
  show cS c (b ::(l++c::r))=_
  conv=>lhs;unfold cS
  rw [if_neg (by simpa using h1),ih]
theorem BC (c:UInt8) :∀ (l:List UInt8) (a:Nat),mm (l++[c]) a=mm l a*10 +(c.toNat - 48)
 | [],a=>rfl
 | x::r,a=>BC c r _
theorem n4 {d:Nat} (h:d<10) :(UInt8.ofNat (48+d)).toNat=48+d:=by
 rw [UInt8.toNat_ofNat']
 omega
theorem Hd {n:Nat} (h :¬ n<10):Lib.decDigits n=Lib.decDigits (n / 10)++[UInt8.ofNat (48+n % 10)]:=by
 conv=>lhs;rw [Lib.decDigits]
 rw [dif_neg h]
theorem Kx {n:Nat} (h:n<10):Lib.decDigits n=[UInt8.ofNat (48+n)]:=by
 rw [Lib.decDigits,dif_pos h]
theorem oQ :∀ (k n:Nat),n<k→mm (Lib.decDigits n) 0=n∧(Lib.decDigits n).all jr=true∧Lib.decDigits n≠ []∧((Lib.decDigits n).headD 0=48→(Lib.decDigits n).length=1)
 | 0,n,h=>absurd h (Nat.not_lt_zero _)
 | k+1,n,h=>by
  by_cases h10:n<10
  ·rw [Kx h10]
   refine ⟨?_,?_,by simp,fun _=>rfl⟩
   ·show 0*10 +((UInt8.ofNat (48+n)).toNat - 48)=n
    rw [n4 h10];omega
   ·simp [jr,n4 h10];omega
  ·obtain ⟨i1,i2,i3,i4⟩:=oQ k (n / 10) (by omega)
   have hm:n % 10<10:=by omega
   rw [Hd h10]
   refine ⟨?_,?_,by simp,fun hh=>?_⟩
   ·rw [BC,i1,n4 hm];omega
   ·rw [List.all_append,i2]
    simp [jr,n4 hm];omega
   ·exfalso
    cases hd:Lib.decDigits (n / 10) with
    | nil=>exact i3 hd
    | cons x t=>
     rw [hd] at hh i4 i1
     have hx:x=48:=hh
     have hl:=i4 hx
     cases t with
     | cons=>simp at hl
     | nil=>
      subst hx
      have :(0:Nat)=n / 10:=i1
      omega
theorem D0 {b:UInt8} (h:jr b=true):b≠45∧b≠32:=by
 constructor <;>(rintro rfl;exact absurd h (by decide))
theorem mn {n:Int} (h0:0≤n) :(aQ n).data.toList=Lib.decDigits n.toNat:=by
 show (Lib.itoa n).toArray.toList=_
 unfold Lib.itoa
 rw [if_neg (by omega)]
theorem IT {n:Int} (h0:0≤n):fB (aQ n)=false:=by
 unfold fB
 rw [mn h0]
 obtain ⟨_,h2,h3,_⟩:=oQ _ n.toNat (Nat.lt_succ_self _)
 cases hd:Lib.decDigits n.toNat with
 | nil=>exact absurd hd h3
 | cons x t=>
  rw [hd,List.all_cons,Bool.and_eq_true] at h2
  simpa using (D0 h2.1).1
theorem Lc {n:Int} (h0:0≤n) (h1:n≤1000000):vV (aQ n) =(n,0):=by
 obtain ⟨v1,v2,v3,v4⟩:=oQ _ n.toNat (Nat.lt_succ_self _)
 have hn:=IT h0
 have hl :(bk (aQ n)).data.toList=Lib.decDigits n.toNat:=by
  rw [mo,hn,if_neg (by decide),mn h0]
 have hb:mR (aQ n)=true:=by
  rw [xp,hl,hn,v2,Bn,hl,Bool.false_or]
  have h1 :(Lib.decDigits n.toNat).isEmpty=false:=by simpa using v3
  rw [h1]
  cases h48 :((Lib.decDigits n.toNat).headD 0==48)
  ·rfl
  ·rw [v4 (eq_of_beq h48)];rfl
 unfold vV jM
 rw [if_pos hb,wm (by rw [hl];exact v3) (by rw [hl];exact v2),hl,hn,v1]
 simp only [Bool.false_eq_true,if_false]
 rw [if_neg (by omega)]
 simp only []
 rw [if_neg (by omega)]
 have :((n.toNat:Nat):Int)=n:=by omega
 rw [this]
theorem Bv (a:ByteArray):toB a.data.toList=a:=w5 rfl
theorem Rh {n:Int} (h0:0≤n) :(32:UInt8)∉(aQ n).data.toList:=by
 intro h
 rw [mn h0] at h
 obtain ⟨_,h2,_,_⟩:=oQ _ n.toNat (Nat.lt_succ_self _)
 exact (D0 (List.all_eq_true.1 h2 _ h)).2 rfl
end Go.Proofs.YtffdpnmioidloaaGreatDoor
namespace Go.Proofs.YtffdpnmioidloaaGreatDoor
open Go Go.Mir
def wtab:List dismissal_way:=
 [{ how:=0,name:={ data:=#[78,79,84,79,85,84] },fair:=false,wide:=false,no:=false,fielder:=false,either:=false },
  { how:=1,name:={ data:=#[66,79,87,76,69,68] },fair:=true,wide:=false,no:=false,fielder:=false,either:=false },
  { how:=2,name:={ data:=#[67,65,85,71,72,84] },fair:=true,wide:=false,no:=false,fielder:=true,either:=false },
  { how:=3,name:={ data:=#[76,66,87] },fair:=true,wide:=false,no:=false,fielder:=false,either:=false },
  { how:=4,name:={ data:=#[83,84,85,77,80,69,68] },fair:=true,wide:=true,no:=false,fielder:=true,either:=false },
  { how:=5,name:={ data:=#[72,73,84,87,73,67,75,69,84] },fair:=true,wide:=true,no:=false,fielder:=false,either:=false },
  { how:=6,name:={ data:=#[82,85,78,79,85,84] },fair:=true,wide:=true,no:=true,fielder:=true,either:=true },
  { how:=7,name:={ data:=#[72,73,84,84,87,73,67,69] },fair:=true,wide:=false,no:=true,fielder:=false,either:=false },
  { how:=8,name:={ data:=#[79,66,83,84,82,85,67,84,73,78,71] },fair:=true,wide:=true,no:=true,fielder:=false,either:=true },
  { how:=9,name:={ data:=#[84,73,77,69,68,79,85,84] },fair:=false,wide:=false,no:=false,fielder:=false,either:=false },
  { how:=10,name:={ data:=#[82,69,84,73,82,69,68] },fair:=false,wide:=false,no:=false,fielder:=false,either:=false }]
def onW (w:dismissal_way) (t:Int):Bool:=(t==1&&w.fair) ||(t==2&&w.wide) ||(t==3&&w.no)
def ofW (h:Int):dismissal_way:=(wtab.find? fun w=>w.how==h).getD dismissal_way.zero
def QU (w:dismissal_way) (t:Int) (free:Bool):Bool:=onW w t&&(!free||w.how==6||w.how==7||w.how==8)
def R5 (t:Int) (free:Bool):List Int:=(wtab.filter fun w=>QU w t free).map dismissal_way.how
def Sq (xs:List Int) (v:Int):Bool:=xs.contains v
def Ls:Ty:= .unit
def yC:Den Ls→PRes:=fun _=>⟨[],.osl 0 0,[⟨.nm .dismissal_way,wtab⟩]⟩
def A0:Ty:= .prod (.int .u8) .unit
def yB:Den A0→PRes:=fun x=>⟨[],.agg (flat fi (.nm .dismissal_way) (ofW x.1)),[]⟩
def Rt:Ty:= .prod (.int .u8) (.prod .bool .unit)
def PL:Den Rt→PRes:=fun x=>⟨[],.osl 0 0,[⟨.int .u8,R5 x.1 x.2.1⟩]⟩
def Ru:Ty:=SH
def PM:Den Ru→PRes:=fun x=>⟨[],.bool (Sq x.1 x.2.1),[]⟩
def yA:Den A0→PRes:=fun x=>⟨[],.str (ofW x.1).name,[]⟩
def k61:FuncId×Ctr:=(168,aM KK Ls yC)
def k57:FuncId×Ctr:=(104,aM KK A0 yB)
def k20:FuncId×Ctr:=(207,aM KK Rt PL)
def k21:FuncId×Ctr:=(206,aM KK Ru PM)
def k25:FuncId×Ctr:=(44,aM KK A0 yA)
def J57 (h:Int) (i:Nat):St:=⟨[(0,.int .u8 h),(2,.ptr 0 0),(5,.osl 4 4),(6,.int .i64 wtab.length),(7,.int .i64 i)],
 [(4,.row 4 true (.nm .dismissal_way) wtab),(0,.cells (flat fi (.nm .dismissal_way) dismissal_way.zero))],fun _=>none,16⟩
def T57 (h:Int):Tr:= .br (wtab.any fun w=>w.how==h) (.leaf .ret ⟨[(2,.ptr 0 0)],[(0,.cells (flat fi (.nm .dismissal_way) (ofW h)))]⟩ 16)
 (.leaf (.ext 0) ⟨[(2,.ptr 0 0)],[(0,.cells (flat fi (.nm .dismissal_way) dismissal_way.zero))]⟩ 16)
def DZ (h:Int) (i:Nat):Prop:=i≤11∧∀ w∈wtab.take i,(w.how==h)=false
def L57 (i:Nat):List (Lspec Nat):= [.out [true] [] [],.next (i+1) [] [],.out [false] [] []]
def Λ57 (h:Int):Nat→Option LoopSum:=find [(2,qQ ⟨[],[],16⟩ (J57 h 0) (T57 h))]
end Go.Proofs.YtffdpnmioidloaaGreatDoor
namespace Go.Proofs.YtffdpnmioidloaaGreatDoor
open Go Go.Mir
attribute [local irreducible] Go.Mir.RT.sat Go.Mir.evFn Go.Mir.stepObl
theorem RH :(evFn (BW [] Tryz.f168) (fun _=>none) Tryz.f168 (eQ Ls ())).sat fun v' rows=>leV v' (yC ()).v∧rows =(yC ()).rows:=by
 refine cast (by kernel_rfl) (?_ :(nat_lit 0=nat_lit 0∧nat_lit 0=nat_lit 0)∧ [RowD.mk (Ty.nm Nm.dismissal_way) [dismissal_way.mk (0:Int) (ByteArray.mk #[78,79,84,79,85,84]) false false false false false,dismissal_way.mk (1:Int) (ByteArray.mk #[66,79,87,76,69,68]) true false false false false,dismissal_way.mk (2:Int) (ByteArray.mk #[67,65,85,71,72,84]) true false false true false,dismissal_way.mk (3:Int) (ByteArray.mk #[76,66,87]) true false false false false,dismissal_way.mk (4:Int) (ByteArray.mk #[83,84,85,77,80,69,68]) true true false true false,dismissal_way.mk (5:Int) (ByteArray.mk #[72,73,84,87,73,67,75,69,84]) true true false false false,dismissal_way.mk (6:Int) (ByteArray.mk #[82,85,78,79,85,84]) true true true true true,dismissal_way.mk (7:Int) (ByteArray.mk #[72,73,84,84,87,73,67,69]) true false true false false,dismissal_way.mk (8:Int) (ByteArray.mk #[79,66,83,84,82,85,67,84,73,78,71]) true true true false true,dismissal_way.mk (9:Int) (ByteArray.mk #[84,73,77,69,68,79,85,84]) false false false false false,dismissal_way.mk (10:Int) (ByteArray.mk #[82,69,84,73,82,69,68]) false false false false false]]=[RowD.mk (Ty.nm Nm.dismissal_way) wtab])
 exact ⟨⟨rfl,rfl⟩,by kernel_rfl⟩
theorem Pe:CtrOK Tryz.prog KK 168 (aM KK Ls yC):=by
 refine qU (C:=BW [] Tryz.f168) (DD CtrsOK.nil _) mixed (fn:=Tryz.f168) Tryz.func168 (by kernel_rfl) (by kernel_rfl) (by kernel_rfl) (Λ:=fun _ _=>none) ?_ ?_ ?_
 ·exact fun _ _ _ _ _ _ _ _ h=>by cases h
 ·rintro ⟨⟩
  exact of_decide_eq_true (by kernel_rfl)
 ·rintro ⟨⟩ _ _
  exact RH
theorem SM:wtab.length=11:=rfl
theorem DJ {α:Type} (p:α→Bool) :∀ (xs:List α) (i:Nat) (x:α),xs[i]?=some x→p x=true→(∀ y∈xs.take i,p y=false)→xs.find? p=some x
 | [],_,_,h,_,_=>by simp at h
 | y::xs,0,x,h,hp,_=>by simp at h;subst h;simp [hp]
 | y::xs,i+1,x,h,hp,hn=>by
  have h0:p y=false:=hn y (by simp)
  rw [List.find?_cons_of_neg (by simp [h0])]
  exact DJ p xs i x (by simpa using h) hp (fun z hz=>hn z (by simp [hz]))
theorem KM {α:Type} {xs:List α} {i:Nat} (z:α) (h:i<xs.length):xs[i]?=some (xs.getD i z):=by
 rw [List.getD_eq_getElem?_getD,List.getElem?_eq_getElem h];rfl
theorem PO (h:Int) (i:Nat) (hi:DZ h i) :(stepObl (J57 h) (DZ h) (fun i=>11 - i) i (T57 h) (aY (BW [k61] Tryz.f104) (fun _=>none) (ao Tryz.f104 0) (J57 h i)) (L57 i)).1:=by
 refine cast (by kernel_rfl) (?_ :(decide ((↑i:Int) <(↑wtab.length:Int))=true→((0:Int)≤(↑i:Int)∧(↑i:Int) <(↑wtab.length:Int))∧(((wtab.getD (↑i:Int).toNat (dflt (Ty.nm Nm.dismissal_way))).1==h)=true→(wtab.any fun w=>w.1==h)=true∧(True∧True)∧((wtab.getD (↑i:Int).toNat (dflt (Ty.nm Nm.dismissal_way))).1 =(ofW h).1∧(wtab.getD (↑i:Int).toNat (dflt (Ty.nm Nm.dismissal_way))).2 =(ofW h).2∧(wtab.getD (↑i:Int).toNat (dflt (Ty.nm Nm.dismissal_way))).3 =(ofW h).3∧(wtab.getD (↑i:Int).toNat (dflt (Ty.nm Nm.dismissal_way))).4 =(ofW h).4∧(wtab.getD (↑i:Int).toNat (dflt (Ty.nm Nm.dismissal_way))).5 =(ofW h).5∧(wtab.getD (↑i:Int).toNat (dflt (Ty.nm Nm.dismissal_way))).6 =(ofW h).6∧(wtab.getD (↑i:Int).toNat (dflt (Ty.nm Nm.dismissal_way))).7 =(ofW h).7∧True)∧True)∧(((wtab.getD (↑i:Int).toNat (dflt (Ty.nm Nm.dismissal_way))).1==h)=false→DZ h (i +(1:Nat))∧(11:Nat) - (i +(1:Nat)) <(11:Nat) - i∧(h=h∧True∧True∧(↑wtab.length:Int) =(↑wtab.length:Int)∧IntKind.i64.wrap ((↑i:Int) +(1:Int)) =(↑(i +(1:Nat)):Int)∧True)∧RowD.mk (Ty.nm Nm.dismissal_way) wtab=RowD.mk (Ty.nm Nm.dismissal_way) wtab∧((0:Int) =(0:Int)∧ByteArray.empty=ByteArray.empty∧false=false∧false=false∧false=false∧false=false∧false=false∧True)∧True))∧(decide ((↑i:Int) <(↑wtab.length:Int))=false→(wtab.any fun w=>w.1==h)=false∧(True∧True)∧((0:Int) =(0:Int)∧ByteArray.empty=ByteArray.empty∧false=false∧false=false∧false=false∧false=false∧false=false∧True)∧True))
 have e :(i:Int).toNat=i:=by simp
 rw [e]
 generalize hw:wtab.getD i (dflt (Ty.nm Nm.dismissal_way))=w
 refine ⟨fun h1=>?_,fun h1=>?_⟩
 ·have h1:i<wtab.length:=by simpa using h1
  have h3:wtab[i]?=some w:=by rw [←hw];exact KM _ h1
  refine ⟨⟨by omega,by omega⟩,fun h2=>?_,fun h2=>?_⟩
  ·have h4:ofW h=w:=by
    unfold ofW
    rw [DJ (fun w=>w.how==h) wtab i w h3 h2 hi.2];rfl
   have h5 :(wtab.any fun w=>w.1==h)=true:=List.any_eq_true.2 ⟨w,List.mem_of_getElem? h3,h2⟩
   rw [h4]
   exact ⟨h5,⟨trivial,trivial⟩,⟨rfl,rfl,rfl,rfl,rfl,rfl,rfl,trivial⟩,trivial⟩
  ·rw [SM] at h1
   refine ⟨⟨by omega,fun y hy=>?_⟩,by omega,⟨rfl,trivial,trivial,rfl,?_,trivial⟩,rfl,⟨rfl,rfl,rfl,rfl,rfl,rfl,rfl,trivial⟩,trivial⟩
   ·rw [List.take_add_one,h3] at hy
    rcases List.mem_append.1 hy with hy|hy
    ·exact hi.2 y hy
    ·simp at hy;subst hy;exact h2
   ·rw [wrap64 (by omega) (by omega)];omega
 ·have h1:wtab.length≤i:=by simpa using h1
  refine ⟨?_,⟨trivial,trivial⟩,⟨rfl,rfl,rfl,rfl,rfl,rfl,rfl,trivial⟩,trivial⟩
  rw [List.any_eq_false]
  intro x hx
  have:=hi.2 x (by rw [List.take_of_length_le h1];exact hx)
  simpa using this
theorem K3 (h:Int):LoopsOK Tryz.prog Tryz.f104.ntmps [ao Tryz.f104 0] (Λ57 h):=
 .cons (L:=qQ ⟨[],[],16⟩ (J57 h 0) (T57 h)) (by kernel_rfl) (K1 (DD (.cons Pe .nil) _) mixed (J57 h) (fun _=>rfl) (DZ h) (fun i=>11 - i) (fun _ _=>none) (fun _ _ _ _ _ h=>by cases h) (T57 h) [] [] 0 ⟨Nat.zero_le _,by simp⟩ L57 (PO h)) .nil
theorem RG (h:Int) :(evFn (BW [k61] Tryz.f104) (Λ57 h) Tryz.f104 (eQ A0 (h,()))).sat fun v' rows=>leV v' (yB (h,())).v∧rows =(yB (h,())).rows:=by
 refine cast (by kernel_rfl) (?_ :((cY fun x=>none)∧(h=h∧True∧True∧(↑wtab.length:Int) =(↑wtab.length:Int)∧(0:Int) =(↑(0:Nat):Int)∧True)∧RowD.mk (Ty.nm Nm.dismissal_way) wtab=RowD.mk (Ty.nm Nm.dismissal_way) wtab∧((0:Int) =(0:Int)∧ByteArray.empty=ByteArray.empty∧false=false∧false=false∧false=false∧false=false∧false=false∧True)∧True)∧((wtab.any fun w=>w.1==h)=true→((ofW h).1 =(ofW h).1∧(ofW h).2 =(ofW h).2∧(ofW h).3 =(ofW h).3∧(ofW h).4 =(ofW h).4∧(ofW h).5 =(ofW h).5∧(ofW h).6 =(ofW h).6∧(ofW h).7 =(ofW h).7∧True)∧([]:List RowD)=[])∧((wtab.any fun w=>w.1==h)=false→((0:Int) =(ofW h).1∧ByteArray.empty =(ofW h).2∧false =(ofW h).3∧false =(ofW h).4∧false =(ofW h).5∧false =(ofW h).6∧false =(ofW h).7∧True)∧([]:List RowD)=[]))
 refine ⟨⟨rfl,⟨rfl,trivial,trivial,rfl,rfl,trivial⟩,rfl,⟨rfl,rfl,rfl,rfl,rfl,rfl,rfl,trivial⟩,trivial⟩,fun _=>⟨⟨rfl,rfl,rfl,rfl,rfl,rfl,rfl,trivial⟩,rfl⟩,fun h1=>?_⟩
 have h2:ofW h=dismissal_way.zero:=by
  unfold ofW
  rw [List.find?_eq_none.2]
  ·rfl
  ·intro x hx hp
   have:=(List.any_eq_false.1 h1) x hx
   exact this hp
 rw [h2]
 exact ⟨⟨rfl,rfl,rfl,rfl,rfl,rfl,rfl,trivial⟩,rfl⟩
theorem SF:CtrOK Tryz.prog KK 104 (aM KK A0 yB):=by
 refine qU (C:=BW [k61] Tryz.f104) (DD (.cons Pe .nil) _) mixed (fn:=Tryz.f104) Tryz.func104 (by kernel_rfl) (by kernel_rfl) (by kernel_rfl) (Λ:=fun x=>Λ57 x.1) ?_ ?_ ?_
 ·rintro ⟨h,⟨⟩⟩ _ _
  exact LoopsOK.at (by kernel_rfl) (K3 h)
 ·rintro ⟨h,⟨⟩⟩
  exact of_decide_eq_true (by kernel_rfl)
 ·rintro ⟨h,⟨⟩⟩ _ _
  exact RG h
theorem RD (h:Int) :(evFn (BW [k57] Tryz.f44) (fun _=>none) Tryz.f44 (eQ A0 (h,()))).sat fun v' rows=>leV v' (yA (h,())).v∧rows =(yA (h,())).rows:=by
 refine cast (by kernel_rfl) (?_ :(ofW h).2 =(ofW h).2∧([]:List RowD)=[])
 exact ⟨rfl,rfl⟩
theorem Rj:CtrOK Tryz.prog KK 44 (aM KK A0 yA):=by
 refine qU (C:=BW [k57] Tryz.f44) (DD (.cons SF .nil) _) mixed (fn:=Tryz.f44) Tryz.func44 (by kernel_rfl) (by kernel_rfl) (by kernel_rfl) (Λ:=fun _ _=>none) ?_ ?_ ?_
 ·exact fun _ _ _ _ _ _ _ _ h=>by cases h
 ·rintro ⟨h,⟨⟩⟩
  exact of_decide_eq_true (by kernel_rfl)
 ·rintro ⟨h,⟨⟩⟩ _ _
  exact RD h
end Go.Proofs.YtffdpnmioidloaaGreatDoor
namespace Go.Proofs.YtffdpnmioidloaaGreatDoor
open Go Go.Mir Go.RowKit
attribute [local irreducible] Go.Mir.DT.sat Go.Mir.evPat Go.Mir.RT.sat Go.Mir.evFn
def cX (s:ByteArray) (w:dismissal_way):Bool:=w.name.toList==s.toList
def bG (s:ByteArray):Int:=((wtab.find? (cX s)).getD dismissal_way.zero).how
def aW (s:ByteArray):Int:=bif wtab.any (cX s) then 0 else 4
def ntabV:List ByteArray:=wtab.map dismissal_way.name
abbrev qPn:Pat:=dG [.str]
abbrev CO:Pat:=dG [U8,I]
def sPn:Den (tyP qPn)→List Prop×Den (tyP CO):=fun x=>([],(bG x.1,aW x.1,()))
abbrev qPw:Pat:=⟨[(0,.h .str),(6,.c (.osl 0 1)),(7,.h I),(8,.h I)],[(0,.row 1 (.nm .dismissal_way))],2⟩
abbrev xPw:List (Lf×Pat):= [(.ret,⟨[(2,.h U8),(3,.h I)],[],0⟩),(.ext 0,⟨[],[],0⟩)]
abbrev TPw:Type:=ByteArray×Int×Int×List dismissal_way×Unit
abbrev OPw:Type:=Sum (Int×Int×Unit) Unit
def FG:Option dismissal_way→OPw
 | some w=> .inl (w.how,0,())
 | none=> .inr ()
def jW:TPw→OPw
 |(s,_,i,l,_)=>FG ((l.drop i.toNat).find? (cX s))
def vr:TPw→Prop
 |(_,n,i,l,_)=>(n =(l.length:Int)∧l.length≤1000)∧0≤i∧i≤n
def IC:TPw→Nat
 |(_,n,i,_)=>(n - i).toNat
abbrev q0V:Pat:=dG []
abbrev LA:Pat:=⟨[(0,.c (.osl 0 1))],[(0,.row 1 .str)],2⟩
def sNt:Den (tyP q0V)→List Prop×Den (tyP LA):=fun _=>([],(ntabV,()))
abbrev qHw:Pat:=dG [U8]
abbrev Lw:Pat:=dG [.str]
def cc (h:Int):ByteArray:=(ofW h).name
def Dc:Den (tyP qHw)→List Prop×Den (tyP Lw):=fun x=>([],(cc x.1,()))
abbrev qPz:Pat:=⟨[(0,.h .str),(6,.c (.osl 0 1)),(7,.h I),(8,.h I)],[(0,.row 1 .str)],2⟩
abbrev TPz:Type:=ByteArray×Int×Int×List ByteArray×Unit
def FH:List ByteArray→Int→ByteArray→OPw
 | [],_,_=> .inr ()
 | w::r,i,s=>if w.toList==s.toList then .inl (IntKind.u8.wrap i,0,()) else FH r (i+1) s
def jX:TPz→OPw
 |(s,_,i,l,_)=>FH (l.drop i.toNat) i s
def vu:TPz→Prop
 |(_,n,i,l,_)=>(n =(l.length:Int)∧l.length≤1000)∧0≤i∧i≤n
def ID:TPz→Nat
 |(_,n,i,_)=>(n - i).toNat
theorem R7 {n:Int} (h:wfD (.int .u8) n):0≤n∧n≤255:=by
 obtain ⟨S,w,cs,h⟩:=h
 cases h with|int h=>exact ⟨by have:=h.1;simpa [IntKind.min,IntKind.max,IntKind.signed,IntKind.bits] using this,by have:=h.2;simpa [IntKind.min,IntKind.max,IntKind.signed,IntKind.bits] using this⟩
noncomputable def lpPw:Lp:=(⟨0,aA [] Tryz.f111,(fun _=>none),(ao Tryz.f111 0),qPw,xPw⟩:Lp)
theorem P6 (s:ByteArray) (n:Int) (i:Int) (l:List dismissal_way) (hi:vr (s,n,i,l,())) :(Go.Mir.stepG lpPw jW (fun y:Den (tyP lpPw.q)=>vr y∧IC y<IC (s,n,i,l,())) (s,n,i,l,())∧Go.Mir.stepE lpPw jW (s,n,i,l,())=jW (s,n,i,l,())):=by
 refine cast (by kernel_rfl) (?_:let r1:Bool:=(l.getD i.toNat (dflt (Ty.nm Nm.dismissal_way))).2.toList==s.toList;((decide (i<n)=true→((0:Int)≤i∧i <(↑l.length:Int))∧(r1=true→True)∧(r1=false→vr (s,n,IntKind.i64.wrap (i +(1:Int)),l,())∧IC (s,n,IntKind.i64.wrap (i +(1:Int)),l,())<IC (s,n,i,l,())))∧(decide (i<n)=false→True))∧(bif decide (i<n) then bif r1 then Sum.inl ((l.getD i.toNat (dflt (Ty.nm Nm.dismissal_way))).1,(0:Int),()) else jW (s,n,IntKind.i64.wrap (i +(1:Int)),l,()) else Sum.inr ())=jW (s,n,i,l,()))
 intro r1
 clear_value (hr1:r1=_)
 obtain ⟨⟨h1,h1b⟩,h2,h3⟩:=hi
 have h1:n =(l.length:Int):=h1
 have h1b:l.length≤1000:=h1b
 have h2:0≤i:=h2
 have h3:i≤n:=h3
 by_cases h:i<n
 ·have e1:IntKind.i64.wrap (i+1)=i+1:=wrap64 (by omega) (by omega)
  have hd:l.drop i.toNat=l.getD i.toNat (dflt (Ty.nm Nm.dismissal_way))::l.drop (i+1).toNat:=aL h2 (by omega) _
  have er:r1=cX s (l.getD i.toNat (dflt (Ty.nm Nm.dismissal_way))):=hr1
  have key:jW (s,n,i,l,())=bif r1 then .inl ((l.getD i.toNat (dflt (Ty.nm Nm.dismissal_way))).how,0,()) else jW (s,n,i+1,l,()):=by
   show FG ((l.drop i.toNat).find? (cX s))=_
   rw [hd,List.find?_cons,←er]
   cases r1 <;> rfl
  rw [decide_eq_true h,e1,key]
  refine ⟨⟨fun _=>⟨⟨h2,by omega⟩,fun _=>trivial,fun _=>⟨⟨⟨h1,h1b⟩,?_,?_⟩,?_⟩⟩,fun z=>Bool.noConfusion z⟩,rfl⟩
  ·show 0≤i+1;omega
  ·show i+1≤n;omega
  ·show (n - (i+1)).toNat <(n - i).toNat;omega
 ·rw [decide_eq_false h]
  refine ⟨⟨fun z=>Bool.noConfusion z,fun _=>trivial⟩,?_⟩
  show _=FG ((l.drop i.toNat).find? (cX s))
  rw [aF (l:=l) (by omega)]
  rfl
noncomputable def Nj:LoopSum:=ah lpPw jW vr
noncomputable def ME:Nat:=rid (ao Tryz.f111 0)
theorem OQ:LoopOKp Tryz.prog 0 Tryz.f111.ntmps (ao Tryz.f111 0) (ah lpPw jW vr):=
 ax lpPw (an (CtrsOK.nil) _) mixed (fun b hb S hS=>by cases hS) jW vr IC (fun |⟨s,n,i,l,⟨⟩⟩,hi=>P6 s n i l hi)
theorem RB (s:ByteArray) :(evPat (aA [k61] Tryz.f111) (find [(ME,Nj)]) Tryz.f111 qPn CO (s,())).sat fun z_=>z_ =(sPn (s,())).2:=by
 refine cast (by kernel_rfl) (?_:let r1:Bool:=isL (jW (s,(↑wtab.length:Int),(0:Int),wtab,()));((cY fun x=>none)∧((↑wtab.length:Int) =(↑wtab.length:Int)∧wtab.length≤(1000:Nat))∧(0:Int)≤(0:Int)∧(0:Int)≤(↑wtab.length:Int))∧(r1=true→gz (dflt (U8.prod (I.prod Ty.unit))) (jW (s,(↑wtab.length:Int),(0:Int),wtab,())) =(bG s,aW s,()))∧(r1=false→((0:Int),(4:Int),()) =(bG s,aW s,())))
 intro r1
 clear_value (hr1:r1=_)
 have e0:jW (s,(wtab.length:Int),0,wtab,())=FG (wtab.find? (cX s)):=rfl
 rw [e0] at hr1 ⊢
 refine ⟨⟨rfl,⟨rfl,by decide⟩,Int.le_refl _,by decide⟩,fun h=>?_,fun h=>?_⟩
 ·cases hf:wtab.find? (cX s) with
  | none=>rw [hr1,hf] at h;exact Bool.noConfusion h
  | some w=>
   have ha:wtab.any (cX s)=true:=List.any_eq_true.2 ⟨w,List.mem_of_find?_eq_some hf,List.find?_some hf⟩
   unfold bG aW
   rw [hf,ha]
   rfl
 ·cases hf:wtab.find? (cX s) with
  | some w=>rw [hr1,hf] at h;exact Bool.noConfusion h
  | none=>
   have ha:wtab.any (cX s)=false:=by
    rw [List.any_eq_false]
    exact List.find?_eq_none.1 hf
   unfold bG aW
   rw [hf,ha]
   rfl
def k23:FuncId×Ctr:=(111,ag KE qPn CO sPn)
theorem SC:CtrOK Tryz.prog KE 111 (ag KE qPn CO sPn):=by
 refine aZ (C:=aA [k61] Tryz.f111) (an (.consU Pe rfl .nil) _) mixed (fn:=Tryz.f111) Tryz.func111 (by kernel_rfl) (by kernel_rfl) (by kernel_rfl) (by kernel_rfl) (by kernel_rfl) (by kernel_rfl) (Λ:=fun x=>find [(ME,Nj)]) ?_ ?_
 ·rintro ⟨s,⟨⟩⟩ hw hn
  exact LoopsOKp.at (by kernel_rfl) (.cons (by kernel_rfl) (OQ) .nil)
 ·rintro ⟨s,⟨⟩⟩ hw hn
  exact RB s
theorem RI :(evPat (aA [] Tryz.f106) (fun _=>none) Tryz.f106 q0V LA ()).sat fun z_=>z_ =(sNt ()).2:=by
 refine cast (by kernel_rfl) (?_ :([ByteArray.mk #[78,79,84,79,85,84],ByteArray.mk #[66,79,87,76,69,68],ByteArray.mk #[67,65,85,71,72,84],ByteArray.mk #[76,66,87],ByteArray.mk #[83,84,85,77,80,69,68],ByteArray.mk #[72,73,84,87,73,67,75,69,84],ByteArray.mk #[82,85,78,79,85,84],ByteArray.mk #[72,73,84,84,87,73,67,69],ByteArray.mk #[79,66,83,84,82,85,67,84,73,78,71],ByteArray.mk #[84,73,77,69,68,79,85,84],ByteArray.mk #[82,69,84,73,82,69,68]],()) =(ntabV,()))
 rfl
def k64:FuncId×Ctr:=(106,ag KE q0V LA sNt)
theorem Rk:CtrOK Tryz.prog KE 106 (ag KE q0V LA sNt):=by
 refine aZ (C:=aA [] Tryz.f106) (an (CtrsOK.nil) _) mixed (fn:=Tryz.f106) Tryz.func106 (by kernel_rfl) (by kernel_rfl) (by kernel_rfl) (by kernel_rfl) (by kernel_rfl) (by kernel_rfl) (Λ:=fun _ _=>none) ?_ ?_
 ·exact fun _ _ _ _ _ _ _ _ h=>by cases h
 ·rintro ⟨⟩ hw hn
  exact RI
theorem RE (h:Int) (h0:0≤h) :(evPat (aA [k64] Tryz.f48) (fun _=>none) Tryz.f48 qHw Lw (h,())).sat fun z_=>z_ =(Dc (h,())).2:=by
 refine cast (by kernel_rfl) (?_:let r1:Bool:=decide (h >(10:Int));(r1=true→(ByteArray.mk #[],()) =(cc h,()))∧(r1=false→((0:Int)≤h∧h <(↑ntabV.length:Int))∧(ntabV.getD h.toNat (dflt Ty.str),()) =(cc h,())))
 intro r1
 clear_value (hr1:r1=_)
 refine ⟨fun h1=>?_,fun h1=>?_⟩
 ·have h1:h>10:=of_decide_eq_true (hr1▸h1)
  have:wtab.find? (fun w=>w.how==h)=none:=by
   rw [List.find?_eq_none]
   intro x hx
   simp only [wtab,List.mem_cons,List.not_mem_nil,or_false] at hx
   rcases hx with rfl|rfl|rfl|rfl|rfl|rfl|rfl|rfl|rfl|rfl|rfl <;> simp <;> omega
  unfold cc ofW
  rw [this]
  rfl
 ·have h1 :¬ h>10:=of_decide_eq_false (hr1▸h1)
  have hl:ntabV.length=11:=rfl
  refine ⟨⟨h0,by omega⟩,?_⟩
  have:h=0∨h=1∨h=2∨h=3∨h=4∨h=5∨h=6∨h=7∨h=8∨h=9∨h=10:=by omega
  rcases this with rfl|rfl|rfl|rfl|rfl|rfl|rfl|rfl|rfl|rfl|rfl <;> rfl
def k26:FuncId×Ctr:=(48,ag KE qHw Lw Dc)
theorem Pd:CtrOK Tryz.prog KE 48 (ag KE qHw Lw Dc):=by
 refine aZ (C:=aA [k64] Tryz.f48) (an (.consU Rk rfl .nil) _) mixed (fn:=Tryz.f48) Tryz.func48 (by kernel_rfl) (by kernel_rfl) (by kernel_rfl) (by kernel_rfl) (by kernel_rfl) (by kernel_rfl) (Λ:=fun _ _=>none) ?_ ?_
 ·exact fun _ _ _ _ _ _ _ _ h=>by cases h
 ·rintro ⟨h,⟨⟩⟩ hw hn
  exact RE h (R7 (gG hw)).1
noncomputable def lpPz:Lp:=(⟨0,aA [] Tryz.f63,(fun _=>none),(ao Tryz.f63 0),qPz,xPw⟩:Lp)
theorem P7 (s:ByteArray) (n:Int) (i:Int) (l:List ByteArray) (hi:vu (s,n,i,l,())) :(Go.Mir.stepG lpPz jX (fun y:Den (tyP lpPz.q)=>vu y∧ID y<ID (s,n,i,l,())) (s,n,i,l,())∧Go.Mir.stepE lpPz jX (s,n,i,l,())=jX (s,n,i,l,())):=by
 refine cast (by kernel_rfl) (?_:let r1:Bool:=ByteArray.toList (l.getD i.toNat (dflt Ty.str))==s.toList;((decide (i<n)=true→((0:Int)≤i∧i <(↑l.length:Int))∧(r1=true→True)∧(r1=false→vu (s,n,IntKind.i64.wrap (i +(1:Int)),l,())∧ID (s,n,IntKind.i64.wrap (i +(1:Int)),l,())<ID (s,n,i,l,())))∧(decide (i<n)=false→True))∧(bif decide (i<n) then bif r1 then Sum.inl (IntKind.u8.wrap i,(0:Int),()) else jX (s,n,IntKind.i64.wrap (i +(1:Int)),l,()) else Sum.inr ())=jX (s,n,i,l,()))
 intro r1
 clear_value (hr1:r1=_)
 obtain ⟨⟨h1,h1b⟩,h2,h3⟩:=hi
 have h1:n =(l.length:Int):=h1
 have h1b:l.length≤1000:=h1b
 have h2:0≤i:=h2
 have h3:i≤n:=h3
 by_cases h:i<n
 ·have e1:IntKind.i64.wrap (i+1)=i+1:=wrap64 (by omega) (by omega)
  have hd:l.drop i.toNat=l.getD i.toNat (dflt Ty.str)::l.drop (i+1).toNat:=aL h2 (by omega) _
  have key:jX (s,n,i,l,())=bif r1 then .inl (IntKind.u8.wrap i,0,()) else jX (s,n,i+1,l,()):=by
   show FH (l.drop i.toNat) i s=_
   rw [hd]
   have hr1 :(ByteArray.toList (l.getD i.toNat (dflt Ty.str))==s.toList)=r1:=hr1.symm
   show (if (ByteArray.toList (l.getD i.toNat (dflt Ty.str))==s.toList)=true then _ else _)=_
   rw [hr1]
   cases r1 <;> rfl
  rw [decide_eq_true h,e1,key]
  refine ⟨⟨fun _=>⟨⟨h2,by omega⟩,fun _=>trivial,fun _=>⟨⟨⟨h1,h1b⟩,?_,?_⟩,?_⟩⟩,fun z=>Bool.noConfusion z⟩,rfl⟩
  ·show 0≤i+1;omega
  ·show i+1≤n;omega
  ·show (n - (i+1)).toNat <(n - i).toNat;omega
 ·rw [decide_eq_false h]
  refine ⟨⟨fun z=>Bool.noConfusion z,fun _=>trivial⟩,?_⟩
  show _=FH (l.drop i.toNat) i s
  rw [aF (l:=l) (by omega)]
  rfl
noncomputable def Nk:LoopSum:=ah lpPz jX vu
noncomputable def MF:Nat:=rid (ao Tryz.f63 0)
theorem OR:LoopOKp Tryz.prog 0 Tryz.f63.ntmps (ao Tryz.f63 0) (ah lpPz jX vu):=
 ax lpPz (an (CtrsOK.nil) _) mixed (fun b hb S hS=>by cases hS) jX vu ID (fun |⟨s,n,i,l,⟨⟩⟩,hi=>P7 s n i l hi)
theorem RC (s:ByteArray) :(evPat (aA [k64] Tryz.f63) (find [(MF,Nk)]) Tryz.f63 qPn CO (s,())).sat fun z_=>z_ =(sPn (s,())).2:=by
 refine cast (by kernel_rfl) (?_:let r1:Bool:=isL (jX (s,(↑ntabV.length:Int),(0:Int),ntabV,()));((cY fun x=>none)∧((↑ntabV.length:Int) =(↑ntabV.length:Int)∧ntabV.length≤(1000:Nat))∧(0:Int)≤(0:Int)∧(0:Int)≤(↑ntabV.length:Int))∧(r1=true→gz (dflt (U8.prod (I.prod Ty.unit))) (jX (s,(↑ntabV.length:Int),(0:Int),ntabV,())) =(bG s,aW s,()))∧(r1=false→((0:Int),(4:Int),()) =(bG s,aW s,())))
 intro r1
 clear_value (hr1:r1=_)
 have e0:jX (s,(ntabV.length:Int),0,ntabV,())=FG (wtab.find? (cX s)):=by
  have gen :∀ (l:List dismissal_way) (k:Nat),(∀ (j:Nat) (w:dismissal_way),l[j]?=some w→IntKind.u8.wrap ((k+j:Nat):Int)=w.how)→FH (l.map dismissal_way.name) k s=FG (l.find? (cX s)):=by
   intro l
   induction l with
   | nil=>intro k _;rfl
   | cons w l ih=>
    intro k hk
    have h0:=hk 0 w rfl
    have ih:=ih (k+1) fun j x hx=>by
     have:=hk (j+1) x (by simpa using hx)
     rwa [show k+1+j=k +(j+1) by omega]
    rw [List.map_cons,List.find?_cons]
    show (if (w.name.toList==s.toList)=true then _ else FH (l.map dismissal_way.name) ((k:Int)+1) s)=_
    have e :(w.name.toList==s.toList)=cX s w:=rfl
    rw [e]
    cases cX s w with
    | true=>simp only [if_true];rw [Nat.add_zero] at h0;rw [h0];rfl
    | false=>simp only [Bool.false_eq_true,if_false];exact ih
  exact gen wtab 0 fun j w hj=>by
   have hl:wtab.length=11:=rfl
   have:j<11:=by
    rcases Nat.lt_or_ge j 11 with h|h
    ·exact h
    ·rw [List.getElem?_eq_none (by omega)] at hj;cases hj
   have:j=0∨j=1∨j=2∨j=3∨j=4∨j=5∨j=6∨j=7∨j=8∨j=9∨j=10:=by omega
   rcases this with rfl|rfl|rfl|rfl|rfl|rfl|rfl|rfl|rfl|rfl|rfl <;> cases hj <;> rfl
 rw [e0] at hr1 ⊢
 refine ⟨⟨rfl,⟨rfl,by decide⟩,Int.le_refl _,by decide⟩,fun h=>?_,fun h=>?_⟩
 ·cases hf:wtab.find? (cX s) with
  | none=>rw [hr1,hf] at h;exact Bool.noConfusion h
  | some w=>
   have ha:wtab.any (cX s)=true:=List.any_eq_true.2 ⟨w,List.mem_of_find?_eq_some hf,List.find?_some hf⟩
   unfold bG aW
   rw [hf,ha]
   rfl
 ·cases hf:wtab.find? (cX s) with
  | some w=>rw [hr1,hf] at h;exact Bool.noConfusion h
  | none=>
   have ha:wtab.any (cX s)=false:=by
    rw [List.any_eq_false]
    exact List.find?_eq_none.1 hf
   unfold bG aW
   rw [hf,ha]
   rfl
def k24:FuncId×Ctr:=(63,ag KE qPn CO sPn)
theorem SD:CtrOK Tryz.prog KE 63 (ag KE qPn CO sPn):=by
 refine aZ (C:=aA [k64] Tryz.f63) (an (.consU Rk rfl .nil) _) mixed (fn:=Tryz.f63) Tryz.func63 (by kernel_rfl) (by kernel_rfl) (by kernel_rfl) (by kernel_rfl) (by kernel_rfl) (by kernel_rfl) (Λ:=fun x=>find [(MF,Nk)]) ?_ ?_
 ·rintro ⟨s,⟨⟩⟩ hw hn
  exact LoopsOKp.at (by kernel_rfl) (.cons (by kernel_rfl) (OR) .nil)
 ·rintro ⟨s,⟨⟩⟩ hw hn
  exact RC s
end Go.Proofs.YtffdpnmioidloaaGreatDoor
namespace Go.Proofs.YtffdpnmioidloaaGreatDoor
open Go Go.Mir
theorem uX :∀ (w:List UInt8) (ws:List (List UInt8)),(∀ x∈w::ws,(32:UInt8)∉x)→cS 32 (Lib.join (w::ws) [32])=w::ws
 | w,[],h=>by
  rw [Lib.join_one]
  exact DE _ _ (h w List.mem_cons_self)
 | w,v::ws,h=>by
  have ih:=uX v ws fun x hx=>h x (List.mem_cons_of_mem _ hx)
  have e:Lib.join (w::v::ws) [32]=w++32::Lib.join (v::ws) [32]:=by
   rw [Lib.join_cons,Lib.join_cons]
   simp [Lib.joinTail]
  rw [e,o9 _ _ _ (h w List.mem_cons_self),ih]
theorem KT {c:UInt8} (hc:c≠32) :∀ (ws:List (List UInt8)),(∀ x∈ws,c∉x)→c∉Lib.join ws [32]
 | [],_=>by simp [Lib.join_nil]
 | w::ws,h=>by
  rw [Lib.join_cons]
  intro hm
  rcases List.mem_append.1 hm with hm|hm
  ·exact h w List.mem_cons_self hm
  ·unfold Lib.joinTail at hm
   obtain ⟨l,hl,hm⟩:=List.mem_flatten.1 hm
   obtain ⟨x,hx,rfl⟩:=List.mem_map.1 hl
   rcases List.mem_append.1 hm with hm|hm
   ·exact hc (List.mem_singleton.1 hm)
   ·exact h x (List.mem_cons_of_mem _ hx) hm
theorem oh {c:UInt8} :∀ (a b:List UInt8),c∉a→Lib.indexByte (a++c::b) c=a.length
 | [],b,_=>by simp [Lib.indexByte]
 | x::a,b,h=>by
  have ih:=oh a b fun hm=>h (List.mem_cons_of_mem _ hm)
  have hx :(x==c)=false:=by
   apply beq_eq_false_iff_ne.2
   rintro rfl
   exact h List.mem_cons_self
  show (if (x==c)=true then (0:Int) else if (Lib.indexByte (a++c::b) c == -1)=true then -1 else Lib.indexByte (a++c::b) c+1)=_
  rw [ih,hx]
  have :((a.length:Int) == -1)=false:=by
   apply beq_eq_false_iff_ne.2;omega
  rw [this]
  simp
theorem H9 {a b:List UInt8} (h :(10:UInt8)∉a):fb (a++10::b)=a.length+1:=by
 unfold fb
 rw [oh a b h,if_pos (by omega)]
 omega
theorem Al :∀ (ls:List (List UInt8)) (k:Nat),(∀ x∈ls,(10:UInt8)∉x)→((ls.map (·++[10])).flatten).length<k→iq k (ls.map (·++[10])).flatten=ls.map (·++[10])
 | [],0,_,h=>absurd h (Nat.not_lt_zero _)
 | [],k+1,_,_=>rfl
 | l::ls,0,_,h=>absurd h (Nat.not_lt_zero _)
 | l::ls,k+1,h,hk=>by
  have e :((l::ls).map (·++[10])).flatten=l++10 ::(ls.map (·++[10])).flatten:=by simp
  rw [e] at hk ⊢
  have hl :(10:UInt8)∉l:=h l List.mem_cons_self
  have e1 :(l++10 ::(ls.map (·++[10])).flatten).isEmpty=false:=by simp
  have e2 :(l++10 ::(ls.map (·++[10])).flatten).take (l.length+1)=l++[10]:=by
   rw [show l++10 ::(ls.map (·++[10])).flatten =(l++[10]) ++(ls.map (·++[10])).flatten by simp]
   rw [List.take_left' (by simp)]
  have e3 :(l++10 ::(ls.map (·++[10])).flatten).drop (l.length+1) =(ls.map (·++[10])).flatten:=by
   rw [show l++10 ::(ls.map (·++[10])).flatten =(l++[10]) ++(ls.map (·++[10])).flatten by simp]
   rw [List.drop_left' (by simp)]
  unfold iq
  rw [e1,H9 hl,e2,e3]
  rw [Al ls k (fun x hx=>h x (List.mem_cons_of_mem _ hx)) (by rw [List.length_append,List.length_cons] at hk;omega)]
  rfl
theorem uW :∀ (ls:List (List UInt8)),(∀ x∈ls,(10:UInt8)∉x)→cS 10 (ls.map (·++[10])).flatten=ls++[[]]
 | [],_=>rfl
 | l::ls,h=>by
  have e :((l::ls).map (·++[10])).flatten=l++10 ::(ls.map (·++[10])).flatten:=by simp
  rw [e,o9 _ _ _ (h l List.mem_cons_self),uW ls fun x hx=>h x (List.mem_cons_of_mem _ hx)]
  rfl
theorem LV (l:List UInt8):Lib.trimSuffix (l++[10]) [10]=l:=by
 unfold Lib.trimSuffix Lib.hasSuffix
 have:List.isSuffixOf [10] (l++[10])=true:=List.isSuffixOf_iff_suffix.2 (List.suffix_append _ _)
 rw [if_pos this]
 simp
def bookV:ByteArray:=⟨#[66,79,79,75]⟩
def boxV:ByteArray:=⟨#[66,79,88]⟩
def stripV:ByteArray:=⟨#[83,84,82,73,80]⟩
def bK (x:Mir.Box):List ByteArray:=bT boxV [x.Over,x.Bowler] x.Symbols
def aP (x:Mir.Strip):List ByteArray:=bT stripV [x.Player] (cc x.How::aQ x.Bowler::x.Symbols)
def cj (b:Mir.Book):List ByteArray:=bT bookV (b.Side::cd b) []
def ee (b:Mir.Book):List (List ByteArray):=cj b ::(b.Boxes.map bK++b.Strips.map aP)
def lnB (ws:List ByteArray):ByteArray:=iV ws spV++nlV
def fE (b:Mir.Book):ByteArray:=b.Strips.foldl (fun o x=>o++lnB (aP x)) (b.Boxes.foldl (fun o x=>o++lnB (bK x)) (lnB (cj b)))
def BL (b:Mir.Book):List Int:=cd b ++(b.Side ::(b.Boxes.flatMap (fun x=> [x.Over,x.Bowler])++b.Strips.flatMap (fun x=> [x.Player,x.Bowler])))
def Dn (b:Mir.Book):List ByteArray:=b.Boxes.flatMap (·.Symbols)++b.Strips.flatMap (·.Symbols)
def bj (x:Mir.Strip):Bool:=!((cc x.How).toList ==(⟨#[]⟩:ByteArray).toList)
def cw (b:Mir.Book):Int:=if (BL b).all okI then (if b.Strips.all bj then (if (Dn b).all az then 0 else 4) else 3) else 2
def aR (b:Mir.Book):ByteArray×Int:=if cw b=0 then (fE b,0) else (⟨#[]⟩,cw b)
theorem my {α:Type} (f:α→ByteArray) :∀ (l:List α) (o:ByteArray),(l.foldl (fun o x=>o++f x) o).data.toList=o.data.toList ++(l.map fun x=>(f x).data.toList).flatten
 | [],o=>by simp
 | x::l,o=>by
  rw [List.foldl_cons,my f l,ByteArray.data_append,Array.toList_append]
  simp
theorem Cm (ws:List ByteArray) :(iV ws spV).data.toList=Lib.join (ws.map (·.data.toList)) [32]:=rfl
theorem Ao (ws:List ByteArray) :(lnB ws).data.toList=Lib.join (ws.map (·.data.toList)) [32]++[10]:=by
 unfold lnB
 rw [ByteArray.data_append,Array.toList_append,Cm]
 rfl
def jnL (ws:List ByteArray):List UInt8:=Lib.join (ws.map (·.data.toList)) [32]
theorem nV (b:Mir.Book) :(fE b).data.toList =(((ee b).map jnL).map (·++[10])).flatten:=by
 unfold fE ee
 rw [my,my,Ao]
 simp only [Ao,List.map_cons,List.map_append,List.map_map,List.flatten_cons,List.flatten_append,List.append_assoc]
 rfl
def pN (s:ByteArray):Prop:=(32:UInt8)∉s.data.toList∧(10:UInt8)∉s.data.toList
theorem I0 {b:UInt8} (h:okC b=true):b≠32∧b≠10:=by
 constructor <;>(rintro rfl;exact absurd h (by decide))
theorem AY {s:ByteArray} (h:az s=true):pN s:=by
 unfold az at h
 rw [Bool.and_eq_true,List.all_eq_true] at h
 exact ⟨fun hm=>(I0 (h.1 _ hm)).1 rfl,fun hm=>(I0 (h.1 _ hm)).2 rfl⟩
theorem He {n:Int} (h0:0≤n):pN (aQ n):=by
 have h2:=(oQ _ n.toNat (Nat.lt_succ_self _)).2.1
 rw [List.all_eq_true] at h2
 constructor
 ·exact Rh h0
 ·intro hm
  rw [mn h0] at hm
  exact absurd (h2 _ hm) (by decide)
theorem Ar (h:Int):ofW h∈dismissal_way.zero::wtab:=by
 unfold ofW
 cases hf:wtab.find? (fun w=>w.how==h) with
 | none=>exact List.mem_cons_self
 | some w=>exact List.mem_cons_of_mem _ (List.mem_of_find?_eq_some hf)
theorem K9 (h:Int):pN (cc h):=by
 have key :∀ w∈dismissal_way.zero::wtab,(32:UInt8)∉w.name.data.toList∧(10:UInt8)∉w.name.data.toList:=by decide +kernel
 exact key _ (Ar h)
theorem pJ (h:Int) :(cc h).size≤20:=by
 have key :∀ w∈dismissal_way.zero::wtab,w.name.size≤20:=by decide +kernel
 exact key _ (Ar h)
theorem pM {n:Int} (h:okI n=true):0≤n∧n≤1000000:=by
 unfold okI at h
 simp only [Bool.not_eq_true',Bool.or_eq_false_iff,decide_eq_false_iff_not] at h
 omega
structure Wr (b:Mir.Book):Prop where
 hd :∀ n∈b.Side::cd b,0≤n∧n≤1000000
 bx :∀ x∈b.Boxes,(0≤x.Over∧x.Over≤1000000)∧(0≤x.Bowler∧x.Bowler≤1000000)∧∀ s∈x.Symbols,az s=true
 st :∀ x∈b.Strips,(0≤x.Player∧x.Player≤1000000)∧(0≤x.Bowler∧x.Bowler≤1000000)∧bj x=true∧∀ s∈x.Symbols,az s=true
theorem E6 {b:Mir.Book} (h:cw b=0):Wr b:=by
 unfold cw at h
 split at h
 case isFalse=>exact absurd h (by decide)
 rename_i h1
 split at h
 case isFalse=>exact absurd h (by decide)
 rename_i h2
 split at h
 case isFalse=>exact absurd h (by decide)
 rename_i h3
 rw [List.all_eq_true] at h1 h2 h3
 have h1 :∀ n∈BL b,0≤n∧n≤1000000:=fun n hn=>pM (h1 n hn)
 unfold BL at h1
 unfold Dn at h3
 refine ⟨fun n hn=>h1 n ?_,fun x hx=>⟨h1 _ ?_,h1 _ ?_,fun s hs=>h3 s ?_⟩,fun x hx=>⟨h1 _ ?_,h1 _ ?_,h2 x hx,fun s hs=>h3 s ?_⟩⟩
 ·rcases List.mem_cons.1 hn with rfl|hn
  ·exact List.mem_append_right _ List.mem_cons_self
  ·exact List.mem_append_left _ hn
 ·exact List.mem_append_right _ (List.mem_cons_of_mem _ (List.mem_append_left _ (List.mem_flatMap.2 ⟨x,hx,by simp⟩)))
 ·exact List.mem_append_right _ (List.mem_cons_of_mem _ (List.mem_append_left _ (List.mem_flatMap.2 ⟨x,hx,by simp⟩)))
 ·exact List.mem_append_left _ (List.mem_flatMap.2 ⟨x,hx,hs⟩)
 ·exact List.mem_append_right _ (List.mem_cons_of_mem _ (List.mem_append_right _ (List.mem_flatMap.2 ⟨x,hx,by simp⟩)))
 ·exact List.mem_append_right _ (List.mem_cons_of_mem _ (List.mem_append_right _ (List.mem_flatMap.2 ⟨x,hx,by simp⟩)))
 ·exact List.mem_append_right _ (List.mem_flatMap.2 ⟨x,hx,hs⟩)
theorem tP {w:ByteArray} {l:List Int} {r:List ByteArray} (hw:pN w) (hl :∀ n∈l,0≤n∧n≤1000000) (hr :∀ s∈r,pN s) :∀ s∈bT w l r,pN s:=by
 intro s hs
 unfold bT at hs
 rcases List.mem_append.1 hs with hs|hs
 ·rcases List.mem_cons.1 hs with rfl|hs
  ·exact hw
  ·obtain ⟨n,hn,rfl⟩:=List.mem_map.1 hs
   exact He (hl n hn).1
 ·exact hr s hs
theorem book_wd:pN bookV∧pN boxV∧pN stripV:=by unfold pN;decide
theorem Am {b:Mir.Book} (h:Wr b) :∀ ws∈ee b,ws≠ []∧∀ s∈ws,pN s:=by
 intro ws hws
 unfold ee at hws
 rcases List.mem_cons.1 hws with rfl|hws
 ·exact ⟨by unfold cj bT;simp,tP book_wd.1 h.hd (by simp)⟩
 rcases List.mem_append.1 hws with hws|hws
 ·obtain ⟨x,hx,rfl⟩:=List.mem_map.1 hws
  obtain ⟨h1,h2,h3⟩:=h.bx x hx
  refine ⟨by unfold bK bT;simp,tP book_wd.2.1 (fun n hn=>?_) fun s hs=>AY (h3 s hs)⟩
  rcases List.mem_cons.1 hn with rfl|hn
  ·exact h1
  ·rcases List.mem_cons.1 hn with rfl|hn
   ·exact h2
   ·cases hn
 ·obtain ⟨x,hx,rfl⟩:=List.mem_map.1 hws
  obtain ⟨h1,h2,h3,h4⟩:=h.st x hx
  refine ⟨by unfold aP bT;simp,tP book_wd.2.2 (fun n hn=>?_) fun s hs=>?_⟩
  ·rcases List.mem_cons.1 hn with rfl|hn
   ·exact h1
   ·cases hn
  ·rcases List.mem_cons.1 hs with rfl|hs
   ·exact K9 _
   rcases List.mem_cons.1 hs with rfl|hs
   ·exact He h2.1
   ·exact AY (h4 s hs)
theorem Mh {ws:List ByteArray} (h :∀ s∈ws,pN s) :(10:UInt8)∉jnL ws:=KT (by decide) _ fun x hx=>by
 obtain ⟨s,hs,rfl⟩:=List.mem_map.1 hx
 exact (h s hs).2
theorem Hb {ws:List ByteArray} (hne:ws≠ []) (h :∀ s∈ws,pN s) :(cS 32 (jnL ws)).map toB=ws:=by
 cases ws with
 | nil=>exact absurd rfl hne
 | cons w ws=>
  unfold jnL
  rw [List.map_cons,uX _ _ fun x hx=>?_]
  ·rw [List.map_cons,List.map_map,Bv]
   congr 1
   have :(toB ∘ fun x:ByteArray=>x.data.toList)=id:=by funext x;exact Bv x
   rw [this,List.map_id]
  ·rw [←List.map_cons (f:=fun x:ByteArray=>x.data.toList)] at hx
   obtain ⟨s,hs,rfl⟩:=List.mem_map.1 hx
   exact (h s hs).1
theorem Cw {b:Mir.Book} (h:Wr b) :(bl (fE b)).map (fun x=>bX (kj x nlV) 32)=ee b:=by
 have hw:=Am h
 have h1 :∀ x∈(ee b).map jnL,(10:UInt8)∉x:=fun x hx=>by
  obtain ⟨ws,hws,rfl⟩:=List.mem_map.1 hx
  exact Mh (hw ws hws).2
 have h2 :((((ee b).map jnL).map (·++[10])).flatten).length <(fE b).size+1:=by
  rw [←nV,Array.length_toList]
  exact Nat.lt_succ_self _
 unfold bl
 rw [nV,Al _ _ h1 h2,List.map_map,List.map_map,List.map_map]
 have :∀ ws∈ee b,((((fun x=>bX (kj x nlV) 32) ∘ toB) ∘ (fun x=>x++[10])) ∘ jnL) ws=id ws:=fun ws hws=>by
  show bX (kj (toB (jnL ws++[10])) nlV) 32=ws
  have e:kj (toB (jnL ws++[10])) nlV=toB (jnL ws):=by
   unfold kj
   show toB (Lib.trimSuffix (jnL ws++[10]) [10])=_
   rw [LV]
  rw [e]
  exact Hb (hw ws hws).1 (hw ws hws).2
 rw [List.map_congr_left this,List.map_id]
theorem Hc {b:Mir.Book} (h:Wr b) :(bX (fE b) 10).dropLast.map (fun x=>bX x 32)=ee b:=by
 have hw:=Am h
 have h1 :∀ x∈(ee b).map jnL,(10:UInt8)∉x:=fun x hx=>by
  obtain ⟨ws,hws,rfl⟩:=List.mem_map.1 hx
  exact Mh (hw ws hws).2
 have e0:bX (fE b) 10 =((ee b).map jnL++[[]]).map toB:=by
  unfold bX
  rw [nV,uW _ h1]
 rw [e0,List.map_append,List.map_cons,List.map_nil,List.dropLast_concat,List.map_map,List.map_map]
 have :∀ ws∈ee b,(((fun x=>bX x 32) ∘ toB) ∘ jnL) ws=id ws:=fun ws hws=>Hb (hw ws hws).1 (hw ws hws).2
 rw [List.map_congr_left this,List.map_id]
def aG:List ByteArray→Option (List Int)
 | []=>some []
 | w::r=>if (vV w).2 != 0 then none else (aG r).map ((vV w).1::·)
theorem oo :∀ l:List Int,(∀ n∈l,0≤n∧n≤1000000)→aG (l.map aQ)=some l
 | [],_=>rfl
 | n::l,h=>by
  obtain ⟨h0,h1⟩:=h n List.mem_cons_self
  rw [List.map_cons]
  unfold aG
  rw [Lc h0 h1,oo l fun x hx=>h x (List.mem_cons_of_mem _ hx)]
  rfl
def HH (b:Mir.Book) (n:List Int):Mir.Book:=⟨n.getD 0 0,b.Boxes,b.Strips,⟨n.getD 3 0,n.getD 4 0,n.getD 5 0,n.getD 6 0,n.getD 7 0⟩,n.getD 1 0,n.getD 2 0⟩
def NO (b:Mir.Book) (n:List Int) (l:List ByteArray):Mir.Book:=⟨b.Side,b.Boxes++[⟨n.getD 0 0,n.getD 1 0,l⟩],b.Strips,b.Extras,b.Total,b.Wickets⟩
def Dj (b:Mir.Book) (n:List Int) (h:Int) (l:List ByteArray):Mir.Book:=⟨b.Side,b.Boxes,b.Strips++[⟨n.getD 0 0,l,h,n.getD 1 0⟩],b.Extras,b.Total,b.Wickets⟩
theorem GD :(boxV.toList==bookV.toList)=false∧(stripV.toList==bookV.toList)=false∧(stripV.toList==boxV.toList)=false∧(bookV.toList==bookV.toList)=true∧(boxV.toList==boxV.toList)=true∧(stripV.toList==stripV.toList)=true:=by decide +kernel
def c7 (b:Mir.Book) (l:List ByteArray):Option Mir.Book:=if l.length<8 then none else (aG (l.take 8)).map (HH b)
def cZ (b:Mir.Book) (l:List ByteArray):Option Mir.Book:=if l.length<2 then none else (aG (l.take 2)).map fun n=>NO b n (l.drop 2)
def cA (b:Mir.Book) (l:List ByteArray):Option Mir.Book:=if l.length<3 then none else (aG [l.getD 0 ⟨#[]⟩,l.getD 2 ⟨#[]⟩]).bind fun n=>if aW (l.getD 1 ⟨#[]⟩) != 0 then none else some (Dj b n (bG (l.getD 1 ⟨#[]⟩)) (l.drop 3))
def cQ (b:Mir.Book):List ByteArray→Option Mir.Book
 | []=>none
 | w::l=>if w.toList==bookV.toList then c7 b l else if w.toList==boxV.toList then cZ b l else if w.toList==stripV.toList then cA b l else none
def ef (i:Int) (b:Mir.Book):List ByteArray→Option Mir.Book
 | []=>none
 | w::l=>if i==0&&w.toList==bookV.toList&&l.length==8 then c7 b l else if decide (i>0)&&w.toList==boxV.toList&&decide (l.length≥2) then cZ b l
  else if decide (i>0)&&w.toList==stripV.toList&&decide (l.length≥3) then cA b l else none
def eV:List (List ByteArray)→Mir.Book→Option Mir.Book
 | [],b=>some b
 | l::r,b=>(cQ b l).bind (eV r)
def dA:List (List ByteArray)→Int→Mir.Book→Option Mir.Book
 | [],_,b=>some b
 | l::r,i,b=>(ef i b l).bind (dA r (i+1))
def rv (s:ByteArray):Option Mir.Book→Mir.Book×Int
 | none=>(Mir.Book.zero,4)
 | some b=>if (aR b).2 != 0 ||(aR b).1.toList != s.toList then (Mir.Book.zero,4) else (b,0)
def dE (s:ByteArray):Mir.Book×Int:=rv s (eV ((bl s).map fun x=>bX (kj x nlV) 32) Mir.Book.zero)
def bR (s:ByteArray):Mir.Book×Int:=rv s (dA ((bX s 10).dropLast.map fun x=>bX x 32) 0 Mir.Book.zero)
theorem FS {h:Int} (hk :(!((cc h).toList ==(⟨#[]⟩:ByteArray).toList))=true):aW (cc h)=0∧bG (cc h)=h:=by
 unfold cc ofW at hk ⊢
 cases hf:wtab.find? (fun w=>w.how==h) with
 | none=>rw [hf] at hk;exact absurd hk (by decide +kernel)
 | some w=>
  have e:w.how=h:=by simpa using List.find?_some hf
  have hm:=List.mem_of_find?_eq_some hf
  have key :∀ w∈wtab,aW w.name=0∧bG w.name=w.how:=by decide +kernel
  obtain ⟨k1,k2⟩:=key w hm
  exact ⟨k1,k2.trans e⟩
theorem wK {b0 b:Mir.Book} (h:Wr b) (l:List ByteArray) (hl:l =(b.Side::cd b).map aQ):c7 b0 l=some ⟨b.Side,b0.Boxes,b0.Strips,b.Extras,b.Total,b.Wickets⟩:=by
 subst hl
 unfold c7
 rw [if_neg (by simp [cd]),List.take_of_length_le (by simp [cd]),oo _ h.hd]
 rfl
theorem Br {b0:Mir.Book} {x:Mir.Box} (h1:0≤x.Over∧x.Over≤1000000) (h2:0≤x.Bowler∧x.Bowler≤1000000):cZ b0 (aQ x.Over::aQ x.Bowler::x.Symbols)=some ⟨b0.Side,b0.Boxes++[x],b0.Strips,b0.Extras,b0.Total,b0.Wickets⟩:=by
 unfold cZ
 rw [if_neg (by simp)]
 have e :(aQ x.Over::aQ x.Bowler::x.Symbols).take 2=[x.Over,x.Bowler].map aQ:=rfl
 rw [e,oo _ (by simp;exact ⟨h1,h2⟩)]
 rfl
theorem tF {b0:Mir.Book} {x:Mir.Strip} (h1:0≤x.Player∧x.Player≤1000000) (h2:0≤x.Bowler∧x.Bowler≤1000000) (hk:bj x=true):cA b0 (aQ x.Player::cc x.How::aQ x.Bowler::x.Symbols)=some ⟨b0.Side,b0.Boxes,b0.Strips++[x],b0.Extras,b0.Total,b0.Wickets⟩:=by
 obtain ⟨k1,k2⟩:=FS hk
 unfold cA
 rw [if_neg (by simp)]
 show (aG ([x.Player,x.Bowler].map aQ)).bind (fun n=>if aW (cc x.How) != 0 then none else some (Dj b0 n (bG (cc x.How)) x.Symbols))=_
 rw [oo _ (by simp;exact ⟨h1,h2⟩),k1,k2]
 rfl
theorem Qo (l1:List Mir.Box) (l2:List Mir.Strip) :∀ (b0:Mir.Book),(∀ x∈l1,(0≤x.Over∧x.Over≤1000000)∧(0≤x.Bowler∧x.Bowler≤1000000))→(∀ x∈l2,(0≤x.Player∧x.Player≤1000000)∧(0≤x.Bowler∧x.Bowler≤1000000)∧bj x=true)→
  eV (l1.map bK++l2.map aP) b0=some ⟨b0.Side,b0.Boxes++l1,b0.Strips++l2,b0.Extras,b0.Total,b0.Wickets⟩:=by
 induction l1 with
 | nil=>
  induction l2 with
  | nil=>intro b0 _ _;simp [eV]
  | cons x l2 ih=>
   intro b0 h1 h2
   obtain ⟨k1,k2,k3⟩:=h2 x List.mem_cons_self
   show (cQ b0 (stripV::aQ x.Player::cc x.How::aQ x.Bowler::x.Symbols)).bind (eV (([]:List Mir.Box).map bK++l2.map aP))=_
   have e:cQ b0 (stripV::aQ x.Player::cc x.How::aQ x.Bowler::x.Symbols)=cA b0 (aQ x.Player::cc x.How::aQ x.Bowler::x.Symbols):=by
    obtain ⟨_,a1,a2,_,_,a3⟩:=GD
    simp only [cQ]
    rw [a1,a2,a3]
    rfl
   rw [e,tF k1 k2 k3,Option.bind_some,ih _ h1 fun y hy=>h2 y (List.mem_cons_of_mem _ hy)]
   simp
 | cons x l1 ih=>
  intro b0 h1 h2
  obtain ⟨k1,k2⟩:=h1 x List.mem_cons_self
  show (cQ b0 (boxV::aQ x.Over::aQ x.Bowler::x.Symbols)).bind (eV (l1.map bK++l2.map aP))=_
  have e:cQ b0 (boxV::aQ x.Over::aQ x.Bowler::x.Symbols)=cZ b0 (aQ x.Over::aQ x.Bowler::x.Symbols):=by
   obtain ⟨a1,_,_,_,a2,_⟩:=GD
   simp only [cQ]
   rw [a1,a2]
   rfl
  rw [e,Br k1 k2,Option.bind_some,ih _ (fun y hy=>h1 y (List.mem_cons_of_mem _ hy)) h2]
  simp
theorem LP (l1:List Mir.Box) (l2:List Mir.Strip) :∀ (b0:Mir.Book) (i:Int),0<i→(∀ x∈l1,(0≤x.Over∧x.Over≤1000000)∧(0≤x.Bowler∧x.Bowler≤1000000))→(∀ x∈l2,(0≤x.Player∧x.Player≤1000000)∧(0≤x.Bowler∧x.Bowler≤1000000)∧bj x=true)→
  dA (l1.map bK++l2.map aP) i b0=some ⟨b0.Side,b0.Boxes++l1,b0.Strips++l2,b0.Extras,b0.Total,b0.Wickets⟩:=by
 have i0 :∀ {i:Int},0<i→(i==0)=false∧decide (i>0)=true:=fun h=>⟨by simp;omega,decide_eq_true h⟩
 induction l1 with
 | nil=>
  induction l2 with
  | nil=>intro b0 i _ _ _;simp [dA]
  | cons x l2 ih=>
   intro b0 i hi h1 h2
   obtain ⟨k1,k2,k3⟩:=h2 x List.mem_cons_self
   show (ef i b0 (stripV::aQ x.Player::cc x.How::aQ x.Bowler::x.Symbols)).bind (dA (([]:List Mir.Box).map bK++l2.map aP) (i+1))=_
   have e:ef i b0 (stripV::aQ x.Player::cc x.How::aQ x.Bowler::x.Symbols)=cA b0 (aQ x.Player::cc x.How::aQ x.Bowler::x.Symbols):=by
    simp only [ef]
    rw [(i0 hi).1,(i0 hi).2]
    obtain ⟨_,_,a1,_,_,a2⟩:=GD
    rw [a1,a2]
    have a3:decide ((aQ x.Player::cc x.How::aQ x.Bowler::x.Symbols).length≥3)=true:=decide_eq_true (by simp)
    rw [a3]
    rfl
   rw [e,tF k1 k2 k3,Option.bind_some,ih _ _ (by omega) h1 fun y hy=>h2 y (List.mem_cons_of_mem _ hy)]
   simp
 | cons x l1 ih=>
  intro b0 i hi h1 h2
  obtain ⟨k1,k2⟩:=h1 x List.mem_cons_self
  show (ef i b0 (boxV::aQ x.Over::aQ x.Bowler::x.Symbols)).bind (dA (l1.map bK++l2.map aP) (i+1))=_
  have e:ef i b0 (boxV::aQ x.Over::aQ x.Bowler::x.Symbols)=cZ b0 (aQ x.Over::aQ x.Bowler::x.Symbols):=by
   simp only [ef]
   rw [(i0 hi).1,(i0 hi).2]
   obtain ⟨_,_,_,_,a2,_⟩:=GD
   rw [a2]
   have a3:decide ((aQ x.Over::aQ x.Bowler::x.Symbols).length≥2)=true:=decide_eq_true (by simp)
   rw [a3]
   rfl
  rw [e,Br k1 k2,Option.bind_some,ih _ _ (by omega) (fun y hy=>h1 y (List.mem_cons_of_mem _ hy)) h2]
  simp
theorem Oh {b:Mir.Book} (h:Wr b):eV (ee b) Mir.Book.zero=some b:=by
 unfold ee
 show (cQ Mir.Book.zero (cj b)).bind _=_
 have e:cQ Mir.Book.zero (cj b)=c7 Mir.Book.zero ((b.Side::cd b).map aQ):=by
  obtain ⟨_,_,_,a2,_⟩:=GD
  unfold cj bT
  rw [List.append_nil]
  simp only [cQ]
  rw [a2]
  rfl
 rw [e,wK h _ rfl,Option.bind_some,Qo _ _ _ (fun x hx=>⟨(h.bx x hx).1,(h.bx x hx).2.1⟩) fun x hx=>⟨(h.st x hx).1,(h.st x hx).2.1,(h.st x hx).2.2.1⟩]
 show some (Mir.Book.mk b.Side ([]++b.Boxes) ([]++b.Strips) b.Extras b.Total b.Wickets)=_
 rfl
theorem KI {b:Mir.Book} (h:Wr b):dA (ee b) 0 Mir.Book.zero=some b:=by
 unfold ee
 show (ef 0 Mir.Book.zero (cj b)).bind _=_
 have e:ef 0 Mir.Book.zero (cj b)=c7 Mir.Book.zero ((b.Side::cd b).map aQ):=by
  obtain ⟨_,_,_,a2,_⟩:=GD
  unfold cj bT
  rw [List.append_nil]
  simp only [ef]
  rw [a2]
  rfl
 rw [e,wK h _ rfl,Option.bind_some,LP _ _ _ _ (by decide) (fun x hx=>⟨(h.bx x hx).1,(h.bx x hx).2.1⟩) fun x hx=>⟨(h.st x hx).1,(h.st x hx).2.1,(h.st x hx).2.2.1⟩]
 show some (Mir.Book.mk b.Side ([]++b.Boxes) ([]++b.Strips) b.Extras b.Total b.Wickets)=_
 rfl
theorem JY {b:Mir.Book} (h :(aR b).2=0):cw b=0∧(aR b).1=fE b:=by
 unfold aR at h ⊢
 split at h
 ·rename_i h0;exact ⟨h0,by rw [if_pos h0]⟩
 ·rename_i h0;exact absurd h h0
theorem bytes_ne {a b:ByteArray} :(a.toList != b.toList)=false↔a=b:=by
 rw [ByteArray.toList_eq,ByteArray.toList_eq]
 constructor
 ·intro h
  have h:a.data.toList=b.data.toList:=by simpa using h
  exact w5 h
 ·rintro rfl;simp
theorem DG {s:ByteArray} {o:Option Mir.Book} {b:Mir.Book} (h:rv s o =(b,0)):cw b=0∧fE b=s∧o=some b:=by
 unfold rv at h
 split at h
 ·exact absurd (congrArg Prod.snd h) (by simp)
 ·split at h
  ·exact absurd (congrArg Prod.snd h) (by simp)
  ·rename_i b' hc
   injection h with h1 h2
   subst h1
   have hc :((aR b').2 != 0)=false∧((aR b').1.toList != s.toList)=false:=by simpa using hc
   have h0 :(aR b').2=0:=by simpa using hc.1
   obtain ⟨k1,k2⟩:=JY h0
   exact ⟨k1,k2▸bytes_ne.1 hc.2,rfl⟩
theorem DF {b:Mir.Book} (h:cw b=0):rv (fE b) (some b) =(b,0):=by
 have e:aR b =(fE b,0):=by unfold aR;rw [if_pos h]
 have e2 :((fE b).toList !=(fE b).toList)=false:=bytes_ne.2 rfl
 show (if ((aR b).2 != 0 ||(aR b).1.toList !=(fE b).toList)=true then (Mir.Book.zero,(4:Int)) else (b,0))=_
 rw [e]
 simp only [e2]
 rfl
theorem kQ {b:Mir.Book} (h:cw b=0):dE (fE b) =(b,0)∧bR (fE b) =(b,0):=by
 have hw:=E6 h
 constructor
 ·unfold dE
  rw [Cw hw,Oh hw,DF h]
 ·unfold bR
  rw [Hc hw,KI hw,DF h]
theorem zl {s:ByteArray} {o:Option Mir.Book} (h :(rv s o).2≠0):rv s o =(Mir.Book.zero,4):=by
 cases o with
 | none=>rfl
 | some b=>
  have h :(if ((aR b).2 != 0 ||(aR b).1.toList != s.toList)=true then (Mir.Book.zero,(4:Int)) else (b,0)).2≠0:=h
  show (if ((aR b).2 != 0 ||(aR b).1.toList != s.toList)=true then (Mir.Book.zero,(4:Int)) else (b,0))=_
  split
  ·rfl
  ·rename_i h1
   rw [if_neg h1] at h
   exact absurd rfl h
theorem CI (s:ByteArray):bR s=dE s:=by
 by_cases h1 :(dE s).2=0
 ·have e:dE s =((dE s).1,0):=by rw [←h1]
  obtain ⟨k1,k2,_⟩:=DG (s:=s) (b:=(dE s).1) e
  rw [←k2] at e ⊢
  rw [(kQ k1).2,(kQ k1).1]
 ·by_cases h2 :(bR s).2=0
  ·have e:bR s =((bR s).1,0):=by rw [←h2]
   obtain ⟨k1,k2,_⟩:=DG (s:=s) (b:=(bR s).1) e
   rw [←k2] at e ⊢
   rw [(kQ k1).2,(kQ k1).1]
  ·have e1:dE s =(Mir.Book.zero,4):=zl h1
   have e2:bR s =(Mir.Book.zero,4):=zl h2
   rw [e1,e2]
end Go.Proofs.YtffdpnmioidloaaGreatDoor
namespace Go.Proofs.YtffdpnmioidloaaGreatDoor
open Go Go.Mir Go.RowKit
attribute [local irreducible] Go.Mir.DT.sat Go.Mir.evPat Go.Mir.RT.sat Go.Mir.evFn
def a8 (l:List ByteArray):Nat:=(l.map fun s=>s.size+1).sum
def Nz (l:List Mir.Box):Prop:=∀ x∈l,a8 x.Symbols≤20100
def NA (l:List Mir.Strip):Prop:=∀ x∈l,a8 x.Symbols≤20100
def BH (b:Mir.Book):Prop:=(b.Boxes.length≤20000∧b.Strips.length≤20000)∧Nz b.Boxes∧NA b.Strips
abbrev Bxs:Ty:= .slice (.nm .Box)
abbrev Sts:Ty:= .slice (.nm .Strip)
abbrev Q0:List (Nat×PB):= [(0,.dat (.nm .Book)),(1,.row 2 I),(3,.row 4 .str)]
abbrev qWa:Pat:=⟨[(1,.c (.ptr 0 0)),(3,.c (.osl 1 2)),(4,.c (.osl 3 4)),(5,.h .bool),(19,.h Bxs),(20,.h I),(21,.h I)],Q0,5⟩
abbrev xWa:List (Lf×Pat):= [(.ext 0,⟨[(1,.c (.ptr 0 0)),(3,.c (.osl 1 2)),(4,.c (.osl 3 4)),(5,.h .bool)],Q0,5⟩)]
abbrev TWa:Type:=Bool×List Mir.Box×Int×Int×Mir.Book×List Int×List ByteArray×Unit
def Az (l:List Mir.Box):List Int:=l.flatMap fun x=> [x.Over,x.Bowler]
def yJ (l:List Mir.Box):List ByteArray:=l.flatMap (·.Symbols)
def IX (l:List Mir.Strip):List Int:=l.flatMap fun x=> [x.Player,x.Bowler]
def Bq (l:List Mir.Strip):List ByteArray:=l.flatMap (·.Symbols)
def nk:TWa→Bool×Mir.Book×List Int×List ByteArray×Unit
 |(k,l,_,i,b,a,s,_)=>(k,b,a++Az (l.drop i.toNat),s++yJ (l.drop i.toNat),())
def Od (l:List Mir.Box):Prop:=l.length≤20000∧∀ x∈l,a8 x.Symbols≤20100
def Oe (l:List Mir.Strip):Prop:=l.length≤20000∧∀ x∈l,a8 x.Symbols≤20100
def vB:TWa→Prop
 |(_,l,n,i,_,a,s,_)=>(n =(l.length:Int)∧Od l)∧(0≤i∧i≤n)∧(a.length:Int)≤2*i+100∧(s.length:Int)≤20100*i
def IK:TWa→Nat
 |(_,_,n,i,_)=>(n - i).toNat
abbrev Q1:List (Nat×PB):= [(0,.row 1 I),(2,.row 3 .str)]
abbrev qWb:Pat:=⟨[(3,.c (.osl 0 1)),(4,.c (.osl 2 3)),(5,.h .bool),(38,.h Sts),(39,.h I),(40,.h I)],Q1,4⟩
abbrev xWb:List (Lf×Pat):= [(.ext 2,⟨[(3,.c (.osl 0 1)),(4,.c (.osl 2 3)),(5,.h .bool)],Q1,4⟩)]
abbrev TWb:Type:=Bool×List Mir.Strip×Int×Int×List Int×List ByteArray×Unit
def oJ:TWb→Bool×List Int×List ByteArray×Unit
 |(k,l,_,i,a,s,_)=>(k&&(l.drop i.toNat).all bj,a++IX (l.drop i.toNat),s++Bq (l.drop i.toNat),())
def vC:TWb→Prop
 |(_,l,n,i,a,s,_)=>(n =(l.length:Int)∧Oe l)∧(0≤i∧i≤n)∧(a.length:Int)≤2*i+40100∧(s.length:Int)≤20100*i+402000000
def IL:TWb→Nat
 |(_,_,n,i,_)=>(n - i).toNat
abbrev qWc:Pat:=⟨[(69,.c (.osl 0 1)),(70,.h I),(71,.h I)],[(0,.row 1 .str)],2⟩
abbrev xWc:List (Lf×Pat):= [(.ret,⟨[(2,.h I)],[],0⟩),(.ext 5,⟨[],[],0⟩)]
abbrev TWc:Type:=Int×Int×List ByteArray×Unit
def jZ:TWc→Sum (Int×Unit) Unit
 |(_,i,l,_)=>if (l.drop i.toNat).all az then .inr () else .inl (4,())
def vD:TWc→Prop
 |(n,i,l,_)=>(n =(l.length:Int)∧l.length≤1000000000∧∀ s∈l,s.size≤20100)∧0≤i∧i≤n
def IM:TWc→Nat
 |(n,i,_)=>(n - i).toNat
abbrev Lv:Pat:=dG [I]
def JM:Den (tyP qBk)→List Prop×Den (tyP Lv):=fun x=>([BH x.1],(cw x.1,()))
theorem cu (l:List ByteArray):l.length≤a8 l:=by
 induction l with
 | nil=>exact Nat.zero_le _
 | cons x l ih=>unfold a8 at *;simp only [List.length_cons,List.map_cons,List.sum_cons];omega
theorem oN {l:List ByteArray} {s:ByteArray} (h:s∈l):s.size+1≤a8 l:=by
 induction l with
 | nil=>cases h
 | cons x l ih=>
  have e:a8 (x::l) =(x.size+1)+a8 l:=by unfold a8;simp
  rcases List.mem_cons.1 h with rfl|h
  ·omega
  ·have:=ih h;omega
noncomputable def lpWa:Lp:=(⟨0,aA [] Tryz.f41,(fun _=>none),(ao Tryz.f41 0),qWa,xWa⟩:Lp)
theorem Qg (k:Bool) (l:List Mir.Box) (n:Int) (i:Int) (b:Mir.Book) (a:List Int) (s:List ByteArray) (hi:vB (k,l,n,i,b,a,s,())) :(Go.Mir.stepG lpWa nk (fun y:Den (tyP lpWa.q)=>vB y∧IK y<IK (k,l,n,i,b,a,s,())) (k,l,n,i,b,a,s,())∧Go.Mir.stepE lpWa nk (k,l,n,i,b,a,s,())=nk (k,l,n,i,b,a,s,())):=by
 refine cast (by kernel_rfl) (?_:let r1:List Int:= [(l.getD i.toNat (dflt (Ty.nm Nm.Box))).1,(l.getD i.toNat (dflt (Ty.nm Nm.Box))).2];((decide (i<n)=true→((0:Int)≤i∧i <(↑l.length:Int))∧(a.length+r1.length) *(8:Nat)≤(70368744177664:Nat)∧(s.length +(l.getD i.toNat (dflt (Ty.nm Nm.Box))).3.length) *(16:Nat)≤(70368744177664:Nat)∧vB (k,l,n,IntKind.i64.wrap (i +(1:Int)),b,a++r1,s ++(l.getD i.toNat (dflt (Ty.nm Nm.Box))).3,())∧IK (k,l,n,IntKind.i64.wrap (i +(1:Int)),b,a++r1,s ++(l.getD i.toNat (dflt (Ty.nm Nm.Box))).3,())<IK (k,l,n,i,b,a,s,()))∧(decide (i<n)=false→True))∧(bif decide (i<n) then nk (k,l,n,IntKind.i64.wrap (i +(1:Int)),b,a++r1,s ++(l.getD i.toNat (dflt (Ty.nm Nm.Box))).3,()) else (k,b,a,s,()))=nk (k,l,n,i,b,a,s,()))
 intro r1
 clear_value (hr1:r1=_)
 obtain ⟨⟨h1,h1b⟩,⟨h2,h3⟩,h4,h5⟩:=hi
 have h1:n =(l.length:Int):=h1
 have h1b:Od l:=h1b
 have h2:0≤i:=h2
 have h3:i≤n:=h3
 have h4 :(a.length:Int)≤2*i+100:=h4
 have h5 :(s.length:Int)≤20100*i:=h5
 have hf:=h1b.1
 by_cases h:i<n
 ·have e1:IntKind.i64.wrap (i+1)=i+1:=wrap64 (by omega) (by omega)
  have hd:l.drop i.toNat=l.getD i.toNat (dflt (Ty.nm Nm.Box))::l.drop (i+1).toNat:=aL h2 (by omega) _
  have hm:l.getD i.toNat (dflt (Ty.nm Nm.Box))∈l:=List.mem_of_mem_drop (i:=i.toNat) (by rw [hd];exact List.mem_cons_self)
  have hz:=h1b.2 _ hm
  generalize l.getD i.toNat (dflt (Ty.nm Nm.Box))=x at *
  have hl:=cu x.Symbols
  have hr:r1.length=2:=by rw [hr1];rfl
  have key:nk (k,l,n,i,b,a,s,())=nk (k,l,n,i+1,b,a++r1,s++x.Symbols,()):=by
   show (k,b,a++Az (l.drop i.toNat),s++yJ (l.drop i.toNat),()) =(k,b,(a++r1)++Az (l.drop (i+1).toNat),(s++x.Symbols)++yJ (l.drop (i+1).toNat),())
   rw [hd,hr1,List.append_assoc,List.append_assoc]
   rfl
  rw [decide_eq_true h,e1,key]
  refine ⟨⟨fun _=>⟨⟨h2,by omega⟩,by omega,?_,⟨⟨h1,h1b⟩,⟨?_,?_⟩,?_,?_⟩,?_⟩,fun z=>Bool.noConfusion z⟩,rfl⟩
  ·show (s.length+x.Symbols.length)*16≤70368744177664;omega
  ·show 0≤i+1;omega
  ·show i+1≤n;omega
  ·show ((a++r1).length:Int)≤2 *(i+1)+100
   rw [List.length_append];omega
  ·show ((s++x.Symbols).length:Int)≤20100 *(i+1)
   rw [List.length_append];omega
  ·show (n - (i+1)).toNat <(n - i).toNat;omega
 ·rw [decide_eq_false h]
  refine ⟨⟨fun z=>Bool.noConfusion z,fun _=>trivial⟩,?_⟩
  show _ =(k,b,a++Az (l.drop i.toNat),s++yJ (l.drop i.toNat),())
  rw [aF (l:=l) (by omega)]
  show _ =(k,b,a++[],s++[],())
  rw [List.append_nil,List.append_nil]
  rfl
noncomputable def Nt:LoopSum:=ah lpWa nk vB
noncomputable def MN:Nat:=rid (ao Tryz.f41 0)
theorem OZ:LoopOKp Tryz.prog 0 Tryz.f41.ntmps (ao Tryz.f41 0) (ah lpWa nk vB):=
 ax lpWa (an (CtrsOK.nil) _) mixed (fun b hb S hS=>by cases hS) nk vB IK (fun |⟨k,l,n,i,b,a,s,⟨⟩⟩,hi=>Qg k l n i b a s hi)
noncomputable def lpWb:Lp:=(⟨0,aA [k25] Tryz.f41,(fun _=>none),(ao Tryz.f41 1),qWb,xWb⟩:Lp)
theorem Qh (k:Bool) (l:List Mir.Strip) (n:Int) (i:Int) (a:List Int) (s:List ByteArray) (hi:vC (k,l,n,i,a,s,())) :(Go.Mir.stepG lpWb oJ (fun y:Den (tyP lpWb.q)=>vC y∧IL y<IL (k,l,n,i,a,s,())) (k,l,n,i,a,s,())∧Go.Mir.stepE lpWb oJ (k,l,n,i,a,s,())=oJ (k,l,n,i,a,s,())):=by
 refine cast (by kernel_rfl) (?_:let r1:List ByteArray:=s ++(l.getD i.toNat (dflt (Ty.nm Nm.Strip))).2;let r2:List Int:= [(l.getD i.toNat (dflt (Ty.nm Nm.Strip))).1,(l.getD i.toNat (dflt (Ty.nm Nm.Strip))).4];let r3:List Int:=a++r2;let r4:Bool×List Int×List ByteArray×Unit:=oJ (bif k then !(ofW (l.getD i.toNat (dflt (Ty.nm Nm.Strip))).3).2.toList ==(ByteArray.mk #[]).toList else false,l,n,IntKind.i64.wrap (i +(1:Int)),bif k then r3 else r3,bif k then r1 else r1,());((decide (i<n)=true→(((0:Int)≤i∧i <(↑l.length:Int))∧(a.length+r2.length) *(8:Nat)≤(70368744177664:Nat)∧(s.length +(l.getD i.toNat (dflt (Ty.nm Nm.Strip))).2.length) *(16:Nat)≤(70368744177664:Nat)∧(k=true→True)∧(k=false→True))∧(true=true→vC (bif k then !(ofW (l.getD i.toNat (dflt (Ty.nm Nm.Strip))).3).2.toList ==(ByteArray.mk #[]).toList else false,l,n,IntKind.i64.wrap (i +(1:Int)),bif k then r3 else r3,bif k then r1 else r1,())∧IL (bif k then !(ofW (l.getD i.toNat (dflt (Ty.nm Nm.Strip))).3).2.toList ==(ByteArray.mk #[]).toList else false,l,n,IntKind.i64.wrap (i +(1:Int)),bif k then r3 else r3,bif k then r1 else r1,())<IL (k,l,n,i,a,s,())))∧(decide (i<n)=false→True))∧(bif decide (i<n) then bif true&&true then r4 else bif true then r4 else bif k then dflt (Ty.bool.prod (I.slice.prod (Ty.str.slice.prod Ty.unit))) else dflt (Ty.bool.prod (I.slice.prod (Ty.str.slice.prod Ty.unit))) else (k,a,s,()))=oJ (k,l,n,i,a,s,()))
 intro r1 r2 r3 r4
 clear_value (hr1:r1=_) (hr2:r2=_) (hr3:r3=_) (hr4:r4=_)
 obtain ⟨⟨h1,h1b⟩,⟨h2,h3⟩,h4,h5⟩:=hi
 have h1:n =(l.length:Int):=h1
 have h1b:Oe l:=h1b
 have h2:0≤i:=h2
 have h3:i≤n:=h3
 have h4 :(a.length:Int)≤2*i+40100:=h4
 have h5 :(s.length:Int)≤20100*i+402000000:=h5
 have hf:=h1b.1
 simp only [Bool.cond_self] at *
 by_cases h:i<n
 ·have e1:IntKind.i64.wrap (i+1)=i+1:=wrap64 (by omega) (by omega)
  have hd:l.drop i.toNat=l.getD i.toNat (dflt (Ty.nm Nm.Strip))::l.drop (i+1).toNat:=aL h2 (by omega) _
  have hm:l.getD i.toNat (dflt (Ty.nm Nm.Strip))∈l:=List.mem_of_mem_drop (i:=i.toNat) (by rw [hd];exact List.mem_cons_self)
  have hz:=h1b.2 _ hm
  rw [e1] at hr4
  generalize l.getD i.toNat (dflt (Ty.nm Nm.Strip))=x at *
  have hl:=cu x.Symbols
  have hr:r2.length=2:=by rw [hr2];rfl
  have hkn :(!(ofW x.How).name.toList ==(ByteArray.mk #[]).toList)=bj x:=rfl
  have key:oJ (k,l,n,i,a,s,())=r4:=by
   rw [hr4,hr3,hr1]
   show (k&&(l.drop i.toNat).all bj,a++IX (l.drop i.toNat),s++Bq (l.drop i.toNat),()) =((bif k then bj x else false)&&(l.drop (i+1).toNat).all bj,(a++r2)++IX (l.drop (i+1).toNat),(s++x.Symbols)++Bq (l.drop (i+1).toNat),())
   rw [hd,hr2,List.append_assoc,List.append_assoc,List.all_cons]
   have :(k&&(bj x&&(l.drop (i+1).toNat).all bj)) =((bif k then bj x else false)&&(l.drop (i+1).toNat).all bj):=by cases k <;> rfl
   rw [this]
   rfl
  rw [decide_eq_true h,e1,key]
  refine ⟨⟨fun _=>⟨⟨⟨h2,by omega⟩,by omega,?_,fun _=>trivial,fun _=>trivial⟩,fun _=>⟨⟨⟨h1,h1b⟩,⟨?_,?_⟩,?_,?_⟩,?_⟩⟩,fun z=>Bool.noConfusion z⟩,rfl⟩
  ·show (s.length+x.Symbols.length)*16≤70368744177664;omega
  ·show 0≤i+1;omega
  ·show i+1≤n;omega
  ·show (r3.length:Int)≤2 *(i+1)+40100
   rw [hr3,List.length_append];omega
  ·show (r1.length:Int)≤20100 *(i+1)+402000000
   rw [hr1]
   show ((s++x.Symbols).length:Int)≤_
   rw [List.length_append];omega
  ·show (n - (i+1)).toNat <(n - i).toNat;omega
 ·rw [decide_eq_false h]
  refine ⟨⟨fun z=>Bool.noConfusion z,fun _=>trivial⟩,?_⟩
  show _ =(k&&(l.drop i.toNat).all bj,a++IX (l.drop i.toNat),s++Bq (l.drop i.toNat),())
  rw [aF (l:=l) (by omega)]
  show _ =(k&&true,a++[],s++[],())
  rw [List.append_nil,List.append_nil]
  cases k <;> rfl
noncomputable def Nu:LoopSum:=ah lpWb oJ vC
noncomputable def MO:Nat:=rid (ao Tryz.f41 1)
theorem O0:LoopOKp Tryz.prog 0 Tryz.f41.ntmps (ao Tryz.f41 1) (ah lpWb oJ vC):=
 ax lpWb (an (.consU Rj rfl .nil) _) mixed (fun b hb S hS=>by cases hS) oJ vC IL (fun |⟨k,l,n,i,a,s,⟨⟩⟩,hi=>Qh k l n i a s hi)
noncomputable def lpWc:Lp:=(⟨0,aA [HY] Tryz.f41,(fun _=>none),(ao Tryz.f41 2),qWc,xWc⟩:Lp)
theorem Qi (n:Int) (i:Int) (l:List ByteArray) (hi:vD (n,i,l,())) :(Go.Mir.stepG lpWc jZ (fun y:Den (tyP lpWc.q)=>vD y∧IM y<IM (n,i,l,())) (n,i,l,())∧Go.Mir.stepE lpWc jZ (n,i,l,())=jZ (n,i,l,())):=by
 refine cast (by kernel_rfl) (?_ :((decide (i<n)=true→((0:Int)≤i∧i <(↑l.length:Int))∧ByteArray.size (l.getD i.toNat (dflt Ty.str))≤(1000000:Nat)∧((!az (l.getD i.toNat (dflt Ty.str)))=true→True)∧((!az (l.getD i.toNat (dflt Ty.str)))=false→vD (n,IntKind.i64.wrap (i +(1:Int)),l,())∧IM (n,IntKind.i64.wrap (i +(1:Int)),l,())<IM (n,i,l,())))∧(decide (i<n)=false→True))∧(bif decide (i<n) then bif !az (l.getD i.toNat (dflt Ty.str)) then Sum.inl ((4:Int),()) else jZ (n,IntKind.i64.wrap (i +(1:Int)),l,()) else Sum.inr ())=jZ (n,i,l,()))
 obtain ⟨⟨h1,h1b,h1c⟩,h2,h3⟩:=hi
 have h1:n =(l.length:Int):=h1
 have h1b:l.length≤1000000000:=h1b
 have h1c :∀ s∈l,s.size≤20100:=h1c
 have h2:0≤i:=h2
 have h3:i≤n:=h3
 by_cases h:i<n
 ·have e1:IntKind.i64.wrap (i+1)=i+1:=wrap64 (by omega) (by omega)
  have hd:l.drop i.toNat=l.getD i.toNat (dflt Ty.str)::l.drop (i+1).toNat:=aL h2 (by omega) _
  have hm:l.getD i.toNat (dflt Ty.str)∈l:=List.mem_of_mem_drop (i:=i.toNat) (by rw [hd];exact List.mem_cons_self)
  have hz:=h1c _ hm
  have key:jZ (n,i,l,())=bif !az (l.getD i.toNat (dflt Ty.str)) then .inl (4,()) else jZ (n,i+1,l,()):=by
   show (if (l.drop i.toNat).all az then _ else _)=_
   rw [hd,List.all_cons]
   cases az (l.getD i.toNat (dflt Ty.str)) <;> rfl
  rw [decide_eq_true h,e1,key]
  refine ⟨⟨fun _=>⟨⟨h2,by omega⟩,?_,fun _=>trivial,fun _=>⟨⟨⟨h1,h1b,h1c⟩,?_,?_⟩,?_⟩⟩,fun z=>Bool.noConfusion z⟩,rfl⟩
  ·exact Nat.le_trans hz (by decide)
  ·show 0≤i+1;omega
  ·show i+1≤n;omega
  ·show (n - (i+1)).toNat <(n - i).toNat;omega
 ·rw [decide_eq_false h]
  refine ⟨⟨fun z=>Bool.noConfusion z,fun _=>trivial⟩,?_⟩
  show _ =(if (l.drop i.toNat).all az then _ else _)
  rw [aF (l:=l) (by omega)]
  rfl
noncomputable def Nv:LoopSum:=ah lpWc jZ vD
noncomputable def MP:Nat:=rid (ao Tryz.f41 2)
theorem O1:LoopOKp Tryz.prog 0 Tryz.f41.ntmps (ao Tryz.f41 2) (ah lpWc jZ vD):=
 ax lpWc (an (.consU F2 rfl .nil) _) mixed (fun b hb S hS=>by cases hS) jZ vD IM (fun |⟨n,i,l,⟨⟩⟩,hi=>Qi n i l hi)
theorem ux (b:Mir.Book) (hb:BH b) :(evPat (aA [kH,sj] Tryz.f41) (find [(MN,Nt),(MO,Nu),(MP,Nv)]) Tryz.f41 qBk Lv (b,())).sat fun z_=>z_ =(JM (b,())).2:=by
 refine cast (by kernel_rfl) (?_:let r1:Bool:=!(true&&(List.drop (Int.toNat (0:Int)) b.3).all bj);let r2:Int:=(2:Int) *(0:Int);let r3:Int:=(20100:Int) *(0:Int);let r4:List ByteArray:= []++yJ (List.drop (Int.toNat (0:Int)) b.2);let r5:List Int:=cd b++[b.1];let r6:List ByteArray:=r4++Bq (List.drop (Int.toNat (0:Int)) b.3);let r7:Int:=(↑r6.length:Int);let r8:List Int:=r5++Az (List.drop (Int.toNat (0:Int)) b.2);let r9:Bool:=(r8++IX (List.drop (Int.toNat (0:Int)) b.3)).any gL;let r10:Bool:=isL (jZ (r7,(0:Int),r6,()));((cd b).length+[b.1].length) *(8:Nat)≤(70368744177664:Nat)∧((cY fun x=>none)∧((↑b.2.length:Int) =(↑b.2.length:Int)∧Od b.2)∧((0:Int)≤(0:Int)∧(0:Int)≤(↑b.2.length:Int))∧(↑r5.length:Int)≤r2 +(100:Int)∧(↑(0:Nat):Int)≤r3)∧((cY fun x=>none)∧((↑b.3.length:Int) =(↑b.3.length:Int)∧Oe b.3)∧((0:Int)≤(0:Int)∧(0:Int)≤(↑b.3.length:Int))∧(↑r8.length:Int)≤r2 +(40100:Int)∧(↑r4.length:Int)≤r3 +(402000000:Int))∧(r9=true→((2:Int),()) =(cw b,()))∧(r9=false→(r1=true→((3:Int),()) =(cw b,()))∧(r1=false→((cY fun x=>none)∧(r7 =(↑r6.length:Int)∧r6.length≤(1000000000:Nat)∧∀ (s:ByteArray),s∈r6→s.size≤(20100:Nat))∧(0:Int)≤(0:Int)∧(0:Int)≤r7)∧(r10=true→gz (dflt (I.prod Ty.unit)) (jZ (r7,(0:Int),r6,())) =(cw b,()))∧(r10=false→((0:Int),()) =(cw b,())))))
 intro r1 r2 r3 r4 r5 r6 r7 r8 r9 r10
 clear_value (hr1:r1=_) (hr2:r2=_) (hr3:r3=_) (hr4:r4=_) (hr5:r5=_) (hr6:r6=_) (hr7:r7=_) (hr8:r8=_) (hr9:r9=_) (hr10:r10=_)
 obtain ⟨⟨b1,b2⟩,b3,b4⟩:=hb
 have e0:List.drop (Int.toNat 0) b.Boxes=b.Boxes:=rfl
 have e0':List.drop (Int.toNat 0) b.Strips=b.Strips:=rfl
 have d1:r1=!b.Strips.all bj:=by rw [hr1];rfl
 have d4:r4=yJ b.Boxes:=by rw [hr4];rfl
 have d5:r5=cd b++[b.Side]:=hr5
 have d6:r6=Dn b:=by rw [hr6,d4];rfl
 have d9:r9=!(BL b).all okI:=by
  rw [hr9,Ll,hr8,d5]
  congr 2
 have l5:r5.length=8:=by rw [d5];rfl
 have lx :(Az b.Boxes).length≤40000:=by
  have :∀ l:List Mir.Box,(Az l).length=2*l.length:=by
   intro l
   induction l with
   | nil=>rfl
   | cons x l ih=>unfold Az at *;rw [List.flatMap_cons,List.length_append,ih,List.length_cons];simp;omega
  rw [this];omega
 have ls :∀ (l:List Mir.Box),(∀ x∈l,a8 x.Symbols≤20100)→(yJ l).length≤20100*l.length:=by
  intro l
  induction l with
  | nil=>intro _;exact Nat.zero_le _
  | cons x l ih=>
   intro hl
   have h1:=hl x List.mem_cons_self
   have h2:=cu x.Symbols
   have h3:=ih fun y hy=>hl y (List.mem_cons_of_mem _ hy)
   unfold yJ at *
   rw [List.flatMap_cons,List.length_append,List.length_cons]
   omega
 have ly :∀ (l:List Mir.Strip),(∀ x∈l,a8 x.Symbols≤20100)→(Bq l).length≤20100*l.length:=by
  intro l
  induction l with
  | nil=>intro _;exact Nat.zero_le _
  | cons x l ih=>
   intro hl
   have h1:=hl x List.mem_cons_self
   have h2:=cu x.Symbols
   have h3:=ih fun y hy=>hl y (List.mem_cons_of_mem _ hy)
   unfold Bq at *
   rw [List.flatMap_cons,List.length_append,List.length_cons]
   omega
 have l4:=ls b.Boxes b3
 have l6':=ly b.Strips b4
 have l6:r6.length≤1000000000:=by
  rw [d6]
  unfold Dn
  rw [List.length_append]
  have e1 :(b.Boxes.flatMap (·.Symbols)).length =(yJ b.Boxes).length:=rfl
  have e2 :(b.Strips.flatMap (·.Symbols)).length =(Bq b.Strips).length:=rfl
  omega
 have m6 :∀ s∈r6,s.size≤20100:=fun s hs=>by
  rw [d6] at hs
  unfold Dn at hs
  rcases List.mem_append.1 hs with hs|hs
  ·obtain ⟨x,hx,hs⟩:=List.mem_flatMap.1 hs
   have:=oN hs
   have:=b3 x hx
   omega
  ·obtain ⟨x,hx,hs⟩:=List.mem_flatMap.1 hs
   have:=oN hs
   have:=b4 x hx
   omega
 have key:jZ (r7,0,r6,())=if r6.all az then .inr () else .inl (4,()):=rfl
 have hW:cw b=if r9=false then (if r1=false then (if r6.all az then 0 else 4) else 3) else 2:=by
  unfold cw
  rw [d9,d1,d6]
  cases (BL b).all okI <;> cases b.Strips.all bj <;> rfl
 rw [key] at hr10 ⊢
 rw [hW]
 have hsum :(cd b).length=7:=rfl
 refine ⟨by rw [hsum,List.length_singleton];decide,⟨rfl,⟨rfl,b1,b3⟩,⟨Int.le_refl _,by omega⟩,by omega,by omega⟩,⟨rfl,⟨rfl,b2,b4⟩,⟨Int.le_refl _,by omega⟩,?_,?_⟩,fun h9=>?_,fun h9=>⟨fun h1=>?_,fun h1=>⟨⟨rfl,⟨hr7,l6,m6⟩,Int.le_refl _,by omega⟩,fun h10=>?_,fun h10=>?_⟩⟩⟩
 ·rw [hr8,List.length_append,e0];omega
 ·rw [d4];omega
 ·rw [h9];rfl
 ·rw [h9,h1];rfl
 ·cases ha:r6.all az with
  | true=>rw [hr10,ha] at h10;exact Bool.noConfusion h10
  | false=>rw [h9,h1];rfl
 ·cases ha:r6.all az with
  | true=>rw [h9,h1];rfl
  | false=>rw [hr10,ha] at h10;exact Bool.noConfusion h10
def qk:FuncId×Ctr:=(41,ag KE qBk Lv JM)
theorem yb:CtrOK Tryz.prog KE 41 (ag KE qBk Lv JM):=by
 refine aZ (C:=aA [kH,sj] Tryz.f41) (an (.consU qp rfl (.consU AG rfl .nil)) _) mixed (fn:=Tryz.f41) Tryz.func41 (by kernel_rfl) (by kernel_rfl) (by kernel_rfl) (by kernel_rfl) (by kernel_rfl) (by kernel_rfl) (Λ:=fun x=>find [(MN,Nt),(MO,Nu),(MP,Nv)]) ?_ ?_
 ·rintro ⟨b,⟨⟩⟩ hw hn
  exact LoopsOKp.at (by kernel_rfl) (.cons (by kernel_rfl) (OZ) (.cons (by kernel_rfl) (O0) (.cons (by kernel_rfl) (O1) .nil)))
 ·rintro ⟨b,⟨⟩⟩ hw hn
  exact ux b (hn _ List.mem_cons_self)
end Go.Proofs.YtffdpnmioidloaaGreatDoor
namespace Go.Proofs.YtffdpnmioidloaaGreatDoor
open Go Go.Mir Go.RowKit
attribute [local irreducible] Go.Mir.DT.sat Go.Mir.evPat Go.Mir.RT.sat Go.Mir.evFn
abbrev CP:Pat:=dG [.str,I]
def wA:Den (tyP qBk)→List Prop×Den (tyP CP):=fun x=>([BH x.1],((aR x.1).1,(aR x.1).2,()))
def ov (ws:List ByteArray):Prop:=(iV ws spV).size≤20300∧ws.length≤20300
abbrev ui:List (Nat×PB):= [(0,.dat (.nm .Book))]
abbrev qT0:Pat:=⟨[(1,.c (.ptr 0 0)),(5,.h .str),(23,.h Bxs),(24,.h I),(25,.h I)],ui,1⟩
abbrev xT0:List (Lf×Pat):= [(.ext 0,⟨[(1,.c (.ptr 0 0)),(5,.h .str)],ui,1⟩)]
abbrev TT0:Type:=ByteArray×List Mir.Box×Int×Int×Mir.Book×Unit
def lC (l:List Mir.Box) (o:ByteArray):ByteArray:=l.foldl (fun o x=>o++lnB (bK x)) o
def tT (l:List Mir.Strip) (o:ByteArray):ByteArray:=l.foldl (fun o x=>o++lnB (aP x)) o
def nj:TT0→ByteArray×Mir.Book×Unit
 |(o,l,_,i,b,_)=>(lC (l.drop i.toNat) o,b,())
def Eh (l:List Mir.Box):Prop:=l.length≤20000∧∀ x∈l,ov (bK x)
def Ei (l:List Mir.Strip):Prop:=l.length≤20000∧∀ x∈l,ov (aP x)
def vy:TT0→Prop
 |(o,l,n,i,_,_)=>(n =(l.length:Int)∧Eh l)∧(0≤i∧i≤n)∧(o.size:Int)≤20301 *(i+1)
def IH:TT0→Nat
 |(_,_,n,i,_)=>(n - i).toNat
abbrev qT1:Pat:=⟨[(5,.h .str),(41,.h Sts),(42,.h I),(43,.h I)],[],0⟩
abbrev xT1:List (Lf×Pat):= [(.ext 2,⟨[(5,.h .str)],[],0⟩)]
abbrev TT1:Type:=ByteArray×List Mir.Strip×Int×Int×Unit
def mf:TT1→ByteArray×Unit
 |(o,l,_,i,_)=>(tT (l.drop i.toNat) o,())
def vz:TT1→Prop
 |(o,l,n,i,_)=>(n =(l.length:Int)∧Ei l)∧(0≤i∧i≤n)∧(o.size:Int)≤20301 *(i+20001)
def II:TT1→Nat
 |(_,_,n,i,_)=>(n - i).toNat
theorem wJ :∀ l:List (List UInt8),(Lib.joinTail [32] l).length =(l.map fun s=>s.length+1).sum
 | []=>rfl
 | w::l=>by
  have ih:=wJ l
  unfold Lib.joinTail at *
  simp only [List.map_cons,List.flatten_cons,List.length_append,List.length_cons,List.length_nil,List.sum_cons] at *
  omega
theorem Cn (l:List (List UInt8)) :(Lib.join l [32]).length≤(l.map fun s=>s.length+1).sum:=by
 cases l with
 | nil=>rw [Lib.join_nil];exact Nat.zero_le _
 | cons w l=>
  have h:=wJ l
  rw [Lib.join_cons]
  simp only [List.length_append,List.map_cons,List.sum_cons]
  omega
theorem il (l:List ByteArray) :(iV l spV).size≤a8 l:=by
 have h:=Cn (l.map fun s=>s.data.toList)
 have e :(iV l spV).size =(Lib.join (l.map fun s=>s.data.toList) [32]).length:=rfl
 have e2 :((l.map fun s=>s.data.toList).map fun s=>s.length+1).sum=a8 l:=by
  unfold a8
  rw [List.map_map]
  congr 1
 omega
theorem JO (a b:List ByteArray):a8 (a++b)=a8 a+a8 b:=by unfold a8;rw [List.map_append,List.sum_append]
theorem cm (a:ByteArray) (b:List ByteArray):a8 (a::b)=a.size+1+a8 b:=by unfold a8;rw [List.map_cons,List.sum_cons]
theorem FO {b:Mir.Book} (h:Wr b):ov (cj b):=by
 have e:a8 (cj b)≤20300:=by
  unfold cj bT cd
  have z:=fun n hn=>cJ (h.hd n hn).1 (h.hd n hn).2
  unfold cd at z
  simp only [List.map_cons,List.map_nil,List.append_nil,cm]
  have h0:a8 []=0:=rfl
  have hb:bookV.size=4:=rfl
  have z1:=z b.Side (by simp)
  have z2:=z b.Total (by simp)
  have z3:=z b.Wickets (by simp)
  have z4:=z b.Extras.Wides (by simp)
  have z5:=z b.Extras.NoBalls (by simp)
  have z6:=z b.Extras.Byes (by simp)
  have z7:=z b.Extras.LegByes (by simp)
  have z8:=z b.Extras.Penalties (by simp)
  omega
 have:=il (cj b)
 have:=cu (cj b)
 exact ⟨by omega,by omega⟩
theorem GX {b:Mir.Book} (h:Wr b) {x:Mir.Box} (hx:x∈b.Boxes) (hz:a8 x.Symbols≤20100):ov (bK x):=by
 obtain ⟨h1,h2,_⟩:=h.bx x hx
 have e:a8 (bK x)≤20300:=by
  unfold bK bT
  have z1:=cJ h1.1 h1.2
  have z2:=cJ h2.1 h2.2
  simp only [List.map_cons,List.map_nil,List.cons_append,List.nil_append,cm]
  have hb:boxV.size=3:=rfl
  omega
 have:=il (bK x)
 have:=cu (bK x)
 exact ⟨by omega,by omega⟩
theorem Dm {b:Mir.Book} (h:Wr b) {x:Mir.Strip} (hx:x∈b.Strips) (hz:a8 x.Symbols≤20100):ov (aP x):=by
 obtain ⟨h1,h2,_⟩:=h.st x hx
 have e:a8 (aP x)≤20300:=by
  unfold aP bT
  have z1:=cJ h1.1 h1.2
  have z2:=cJ h2.1 h2.2
  have z3:=pJ x.How
  simp only [List.map_cons,List.map_nil,List.cons_append,List.nil_append,cm]
  have hb:stripV.size=5:=rfl
  omega
 have:=il (aP x)
 have:=cu (aP x)
 exact ⟨by omega,by omega⟩
theorem jL {ws:List ByteArray} (h:ov ws) :(lnB ws).size≤20301:=by
 unfold lnB
 rw [ByteArray.size_append]
 have:nlV.size=1:=rfl
 have:=h.1
 omega
noncomputable def lpT0:Lp:=(⟨0,aA [qP] Tryz.f13,(fun _=>none),(ao Tryz.f13 0),qT0,xT0⟩:Lp)
theorem Qc (o:ByteArray) (l:List Mir.Box) (n:Int) (i:Int) (b:Mir.Book) (hi:vy (o,l,n,i,b,())) :(Go.Mir.stepG lpT0 nj (fun y:Den (tyP lpT0.q)=>vy y∧IH y<IH (o,l,n,i,b,())) (o,l,n,i,b,())∧Go.Mir.stepE lpT0 nj (o,l,n,i,b,())=nj (o,l,n,i,b,())):=by
 refine cast (by kernel_rfl) (?_:let r1:ByteArray:=ByteArray.mk #[66,79,88];let r2:List Int:= [(l.getD i.toNat (dflt (Ty.nm Nm.Box))).1,(l.getD i.toNat (dflt (Ty.nm Nm.Box))).2];let r3:ByteArray:=Ak r1 r2 (l.getD i.toNat (dflt (Ty.nm Nm.Box))).3;((decide (i<n)=true→((0:Int)≤i∧i <(↑l.length:Int))∧sI r1 r2 (l.getD i.toNat (dflt (Ty.nm Nm.Box))).3∧o.size+r3.size≤au∧vy (o++r3,l,n,IntKind.i64.wrap (i +(1:Int)),b,())∧IH (o++r3,l,n,IntKind.i64.wrap (i +(1:Int)),b,())<IH (o,l,n,i,b,()))∧(decide (i<n)=false→True))∧(bif decide (i<n) then nj (o++r3,l,n,IntKind.i64.wrap (i +(1:Int)),b,()) else (o,b,()))=nj (o,l,n,i,b,()))
 intro r1 r2 r3
 clear_value (hr1:r1=_) (hr2:r2=_) (hr3:r3=_)
 obtain ⟨⟨h1,h1b⟩,⟨h2,h3⟩,h4⟩:=hi
 have h1:n =(l.length:Int):=h1
 have h1b:Eh l:=h1b
 have h2:0≤i:=h2
 have h3:i≤n:=h3
 have h4 :(o.size:Int)≤20301 *(i+1):=h4
 have hf:=h1b.1
 have hL :(900000000:Nat)≤au:=by decide
 by_cases h:i<n
 ·have e1:IntKind.i64.wrap (i+1)=i+1:=wrap64 (by omega) (by omega)
  have hd:l.drop i.toNat=l.getD i.toNat (dflt (Ty.nm Nm.Box))::l.drop (i+1).toNat:=aL h2 (by omega) _
  have hm:l.getD i.toNat (dflt (Ty.nm Nm.Box))∈l:=List.mem_of_mem_drop (i:=i.toNat) (by rw [hd];exact List.mem_cons_self)
  have hz:=h1b.2 _ hm
  generalize l.getD i.toNat (dflt (Ty.nm Nm.Box))=x at *
  have e3:r3=lnB (bK x):=by rw [hr3,hr2,hr1];rfl
  have hs:=jL hz
  have hn:sI r1 r2 x.Symbols:=by
   have hw:bT r1 r2 x.Symbols=bK x:=by rw [hr2,hr1];rfl
   have hl :(bK x).length=x.Symbols.length+3:=by unfold bK bT;simp
   refine ⟨?_,?_,?_⟩
   ·rw [hw];exact Nat.le_trans hz.1 (by decide)
   ·rw [hr2];show 2≤1000000;omega
   ·have:=hz.2;omega
  have key:nj (o,l,n,i,b,())=nj (o++r3,l,n,i+1,b,()):=by
   show (lC (l.drop i.toNat) o,b,()) =(lC (l.drop (i+1).toNat) (o++r3),b,())
   rw [hd,e3]
   rfl
  rw [←e3] at hs
  rw [decide_eq_true h,e1,key]
  refine ⟨⟨fun _=>⟨⟨h2,by omega⟩,hn,by omega,⟨⟨h1,h1b⟩,⟨?_,?_⟩,?_⟩,?_⟩,fun z=>Bool.noConfusion z⟩,rfl⟩
  ·show 0≤i+1;omega
  ·show i+1≤n;omega
  ·show ((o++r3).size:Int)≤20301 *(i+1+1)
   rw [ByteArray.size_append];omega
  ·show (n - (i+1)).toNat <(n - i).toNat;omega
 ·rw [decide_eq_false h]
  refine ⟨⟨fun z=>Bool.noConfusion z,fun _=>trivial⟩,?_⟩
  show _ =(lC (l.drop i.toNat) o,b,())
  rw [aF (l:=l) (by omega)]
  rfl
noncomputable def Np:LoopSum:=ah lpT0 nj vy
noncomputable def MJ:Nat:=rid (ao Tryz.f13 0)
theorem OV:LoopOKp Tryz.prog 0 Tryz.f13.ntmps (ao Tryz.f13 0) (ah lpT0 nj vy):=
 ax lpT0 (an (.consU sM rfl .nil) _) mixed (fun b hb S hS=>by cases hS) nj vy IH (fun |⟨o,l,n,i,b,⟨⟩⟩,hi=>Qc o l n i b hi)
noncomputable def lpT1:Lp:=(⟨0,aA [qP,k25,mD] Tryz.f13,(fun _=>none),(ao Tryz.f13 1),qT1,xT1⟩:Lp)
theorem Qd (o:ByteArray) (l:List Mir.Strip) (n:Int) (i:Int) (hi:vz (o,l,n,i,())) :(Go.Mir.stepG lpT1 mf (fun y:Den (tyP lpT1.q)=>vz y∧II y<II (o,l,n,i,())) (o,l,n,i,())∧Go.Mir.stepE lpT1 mf (o,l,n,i,())=mf (o,l,n,i,())):=by
 refine cast (by kernel_rfl) (?_:let r1:List Int:= [(l.getD i.toNat (dflt (Ty.nm Nm.Strip))).1];let r2:List ByteArray:= [(ofW (l.getD i.toNat (dflt (Ty.nm Nm.Strip))).3).2,aQ (l.getD i.toNat (dflt (Ty.nm Nm.Strip))).4];let r3:ByteArray:=ByteArray.mk #[83,84,82,73,80];let r4:List ByteArray:=r2 ++(l.getD i.toNat (dflt (Ty.nm Nm.Strip))).2;let r5:ByteArray:=Ak r3 r1 r4;((decide (i<n)=true→((0:Int)≤i∧i <(↑l.length:Int))∧(r2.length +(l.getD i.toNat (dflt (Ty.nm Nm.Strip))).2.length) *(16:Nat)≤(70368744177664:Nat)∧sI r3 r1 r4∧o.size+r5.size≤au∧vz (o++r5,l,n,IntKind.i64.wrap (i +(1:Int)),())∧II (o++r5,l,n,IntKind.i64.wrap (i +(1:Int)),())<II (o,l,n,i,()))∧(decide (i<n)=false→True))∧(bif decide (i<n) then mf (o++r5,l,n,IntKind.i64.wrap (i +(1:Int)),()) else (o,()))=mf (o,l,n,i,()))
 intro r1 r2 r3 r4 r5
 clear_value (hr1:r1=_) (hr2:r2=_) (hr3:r3=_) (hr4:r4=_) (hr5:r5=_)
 obtain ⟨⟨h1,h1b⟩,⟨h2,h3⟩,h4⟩:=hi
 have h1:n =(l.length:Int):=h1
 have h1b:Ei l:=h1b
 have h2:0≤i:=h2
 have h3:i≤n:=h3
 have h4 :(o.size:Int)≤20301 *(i+20001):=h4
 have hf:=h1b.1
 have hL :(900000000:Nat)≤au:=by decide
 by_cases h:i<n
 ·have e1:IntKind.i64.wrap (i+1)=i+1:=wrap64 (by omega) (by omega)
  have hd:l.drop i.toNat=l.getD i.toNat (dflt (Ty.nm Nm.Strip))::l.drop (i+1).toNat:=aL h2 (by omega) _
  have hm:l.getD i.toNat (dflt (Ty.nm Nm.Strip))∈l:=List.mem_of_mem_drop (i:=i.toNat) (by rw [hd];exact List.mem_cons_self)
  have hz:=h1b.2 _ hm
  generalize l.getD i.toNat (dflt (Ty.nm Nm.Strip))=x at *
  have hw:bT r3 r1 r4=aP x:=by rw [hr4,hr3,hr2,hr1];rfl
  have e5:r5=lnB (aP x):=by rw [hr5,←hw];rfl
  have hs:=jL hz
  have hl :(aP x).length=x.Symbols.length+4:=by unfold aP bT;simp
  have h42:r4.length=x.Symbols.length+2:=by rw [hr4,hr2,List.length_append];show 2+x.Symbols.length=_;omega
  have hr:r2.length=2:=by rw [hr2];rfl
  have hz2:=hz.2
  have hn:sI r3 r1 r4:=by
   refine ⟨?_,?_,?_⟩
   ·rw [hw];exact Nat.le_trans hz.1 (by decide)
   ·rw [hr1];show 1≤1000000;omega
   ·omega
  have key:mf (o,l,n,i,())=mf (o++r5,l,n,i+1,()):=by
   show (tT (l.drop i.toNat) o,()) =(tT (l.drop (i+1).toNat) (o++r5),())
   rw [hd,e5]
   rfl
  rw [←e5] at hs
  rw [decide_eq_true h,e1,key]
  refine ⟨⟨fun _=>⟨⟨h2,by omega⟩,?_,hn,by omega,⟨⟨h1,h1b⟩,⟨?_,?_⟩,?_⟩,?_⟩,fun z=>Bool.noConfusion z⟩,rfl⟩
  ·show (r2.length+x.Symbols.length)*16≤70368744177664;omega
  ·show 0≤i+1;omega
  ·show i+1≤n;omega
  ·show ((o++r5).size:Int)≤20301 *(i+1+20001)
   rw [ByteArray.size_append];omega
  ·show (n - (i+1)).toNat <(n - i).toNat;omega
 ·rw [decide_eq_false h]
  refine ⟨⟨fun z=>Bool.noConfusion z,fun _=>trivial⟩,?_⟩
  show _ =(tT (l.drop i.toNat) o,())
  rw [aF (l:=l) (by omega)]
  rfl
noncomputable def Nq:LoopSum:=ah lpT1 mf vz
noncomputable def MK:Nat:=rid (ao Tryz.f13 1)
theorem OW:LoopOKp Tryz.prog 0 Tryz.f13.ntmps (ao Tryz.f13 1) (ah lpT1 mf vz):=
 ax lpT1 (an (.consU sM rfl (.consU Rj rfl (.consU nQ rfl .nil))) _) mixed (fun b hb S hS=>by cases hS) mf vz II (fun |⟨o,l,n,i,⟨⟩⟩,hi=>Qd o l n i hi)
theorem oT :∀ (l:List Mir.Box) (o:ByteArray),(∀ x∈l,ov (bK x))→(lC l o).size≤o.size+20301*l.length
 | [],o,_=>by show o.size≤_;omega
 | x::l,o,h=>by
  have h1:=jL (h x List.mem_cons_self)
  have ih:=oT l (o++lnB (bK x)) fun y hy=>h y (List.mem_cons_of_mem _ hy)
  show (lC l (o++lnB (bK x))).size≤_
  rw [ByteArray.size_append] at ih
  rw [List.length_cons]
  omega
theorem Bs (b:Mir.Book):fE b=tT b.Strips (lC b.Boxes (lnB (cj b))):=rfl
theorem EU {b:Mir.Book} (h:cw b=0):aR b =(fE b,0):=by unfold aR;rw [if_pos h]
theorem ET {b:Mir.Book} (h:cw b≠0):aR b =(⟨#[]⟩,cw b):=by unfold aR;rw [if_neg h]
theorem Gk (b:Mir.Book) (hb:BH b) :(evPat (aA [qk,kH,qP] Tryz.f13) (find [(MJ,Np),(MK,Nq)]) Tryz.f13 qBk CP (b,())).sat fun z_=>z_ =(wA (b,())).2:=by
 refine cast (by kernel_rfl) (?_:let r1:ByteArray:=ByteArray.mk #[66,79,79,75];let r2:List Int:= [b.1]++cd b;let r3:ByteArray:=Ak r1 r2 [];let r4:ByteArray:=lC (List.drop (Int.toNat (0:Int)) b.2) r3;BH b∧((cw b !=(0:Int))=true→(ByteArray.mk #[],cw b,()) =((aR b).1,(aR b).2,()))∧((cw b !=(0:Int))=false→([b.1].length +(cd b).length) *(8:Nat)≤(70368744177664:Nat)∧sI r1 r2 []∧((cY fun x=>none)∧((↑b.2.length:Int) =(↑b.2.length:Int)∧Eh b.2)∧((0:Int)≤(0:Int)∧(0:Int)≤(↑b.2.length:Int))∧(↑r3.size:Int)≤(20301:Int) *((0:Int) +(1:Int)))∧((cY fun x=>none)∧((↑b.3.length:Int) =(↑b.3.length:Int)∧Ei b.3)∧((0:Int)≤(0:Int)∧(0:Int)≤(↑b.3.length:Int))∧(↑r4.size:Int)≤(20301:Int) *((0:Int) +(20001:Int)))∧(tT (List.drop (Int.toNat (0:Int)) b.3) r4,(0:Int),()) =((aR b).1,(aR b).2,())))
 intro r1 r2 r3 r4
 clear_value (hr1:r1=_) (hr2:r2=_) (hr3:r3=_) (hr4:r4=_)
 have hb':=hb
 obtain ⟨⟨b1,b2⟩,b3,b4⟩:=hb'
 have e0:List.drop (Int.toNat 0) b.Boxes=b.Boxes:=rfl
 have e0':List.drop (Int.toNat 0) b.Strips=b.Strips:=rfl
 have hsum :(cd b).length=7:=rfl
 have e3:r3=lnB (cj b):=by rw [hr3,hr2,hr1];rfl
 rw [e0'] at *
 refine ⟨hb,fun h=>?_,fun h=>?_⟩
 ·have h:cw b≠0:=by simpa using h
  rw [ET h]
 ·have h:cw b=0:=by simpa using h
  have hw:=E6 h
  have lx:Eh b.Boxes:=⟨b1,fun x hx=>GX hw hx (b3 x hx)⟩
  have ly:Ei b.Strips:=⟨b2,fun x hx=>Dm hw hx (b4 x hx)⟩
  have hh:=FO hw
  have hs:=jL hh
  have e4:r4=lC b.Boxes (lnB (cj b)):=by rw [hr4,e3];rfl
  have h4:=oT b.Boxes (lnB (cj b)) lx.2
  rw [←e4] at h4
  rw [←e3] at hs h4
  have hw1:bT r1 r2 []=cj b:=by rw [hr2,hr1];rfl
  refine ⟨by rw [hsum,List.length_singleton];decide,⟨?_,?_,?_⟩,⟨rfl,⟨rfl,lx⟩,⟨Int.le_refl _,by omega⟩,by omega⟩,⟨rfl,⟨rfl,ly⟩,⟨Int.le_refl _,by omega⟩,by omega⟩,?_⟩
  ·rw [hw1];exact Nat.le_trans hh.1 (by decide)
  ·rw [hr2];show 8≤1000000;omega
  ·show 0≤1000000;omega
  ·rw [EU h,Bs,e4]
def KU:FuncId×Ctr:=(13,ag KE qBk CP wA)
theorem I9:CtrOK Tryz.prog KE 13 (ag KE qBk CP wA):=by
 refine aZ (C:=aA [qk,kH,qP] Tryz.f13) (an (.consU yb rfl (.consU qp rfl (.consU sM rfl .nil))) _) mixed (fn:=Tryz.f13) Tryz.func13 (by kernel_rfl) (by kernel_rfl) (by kernel_rfl) (by kernel_rfl) (by kernel_rfl) (by kernel_rfl) (Λ:=fun x=>find [(MJ,Np),(MK,Nq)]) ?_ ?_
 ·rintro ⟨b,⟨⟩⟩ hw hn
  exact LoopsOKp.at (by kernel_rfl) (.cons (by kernel_rfl) (OV) (.cons (by kernel_rfl) (OW) .nil))
 ·rintro ⟨b,⟨⟩⟩ hw hn
  exact Gk b (hn _ List.mem_cons_self)
end Go.Proofs.YtffdpnmioidloaaGreatDoor
namespace Go.Proofs.YtffdpnmioidloaaGreatDoor
open Go Go.Mir Go.RowKit
attribute [local irreducible] Go.Mir.DT.sat Go.Mir.evPat Go.Mir.RT.sat Go.Mir.evFn
def okB (x:Mir.Box):Bool:= [x.Over,x.Bowler].all okI
def okT (x:Mir.Strip):Bool:= [x.Player,x.Bowler].all okI
def fj (l:List ByteArray) (o:ByteArray):ByteArray:=l.foldl (fun o x=>o ++(spV++x)) o
abbrev ns:Type:=ByteArray×Int×Unit
abbrev xRt:Lf×Pat:=(.ret,⟨[(2,.h .str),(3,.h I)],[],0⟩)
abbrev pBk:Pat:=⟨[(1,.c (.ptr 0 0))],ui,1⟩
abbrev qH0:Pat:=⟨[(1,.c (.ptr 0 0)),(28,.h Bxs),(29,.h I),(30,.h I)],ui,1⟩
abbrev xH0:List (Lf×Pat):= [(.ext 0,pBk),xRt]
abbrev TH0:Type:=List Mir.Box×Int×Int×Mir.Book×Unit
def iX:TH0→Sum (Mir.Book×Unit) ns
 |(l,_,i,b,_)=>if (l.drop i.toNat).all okB then .inl (b,()) else .inr (⟨#[]⟩,2,())
def ve:TH0→Prop
 |(l,n,i,_)=>(n =(l.length:Int)∧l.length≤20000)∧0≤i∧i≤n
def Ip:TH0→Nat
 |(_,n,i,_)=>(n - i).toNat
abbrev qH1:Pat:=⟨[(1,.c (.ptr 0 0)),(43,.h Sts),(44,.h I),(45,.h I)],ui,1⟩
abbrev xH1:List (Lf×Pat):= [(.ext 2,pBk),xRt]
abbrev TH1:Type:=List Mir.Strip×Int×Int×Mir.Book×Unit
def iY:TH1→Sum (Mir.Book×Unit) ns
 |(l,_,i,b,_)=>if (l.drop i.toNat).all okT then .inl (b,()) else .inr (⟨#[]⟩,2,())
def lu:TH1→Prop
 |(l,n,i,_)=>(n =(l.length:Int)∧l.length≤20000)∧0≤i∧i≤n
def uq:TH1→Nat
 |(_,n,i,_)=>(n - i).toNat
abbrev qH2:Pat:=⟨[(1,.c (.ptr 0 0)),(58,.h Sts),(59,.h I),(60,.h I)],ui,1⟩
abbrev xH2:List (Lf×Pat):= [(.ext 4,pBk),xRt]
def iZ:TH1→Sum (Mir.Book×Unit) ns
 |(l,_,i,b,_)=>if (l.drop i.toNat).all bj then .inl (b,()) else .inr (⟨#[]⟩,3,())
abbrev qI3:Pat:=⟨[(1,.c (.ptr 0 0)),(10,.h .str),(79,.h Bxs),(80,.h I),(81,.h I),(95,.h (.slice .str)),(96,.h I),(97,.h I)],ui,1⟩
abbrev xI3:List (Lf×Pat):= [(.ext 8,⟨[(1,.c (.ptr 0 0)),(10,.h .str),(79,.h Bxs),(80,.h I),(81,.h I)],ui,1⟩),xRt]
abbrev TI3:Type:=ByteArray×List Mir.Box×Int×Int×List ByteArray×Int×Int×Mir.Book×Unit
def jc:TI3→Sum (ByteArray×List Mir.Box×Int×Int×Mir.Book×Unit) ns
 |(o,l,n,i,s,_,j,b,_)=>if (s.drop j.toNat).all az then .inl (fj (s.drop j.toNat) o,l,n,i,b,()) else .inr (⟨#[]⟩,4,())
def Q6 (o:ByteArray) (s:List ByteArray) (n j:Int):Prop:=(n =(s.length:Int)∧a8 s≤20100)∧(0≤j∧j≤n)∧o.size+a8 (s.drop j.toNat)≤900000000
def vh:TI3→Prop
 |(o,_,_,_,s,n,j,_)=>Q6 o s n j
def It:TI3→Nat
 |(_,_,_,_,_,n,j,_)=>(n - j).toNat
abbrev qI4:Pat:=⟨[(10,.h .str),(113,.h Sts),(114,.h I),(115,.h I),(137,.h (.slice .str)),(138,.h I),(139,.h I)],[],0⟩
abbrev xI4:List (Lf×Pat):= [(.ext 12,⟨[(10,.h .str),(113,.h Sts),(114,.h I),(115,.h I)],[],0⟩),xRt]
abbrev TI4:Type:=ByteArray×List Mir.Strip×Int×Int×List ByteArray×Int×Int×Unit
def jd:TI4→Sum (ByteArray×List Mir.Strip×Int×Int×Unit) ns
 |(o,l,n,i,s,_,j,_)=>if (s.drop j.toNat).all az then .inl (fj (s.drop j.toNat) o,l,n,i,()) else .inr (⟨#[]⟩,4,())
def vi:TI4→Prop
 |(o,_,_,_,s,n,j,_)=>Q6 o s n j
def Iu:TI4→Nat
 |(_,_,_,_,_,n,j,_)=>(n - j).toNat
def DR (l:List Mir.Box):Prop:=l.length≤20000∧∀ x∈l,okB x=true∧a8 x.Symbols≤20100
def DS (l:List Mir.Strip):Prop:=l.length≤20000∧∀ x∈l,okT x=true∧a8 x.Symbols≤20100
abbrev qH3:Pat:=⟨[(1,.c (.ptr 0 0)),(10,.h .str),(79,.h Bxs),(80,.h I),(81,.h I)],ui,1⟩
abbrev xH3:List (Lf×Pat):= [(.ext 6,⟨[(1,.c (.ptr 0 0)),(10,.h .str)],ui,1⟩),xRt]
abbrev TH3:Type:=ByteArray×List Mir.Box×Int×Int×Mir.Book×Unit
def fM (x:Mir.Box):Bool:=x.Symbols.all az
def fN (x:Mir.Strip):Bool:=x.Symbols.all az
def ja:TH3→Sum (ByteArray×Mir.Book×Unit) ns
 |(o,l,_,i,b,_)=>if (l.drop i.toNat).all fM then .inl (lC (l.drop i.toNat) o,b,()) else .inr (⟨#[]⟩,4,())
def vf:TH3→Prop
 |(o,l,n,i,_,_)=>(n =(l.length:Int)∧DR l)∧(0≤i∧i≤n)∧(o.size:Int)≤20301 *(i+1)
def Iq:TH3→Nat
 |(_,_,n,i,_)=>(n - i).toNat
abbrev qH4:Pat:=⟨[(10,.h .str),(113,.h Sts),(114,.h I),(115,.h I)],[],0⟩
abbrev xH4:List (Lf×Pat):= [(.ext 10,⟨[(10,.h .str)],[],0⟩),xRt]
abbrev TH4:Type:=ByteArray×List Mir.Strip×Int×Int×Unit
def jb:TH4→Sum (ByteArray×Unit) ns
 |(o,l,_,i,_)=>if (l.drop i.toNat).all fN then .inl (tT (l.drop i.toNat) o,()) else .inr (⟨#[]⟩,4,())
def vg:TH4→Prop
 |(o,l,n,i,_)=>(n =(l.length:Int)∧DS l)∧(0≤i∧i≤n)∧(o.size:Int)≤20301 *(i+20001)
def Ir:TH4→Nat
 |(_,_,n,i,_)=>(n - i).toNat
theorem gV (a:ByteArray) :∀ (l:List ByteArray) (b:ByteArray),fj l (a++b)=a++fj l b
 | [],b=>rfl
 | x::l,b=>by
  show fj l ((a++b) ++(spV++x))=a++fj l (b ++(spV++x))
  rw [ByteArray.append_assoc,gV a l]
theorem yV (k l:List ByteArray) (o:ByteArray):fj (k++l) o=fj l (fj k o):=List.foldl_append ..
theorem uE :∀ (l:List ByteArray) (o:ByteArray),(fj l o).size=o.size+a8 l
 | [],o=>rfl
 | x::l,o=>by
  have h:=uE l (o ++(spV++x))
  show (fj l (o ++(spV++x))).size=_
  have hs:spV.size=1:=rfl
  rw [h,ByteArray.size_append,ByteArray.size_append,cm]
  omega
theorem jN (l:List Int) (s:ByteArray):dL l s=fj (l.map aQ) s:=by
 unfold dL fj
 rw [List.foldl_map]
theorem Fh {a b:ByteArray} (h:a.data.toList=b.data.toList):a=b:=by
 cases a;cases b
 congr 1
 exact Array.toList_inj.1 h
theorem py (w:ByteArray) (l:List ByteArray):iV (w::l) spV=fj l w:=by
 apply Fh
 unfold fj
 rw [my]
 show Lib.join ((w::l).map fun s=>s.data.toList) [32]=_
 rw [List.map_cons,Lib.join_cons]
 congr 1
 unfold Lib.joinTail
 rw [List.map_map]
 congr 1
theorem qS (a:ByteArray):a ++(⟨#[]⟩:ByteArray)=a:=ByteArray.append_empty
theorem Kl (o:ByteArray) (x:Mir.Box):fj x.Symbols (o ++(boxV++dL [x.Over,x.Bowler] ⟨#[]⟩))++nlV=o++lnB (bK x):=by
 rw [jN,←gV,qS,gV,←yV,ByteArray.append_assoc,←py]
 rfl
theorem Gs (o:ByteArray) (x:Mir.Strip):fj x.Symbols (o ++((((stripV++dL [x.Player] ⟨#[]⟩)++spV)++cc x.How)++dL [x.Bowler] ⟨#[]⟩))++nlV=o++lnB (aP x):=by
 have e :(((stripV++dL [x.Player] ⟨#[]⟩)++spV)++cc x.How)++dL [x.Bowler] ⟨#[]⟩=fj [aQ x.Player,cc x.How,aQ x.Bowler] stripV:=by
  rw [jN,jN,←gV,←gV,qS,qS,ByteArray.append_assoc (c:=cc x.How)]
  rfl
 rw [e,gV,←yV,ByteArray.append_assoc,←py]
 rfl
theorem HI (b:Mir.Book) :(bookV++dL (b.Side::cd b) ⟨#[]⟩)++nlV=lnB (cj b):=by
 rw [jN,←gV,qS,←py]
 unfold cj bT lnB
 rw [List.append_nil]
theorem IZ {x:Mir.Box} (h:okB x=true) :(0≤x.Over∧x.Over≤1000000)∧0≤x.Bowler∧x.Bowler≤1000000:=by
 unfold okB at h
 rw [List.all_cons,List.all_cons,Bool.and_eq_true,Bool.and_eq_true] at h
 exact ⟨pM h.1,pM h.2.1⟩
theorem I2 {x:Mir.Strip} (h:okT x=true) :(0≤x.Player∧x.Player≤1000000)∧0≤x.Bowler∧x.Bowler≤1000000:=by
 unfold okT at h
 rw [List.all_cons,List.all_cons,Bool.and_eq_true,Bool.and_eq_true] at h
 exact ⟨pM h.1,pM h.2.1⟩
theorem AD {x:Mir.Box} (h:okB x=true) (hz:a8 x.Symbols≤20100):ov (bK x):=by
 obtain ⟨h1,h2⟩:=IZ h
 have e:a8 (bK x)≤20300:=by
  unfold bK bT
  have z1:=cJ h1.1 h1.2
  have z2:=cJ h2.1 h2.2
  simp only [List.map_cons,List.map_nil,List.cons_append,List.nil_append,cm]
  have hb:boxV.size=3:=rfl
  omega
 have:=il (bK x)
 have:=cu (bK x)
 exact ⟨by omega,by omega⟩
theorem I3 {x:Mir.Strip} (h:okT x=true) (hz:a8 x.Symbols≤20100):ov (aP x):=by
 obtain ⟨h1,h2⟩:=I2 h
 have e:a8 (aP x)≤20300:=by
  unfold aP bT
  have z1:=cJ h1.1 h1.2
  have z2:=cJ h2.1 h2.2
  have z3:=pJ x.How
  simp only [List.map_cons,List.map_nil,List.cons_append,List.nil_append,cm]
  have hb:stripV.size=5:=rfl
  omega
 have:=il (aP x)
 have:=cu (aP x)
 exact ⟨by omega,by omega⟩
theorem mH {l:List Int} (h :∀ n∈l,0≤n∧n≤1000000) :(dL l ⟨#[]⟩).size≤22*l.length:=by
 rw [jN,uE]
 have h0 :(⟨#[]⟩:ByteArray).size=0:=rfl
 rw [h0]
 have:a8 (l.map aQ)≤22*l.length:=by
  induction l with
  | nil=>exact Nat.zero_le _
  | cons n l ih=>
   have h1:=cJ (h n List.mem_cons_self).1 (h n List.mem_cons_self).2
   have h2:=ih fun m hm=>h m (List.mem_cons_of_mem _ hm)
   rw [List.map_cons,cm,List.length_cons]
   omega
 omega
theorem IY {a b:Int} (h1:0≤a∧a≤1000000) (h2:0≤b∧b≤1000000) :∀ n∈ [a,b],0≤n∧n≤1000000:=fun n hn=>by
 rcases List.mem_cons.1 hn with rfl|hn
 ·exact h1
 ·rcases List.mem_cons.1 hn with rfl|hn
  ·exact h2
  ·cases hn
theorem AB {a:Int} (h1:0≤a∧a≤1000000) :∀ n∈ [a],0≤n∧n≤1000000:=fun n hn=>by
 rcases List.mem_cons.1 hn with rfl|hn
 ·exact h1
 ·cases hn
noncomputable def lpH0:Lp:=(⟨0,aA [kI] Tryz.f14,(fun _=>none),(ao Tryz.f14 0),qH0,xH0⟩:Lp)
theorem PS (l:List Mir.Box) (n:Int) (i:Int) (b:Mir.Book) (hi:ve (l,n,i,b,())) :(Go.Mir.stepG lpH0 iX (fun y:Den (tyP lpH0.q)=>ve y∧Ip y<Ip (l,n,i,b,())) (l,n,i,b,())∧Go.Mir.stepE lpH0 iX (l,n,i,b,())=iX (l,n,i,b,())):=by
 refine cast (by kernel_rfl) (?_:let r1:List Int:= [(l.getD i.toNat (dflt (Ty.nm Nm.Box))).1,(l.getD i.toNat (dflt (Ty.nm Nm.Box))).2];let r2:Bool:=!r1.all okI;((decide (i<n)=true→((0:Int)≤i∧i <(↑l.length:Int))∧r1.length≤(1000000:Nat)∧(r2=true→True)∧(r2=false→ve (l,n,IntKind.i64.wrap (i +(1:Int)),b,())∧Ip (l,n,IntKind.i64.wrap (i +(1:Int)),b,())<Ip (l,n,i,b,())))∧(decide (i<n)=false→True))∧(bif decide (i<n) then bif r2 then Sum.inr (ByteArray.mk #[],(2:Int),()) else iX (l,n,IntKind.i64.wrap (i +(1:Int)),b,()) else Sum.inl (b,()))=iX (l,n,i,b,()))
 intro r1 r2
 clear_value (hr1:r1=_) (hr2:r2=_)
 obtain ⟨⟨h1,h1b⟩,h2,h3⟩:=hi
 have h1:n =(l.length:Int):=h1
 have h1b:l.length≤20000:=h1b
 have h2:0≤i:=h2
 have h3:i≤n:=h3
 by_cases h:i<n
 ·have e1:IntKind.i64.wrap (i+1)=i+1:=wrap64 (by omega) (by omega)
  have hd:l.drop i.toNat=l.getD i.toNat (dflt (Ty.nm Nm.Box))::l.drop (i+1).toNat:=aL h2 (by omega) _
  generalize l.getD i.toNat (dflt (Ty.nm Nm.Box))=x at *
  have er:r2=!okB x:=by rw [hr2,hr1];rfl
  have key:iX (l,n,i,b,())=bif r2 then .inr (⟨#[]⟩,2,()) else iX (l,n,i+1,b,()):=by
   show (if (l.drop i.toNat).all okB then _ else _)=_
   rw [hd,List.all_cons,er]
   cases okB x <;> rfl
  rw [decide_eq_true h,e1,key]
  refine ⟨⟨fun _=>⟨⟨h2,by omega⟩,by rw [hr1];show 2≤1000000;omega,fun _=>trivial,fun _=>⟨⟨⟨h1,h1b⟩,?_,?_⟩,?_⟩⟩,fun z=>Bool.noConfusion z⟩,rfl⟩
  ·show 0≤i+1;omega
  ·show i+1≤n;omega
  ·show (n - (i+1)).toNat <(n - i).toNat;omega
 ·rw [decide_eq_false h]
  refine ⟨⟨fun z=>Bool.noConfusion z,fun _=>trivial⟩,?_⟩
  show _ =(if (l.drop i.toNat).all okB then _ else _)
  rw [aF (l:=l) (by omega)]
  rfl
noncomputable def M6:LoopSum:=ah lpH0 iX ve
noncomputable def Ms:Nat:=rid (ao Tryz.f14 0)
theorem OB:LoopOKp Tryz.prog 0 Tryz.f14.ntmps (ao Tryz.f14 0) (ah lpH0 iX ve):=
 ax lpH0 (an (.consU l7 rfl .nil) _) mixed (fun b hb S hS=>by cases hS) iX ve Ip (fun |⟨l,n,i,b,⟨⟩⟩,hi=>PS l n i b hi)
noncomputable def lpH1:Lp:=(⟨0,aA [kI] Tryz.f14,(fun _=>none),(ao Tryz.f14 1),qH1,xH1⟩:Lp)
theorem PT (l:List Mir.Strip) (n:Int) (i:Int) (b:Mir.Book) (hi:lu (l,n,i,b,())) :(Go.Mir.stepG lpH1 iY (fun y:Den (tyP lpH1.q)=>lu y∧uq y<uq (l,n,i,b,())) (l,n,i,b,())∧Go.Mir.stepE lpH1 iY (l,n,i,b,())=iY (l,n,i,b,())):=by
 refine cast (by kernel_rfl) (?_:let r1:List Int:= [(l.getD i.toNat (dflt (Ty.nm Nm.Strip))).1,(l.getD i.toNat (dflt (Ty.nm Nm.Strip))).4];let r2:Bool:=!r1.all okI;((decide (i<n)=true→((0:Int)≤i∧i <(↑l.length:Int))∧r1.length≤(1000000:Nat)∧(r2=true→True)∧(r2=false→lu (l,n,IntKind.i64.wrap (i +(1:Int)),b,())∧uq (l,n,IntKind.i64.wrap (i +(1:Int)),b,())<uq (l,n,i,b,())))∧(decide (i<n)=false→True))∧(bif decide (i<n) then bif r2 then Sum.inr (ByteArray.mk #[],(2:Int),()) else iY (l,n,IntKind.i64.wrap (i +(1:Int)),b,()) else Sum.inl (b,()))=iY (l,n,i,b,()))
 intro r1 r2
 clear_value (hr1:r1=_) (hr2:r2=_)
 obtain ⟨⟨h1,h1b⟩,h2,h3⟩:=hi
 have h1:n =(l.length:Int):=h1
 have h1b:l.length≤20000:=h1b
 have h2:0≤i:=h2
 have h3:i≤n:=h3
 by_cases h:i<n
 ·have e1:IntKind.i64.wrap (i+1)=i+1:=wrap64 (by omega) (by omega)
  have hd:l.drop i.toNat=l.getD i.toNat (dflt (Ty.nm Nm.Strip))::l.drop (i+1).toNat:=aL h2 (by omega) _
  generalize l.getD i.toNat (dflt (Ty.nm Nm.Strip))=x at *
  have er:r2=!okT x:=by rw [hr2,hr1];rfl
  have key:iY (l,n,i,b,())=bif r2 then .inr (⟨#[]⟩,2,()) else iY (l,n,i+1,b,()):=by
   show (if (l.drop i.toNat).all okT then _ else _)=_
   rw [hd,List.all_cons,er]
   cases okT x <;> rfl
  rw [decide_eq_true h,e1,key]
  refine ⟨⟨fun _=>⟨⟨h2,by omega⟩,by rw [hr1];show 2≤1000000;omega,fun _=>trivial,fun _=>⟨⟨⟨h1,h1b⟩,?_,?_⟩,?_⟩⟩,fun z=>Bool.noConfusion z⟩,rfl⟩
  ·show 0≤i+1;omega
  ·show i+1≤n;omega
  ·show (n - (i+1)).toNat <(n - i).toNat;omega
 ·rw [decide_eq_false h]
  refine ⟨⟨fun z=>Bool.noConfusion z,fun _=>trivial⟩,?_⟩
  show _ =(if (l.drop i.toNat).all okT then _ else _)
  rw [aF (l:=l) (by omega)]
  rfl
noncomputable def M7:LoopSum:=ah lpH1 iY lu
noncomputable def Mt:Nat:=rid (ao Tryz.f14 1)
theorem OC:LoopOKp Tryz.prog 0 Tryz.f14.ntmps (ao Tryz.f14 1) (ah lpH1 iY lu):=
 ax lpH1 (an (.consU l7 rfl .nil) _) mixed (fun b hb S hS=>by cases hS) iY lu uq (fun |⟨l,n,i,b,⟨⟩⟩,hi=>PT l n i b hi)
noncomputable def lpH2:Lp:=(⟨0,aA [k26] Tryz.f14,(fun _=>none),(ao Tryz.f14 2),qH2,xH2⟩:Lp)
theorem PU (l:List Mir.Strip) (n:Int) (i:Int) (b:Mir.Book) (hi:lu (l,n,i,b,())) :(Go.Mir.stepG lpH2 iZ (fun y:Den (tyP lpH2.q)=>lu y∧uq y<uq (l,n,i,b,())) (l,n,i,b,())∧Go.Mir.stepE lpH2 iZ (l,n,i,b,())=iZ (l,n,i,b,())):=by
 refine cast (by kernel_rfl) (?_:let r1:Bool:=(cc (l.getD i.toNat (dflt (Ty.nm Nm.Strip))).3).toList ==(ByteArray.mk #[]).toList;((decide (i<n)=true→((0:Int)≤i∧i <(↑l.length:Int))∧(r1=true→True)∧(r1=false→lu (l,n,IntKind.i64.wrap (i +(1:Int)),b,())∧uq (l,n,IntKind.i64.wrap (i +(1:Int)),b,())<uq (l,n,i,b,())))∧(decide (i<n)=false→True))∧(bif decide (i<n) then bif r1 then Sum.inr (ByteArray.mk #[],(3:Int),()) else iZ (l,n,IntKind.i64.wrap (i +(1:Int)),b,()) else Sum.inl (b,()))=iZ (l,n,i,b,()))
 intro r1
 clear_value (hr1:r1=_)
 obtain ⟨⟨h1,h1b⟩,h2,h3⟩:=hi
 have h1:n =(l.length:Int):=h1
 have h1b:l.length≤20000:=h1b
 have h2:0≤i:=h2
 have h3:i≤n:=h3
 by_cases h:i<n
 ·have e1:IntKind.i64.wrap (i+1)=i+1:=wrap64 (by omega) (by omega)
  have hd:l.drop i.toNat=l.getD i.toNat (dflt (Ty.nm Nm.Strip))::l.drop (i+1).toNat:=aL h2 (by omega) _
  generalize l.getD i.toNat (dflt (Ty.nm Nm.Strip))=x at *
  have er:r1=!bj x:=by rw [hr1];unfold bj;rw [Bool.not_not]
  have key:iZ (l,n,i,b,())=bif r1 then .inr (⟨#[]⟩,3,()) else iZ (l,n,i+1,b,()):=by
   show (if (l.drop i.toNat).all bj then _ else _)=_
   rw [hd,List.all_cons,er]
   cases bj x <;> rfl
  rw [decide_eq_true h,e1,key]
  refine ⟨⟨fun _=>⟨⟨h2,by omega⟩,fun _=>trivial,fun _=>⟨⟨⟨h1,h1b⟩,?_,?_⟩,?_⟩⟩,fun z=>Bool.noConfusion z⟩,rfl⟩
  ·show 0≤i+1;omega
  ·show i+1≤n;omega
  ·show (n - (i+1)).toNat <(n - i).toNat;omega
 ·rw [decide_eq_false h]
  refine ⟨⟨fun z=>Bool.noConfusion z,fun _=>trivial⟩,?_⟩
  show _ =(if (l.drop i.toNat).all bj then _ else _)
  rw [aF (l:=l) (by omega)]
  rfl
noncomputable def M8:LoopSum:=ah lpH2 iZ lu
noncomputable def Mu:Nat:=rid (ao Tryz.f14 2)
theorem OD:LoopOKp Tryz.prog 0 Tryz.f14.ntmps (ao Tryz.f14 2) (ah lpH2 iZ lu):=
 ax lpH2 (an (.consU Pd rfl .nil) _) mixed (fun b hb S hS=>by cases hS) iZ lu uq (fun |⟨l,n,i,b,⟨⟩⟩,hi=>PU l n i b hi)
noncomputable def lpI3:Lp:=(⟨0,aA [fa] Tryz.f14,(fun _=>none),(pG Tryz.f14 3 0),qI3,xI3⟩:Lp)
theorem PX (o:ByteArray) (l:List Mir.Box) (n:Int) (i:Int) (s:List ByteArray) (m:Int) (j:Int) (b:Mir.Book) (hi:vh (o,l,n,i,s,m,j,b,())) :(Go.Mir.stepG lpI3 jc (fun y:Den (tyP lpI3.q)=>vh y∧It y<It (o,l,n,i,s,m,j,b,())) (o,l,n,i,s,m,j,b,())∧Go.Mir.stepE lpI3 jc (o,l,n,i,s,m,j,b,())=jc (o,l,n,i,s,m,j,b,())):=by
 refine cast (by kernel_rfl) (?_:let r1:ByteArray:=ByteArray.mk #[32]++s.getD j.toNat (dflt Ty.str);((decide (j<m)=true→((0:Int)≤j∧j <(↑s.length:Int))∧ByteArray.size (s.getD j.toNat (dflt Ty.str))≤(1000000:Nat)∧((!az (s.getD j.toNat (dflt Ty.str)))=true→True)∧((!az (s.getD j.toNat (dflt Ty.str)))=false→(ByteArray.mk #[32]).size+ByteArray.size (s.getD j.toNat (dflt Ty.str))≤au∧o.size+r1.size≤au∧vh (o++r1,l,n,i,s,m,IntKind.i64.wrap (j +(1:Int)),b,())∧It (o++r1,l,n,i,s,m,IntKind.i64.wrap (j +(1:Int)),b,())<It (o,l,n,i,s,m,j,b,())))∧(decide (j<m)=false→True))∧(bif decide (j<m) then bif !az (s.getD j.toNat (dflt Ty.str)) then Sum.inr (ByteArray.mk #[],(4:Int),()) else jc (o++r1,l,n,i,s,m,IntKind.i64.wrap (j +(1:Int)),b,()) else Sum.inl (o,l,n,i,b,()))=jc (o,l,n,i,s,m,j,b,()))
 intro r1
 clear_value (hr1:r1=_)
 obtain ⟨⟨h1,h1b⟩,⟨h2,h3⟩,h4⟩:=hi
 have h1:m =(s.length:Int):=h1
 have h1b:a8 s≤20100:=h1b
 have h2:0≤j:=h2
 have h3:j≤m:=h3
 have h4:o.size+a8 (s.drop j.toNat)≤900000000:=h4
 have hL :(1000000000:Nat)≤au:=by decide
 have hlen:=cu s
 by_cases h:j<m
 ·have e1:IntKind.i64.wrap (j+1)=j+1:=wrap64 (by omega) (by omega)
  have hd:s.drop j.toNat=s.getD j.toNat (dflt Ty.str)::s.drop (j+1).toNat:=aL h2 (by omega) _
  have hm:s.getD j.toNat (dflt Ty.str)∈s:=List.mem_of_mem_drop (i:=j.toNat) (by rw [hd];exact List.mem_cons_self)
  generalize s.getD j.toNat (dflt Ty.str)=x at *
  have hz:x.size+1≤a8 s:=oN hm
  have hc:=cm x (s.drop (j+1).toNat)
  rw [←hd] at hc
  have hsp :(ByteArray.mk #[(32:UInt8)]).size=1:=rfl
  have hr:r1.size=1+x.size:=by rw [hr1];exact ByteArray.size_append
  have key:jc (o,l,n,i,s,m,j,b,())=bif !az x then .inr (⟨#[]⟩,4,()) else jc (o++r1,l,n,i,s,m,j+1,b,()):=by
   show (if (s.drop j.toNat).all az then (Sum.inl (fj (s.drop j.toNat) o,l,n,i,b,()):Sum _ ns) else _)=_
   rw [hd,List.all_cons,hr1]
   cases az x <;> rfl
  rw [decide_eq_true h,e1,key]
  refine ⟨⟨fun _=>⟨⟨h2,by omega⟩,Nat.le_trans (Nat.le_of_succ_le hz) (Nat.le_trans h1b (by decide)),fun _=>trivial,fun _=>⟨?_,by omega,⟨⟨h1,h1b⟩,⟨?_,?_⟩,?_⟩,?_⟩⟩,fun z=>Bool.noConfusion z⟩,rfl⟩
  ·rw [hsp];show 1+x.size≤au;omega
  ·show 0≤j+1;omega
  ·show j+1≤m;omega
  ·show (o++r1).size+a8 (s.drop (j+1).toNat)≤900000000
   rw [ByteArray.size_append];omega
  ·show (m - (j+1)).toNat <(m - j).toNat;omega
 ·rw [decide_eq_false h]
  refine ⟨⟨fun z=>Bool.noConfusion z,fun _=>trivial⟩,?_⟩
  show _ =(if (s.drop j.toNat).all az then (Sum.inl (fj (s.drop j.toNat) o,l,n,i,b,()):Sum _ ns) else _)
  rw [aF (l:=s) (by omega)]
  rfl
noncomputable def RO:LoopSum:=ah lpI3 jc vh
noncomputable def Rz:Nat:=rid (pG Tryz.f14 3 0)
theorem OH:LoopOKp Tryz.prog 0 Tryz.f14.ntmps (pG Tryz.f14 3 0) (ah lpI3 jc vh):=
 ax lpI3 (an (.consU fy rfl .nil) _) mixed (fun b hb S hS=>by cases hS) jc vh It (fun |⟨o,l,n,i,s,m,j,b,⟨⟩⟩,hi=>PX o l n i s m j b hi)
noncomputable def lpI4:Lp:=(⟨0,aA [fa] Tryz.f14,(fun _=>none),(pG Tryz.f14 4 0),qI4,xI4⟩:Lp)
theorem PY (o:ByteArray) (l:List Mir.Strip) (n:Int) (i:Int) (s:List ByteArray) (m:Int) (j:Int) (hi:vi (o,l,n,i,s,m,j,())) :(Go.Mir.stepG lpI4 jd (fun y:Den (tyP lpI4.q)=>vi y∧Iu y<Iu (o,l,n,i,s,m,j,())) (o,l,n,i,s,m,j,())∧Go.Mir.stepE lpI4 jd (o,l,n,i,s,m,j,())=jd (o,l,n,i,s,m,j,())):=by
 refine cast (by kernel_rfl) (?_:let r1:ByteArray:=ByteArray.mk #[32]++s.getD j.toNat (dflt Ty.str);((decide (j<m)=true→((0:Int)≤j∧j <(↑s.length:Int))∧ByteArray.size (s.getD j.toNat (dflt Ty.str))≤(1000000:Nat)∧((!az (s.getD j.toNat (dflt Ty.str)))=true→True)∧((!az (s.getD j.toNat (dflt Ty.str)))=false→(ByteArray.mk #[32]).size+ByteArray.size (s.getD j.toNat (dflt Ty.str))≤au∧o.size+r1.size≤au∧vi (o++r1,l,n,i,s,m,IntKind.i64.wrap (j +(1:Int)),())∧Iu (o++r1,l,n,i,s,m,IntKind.i64.wrap (j +(1:Int)),())<Iu (o,l,n,i,s,m,j,())))∧(decide (j<m)=false→True))∧(bif decide (j<m) then bif !az (s.getD j.toNat (dflt Ty.str)) then Sum.inr (ByteArray.mk #[],(4:Int),()) else jd (o++r1,l,n,i,s,m,IntKind.i64.wrap (j +(1:Int)),()) else Sum.inl (o,l,n,i,()))=jd (o,l,n,i,s,m,j,()))
 intro r1
 clear_value (hr1:r1=_)
 obtain ⟨⟨h1,h1b⟩,⟨h2,h3⟩,h4⟩:=hi
 have h1:m =(s.length:Int):=h1
 have h1b:a8 s≤20100:=h1b
 have h2:0≤j:=h2
 have h3:j≤m:=h3
 have h4:o.size+a8 (s.drop j.toNat)≤900000000:=h4
 have hL :(1000000000:Nat)≤au:=by decide
 have hlen:=cu s
 by_cases h:j<m
 ·have e1:IntKind.i64.wrap (j+1)=j+1:=wrap64 (by omega) (by omega)
  have hd:s.drop j.toNat=s.getD j.toNat (dflt Ty.str)::s.drop (j+1).toNat:=aL h2 (by omega) _
  have hm:s.getD j.toNat (dflt Ty.str)∈s:=List.mem_of_mem_drop (i:=j.toNat) (by rw [hd];exact List.mem_cons_self)
  generalize s.getD j.toNat (dflt Ty.str)=x at *
  have hz:x.size+1≤a8 s:=oN hm
  have hc:=cm x (s.drop (j+1).toNat)
  rw [←hd] at hc
  have hsp :(ByteArray.mk #[(32:UInt8)]).size=1:=rfl
  have hr:r1.size=1+x.size:=by rw [hr1];exact ByteArray.size_append
  have key:jd (o,l,n,i,s,m,j,())=bif !az x then .inr (⟨#[]⟩,4,()) else jd (o++r1,l,n,i,s,m,j+1,()):=by
   show (if (s.drop j.toNat).all az then (Sum.inl (fj (s.drop j.toNat) o,l,n,i,()):Sum _ ns) else _)=_
   rw [hd,List.all_cons,hr1]
   cases az x <;> rfl
  rw [decide_eq_true h,e1,key]
  refine ⟨⟨fun _=>⟨⟨h2,by omega⟩,Nat.le_trans (Nat.le_of_succ_le hz) (Nat.le_trans h1b (by decide)),fun _=>trivial,fun _=>⟨?_,by omega,⟨⟨h1,h1b⟩,⟨?_,?_⟩,?_⟩,?_⟩⟩,fun z=>Bool.noConfusion z⟩,rfl⟩
  ·rw [hsp];show 1+x.size≤au;omega
  ·show 0≤j+1;omega
  ·show j+1≤m;omega
  ·show (o++r1).size+a8 (s.drop (j+1).toNat)≤900000000
   rw [ByteArray.size_append];omega
  ·show (m - (j+1)).toNat <(m - j).toNat;omega
 ·rw [decide_eq_false h]
  refine ⟨⟨fun z=>Bool.noConfusion z,fun _=>trivial⟩,?_⟩
  show _ =(if (s.drop j.toNat).all az then (Sum.inl (fj (s.drop j.toNat) o,l,n,i,()):Sum _ ns) else _)
  rw [aF (l:=s) (by omega)]
  rfl
noncomputable def RP:LoopSum:=ah lpI4 jd vi
noncomputable def RA:Nat:=rid (pG Tryz.f14 4 0)
theorem OI:LoopOKp Tryz.prog 0 Tryz.f14.ntmps (pG Tryz.f14 4 0) (ah lpI4 jd vi):=
 ax lpI4 (an (.consU fy rfl .nil) _) mixed (fun b hb S hS=>by cases hS) jd vi Iu (fun |⟨o,l,n,i,s,m,j,⟨⟩⟩,hi=>PY o l n i s m j hi)
noncomputable def lpH3:Lp:=(⟨0,aA [iW,fa] Tryz.f14,(find [(Rz,RO)]),(ao Tryz.f14 3),qH3,xH3⟩:Lp)
theorem PV (o:ByteArray) (l:List Mir.Box) (n:Int) (i:Int) (b:Mir.Book) (hi:vf (o,l,n,i,b,())) :(Go.Mir.stepG lpH3 ja (fun y:Den (tyP lpH3.q)=>vf y∧Iq y<Iq (o,l,n,i,b,())) (o,l,n,i,b,())∧Go.Mir.stepE lpH3 ja (o,l,n,i,b,())=ja (o,l,n,i,b,())):=by
 refine cast (by kernel_rfl) (?_:let r1:Int:=(↑(l.getD i.toNat (dflt (Ty.nm Nm.Box))).3.length:Int);let r2:ByteArray:=ByteArray.mk #[66,79,88];let r3:List Int:= [(l.getD i.toNat (dflt (Ty.nm Nm.Box))).1,(l.getD i.toNat (dflt (Ty.nm Nm.Box))).2];let r4:ByteArray:=dL r3 (ByteArray.mk #[]);let r5:ByteArray:=r2++r4;let r6:ByteArray:=o++r5;let r7:Bool:=isL (jc (r6,l,n,i,(l.getD i.toNat (dflt (Ty.nm Nm.Box))).3,r1,(0:Int),b,()));let r8:ByteArray×List Mir.Box×Int×Int×Mir.Book×PUnit:=gz (dflt (Ty.str.prod (Bxs.prod (I.prod (I.prod ((Ty.nm Nm.Book).prod Ty.unit)))))) (jc (r6,l,n,i,(l.getD i.toNat (dflt (Ty.nm Nm.Box))).3,r1,(0:Int),b,()));((decide (i<n)=true→((0:Int)≤i∧i <(↑l.length:Int))∧rb r3∧r2.size+r4.size≤au∧o.size+r5.size≤au∧((cY fun x=>none)∧(r1 =(↑(l.getD i.toNat (dflt (Ty.nm Nm.Box))).3.length:Int)∧a8 (l.getD i.toNat (dflt (Ty.nm Nm.Box))).3≤(20100:Nat))∧((0:Int)≤(0:Int)∧(0:Int)≤r1)∧r6.size+a8 (List.drop (Int.toNat (0:Int)) (l.getD i.toNat (dflt (Ty.nm Nm.Box))).3)≤(900000000:Nat))∧(r7=true→r8.1.size +(ByteArray.mk #[10]).size≤au∧vf (r8.1++ByteArray.mk #[10],r8.2.1,r8.2.2.1,IntKind.i64.wrap (r8.2.2.2.1 +(1:Int)),r8.2.2.2.2)∧Iq (r8.1++ByteArray.mk #[10],r8.2.1,r8.2.2.1,IntKind.i64.wrap (r8.2.2.2.1 +(1:Int)),r8.2.2.2.2)<Iq (o,l,n,i,b,()))∧(r7=false→True))∧(decide (i<n)=false→True))∧(bif decide (i<n) then bif r7 then ja (r8.1++ByteArray.mk #[10],r8.2.1,r8.2.2.1,IntKind.i64.wrap (r8.2.2.2.1 +(1:Int)),r8.2.2.2.2) else Sum.inr (gA (dflt (Ty.str.prod (I.prod Ty.unit))) (jc (r6,l,n,i,(l.getD i.toNat (dflt (Ty.nm Nm.Box))).3,r1,(0:Int),b,()))) else Sum.inl (o,b,()))=ja (o,l,n,i,b,()))
 intro r1 r2 r3 r4 r5 r6 r7 r8
 clear_value (hr1:r1=_) (hr2:r2=_) (hr3:r3=_) (hr4:r4=_) (hr5:r5=_) (hr6:r6=_) (hr7:r7=_) (hr8:r8=_)
 obtain ⟨⟨h1,h1b⟩,⟨h2,h3⟩,h4⟩:=hi
 have h1:n =(l.length:Int):=h1
 have h1b:DR l:=h1b
 have h2:0≤i:=h2
 have h3:i≤n:=h3
 have h4 :(o.size:Int)≤20301 *(i+1):=h4
 have hf:=h1b.1
 have hL :(1000000000:Nat)≤au:=by decide
 by_cases h:i<n
 ·have e1:IntKind.i64.wrap (i+1)=i+1:=wrap64 (by omega) (by omega)
  have hd:l.drop i.toNat=l.getD i.toNat (dflt (Ty.nm Nm.Box))::l.drop (i+1).toNat:=aL h2 (by omega) _
  have hm:l.getD i.toNat (dflt (Ty.nm Nm.Box))∈l:=List.mem_of_mem_drop (i:=i.toNat) (by rw [hd];exact List.mem_cons_self)
  generalize l.getD i.toNat (dflt (Ty.nm Nm.Box))=x at *
  obtain ⟨ho,hz⟩:=h1b.2 _ hm
  obtain ⟨n1,n2⟩:=IZ ho
  have hn2:=IY n1 n2
  have hs:=jL (AD ho hz)
  have z4:r4.size≤44:=by rw [hr4,hr3];exact mH hn2
  have z2:r2.size=3:=by rw [hr2];rfl
  have z5:r5.size=r2.size+r4.size:=by rw [hr5];exact ByteArray.size_append
  have z6:r6.size=o.size+r5.size:=by rw [hr6];exact ByteArray.size_append
  have z10 :(ByteArray.mk #[(10:UInt8)]).size=1:=rfl
  have e6:r6=o ++(boxV++dL [x.Over,x.Bowler] ⟨#[]⟩):=by rw [hr6,hr5,hr4,hr3,hr2];rfl
  have er:jc (r6,l,n,i,x.Symbols,r1,0,b,())=if x.Symbols.all az then .inl (fj x.Symbols r6,l,n,i,b,()) else .inr (⟨#[]⟩,4,()):=rfl
  have key:ja (o,l,n,i,b,())=if x.Symbols.all az then ja (o++lnB (bK x),l,n,i+1,b,()) else .inr (⟨#[]⟩,4,()):=by
   show (if (l.drop i.toNat).all fM then (Sum.inl (lC (l.drop i.toNat) o,b,()):Sum _ ns) else _)=_
   rw [hd,List.all_cons]
   have:fM x=x.Symbols.all az:=rfl
   rw [this]
   cases x.Symbols.all az <;> rfl
  have hb:rb r3:=by rw [hr3];exact ⟨by show 2≤1000;omega,hn2⟩
  have hE :(cY fun _=>none)∧(r1 =(x.Symbols.length:Int)∧a8 x.Symbols≤20100)∧((0:Int)≤0∧0≤r1)∧r6.size+a8 (x.Symbols.drop (Int.toNat 0))≤900000000:=by
   have:x.Symbols.drop (Int.toNat 0)=x.Symbols:=rfl
   rw [this]
   exact ⟨rfl,⟨hr1,hz⟩,⟨Int.le_refl _,by omega⟩,by omega⟩
  rw [decide_eq_true h,key]
  rw [er] at hr7 hr8 ⊢
  cases hp:x.Symbols.all az with
  | true=>
   rw [hp] at hr7 hr8
   have e7:r7=true:=hr7
   have e8:r8 =(fj x.Symbols r6,l,n,i,b,()):=hr8
   have e9:r8.1 ++(ByteArray.mk #[10])=o++lnB (bK x):=by rw [e8,e6];exact Kl o x
   have z9:r8.1.size+1=o.size +(lnB (bK x)).size:=by
    have:=congrArg ByteArray.size e9
    rw [ByteArray.size_append,ByteArray.size_append,z10] at this
    exact this
   have p1:r8.2.1=l:=by rw [e8]
   have p2:r8.2.2.1=n:=by rw [e8]
   have p3:r8.2.2.2.1=i:=by rw [e8]
   have p4:r8.2.2.2.2 =(b,()):=by rw [e8]
   rw [e9,p1,p2,p3,p4,e1,e7,z10]
   refine ⟨⟨fun _=>⟨⟨h2,by omega⟩,hb,by omega,by omega,hE,fun _=>⟨by omega,⟨⟨h1,h1b⟩,⟨?_,?_⟩,?_⟩,?_⟩,fun z=>Bool.noConfusion z⟩,fun z=>Bool.noConfusion z⟩,rfl⟩
   ·show 0≤i+1;omega
   ·show i+1≤n;omega
   ·show ((o++lnB (bK x)).size:Int)≤20301 *(i+1+1)
    rw [ByteArray.size_append];omega
   ·show (n - (i+1)).toNat <(n - i).toNat;omega
  | false=>
   rw [hp] at hr7 hr8
   have e7:r7=false:=hr7
   rw [e7]
   exact ⟨⟨fun _=>⟨⟨h2,by omega⟩,hb,by omega,by omega,hE,fun z=>Bool.noConfusion z,fun _=>trivial⟩,fun z=>Bool.noConfusion z⟩,rfl⟩
 ·rw [decide_eq_false h]
  refine ⟨⟨fun z=>Bool.noConfusion z,fun _=>trivial⟩,?_⟩
  show _ =(if (l.drop i.toNat).all fM then (Sum.inl (lC (l.drop i.toNat) o,b,()):Sum _ ns) else _)
  rw [aF (l:=l) (by omega)]
  rfl
noncomputable def M9:LoopSum:=ah lpH3 ja vf
noncomputable def Mv:Nat:=rid (ao Tryz.f14 3)
theorem OE:LoopOKp Tryz.prog 0 Tryz.f14.ntmps (ao Tryz.f14 3) (ah lpH3 ja vf):=
 ax lpH3 (an (.consU kO rfl (.consU fy rfl .nil)) _) mixed (LoopsOKp.cons (by kernel_rfl) OH .nil) ja vf Iq (fun |⟨o,l,n,i,b,⟨⟩⟩,hi=>PV o l n i b hi)
noncomputable def lpH4:Lp:=(⟨0,aA [iW,fa,k26] Tryz.f14,(find [(RA,RP)]),(ao Tryz.f14 4),qH4,xH4⟩:Lp)
theorem PW (o:ByteArray) (l:List Mir.Strip) (n:Int) (i:Int) (hi:vg (o,l,n,i,())) :(Go.Mir.stepG lpH4 jb (fun y:Den (tyP lpH4.q)=>vg y∧Ir y<Ir (o,l,n,i,())) (o,l,n,i,())∧Go.Mir.stepE lpH4 jb (o,l,n,i,())=jb (o,l,n,i,())):=by
 refine cast (by kernel_rfl) (?_:let r1:Int:=(↑(l.getD i.toNat (dflt (Ty.nm Nm.Strip))).2.length:Int);let r2:List Int:= [(l.getD i.toNat (dflt (Ty.nm Nm.Strip))).1];let r3:List Int:= [(l.getD i.toNat (dflt (Ty.nm Nm.Strip))).4];let r4:ByteArray:=dL r2 (ByteArray.mk #[]);let r5:ByteArray:=dL r3 (ByteArray.mk #[]);let r6:ByteArray:=ByteArray.mk #[83,84,82,73,80];let r7:ByteArray:=r6++r4;let r8:ByteArray:=r7++ByteArray.mk #[32];let r9:ByteArray:=r8++cc (l.getD i.toNat (dflt (Ty.nm Nm.Strip))).3;let r10:ByteArray:=r9++r5;let r11:ByteArray:=o++r10;let r12:Bool:=isL (jd (r11,l,n,i,(l.getD i.toNat (dflt (Ty.nm Nm.Strip))).2,r1,(0:Int),()));let r13:ByteArray×List Mir.Strip×Int×Int×PUnit:=gz (dflt (Ty.str.prod (Sts.prod (I.prod (I.prod Ty.unit))))) (jd (r11,l,n,i,(l.getD i.toNat (dflt (Ty.nm Nm.Strip))).2,r1,(0:Int),()));((decide (i<n)=true→((0:Int)≤i∧i <(↑l.length:Int))∧rb r2∧r6.size+r4.size≤au∧r7.size +(ByteArray.mk #[32]).size≤au∧r8.size +(cc (l.getD i.toNat (dflt (Ty.nm Nm.Strip))).3).size≤au∧rb r3∧r9.size+r5.size≤au∧o.size+r10.size≤au∧((cY fun x=>none)∧(r1 =(↑(l.getD i.toNat (dflt (Ty.nm Nm.Strip))).2.length:Int)∧a8 (l.getD i.toNat (dflt (Ty.nm Nm.Strip))).2≤(20100:Nat))∧((0:Int)≤(0:Int)∧(0:Int)≤r1)∧r11.size+a8 (List.drop (Int.toNat (0:Int)) (l.getD i.toNat (dflt (Ty.nm Nm.Strip))).2)≤(900000000:Nat))∧(r12=true→r13.1.size +(ByteArray.mk #[10]).size≤au∧vg (r13.1++ByteArray.mk #[10],r13.2.1,r13.2.2.1,IntKind.i64.wrap (r13.2.2.2.1 +(1:Int)),())∧Ir (r13.1++ByteArray.mk #[10],r13.2.1,r13.2.2.1,IntKind.i64.wrap (r13.2.2.2.1 +(1:Int)),())<Ir (o,l,n,i,()))∧(r12=false→True))∧(decide (i<n)=false→True))∧(bif decide (i<n) then bif r12 then jb (r13.1++ByteArray.mk #[10],r13.2.1,r13.2.2.1,IntKind.i64.wrap (r13.2.2.2.1 +(1:Int)),()) else Sum.inr (gA (dflt (Ty.str.prod (I.prod Ty.unit))) (jd (r11,l,n,i,(l.getD i.toNat (dflt (Ty.nm Nm.Strip))).2,r1,(0:Int),()))) else Sum.inl (o,()))=jb (o,l,n,i,()))
 intro r1 r2 r3 r4 r5 r6 r7 r8 r9 r10 r11 r12 r13
 clear_value (hr1:r1=_) (hr2:r2=_) (hr3:r3=_) (hr4:r4=_) (hr5:r5=_) (hr6:r6=_) (hr7:r7=_) (hr8:r8=_) (hr9:r9=_) (hr10:r10=_) (hr11:r11=_) (hr12:r12=_) (hr13:r13=_)
 obtain ⟨⟨h1,h1b⟩,⟨h2,h3⟩,h4⟩:=hi
 have h1:n =(l.length:Int):=h1
 have h1b:DS l:=h1b
 have h2:0≤i:=h2
 have h3:i≤n:=h3
 have h4 :(o.size:Int)≤20301 *(i+20001):=h4
 have hf:=h1b.1
 have hL :(1000000000:Nat)≤au:=by decide
 by_cases h:i<n
 ·have e1:IntKind.i64.wrap (i+1)=i+1:=wrap64 (by omega) (by omega)
  have hd:l.drop i.toNat=l.getD i.toNat (dflt (Ty.nm Nm.Strip))::l.drop (i+1).toNat:=aL h2 (by omega) _
  have hm:l.getD i.toNat (dflt (Ty.nm Nm.Strip))∈l:=List.mem_of_mem_drop (i:=i.toNat) (by rw [hd];exact List.mem_cons_self)
  generalize l.getD i.toNat (dflt (Ty.nm Nm.Strip))=x at *
  obtain ⟨ho,hz⟩:=h1b.2 _ hm
  obtain ⟨n1,n2⟩:=I2 ho
  have hn1:=AB n1
  have hn2:=AB n2
  have hs:=jL (I3 ho hz)
  have z4:r4.size≤22:=by rw [hr4,hr2];exact mH hn1
  have z5:r5.size≤22:=by rw [hr5,hr3];exact mH hn2
  have z6:r6.size=5:=by rw [hr6];rfl
  have z7:r7.size=r6.size+r4.size:=by rw [hr7];exact ByteArray.size_append
  have zs :(ByteArray.mk #[(32:UInt8)]).size=1:=rfl
  have z8:r8.size=r7.size+1:=by rw [hr8];exact ByteArray.size_append
  have zn:=pJ x.How
  have z9:r9.size=r8.size +(cc x.How).size:=by rw [hr9];exact ByteArray.size_append
  have z0:r10.size=r9.size+r5.size:=by rw [hr10];exact ByteArray.size_append
  have z1:r11.size=o.size+r10.size:=by rw [hr11];exact ByteArray.size_append
  have z10 :(ByteArray.mk #[(10:UInt8)]).size=1:=rfl
  have e6:r11=o ++((((stripV++dL [x.Player] ⟨#[]⟩)++spV)++cc x.How)++dL [x.Bowler] ⟨#[]⟩):=by rw [hr11,hr10,hr9,hr8,hr7,hr6,hr5,hr4,hr3,hr2];rfl
  have er:jd (r11,l,n,i,x.Symbols,r1,0,())=if x.Symbols.all az then .inl (fj x.Symbols r11,l,n,i,()) else .inr (⟨#[]⟩,4,()):=rfl
  have key:jb (o,l,n,i,())=if x.Symbols.all az then jb (o++lnB (aP x),l,n,i+1,()) else .inr (⟨#[]⟩,4,()):=by
   show (if (l.drop i.toNat).all fN then (Sum.inl (tT (l.drop i.toNat) o,()):Sum _ ns) else _)=_
   rw [hd,List.all_cons]
   have:fN x=x.Symbols.all az:=rfl
   rw [this]
   cases x.Symbols.all az <;> rfl
  have hb:rb r2:=by rw [hr2];exact ⟨by show 1≤1000;omega,hn1⟩
  have hb':rb r3:=by rw [hr3];exact ⟨by show 1≤1000;omega,hn2⟩
  have hE :(cY fun _=>none)∧(r1 =(x.Symbols.length:Int)∧a8 x.Symbols≤20100)∧((0:Int)≤0∧0≤r1)∧r11.size+a8 (x.Symbols.drop (Int.toNat 0))≤900000000:=by
   have:x.Symbols.drop (Int.toNat 0)=x.Symbols:=rfl
   rw [this]
   exact ⟨rfl,⟨hr1,hz⟩,⟨Int.le_refl _,by omega⟩,by omega⟩
  rw [decide_eq_true h,key]
  rw [er] at hr12 hr13 ⊢
  cases hp:x.Symbols.all az with
  | true=>
   rw [hp] at hr12 hr13
   have e7:r12=true:=hr12
   have e8:r13 =(fj x.Symbols r11,l,n,i,()):=hr13
   have e9:r13.1 ++(ByteArray.mk #[10])=o++lnB (aP x):=by rw [e8,e6];exact Gs o x
   have z13:r13.1.size+1=o.size +(lnB (aP x)).size:=by
    have:=congrArg ByteArray.size e9
    rw [ByteArray.size_append,ByteArray.size_append,z10] at this
    exact this
   have p1:r13.2.1=l:=by rw [e8]
   have p2:r13.2.2.1=n:=by rw [e8]
   have p3:r13.2.2.2.1=i:=by rw [e8]
   rw [e9,p1,p2,p3,e1,e7,z10]
   refine ⟨⟨fun _=>⟨⟨h2,by omega⟩,hb,by omega,by omega,by omega,hb',by omega,by omega,hE,fun _=>⟨by omega,⟨⟨h1,h1b⟩,⟨?_,?_⟩,?_⟩,?_⟩,fun z=>Bool.noConfusion z⟩,fun z=>Bool.noConfusion z⟩,rfl⟩
   ·show 0≤i+1;omega
   ·show i+1≤n;omega
   ·show ((o++lnB (aP x)).size:Int)≤20301 *(i+1+20001)
    rw [ByteArray.size_append];omega
   ·show (n - (i+1)).toNat <(n - i).toNat;omega
  | false=>
   rw [hp] at hr12 hr13
   have e7:r12=false:=hr12
   rw [e7]
   exact ⟨⟨fun _=>⟨⟨h2,by omega⟩,hb,by omega,by omega,by omega,hb',by omega,by omega,hE,fun z=>Bool.noConfusion z,fun _=>trivial⟩,fun z=>Bool.noConfusion z⟩,rfl⟩
 ·rw [decide_eq_false h]
  refine ⟨⟨fun z=>Bool.noConfusion z,fun _=>trivial⟩,?_⟩
  show _ =(if (l.drop i.toNat).all fN then (Sum.inl (tT (l.drop i.toNat) o,()):Sum _ ns) else _)
  rw [aF (l:=l) (by omega)]
  rfl
noncomputable def Na:LoopSum:=ah lpH4 jb vg
noncomputable def Mw:Nat:=rid (ao Tryz.f14 4)
theorem OG:LoopOKp Tryz.prog 0 Tryz.f14.ntmps (ao Tryz.f14 4) (ah lpH4 jb vg):=
 ax lpH4 (an (.consU kO rfl (.consU fy rfl (.consU Pd rfl .nil))) _) mixed (LoopsOKp.cons (by kernel_rfl) OI .nil) jb vg Ir (fun |⟨o,l,n,i,⟨⟩⟩,hi=>PW o l n i hi)
theorem lD {α β:Type} (f:α→List β) (g:β→Bool) :∀ l:List α,(l.flatMap f).all g=l.all fun x=>(f x).all g
 | []=>rfl
 | x::l=>by rw [List.flatMap_cons,List.all_append,List.all_cons,lD f g l]
theorem LO (b:Mir.Book) :(Dn b).all az =(b.Boxes.all fM&&b.Strips.all fN):=by
 unfold Dn
 rw [List.all_append,lD,lD]
 rfl
theorem LY (b:Mir.Book) :(BL b).all okI =((cd b++[b.Side]).all okI&&(b.Boxes.all okB&&b.Strips.all okT)):=by
 unfold BL
 rw [List.all_append,List.all_cons,List.all_append,lD,lD,List.all_append,List.all_cons,List.all_nil,Bool.and_true,Bool.and_assoc]
 rfl
theorem L2 (b:Mir.Book):cw b=if (cd b++[b.Side]).all okI&&(b.Boxes.all okB&&b.Strips.all okT) then (if b.Strips.all bj then (if b.Boxes.all fM&&b.Strips.all fN then 0 else 4) else 3) else 2:=by
 unfold cw
 rw [LY,LO]
theorem kg {b:Mir.Book} {n:Int} (h:cw b=n) (hn:n≠0) :(⟨#[]⟩,n,()) =((aR b).1,(aR b).2,()):=by rw [ET (h▸hn),h]
theorem C9 (b:Mir.Book) (hb:BH b) :(evPat (aA [kI,zU,iW,fa,k26] Tryz.f14) (find [(Ms,M6),(Mt,M7),(Mu,M8),(Mv,M9),(Mw,Na)]) Tryz.f14 qBk CP (b,())).sat fun z_=>z_ =(wA (b,())).2:=by
 refine cast (by kernel_rfl) (?_:let r1:ByteArray:=ByteArray.mk #[66,79,79,75];let r2:List Int:=cd b++[b.1];let r3:Bool:=!r2.all okI;let r4:Bool:=isL (iX (b.2,(↑b.2.length:Int),(0:Int),b,()));let r5:Mir.Book×PUnit:=gz (dflt ((Ty.nm Nm.Book).prod Ty.unit)) (iX (b.2,(↑b.2.length:Int),(0:Int),b,()));let r6:Int:=(↑r5.1.3.length:Int);let r7:Bool:=isL (iY (r5.1.3,r6,(0:Int),r5));let r8:Mir.Book×PUnit:=gz (dflt ((Ty.nm Nm.Book).prod Ty.unit)) (iY (r5.1.3,r6,(0:Int),r5));let r9:Int:=(↑r8.1.3.length:Int);let r10:Bool:=isL (iZ (r8.1.3,r9,(0:Int),r8));let r11:Mir.Book×PUnit:=gz (dflt ((Ty.nm Nm.Book).prod Ty.unit)) (iZ (r8.1.3,r9,(0:Int),r8));let r12:List Int:=cd r11.1;let r13:Int:=(↑r11.1.2.length:Int);let r14:List Int:= [r11.1.1];let r15:List Int:=r14++r12;let r16:ByteArray:=dL r15 (ByteArray.mk #[]);let r17:ByteArray:=r1++r16;let r18:ByteArray:=r17++ByteArray.mk #[10];let r19:Bool:=isL (ja (r18,r11.1.2,r13,(0:Int),r11));let r20:ByteArray×Mir.Book×PUnit:=gz (dflt (Ty.str.prod ((Ty.nm Nm.Book).prod Ty.unit))) (ja (r18,r11.1.2,r13,(0:Int),r11));let r21:Int:=(↑r20.2.1.3.length:Int);let r22:Bool:=isL (jb (r20.1,r20.2.1.3,r21,(0:Int),()));((cd b).length+[b.1].length) *(8:Nat)≤(70368744177664:Nat)∧r2.length≤(1000000:Nat)∧(r3=true→(ByteArray.mk #[],(2:Int),()) =((aR b).1,(aR b).2,()))∧(r3=false→((cY fun x=>none)∧((↑b.2.length:Int) =(↑b.2.length:Int)∧b.2.length≤(20000:Nat))∧(0:Int)≤(0:Int)∧(0:Int)≤(↑b.2.length:Int))∧(r4=true→((cY fun x=>none)∧(r6 =(↑r5.1.3.length:Int)∧r5.1.3.length≤(20000:Nat))∧(0:Int)≤(0:Int)∧(0:Int)≤r6)∧(r7=true→((cY fun x=>none)∧(r9 =(↑r8.1.3.length:Int)∧r8.1.3.length≤(20000:Nat))∧(0:Int)≤(0:Int)∧(0:Int)≤r9)∧(r10=true→(r14.length+r12.length) *(8:Nat)≤(70368744177664:Nat)∧rb r15∧r1.size+r16.size≤au∧r17.size +(ByteArray.mk #[10]).size≤au∧((cY fun x=>none)∧(r13 =(↑r11.1.2.length:Int)∧DR r11.1.2)∧((0:Int)≤(0:Int)∧(0:Int)≤r13)∧(↑r18.size:Int)≤(20301:Int) *((0:Int) +(1:Int)))∧(r19=true→((cY fun x=>none)∧(r21 =(↑r20.2.1.3.length:Int)∧DS r20.2.1.3)∧((0:Int)≤(0:Int)∧(0:Int)≤r21)∧(↑r20.1.size:Int)≤(20301:Int) *((0:Int) +(20001:Int)))∧(r22=true→((gz (dflt (Ty.str.prod Ty.unit)) (jb (r20.1,r20.2.1.3,r21,(0:Int),()))).1,(0:Int),()) =((aR b).1,(aR b).2,()))∧(r22=false→gA (dflt (Ty.str.prod (I.prod Ty.unit))) (jb (r20.1,r20.2.1.3,r21,(0:Int),())) =((aR b).1,(aR b).2,())))∧(r19=false→gA (dflt (Ty.str.prod (I.prod Ty.unit))) (ja (r18,r11.1.2,r13,(0:Int),r11)) =((aR b).1,(aR b).2,())))∧(r10=false→gA (dflt (Ty.str.prod (I.prod Ty.unit))) (iZ (r8.1.3,r9,(0:Int),r8)) =((aR b).1,(aR b).2,())))∧(r7=false→gA (dflt (Ty.str.prod (I.prod Ty.unit))) (iY (r5.1.3,r6,(0:Int),r5)) =((aR b).1,(aR b).2,())))∧(r4=false→gA (dflt (Ty.str.prod (I.prod Ty.unit))) (iX (b.2,(↑b.2.length:Int),(0:Int),b,())) =((aR b).1,(aR b).2,()))))
 intro r1 r2 r3 r4 r5 r6 r7 r8 r9 r10 r11 r12 r13 r14 r15 r16 r17 r18 r19 r20 r21 r22
 clear_value (hr1:r1=_) (hr2:r2=_) (hr3:r3=_) (hr4:r4=_) (hr5:r5=_) (hr6:r6=_) (hr7:r7=_) (hr8:r8=_) (hr9:r9=_) (hr10:r10=_) (hr11:r11=_) (hr12:r12=_) (hr13:r13=_) (hr14:r14=_) (hr15:r15=_) (hr16:r16=_) (hr17:r17=_) (hr18:r18=_) (hr19:r19=_) (hr20:r20=_) (hr21:r21=_) (hr22:r22=_)
 have hb':=hb
 obtain ⟨⟨b1,b2⟩,b3,b4⟩:=hb'
 have hL :(1000000000:Nat)≤au:=by decide
 have hW:=L2 b
 have hsum :(cd b).length=7:=rfl
 have er0:iX (b.Boxes,(b.Boxes.length:Int),0,b,())=if b.Boxes.all okB then .inl (b,()) else .inr (⟨#[]⟩,2,()):=rfl
 rw [er0] at hr4 hr5 ⊢
 refine ⟨by rw [hsum,List.length_singleton];decide,by rw [hr2];show 8≤1000000;omega,fun q3=>?_,fun q3=>⟨⟨rfl,⟨rfl,b1⟩,Int.le_refl _,by omega⟩,fun q4=>?_,fun q4=>?_⟩⟩
 ·have hA :(cd b++[b.Side]).all okI=false:=by rw [←hr2];rw [hr3] at q3;simpa using q3
  rw [hA] at hW
  exact kg hW (by decide)
 ·have hA :(cd b++[b.Side]).all okI=true:=by rw [←hr2];rw [hr3] at q3;simpa using q3
  have hB:b.Boxes.all okB=true:=by
   cases hB:b.Boxes.all okB with
   | true=>rfl
   | false=>rw [hr4,hB] at q4;exact Bool.noConfusion q4
  have e5:r5 =(b,()):=by rw [hr5,hB];rfl
  subst e5
  have er1:iY (b.Strips,r6,0,b,())=if b.Strips.all okT then .inl (b,()) else .inr (⟨#[]⟩,2,()):=rfl
  rw [er1] at hr7 hr8 ⊢
  refine ⟨⟨rfl,⟨hr6,b2⟩,Int.le_refl _,by omega⟩,fun q7=>?_,fun q7=>?_⟩
  ·have hC:b.Strips.all okT=true:=by
    cases hC:b.Strips.all okT with
    | true=>rfl
    | false=>rw [hr7,hC] at q7;exact Bool.noConfusion q7
   have e8:r8 =(b,()):=by rw [hr8,hC];rfl
   subst e8
   rw [hA,hB,hC] at hW
   have hW:cw b=if b.Strips.all bj then (if b.Boxes.all fM&&b.Strips.all fN then 0 else 4) else 3:=hW
   have er2:iZ (b.Strips,r9,0,b,())=if b.Strips.all bj then .inl (b,()) else .inr (⟨#[]⟩,3,()):=rfl
   rw [er2] at hr10 hr11 ⊢
   refine ⟨⟨rfl,⟨hr9,b2⟩,Int.le_refl _,by omega⟩,fun q10=>?_,fun q10=>?_⟩
   ·have hD:b.Strips.all bj=true:=by
     cases hD:b.Strips.all bj with
     | true=>rfl
     | false=>rw [hr10,hD] at q10;exact Bool.noConfusion q10
    have e11:r11 =(b,()):=by rw [hr11,hD];rfl
    subst e11
    rw [hD] at hW
    have hW:cw b=if b.Boxes.all fM&&b.Strips.all fN then 0 else 4:=hW
    have gX:DR b.Boxes:=⟨b1,fun x hx=>⟨List.all_eq_true.1 hB x hx,b3 x hx⟩⟩
    have gY:DS b.Strips:=⟨b2,fun x hx=>⟨List.all_eq_true.1 hC x hx,b4 x hx⟩⟩
    have e15:r15=b.Side::cd b:=by rw [hr15,hr14,hr12];rfl
    have hin :∀ n∈r15,0≤n∧n≤1000000:=fun n hn=>by
     rw [e15] at hn
     refine pM (List.all_eq_true.1 hA n ?_)
     rcases List.mem_cons.1 hn with rfl|hn
     ·exact List.mem_append_right _ List.mem_cons_self
     ·exact List.mem_append_left _ hn
    have l15:r15.length=8:=by rw [e15];rfl
    have z16:r16.size≤22*r15.length:=by rw [hr16];exact mH hin
    have z1:r1.size=4:=by rw [hr1];rfl
    have z17:r17.size=r1.size+r16.size:=by rw [hr17];exact ByteArray.size_append
    have z10 :(ByteArray.mk #[(10:UInt8)]).size=1:=rfl
    have e18:r18=lnB (cj b):=by rw [hr18,hr17,hr16,e15,hr1];exact HI b
    have z18:r18.size=r17.size+1:=by rw [hr18];exact ByteArray.size_append
    have l12:r12.length=7:=by rw [hr12];rfl
    have l14:r14.length=1:=by rw [hr14];rfl
    have er3:ja (r18,b.Boxes,r13,0,b,())=if b.Boxes.all fM then .inl (lC b.Boxes r18,b,()) else .inr (⟨#[]⟩,4,()):=rfl
    rw [er3] at hr19 hr20 ⊢
    refine ⟨by rw [l12,l14];decide,⟨by omega,hin⟩,by omega,by rw [z10];omega,⟨rfl,⟨hr13,gX⟩,⟨Int.le_refl _,by omega⟩,by omega⟩,fun q19=>?_,fun q19=>?_⟩
    ·have hE:b.Boxes.all fM=true:=by
      cases hE:b.Boxes.all fM with
      | true=>rfl
      | false=>rw [hr19,hE] at q19;exact Bool.noConfusion q19
     have e20:r20 =(lC b.Boxes r18,b,()):=by rw [hr20,hE];rfl
     subst e20
     rw [hE,Bool.true_and] at hW
     have zX:=oT b.Boxes r18 fun x hx=>AD (gX.2 x hx).1 (gX.2 x hx).2
     have zX :((lC b.Boxes r18,b,()).1:ByteArray).size≤r18.size+20301*b.Boxes.length:=zX
     have er4:jb (lC b.Boxes r18,b.Strips,r21,0,())=if b.Strips.all fN then .inl (tT b.Strips (lC b.Boxes r18),()) else .inr (⟨#[]⟩,4,()):=rfl
     rw [er4] at hr22 ⊢
     refine ⟨⟨rfl,⟨hr21,gY⟩,⟨Int.le_refl _,by omega⟩,by omega⟩,fun q22=>?_,fun q22=>?_⟩
     ·have hF:b.Strips.all fN=true:=by
       cases hF:b.Strips.all fN with
       | true=>rfl
       | false=>rw [hr22,hF] at q22;exact Bool.noConfusion q22
      rw [hF] at hW ⊢
      have hW:cw b=0:=hW
      rw [EU hW,Bs,←e18]
      rfl
     ·have hF:b.Strips.all fN=false:=by
       cases hF:b.Strips.all fN with
       | false=>rfl
       | true=>rw [hr22,hF] at q22;exact Bool.noConfusion q22
      rw [hF] at hW ⊢
      exact kg hW (by decide)
    ·have hE:b.Boxes.all fM=false:=by
      cases hE:b.Boxes.all fM with
      | false=>rfl
      | true=>rw [hr19,hE] at q19;exact Bool.noConfusion q19
     rw [hE] at hW ⊢
     exact kg hW (by decide)
   ·have hD:b.Strips.all bj=false:=by
     cases hD:b.Strips.all bj with
     | false=>rfl
     | true=>rw [hr10,hD] at q10;exact Bool.noConfusion q10
    rw [hD] at hW ⊢
    exact kg hW (by decide)
  ·have hC:b.Strips.all okT=false:=by
    cases hC:b.Strips.all okT with
    | false=>rfl
    | true=>rw [hr7,hC] at q7;exact Bool.noConfusion q7
   rw [hC] at hW ⊢
   rw [Bool.and_false,Bool.and_false] at hW
   exact kg hW (by decide)
 ·have hB:b.Boxes.all okB=false:=by
   cases hB:b.Boxes.all okB with
   | false=>rfl
   | true=>rw [hr4,hB] at q4;exact Bool.noConfusion q4
  rw [hB] at hW ⊢
  rw [Bool.false_and,Bool.and_false] at hW
  exact kg hW (by decide)
def zT:FuncId×Ctr:=(14,ag KE qBk CP wA)
theorem F4:CtrOK Tryz.prog KE 14 (ag KE qBk CP wA):=by
 refine aZ (C:=aA [kI,zU,iW,fa,k26] Tryz.f14) (an (.consU l7 rfl (.consU F5 rfl (.consU kO rfl (.consU fy rfl (.consU Pd rfl .nil))))) _) mixed (fn:=Tryz.f14) Tryz.func14 (by kernel_rfl) (by kernel_rfl) (by kernel_rfl) (by kernel_rfl) (by kernel_rfl) (by kernel_rfl) (Λ:=fun x=>find [(Ms,M6),(Mt,M7),(Mu,M8),(Mv,M9),(Mw,Na)]) ?_ ?_
 ·rintro ⟨b,⟨⟩⟩ hw hn
  exact LoopsOKp.at (by kernel_rfl) (.cons (by kernel_rfl) (OB) (.cons (by kernel_rfl) (OC) (.cons (by kernel_rfl) (OD) (.cons (by kernel_rfl) (OE) (.cons (by kernel_rfl) (OG) .nil)))))
 ·rintro ⟨b,⟨⟩⟩ hw hn
  exact C9 b (hn _ List.mem_cons_self)
end Go.Proofs.YtffdpnmioidloaaGreatDoor
namespace Go.Proofs.YtffdpnmioidloaaGreatDoor
open Go Go.Mir Go.RowKit
attribute [local irreducible] Go.Mir.DT.sat Go.Mir.evPat Go.Mir.RT.sat Go.Mir.evFn
abbrev Lt:Ty:= .prod (.slice .str) .unit
def yD:Den Lt→PRes:=fun x=>⟨[x.1.length≤1000000],.osl 0 0,[⟨.str,x.1⟩]⟩
def vH:FuncId×Ctr:=(110,aM KE Lt yD)
abbrev qIs:Pat:=dG [.slice .str,I]
abbrev qz:Pat:=⟨[(0,.c (.osl 0 1)),(1,.h .bool)],[(0,.row 1 I)],2⟩
def dW (l:List ByteArray) (n:Int):Option (List Int):=if (l.length:Int)<n then none else aG (l.take n.toNat)
def okO (x:Option (List Int)):Bool×List Int×Unit:=match x with
 | some v=>(true,v,())
 | none=>(false,[],())
def Av (n:Int):Prop:=0≤n∧n≤8
def JF:Den (tyP qIs)→List Prop×Den (tyP qz)
 |(l,n,_)=>([l.length≤1000000,Av n],okO (dW l n))
abbrev qNi:Pat:=⟨[(0,.h (.slice .str)),(6,.c (.osl 0 1)),(17,.h I),(18,.h I)],[(0,.row 1 I)],2⟩
abbrev xNi:List (Lf×Pat):= [(.ext 0,⟨[(6,.c (.osl 0 1))],[(0,.row 1 I)],2⟩),(.ret,⟨[(4,.c .nilsl),(5,.h .bool)],[],0⟩)]
abbrev TNi:Type:=List ByteArray×Int×Int×List Int×Unit
def je:TNi→Sum (List Int×Unit) (Bool×Unit)
 |(l,n,i,o,_)=>match aG ((l.take n.toNat).drop i.toNat) with
  | some v=> .inl (o.take i.toNat++v,())
  | none=> .inr (false,())
def vm:TNi→Prop
 |(l,n,i,o,_)=>(n =(o.length:Int)∧n≤(l.length:Int)∧n≤8)∧0≤i∧i≤n
def Iw:TNi→Nat
 |(_,n,i,_)=>(n - i).toNat
abbrev hpB:List (Nat×PB):= [(0,.cells [.h I,.c (.osl 1 2),.c (.osl 3 4),.h I,.h I,.h I,.h I,.h I,.h I,.h I]),(1,.row 2 (.nm .Box)),(3,.row 4 (.nm .Strip))]
abbrev qTk:Pat:=⟨[(0,.c (.ptr 0 0)),(1,.h (.slice .str))],hpB,5⟩
abbrev Sr:List (Nat×PB):= [(0,.cells [.h I,.c (.osl 1 5),.c (.osl 3 6),.h I,.h I,.h I,.h I,.h I,.h I,.h I]),(1,.row 5 (.nm .Box)),(3,.row 6 (.nm .Strip))]
abbrev Gb:Pat:=⟨[(0,.h .bool)],Sr,7⟩
def L8 (k:Bool) (b:Mir.Book):Den (tyP Gb):=(k,b.Side,b.Extras.Wides,b.Extras.NoBalls,b.Extras.Byes,b.Extras.LegByes,b.Extras.Penalties,b.Total,b.Wickets,b.Boxes,b.Strips,())
def mkB (s x1 x2 x3 x4 x5 t w:Int) (a:List Mir.Box) (c:List Mir.Strip):Mir.Book:=⟨s,a,c,⟨x1,x2,x3,x4,x5⟩,t,w⟩
def Jb (b:Mir.Book):Option Mir.Book→Den (tyP Gb)
 | some c=>L8 true c
 | none=>L8 false b
def IR (l:List ByteArray) (a:List Mir.Box) (b:List Mir.Strip):Prop:=(0<l.length∧l.length≤1000000)∧a.length≤1000000∧b.length≤1000000
def sTk:Den (tyP qTk)→List Prop×Den (tyP Gb)
 |(l,s,x1,x2,x3,x4,x5,t,w,a,c,_)=>([IR l a c],Jb (mkB s x1 x2 x3 x4 x5 t w a c) (cQ (mkB s x1 x2 x3 x4 x5 t w a c) l))
theorem A9 (x:List ByteArray) (hs:x.length≤1000000) :(evFn (aA [] Tryz.f110) (fun _=>none) Tryz.f110 (eQ Lt (x,()))).sat fun v' rows=>leV v' (yD (x,())).v∧rows =(yD (x,())).rows:=by
 refine cast (by kernel_rfl) (?_ :(x.isEmpty=true→(nat_lit 0=nat_lit 0∧nat_lit 0=nat_lit 0)∧ [RowD.mk Ty.str []]=[RowD.mk Ty.str x])∧((0:Nat)+x.length) *(16:Nat)≤(70368744177664:Nat)∧(nat_lit 0=nat_lit 0∧nat_lit 0=nat_lit 0)∧ [RowD.mk Ty.str ([]++x)]=[RowD.mk Ty.str x])
 refine ⟨fun h=>⟨⟨rfl,rfl⟩,?_⟩,?_,⟨rfl,rfl⟩,rfl⟩
 ·have:x=[]:=List.isEmpty_iff.1 h
  subst this;rfl
 ·omega
theorem CA:CtrOK Tryz.prog KE 110 (aM KE Lt yD):=by
 refine qU (C:=aA [] Tryz.f110) (an (CtrsOK.nil) _) mixed (fn:=Tryz.f110) Tryz.func110 (by kernel_rfl) (by kernel_rfl) (by kernel_rfl) (Λ:=fun _ _=>none) ?_ ?_ ?_
 ·exact fun _ _ _ _ _ _ _ _ h=>by cases h
 ·rintro ⟨x,⟨⟩⟩
  exact of_decide_eq_true (by kernel_rfl)
 ·rintro ⟨x,⟨⟩⟩ hw hn
  exact A9 x (hn _ (List.mem_singleton.2 rfl))
theorem FM {α:Type} (l:List α) (d:α) {n i:Nat} (h:i<n) :(l.take n).getD i d=l.getD i d:=by
 rw [List.getD_eq_getElem?_getD,List.getD_eq_getElem?_getD,List.getElem?_take_of_lt h]
theorem take_set :∀ (o:List Int) (k:Nat) (x:Int),k<o.length→(o.set k x).take (k+1)=o.take k++[x]
 | [],_,_,h=>absurd h (Nat.not_lt_zero _)
 | a::o,0,x,_=>rfl
 | a::o,k+1,x,h=>by
  show a ::(o.set k x).take (k+1)=a ::(o.take k++[x])
  rw [take_set o k x (Nat.lt_of_succ_lt_succ h)]
theorem jK :∀ {l:List ByteArray} {v:List Int},aG l=some v→v.length=l.length
 | [],v,h=>by cases h;rfl
 | w::r,v,h=>by
  unfold aG at h
  split at h
  ·cases h
  ·cases hr:aG r with
   | none=>rw [hr] at h;cases h
   | some u=>
    rw [hr] at h
    cases h
    rw [List.length_cons,List.length_cons,jK hr]
theorem vb {l:List ByteArray} {n:Int} {v:List Int} (h0:0≤n) (h:dW l n=some v) :(v.length:Int)=n:=by
 unfold dW at h
 split at h
 ·cases h
 ·have:=jK h
  rw [List.length_take] at this
  omega
theorem DV (b:Mir.Book) (m:List ByteArray):c7 b m =(dW m 8).map (HH b):=by
 unfold c7 dW
 by_cases h:m.length<8
 ·rw [if_pos h,if_pos (by omega)];rfl
 ·rw [if_neg h,if_neg (by omega)];rfl
theorem Dz (b:Mir.Book) (m:List ByteArray):cZ b m =(dW m 2).map fun n=>NO b n (m.drop 2):=by
 unfold cZ dW
 by_cases h:m.length<2
 ·rw [if_pos h,if_pos (by omega)];rfl
 ·rw [if_neg h,if_neg (by omega)];rfl
noncomputable def lpNi:Lp:=(⟨0,aA [sq] Tryz.f109,(fun _=>none),(ao Tryz.f109 0),qNi,xNi⟩:Lp)
theorem P1 (l:List ByteArray) (n:Int) (i:Int) (o:List Int) (hi:vm (l,n,i,o,())) :(Go.Mir.stepG lpNi je (fun y:Den (tyP lpNi.q)=>vm y∧Iw y<Iw (l,n,i,o,())) (l,n,i,o,())∧Go.Mir.stepE lpNi je (l,n,i,o,())=je (l,n,i,o,())):=by
 refine cast (by kernel_rfl) (?_:let r1:Int×Int:=jM (l.getD i.toNat (dflt Ty.str)) (0:Int) (1000000:Int);let r2:Bool:=r1.2 !=(0:Int);((decide (i<n)=true→((0:Int)≤i∧i <(↑l.length:Int))∧(r2=true→True)∧(r2=false→((0:Int)≤i∧i <(↑o.length:Int))∧vm (l,n,IntKind.i64.wrap (i +(1:Int)),o.set i.toNat r1.1,())∧Iw (l,n,IntKind.i64.wrap (i +(1:Int)),o.set i.toNat r1.1,())<Iw (l,n,i,o,())))∧(decide (i<n)=false→True))∧(bif decide (i<n) then bif r2 then Sum.inr (false,()) else je (l,n,IntKind.i64.wrap (i +(1:Int)),o.set i.toNat r1.1,()) else Sum.inl (o,()))=je (l,n,i,o,()))
 intro r1 r2
 clear_value (hr1:r1=_) (hr2:r2=_)
 obtain ⟨⟨h1,h1b,h1c⟩,h2,h3⟩:=hi
 have h1:n =(o.length:Int):=h1
 have h1b:n≤(l.length:Int):=h1b
 have h1c:n≤8:=h1c
 have h2:0≤i:=h2
 have h3:i≤n:=h3
 by_cases h:i<n
 ·have e1:IntKind.i64.wrap (i+1)=i+1:=wrap64 (by omega) (by omega)
  have hl :(l.take n.toNat).length=n.toNat:=by rw [List.length_take];omega
  have hd :(l.take n.toNat).drop i.toNat =(l.take n.toNat).getD i.toNat (dflt Ty.str) ::(l.take n.toNat).drop (i+1).toNat:=aL h2 (by omega) _
  have hw :(l.take n.toNat).getD i.toNat (dflt Ty.str)=l.getD i.toNat (dflt Ty.str):=FM _ _ (by omega)
  rw [hw] at hd
  generalize l.getD i.toNat (dflt Ty.str)=w at *
  have er:r1=vV w:=hr1
  have ei :(i+1).toNat=i.toNat+1:=by omega
  have key:je (l,n,i,o,())=bif r2 then .inr (false,()) else je (l,n,i+1,o.set i.toNat r1.1,()):=by
   show (match aG ((l.take n.toNat).drop i.toNat) with|some v=>(Sum.inl (o.take i.toNat++v,()):Sum (List Int×Unit) (Bool×Unit))|none=> .inr (false,()))=bif r2 then .inr (false,()) else (match aG ((l.take n.toNat).drop (i+1).toNat) with|some v=>(Sum.inl ((o.set i.toNat r1.1).take (i+1).toNat++v,()):Sum (List Int×Unit) (Bool×Unit))|none=> .inr (false,()))
   rw [hd]
   generalize (l.take n.toNat).drop (i+1).toNat=R
   have e:aG (w::R)=if r2 then none else (aG R).map (r1.1::·):=by rw [hr2,er];rfl
   rw [e,ei,take_set _ _ _ (by omega)]
   cases r2 with
   | true=>rfl
   | false=>
    cases aG R with
    | none=>rfl
    | some v=>
     show Sum.inl (o.take i.toNat++r1.1::v,())=Sum.inl ((o.take i.toNat++[r1.1])++v,())
     rw [List.append_assoc]
     rfl
  rw [decide_eq_true h,e1,key]
  refine ⟨⟨fun _=>⟨⟨h2,by omega⟩,fun _=>trivial,fun _=>⟨⟨h2,by omega⟩,⟨⟨?_,h1b,h1c⟩,?_,?_⟩,?_⟩⟩,fun z=>Bool.noConfusion z⟩,rfl⟩
  ·show n =((o.set i.toNat r1.1).length:Int)
   rw [List.length_set];exact h1
  ·show 0≤i+1;omega
  ·show i+1≤n;omega
  ·show (n - (i+1)).toNat <(n - i).toNat;omega
 ·rw [decide_eq_false h]
  refine ⟨⟨fun z=>Bool.noConfusion z,fun _=>trivial⟩,?_⟩
  show _ =(match aG ((l.take n.toNat).drop i.toNat) with|some v=>(Sum.inl (o.take i.toNat++v,()):Sum (List Int×Unit) (Bool×Unit))|none=> .inr (false,()))
  rw [List.drop_eq_nil_of_le (by rw [List.length_take];omega),List.take_of_length_le (by omega)]
  show Sum.inl (o,())=Sum.inl (o++[],())
  rw [List.append_nil]
noncomputable def Nd:LoopSum:=ah lpNi je vm
noncomputable def Mz:Nat:=rid (ao Tryz.f109 0)
theorem OL:LoopOKp Tryz.prog 0 Tryz.f109.ntmps (ao Tryz.f109 0) (ah lpNi je vm):=
 ax lpNi (an (.consU wa rfl .nil) _) mixed (fun b hb S hS=>by cases hS) je vm Iw (fun |⟨l,n,i,o,⟨⟩⟩,hi=>P1 l n i o hi)
theorem Gf (l:List ByteArray) (n:Int) (hl:l.length≤1000000) (h8:Av n) :(evPat (aA [sq] Tryz.f109) (find [(Mz,Nd)]) Tryz.f109 qIs qz (l,n,())).sat fun z_=>z_ =(JF (l,n,())).2:=by
 refine cast (by kernel_rfl) (?_:let r1:Int:=(↑(List.replicate n.toNat (0:Int)).length:Int);let r2:Bool:=decide ((↑l.length:Int)<n);let r3:Bool:=isL (je (l,r1,(0:Int),List.replicate n.toNat (0:Int),()));(r2=true→(false,[],())=okO (dW l n))∧(r2=false→((0:Int)≤n∧n=n∧n≤(17179869184:Int))∧((cY fun x=>none)∧(r1 =(↑(List.replicate n.toNat (0:Int)).length:Int)∧r1≤(↑l.length:Int)∧r1≤(8:Int))∧(0:Int)≤(0:Int)∧(0:Int)≤r1)∧(r3=true→(true,gz (dflt (I.slice.prod Ty.unit)) (je (l,r1,(0:Int),List.replicate n.toNat (0:Int),())))=okO (dW l n))∧(r3=false→((gA (dflt (Ty.bool.prod Ty.unit)) (je (l,r1,(0:Int),List.replicate n.toNat (0:Int),()))).1,[],())=okO (dW l n))))
 intro r1 r2 r3
 clear_value (hr1:r1=_) (hr2:r2=_) (hr3:r3=_)
 obtain ⟨n0,n8⟩:=h8
 have e1:r1=n:=by rw [hr1,List.length_replicate];omega
 have ln :(List.replicate n.toNat (0:Int)).length=n.toNat:=List.length_replicate
 rw [e1] at hr3 ⊢
 refine ⟨fun h=>?_,fun h=>?_⟩
 ·have h :(l.length:Int)<n:=by rw [hr2] at h;exact of_decide_eq_true h
  unfold dW
  rw [if_pos h]
  rfl
 ·have h :¬(l.length:Int)<n:=by rw [hr2] at h;exact of_decide_eq_false h
  have hO:dW l n=aG (l.take n.toNat):=by unfold dW;rw [if_neg h]
  have er:je (l,n,0,List.replicate n.toNat 0,())=match aG (l.take n.toNat) with|some v=>(Sum.inl (v,()):Sum (List Int×Unit) (Bool×Unit))|none=> .inr (false,()):=by
   show (match aG ((l.take n.toNat).drop 0) with|some v=>(Sum.inl ((List.replicate n.toNat (0:Int)).take 0++v,()):Sum (List Int×Unit) (Bool×Unit))|none=> .inr (false,()))=_
   rw [List.drop_zero]
   cases aG (l.take n.toNat) <;> rfl
  rw [er] at hr3 ⊢
  rw [hO]
  refine ⟨⟨n0,rfl,by omega⟩,⟨rfl,⟨by omega,by omega,n8⟩,Int.le_refl _,n0⟩,fun h3=>?_,fun h3=>?_⟩
  ·cases hf:aG (l.take n.toNat) with
   | some v=>rfl
   | none=>rw [hr3,hf] at h3;exact Bool.noConfusion h3
  ·cases hf:aG (l.take n.toNat) with
   | none=>rfl
   | some v=>rw [hr3,hf] at h3;exact Bool.noConfusion h3
def D5:FuncId×Ctr:=(109,ag KE qIs qz JF)
theorem I6:CtrOK Tryz.prog KE 109 (ag KE qIs qz JF):=by
 refine aZ (C:=aA [sq] Tryz.f109) (an (.consU wa rfl .nil) _) mixed (fn:=Tryz.f109) Tryz.func109 (by kernel_rfl) (by kernel_rfl) (by kernel_rfl) (by kernel_rfl) (by kernel_rfl) (by kernel_rfl) (Λ:=fun x=>find [(Mz,Nd)]) ?_ ?_
 ·rintro ⟨l,n,⟨⟩⟩ hw hn
  exact LoopsOKp.at (by kernel_rfl) (.cons (by kernel_rfl) (OL) .nil)
 ·rintro ⟨l,n,⟨⟩⟩ hw hn
  exact Gf l n (hn _ List.mem_cons_self) (hn _ (List.mem_cons_of_mem _ List.mem_cons_self))
theorem Gj (l:List ByteArray) (s:Int) (x1:Int) (x2:Int) (x3:Int) (x4:Int) (x5:Int) (t:Int) (w:Int) (a:List Mir.Box) (c:List Mir.Strip) (hl:IR l a c) :(evPat (aA [D5,vH,k23] Tryz.f52) (fun _=>none) Tryz.f52 qTk Gb (l,s,x1,x2,x3,x4,x5,t,w,a,c,())).sat fun z_=>z_ =(sTk (l,s,x1,x2,x3,x4,x5,t,w,a,c,())).2:=by
 refine cast (by kernel_rfl) (?_:let r1:List ByteArray:=List.drop (Int.toNat (1:Int)) (List.take (↑l.length:Int).toNat l);let r2:List ByteArray:=List.drop (Int.toNat (3:Int)) (List.take (↑l.length:Int).toNat l);let r3:List ByteArray:=List.drop (Int.toNat (4:Int)) (List.take (↑l.length:Int).toNat l);let r4:Bool×Int×Int×Int×Int×Int×Int×Int×Int×List Mir.Box×List Mir.Strip×PUnit:=Jb (mkB s x1 x2 x3 x4 x5 t w a c) (cQ (mkB s x1 x2 x3 x4 x5 t w a c) l);let r5:Bool×List Int×Unit:=okO (dW r1 (8:Int));let r6:Bool×List Int×Unit:=okO (dW r1 (2:Int));let r7:Bool:=decide ((↑l.length:Int) <(4:Int));let r8:Bool:=!r5.1;let r9:Bool:=!r6.1;let r10:List ByteArray:= [l.getD (Int.toNat (1:Int)) (dflt Ty.str),l.getD (Int.toNat (3:Int)) (dflt Ty.str)];let r11:Int:=(↑r5.2.1.length:Int);let r12:Int:=(↑r6.2.1.length:Int);let r13:Bool×List Int×Unit:=okO (dW r10 (2:Int));let r14:Bool:=ByteArray.toList (l.getD (Int.toNat (0:Int)) (dflt Ty.str)) ==(ByteArray.mk #[66,79,88]).toList;let r15:Int:=(↑r13.2.1.length:Int);let r16:Bool:=ByteArray.toList (l.getD (Int.toNat (0:Int)) (dflt Ty.str)) ==(ByteArray.mk #[66,79,79,75]).toList;let r17:Bool:=ByteArray.toList (l.getD (Int.toNat (0:Int)) (dflt Ty.str)) ==(ByteArray.mk #[83,84,82,73,80]).toList;let r18:Bool:=bif !r13.1 then true else aW (l.getD (Int.toNat (2:Int)) (dflt Ty.str)) !=(0:Int);let r19:List Mir.Box:= [Mir.Box.mk (r6.2.1.getD (Int.toNat (0:Int)) (dflt (Ty.int IntKind.i64))) (r6.2.1.getD (Int.toNat (1:Int)) (dflt (Ty.int IntKind.i64))) r2];let r20:List Mir.Strip:= [Mir.Strip.mk (r13.2.1.getD (Int.toNat (0:Int)) (dflt (Ty.int IntKind.i64))) r3 (bG (l.getD (Int.toNat (2:Int)) (dflt Ty.str))) (r13.2.1.getD (Int.toNat (1:Int)) (dflt (Ty.int IntKind.i64)))];((0:Int)≤(0:Int)∧(0:Int) <(↑l.length:Int))∧(r16=true→((0:Int)≤(1:Int)∧(1:Int)≤(↑l.length:Int)∧(↑l.length:Int)≤(↑l.length:Int))∧r1.length≤(1000000:Nat)∧Av (8:Int)∧(r8=true→(false,s,x1,x2,x3,x4,x5,t,w,a,c,())=r4)∧(r8=false→((0:Int)≤(0:Int)∧(0:Int)<r11)∧((0:Int)≤(1:Int)∧(1:Int)<r11)∧((0:Int)≤(2:Int)∧(2:Int)<r11)∧((0:Int)≤(3:Int)∧(3:Int)<r11)∧((0:Int)≤(4:Int)∧(4:Int)<r11)∧((0:Int)≤(5:Int)∧(5:Int)<r11)∧((0:Int)≤(6:Int)∧(6:Int)<r11)∧((0:Int)≤(7:Int)∧(7:Int)<r11)∧(true,r5.2.1.getD (Int.toNat (0:Int)) (dflt (Ty.int IntKind.i64)),r5.2.1.getD (Int.toNat (3:Int)) (dflt (Ty.int IntKind.i64)),r5.2.1.getD (Int.toNat (4:Int)) (dflt (Ty.int IntKind.i64)),r5.2.1.getD (Int.toNat (5:Int)) (dflt (Ty.int IntKind.i64)),r5.2.1.getD (Int.toNat (6:Int)) (dflt (Ty.int IntKind.i64)),r5.2.1.getD (Int.toNat (7:Int)) (dflt (Ty.int IntKind.i64)),r5.2.1.getD (Int.toNat (1:Int)) (dflt (Ty.int IntKind.i64)),r5.2.1.getD (Int.toNat (2:Int)) (dflt (Ty.int IntKind.i64)),a,c,())=r4))∧(r16=false→(r14=true→((0:Int)≤(1:Int)∧(1:Int)≤(↑l.length:Int)∧(↑l.length:Int)≤(↑l.length:Int))∧r1.length≤(1000000:Nat)∧Av (2:Int)∧(r9=true→(false,s,x1,x2,x3,x4,x5,t,w,a,c,())=r4)∧(r9=false→((0:Int)≤(0:Int)∧(0:Int)<r12)∧((0:Int)≤(1:Int)∧(1:Int)<r12)∧((0:Int)≤(3:Int)∧(3:Int)≤(↑l.length:Int)∧(↑l.length:Int)≤(↑l.length:Int))∧r2.length≤(1000000:Nat)∧(a.length+r19.length) *(40:Nat)≤(70368744177664:Nat)∧(true,s,x1,x2,x3,x4,x5,t,w,a++r19,c,())=r4))∧(r14=false→(r17=true→(r7=true→(false,s,x1,x2,x3,x4,x5,t,w,a,c,())=r4)∧(r7=false→((0:Int)≤(1:Int)∧(1:Int) <(↑l.length:Int))∧((0:Int)≤(3:Int)∧(3:Int) <(↑l.length:Int))∧r10.length≤(1000000:Nat)∧Av (2:Int)∧((0:Int)≤(2:Int)∧(2:Int) <(↑l.length:Int))∧(r18=true→(false,s,x1,x2,x3,x4,x5,t,w,a,c,())=r4)∧(r18=false→((0:Int)≤(0:Int)∧(0:Int)<r15)∧((0:Int)≤(1:Int)∧(1:Int)<r15)∧((0:Int)≤(4:Int)∧(4:Int)≤(↑l.length:Int)∧(↑l.length:Int)≤(↑l.length:Int))∧r3.length≤(1000000:Nat)∧(c.length+r20.length) *(48:Nat)≤(70368744177664:Nat)∧(true,s,x1,x2,x3,x4,x5,t,w,a,c++r20,())=r4)))∧(r17=false→(false,s,x1,x2,x3,x4,x5,t,w,a,c,())=r4))))
 intro r1 r2 r3 r4 r5 r6 r7 r8 r9 r10 r11 r12 r13 r14 r15 r16 r17 r18 r19 r20
 clear_value (hr1:r1=_) (hr2:r2=_) (hr3:r3=_) (hr4:r4=_) (hr5:r5=_) (hr6:r6=_) (hr7:r7=_) (hr8:r8=_) (hr9:r9=_) (hr10:r10=_) (hr11:r11=_) (hr12:r12=_) (hr13:r13=_) (hr14:r14=_) (hr15:r15=_) (hr16:r16=_) (hr17:r17=_) (hr18:r18=_) (hr19:r19=_) (hr20:r20=_)
 obtain ⟨⟨hl0,hl1⟩,ha,hc⟩:=hl
 cases l with
 | nil=>exact absurd hl0 (Nat.lt_irrefl 0)
 | cons z m=>
 have hlm :(z::m).length=m.length+1:=rfl
 have et:List.take ((z::m).length:Int).toNat (z::m)=z::m:=by rw [Int.toNat_natCast,List.take_length]
 rw [et] at hr1 hr2 hr3
 have e1:r1=m:=hr1
 have e2:r2=m.drop 2:=hr2
 have e3:r3=m.drop 3:=hr3
 have l2:r2.length≤m.length:=by rw [e2,List.length_drop];omega
 have l3:r3.length≤m.length:=by rw [e3,List.length_drop];omega
 have eF:cQ (mkB s x1 x2 x3 x4 x5 t w a c) (z::m)=if r16=true then c7 (mkB s x1 x2 x3 x4 x5 t w a c) m else if r14=true then cZ (mkB s x1 x2 x3 x4 x5 t w a c) m else if r17=true then cA (mkB s x1 x2 x3 x4 x5 t w a c) m else none:=by rw [hr16,hr14,hr17];rfl
 rw [eF] at hr4
 clear eF hr14 hr16 hr17 hr1 hr2 hr3 et
 rw [e1] at hr5 hr6
 refine ⟨⟨Int.le_refl _,by omega⟩,fun h16=>⟨⟨by decide,by omega,Int.le_refl _⟩,by rw [e1];omega,⟨by decide,by decide⟩,fun h8=>?_,fun h8=>?_⟩,fun h16=>⟨fun h14=>⟨⟨by decide,by omega,Int.le_refl _⟩,by rw [e1];omega,⟨by decide,by decide⟩,fun h9=>?_,fun h9=>?_⟩,fun h14=>⟨fun h17=>⟨fun h7=>?_,fun h7=>?_⟩,fun h17=>?_⟩⟩⟩
 ·rw [if_pos h16,DV] at hr4
  cases hI:dW m 8 with
  | some v=>rw [hr8,hr5,hI] at h8;exact Bool.noConfusion h8
  | none=>rw [hr4,hI];rfl
 ·rw [if_pos h16,DV] at hr4
  cases hI:dW m 8 with
  | none=>rw [hr8,hr5,hI] at h8;exact Bool.noConfusion h8
  | some v=>
   have hv:=vb (by decide) hI
   rw [hI] at hr4 hr5
   have e5:r5 =(true,v,()):=hr5
   rw [hr11,e5]
   have hv :(((true,v,()):Bool×List Int×Unit).2.1.length:Int)=8:=hv
   rw [hv]
   refine ⟨by decide,by decide,by decide,by decide,by decide,by decide,by decide,by decide,?_⟩
   rw [hr4]
   rfl
 ·rw [if_neg (by rw [h16];decide),if_pos h14,Dz] at hr4
  cases hI:dW m 2 with
  | some v=>rw [hr9,hr6,hI] at h9;exact Bool.noConfusion h9
  | none=>rw [hr4,hI];rfl
 ·rw [if_neg (by rw [h16];decide),if_pos h14,Dz] at hr4
  cases hI:dW m 2 with
  | none=>rw [hr9,hr6,hI] at h9;exact Bool.noConfusion h9
  | some v=>
   have hv:=vb (by decide) hI
   have h2m:2≤m.length:=by
    unfold dW at hI
    split at hI
    ·cases hI
    ·omega
   rw [hI] at hr4 hr6
   have e6:r6 =(true,v,()):=hr6
   have hv :(r6.2.1.length:Int)=2:=by rw [e6];exact hv
   have h19:r19.length=1:=by rw [hr19];rfl
   rw [hr12,hv]
   refine ⟨by decide,by decide,⟨by decide,by omega,Int.le_refl _⟩,by omega,by omega,?_⟩
   rw [hr4,hr19,e6,e2]
   rfl
 ·rw [if_neg (by rw [h16];decide),if_neg (by rw [h14];decide),if_pos h17] at hr4
  have h7 :((z::m).length:Int)<4:=by rw [hr7] at h7;exact of_decide_eq_true h7
  unfold cA at hr4
  rw [if_pos (by omega)] at hr4
  rw [hr4]
  rfl
 ·rw [if_neg (by rw [h16];decide),if_neg (by rw [h14];decide),if_pos h17] at hr4
  have h7 :¬((z::m).length:Int)<4:=by rw [hr7] at h7;exact of_decide_eq_false h7
  unfold cA at hr4
  rw [if_neg (by omega)] at hr4
  have e10:r10=[m.getD 0 ⟨#[]⟩,m.getD 2 ⟨#[]⟩]:=hr10
  have e10l:r10.length=2:=by rw [e10];rfl
  rw [←e10] at hr4
  have hI2:dW r10 2=aG r10:=by rw [e10];rfl
  rw [hI2] at hr13
  have e18:r18 =(!r13.1||aW (m.getD 1 ⟨#[]⟩) != 0):=by rw [hr18];cases r13.1 <;> rfl
  refine ⟨⟨by decide,by omega⟩,⟨by decide,by omega⟩,by omega,⟨by decide,by decide⟩,⟨by decide,by omega⟩,fun h18=>?_,fun h18=>?_⟩
  ·cases hI:aG r10 with
   | none=>rw [hI] at hr4;rw [hr4];rfl
   | some v=>
    rw [hI] at hr4 hr13
    have e13:r13.1=true:=by rw [hr13];rfl
    rw [e18,e13] at h18
    have h18 :(aW (m.getD 1 ⟨#[]⟩) != 0)=true:=h18
    rw [Option.bind_some,if_pos h18] at hr4
    rw [hr4];rfl
  ·cases hI:aG r10 with
   | none=>
    rw [hI] at hr13
    have e13:r13.1=false:=by rw [hr13];rfl
    rw [e18,e13] at h18
    exact Bool.noConfusion h18
   | some v=>
    have hv:=jK hI
    rw [hI] at hr4 hr13
    have e13:r13 =(true,v,()):=hr13
    have e13':r13.1=true:=by rw [e13]
    rw [e18,e13'] at h18
    have h18 :¬(aW (m.getD 1 ⟨#[]⟩) != 0)=true:=by
     have h18 :(aW (m.getD 1 ⟨#[]⟩) != 0)=false:=h18
     rw [h18];decide
    rw [Option.bind_some,if_neg h18] at hr4
    have hv2 :(r13.2.1.length:Int)=2:=by rw [e13];show (v.length:Int)=2;omega
    have h20:r20.length=1:=by rw [hr20];rfl
    rw [hr15,hv2]
    refine ⟨by decide,by decide,⟨by decide,by omega,Int.le_refl _⟩,by omega,by omega,?_⟩
    rw [hr4,hr20,e13,e3]
    rfl
 ·rw [if_neg (by rw [h16];decide),if_neg (by rw [h14];decide),if_neg (by rw [h17];decide)] at hr4
  rw [hr4]
  rfl
def D7:FuncId×Ctr:=(52,ag KE qTk Gb sTk)
theorem I8:CtrOK Tryz.prog KE 52 (ag KE qTk Gb sTk):=by
 refine aZ (C:=aA [D5,vH,k23] Tryz.f52) (an (.consU I6 rfl (.consU CA rfl (.consU SC rfl .nil))) _) mixed (fn:=Tryz.f52) Tryz.func52 (by kernel_rfl) (by kernel_rfl) (by kernel_rfl) (by kernel_rfl) (by kernel_rfl) (by kernel_rfl) (Λ:=fun _ _=>none) ?_ ?_
 ·exact fun _ _ _ _ _ _ _ _ h=>by cases h
 ·rintro ⟨l,s,x1,x2,x3,x4,x5,t,w,a,c,⟨⟩⟩ hw hn
  exact Gj l s x1 x2 x3 x4 x5 t w a c (hn _ List.mem_cons_self)
end Go.Proofs.YtffdpnmioidloaaGreatDoor
