/- Texts of the mirror and contracts, put together. -/
import Derived.Test.YtffdpnmioidloaaGreatDoorPT3
import Derived.Shelf.Strings.Split
import Derived.RangeFuncNested
import Derived.RangeFuncBound
import Derived.RangeFuncCalls
import Derived.RangeFuncLeaves
import Derived.Shelf.RegionOpen
import Derived.WalkKit
import Derived.OwnWalkIn
import Derived.TacticsInMore
import Derived.LoopNIn
import Derived.LoopIn
import Derived.Shelf.Small.Strs
import Derived.TacticsIn
import Derived.OrdersIn
import Derived.Shelf.Strings.Prefix
import Derived.Shelf.Strings.Cut
import Derived.Shelf.Strings.OnBuilder
import Derived.Shelf.Spec.SlicesGrow
namespace Go.Proofs.YtffdpnmioidloaaGreatDoor
open Go Go.Mir Go.RowKit Go.Shelf
def zl:Go.Shelf.Ren:=⟨fun|146=>53|221=>112|268=>171|138=>172|143=>173|195=>215|197=>216|218=>217|219=>218|260=>259|217=>170|225=>260|224=>261|267=>262|266=>214|314=>294|n=>n,fun|9=>9|31=>76|3=>3|4=>4|0=>0|105=>264|21=>21|5=>5|46=>276|119=>318|139=>321|138=>320|146=>322|51=>299|n=>n,fun|1=>1|3=>4|4=>5|n=>n⟩
theorem lays146:Go.Proofs.LaysM.n146 Tryz.prog zl where
 mixed:=by kernel_rfl
 f138:=Tryz.func172.trans (congrArg some (by kernel_rfl))
 f143:=Tryz.func173.trans (congrArg some (by kernel_rfl))
 f146:=Tryz.func53.trans (congrArg some (by kernel_rfl))
 f195:=Tryz.func215.trans (congrArg some (by kernel_rfl))
 f197:=Tryz.func216.trans (congrArg some (by kernel_rfl))
 f217:=Tryz.func170.trans (congrArg some (by kernel_rfl))
 f218:=Tryz.func217.trans (congrArg some (by kernel_rfl))
 f219:=Tryz.func218.trans (congrArg some (by kernel_rfl))
 f221:=Tryz.func112.trans (congrArg some (by kernel_rfl))
 f224:=Tryz.func261.trans (congrArg some (by kernel_rfl))
 f225:=Tryz.func260.trans (congrArg some (by kernel_rfl))
 f260:=Tryz.func259.trans (congrArg some (by kernel_rfl))
 f266:=Tryz.func214.trans (congrArg some (by kernel_rfl))
 f267:=Tryz.func262.trans (congrArg some (by kernel_rfl))
 f268:=Tryz.func171.trans (congrArg some (by kernel_rfl))
 f314:=Tryz.func294.trans (congrArg some (by kernel_rfl))
 t0:=Tryz.underlying0
 a0:=Tryz.isAgg0
 z0:=Tryz.sizeOf0
 v0:=Tryz.zeroValue0
 t3:=Tryz.underlying3
 a3:=Tryz.isAgg3
 z3:=Tryz.sizeOf3
 v3:=Tryz.zeroValue3
 t4:=Tryz.underlying4
 a4:=Tryz.isAgg4
 z4:=Tryz.sizeOf4
 v4:=Tryz.zeroValue4
 t5:=Tryz.underlying5
 a5:=Tryz.isAgg5
 z5:=Tryz.sizeOf5
 v5:=Tryz.zeroValue5
 t9:=Tryz.underlying9
 a9:=Tryz.isAgg9
 z9:=Tryz.sizeOf9
 v9:=Tryz.zeroValue9
 t21:=Tryz.underlying21
 a21:=Tryz.isAgg21
 z21:=Tryz.sizeOf21
 v21:=Tryz.zeroValue21
 t31:=Tryz.underlying76
 a31:=Tryz.isAgg76
 z31:=Tryz.sizeOf76
 v31:=Tryz.zeroValue76
 t46:=Tryz.underlying276
 a46:=Tryz.isAgg276
 z46:=Tryz.sizeOf276
 v46:=Tryz.zeroValue276
 t51:=Tryz.underlying299
 a51:=Tryz.isAgg299
 z51:=Tryz.sizeOf299
 v51:=Tryz.zeroValue299
 t105:=Tryz.underlying264
 a105:=Tryz.isAgg264
 z105:=Tryz.sizeOf264
 v105:=Tryz.zeroValue264
 t119:=Tryz.underlying318
 a119:=Tryz.isAgg318
 z119:=Tryz.sizeOf318
 t138:=Tryz.underlying320
 a138:=Tryz.isAgg320
 z138:=Tryz.sizeOf320
 v138:=Tryz.zeroValue320
 t139:=Tryz.underlying321
 a139:=Tryz.isAgg321
 z139:=Tryz.sizeOf321
 v139:=Tryz.zeroValue321
 t146:=Tryz.underlying322
 a146:=Tryz.isAgg322
 z146:=Tryz.sizeOf322
 v146:=Tryz.zeroValue322
 g1:=by kernel_rfl
 g3:=by kernel_rfl
 g4:=by kernel_rfl
 i0:=by kernel_rfl
 i3:=by kernel_rfl
 i4:=by kernel_rfl
 i5:=by kernel_rfl
 i9:=by kernel_rfl
 i21:=by kernel_rfl
 i31:=by kernel_rfl
 i46:=by kernel_rfl
 i51:=by kernel_rfl
 i105:=by kernel_rfl
 i138:=by kernel_rfl
 i139:=by kernel_rfl
 i146:=by kernel_rfl
 m1:=by kernel_rfl
 s1_3:=fun w h=>Go.Proofs.cell_of_shapedOpen_int (zero:=#[.int .i64 0]) (t:=3) h (of_decide_eq_true (by kernel_rfl)) (by kernel_rfl) rfl (by kernel_rfl) (by kernel_rfl) Tryz.underlying3
 m3:=by kernel_rfl
 m4:=by kernel_rfl
def eZ (c:UInt8):List UInt8→List (List UInt8)
 | []=> [[]]
 | b::l=>if b==c then []::eZ c l else match eZ c l with | []=> [[b]]|x::r=>(b::x)::r
def toB (l:List UInt8):ByteArray:=⟨l.toArray⟩
def cA (s:ByteArray) (c:UInt8):List ByteArray:=(eZ c s.data.toList).map toB
theorem mH {b c:UInt8} {l:List UInt8}:Lib.index (b::l) [c]=if b==c then 0 else if Lib.index l [c] == -1 then -1 else Lib.index l [c]+1:=by
 show (if List.isPrefixOf [c] (b::l) then _ else _)=_
 have:List.isPrefixOf [c] (b::l) =(b==c):=by
  show (c==b&&List.isPrefixOf [] l)=_
  rw [BEq.comm]
  simp [List.isPrefixOf]
 rw [this]
theorem nw (c:UInt8) :∀ l,-1≤Lib.index l [c]
 | []=>by simp [Lib.index]
 | b::l=>by
  rw [mH]
  have:=nw c l
  repeat' split
  all_goals omega
theorem tZ (c:UInt8) :∀ l,Lib.index l [c] = -1→eZ c l=[l]
 | [],_=>rfl
 | b::l,h=>by
  rw [mH] at h
  split at h
  ·cases h
  ·rename_i hb
   split at h
   ·rename_i h1
    have:=tZ c l (beq_iff_eq.1 h1)
    unfold eZ
    rw [if_neg hb,this]
   ·have:=nw c l
    omega
theorem yt (c:UInt8) :∀ (l:List UInt8) (i:Nat),Lib.index l [c]=i→eZ c l=l.take i::eZ c (l.drop (i+1))
 | [],i,h=>by
  have:Lib.index [] [c] = -1:=rfl
  omega
 | b::l,i,h=>by
  rw [mH] at h
  split at h
  ·rename_i hb
   obtain rfl:i=0:=by omega
   show eZ c (b::l)=[]::eZ c l
   conv=>lhs;unfold eZ
   rw [if_pos hb]
  ·rename_i hb
   split at h
   ·omega
   ·have h0:=nw c l
    obtain ⟨j,rfl⟩ :∃ j,i=j+1:=⟨i - 1,by rename_i h1;have :¬ Lib.index l [c] = -1:=fun e=>h1 (beq_iff_eq.2 e);omega⟩
    have ih:=yt c l j (by omega)
    show eZ c (b::l) =(b::l.take j)::eZ c (l.drop (j+1))
    conv=>lhs;unfold eZ
    rw [if_neg hb,ih]
theorem vD (c:UInt8) :∀ (k:Nat) (l:List UInt8),l.length<k→Lib.splitK [c] 0 (Lib.count l [c]) l=eZ c l
 | 0,l,h=>absurd h (Nat.not_lt_zero _)
 | k+1,l,h=>by
  by_cases hm:Lib.index l [c] = -1
  ·rw [Lib.count_miss hm,tZ c l hm];rfl
  ·obtain ⟨i,hi⟩ :∃ i:Nat,Lib.index l [c]=i:=⟨(Lib.index l [c]).toNat,by have:=nw c l;omega⟩
   rw [Lib.count_hit (by simp) hi,yt c l i hi,Nat.add_comm]
   conv=>lhs;unfold Lib.splitK
   rw [if_neg (fun e=>hm (beq_iff_eq.1 e)),hi]
   show l.take i::Lib.splitK [c] 0 (Lib.count (l.drop (i+1)) [c]) (l.drop (i+1))=_
   rw [vD c k _ ?_]
   rw [List.length_drop]
   cases l with
   | nil=>exact absurd rfl hm
   | cons b t=>simp at h ⊢;omega
theorem sC (s:ByteArray) (c:UInt8):Lib.splitB ⟨#[c]⟩ 0 (Lib.countB s ⟨#[c]⟩) s=cA s c:=by
 have h:=Lib.splitB_data ⟨#[c]⟩ 0 (Lib.countB s ⟨#[c]⟩) s
 have h2:Lib.countB s ⟨#[c]⟩=Lib.count s.data.toList [c]:=rfl
 rw [h2] at h ⊢
 rw [vD c _ _ (Nat.lt_succ_self _)] at h
 unfold cA
 rw [←h,List.map_map]
 have :(toB ∘ fun x:ByteArray=>x.data.toList)=id:=by funext x;simp [toB]
 rw [this,List.map_id]
theorem ua (c:UInt8) :∀ (l:List UInt8),(eZ c l).length≤l.length+1∧∀ x∈eZ c l,x.length≤l.length
 | []=>by simp [eZ]
 | b::l=>by
  obtain ⟨h1,h2⟩:=ua c l
  unfold eZ
  split
  ·refine ⟨by simp;omega,fun x hx=>?_⟩
   rcases List.mem_cons.1 hx with rfl|hx
   ·simp
   ·have:=h2 x hx;simp;omega
  ·split
   ·simp
   ·rename_i x r he
    rw [he] at h1 h2
    refine ⟨by simp at h1 ⊢;omega,fun y hy=>?_⟩
    rcases List.mem_cons.1 hy with rfl|hy
    ·have:=h2 x List.mem_cons_self;simp;omega
    ·have:=h2 y (List.mem_cons_of_mem _ hy);simp;omega
theorem tY (s:ByteArray) (c:UInt8) :(cA s c).length≤s.size+1∧∀ x∈cA s c,x.size≤s.size:=by
 obtain ⟨h1,h2⟩:=ua c s.data.toList
 rw [Array.length_toList] at h1 h2
 refine ⟨by unfold cA;rw [List.length_map];exact h1,fun x hx=>?_⟩
 unfold cA at hx
 obtain ⟨y,hy,rfl⟩:=List.mem_map.1 hx
 have:=h2 y hy
 show (toB y).data.size≤s.data.size
 unfold toB
 rw [List.size_toArray]
 exact this
abbrev Jf:Ty:= .prod .str (.prod .str .unit)
def Ov:Den Jf→List Prop:=fun x=> [x.1.size≤1000000∧x.2.1.size=1]
def P8:Den Jf→List (Den .str):=fun x=>cA x.1 (x.2.1.data.toList.headD 0)
def JN:Den Jf→PRes:=fun x=>⟨Ov x,.osl 0 0,[⟨.str,P8 x⟩]⟩
def HO:FuncId×Ctr:=(53,bu KE Jf JN)
theorem AV (s:ByteArray) (c:UInt8) (w:World) (hs:s.size≤1000000) {m:Int} (hm:w.cell? ⟨1,0,none⟩=some (.int .i64 m)) :
  Calls Tryz.prog 53 #[.string s,.string ⟨#[c]⟩] w fun e w'=>∃ c1 T cap,e = .returned (.slice (some ⟨w.heap.size,0,none⟩) (cA s c).length cap)∧w'={ w with heap:=w.heap.push (.cells c1 T (0,0)) }∧
   c1.size=cap*sz .str∧(cA s c).length≤cap∧(cA s c).length≤ak∧∀ (S:Nat→Prop) (i:Nat) (hi:i <(cA s c).length),Rd S w .str (cA s c)[i] (seg c1 (i*sz .str) (sz .str)):=by
 refine (Any.strings_Split { lays146 with } lays146.i9 s ⟨#[c]⟩ m w (by omega) hm (show 1≤1 by decide)).mono fun e w' ⟨he,hw'⟩=>?_
 rw [sC] at hw'
 have hlen:Lib.countB s ⟨#[c]⟩+1 =(cA s c).length:=by
  rw [←sC,Lib.splitB_all ⟨#[c]⟩ (show 1≤1 by decide) 0 _ s rfl]
 rw [hlen] at he
 obtain ⟨z1,z2⟩:=tY s c
 have hL :(2000000:Nat)≤ak:=by decide
 refine ⟨_,_,_,he,hw',?_,Nat.le_refl _,?_,fun S i hi=>?_⟩
 ·simp [sz]
 ·show (cA s c).length≤ak
  omega
 ·have hi:i <(cA s c).length:=hi
  have hseg:seg ((cA s c).map Value.string).toArray (i*sz .str) (sz .str)=[.string (cA s c)[i]]:=by
   show (((cA s c).map Value.string).drop (i*1)).take 1=_
   rw [Nat.mul_one,List.drop_eq_getElem_cons (by simpa using hi)]
   simp
  show Rd S w .str ((cA s c)[i]) (seg ((cA s c).map Value.string).toArray (i*sz .str) (sz .str))
  rw [hseg]
  have:=z2 _ (List.getElem_mem hi)
  exact Rd.str (by omega)
theorem Ll:CtrOK Tryz.prog KE 53 (bu KE Jf JN):=by
 refine yq (by decide) Tryz.func53 (by kernel_rfl) (by kernel_rfl) (by decide) (fun x av w E hw hn hg hav=>?_)
 obtain ⟨s,sep,⟨⟩⟩:=x
 obtain ⟨hs,hsep⟩:=hn _ List.mem_cons_self
 obtain ⟨a,r,rfl,⟨rfl,hs1⟩,h1⟩:=bh hav
 obtain ⟨a,r,rfl,⟨rfl,hs2⟩,h2⟩:=bh h1
 have h5:r=[]:=by cases r with|nil=>rfl|cons=>simp [iD,ab] at h2
 subst h5
 obtain ⟨c,rfl⟩:=Lib.one_byte sep hsep
 have hm :∃ m,w.cell? ⟨1,0,none⟩=some (.int .i64 m):=by
  obtain ⟨⟨o,h1,m,T,fr,rfl⟩,_⟩:=hg (1,HJ) (by unfold GL;simp)
  exact ⟨m,by simp [World.cell?,h1]⟩
 obtain ⟨m,hm⟩:=hm
 have hs:s.size≤1000000:=hs
 exact AV s c w hs hm
end Go.Proofs.YtffdpnmioidloaaGreatDoor
namespace Go.Proofs.YtffdpnmioidloaaGreatDoor
open Go Go.Mir
attribute [local irreducible] Go.Mir.DT.sat Go.Mir.evPat Go.Mir.RT.sat Go.Mir.evFn
theorem Md (s:ByteArray) (a i:Nat):toB ((s.data.toList.take i).drop a)=s.extract a i:=by
 apply ByteArray.ext
 apply Array.ext'
 show ((s.data.toList.take i).drop a)=_
 rw [Lib.extract_data]
 simp [Array.toList_extract,List.extract_eq_take_drop,List.drop_take]
theorem eqC {c:Int} (b:UInt8) (h0:0≤c) (h1:c<256) :((b.toNat:Int)==c) =(b==UInt8.ofNat c.toNat):=by
 apply Bool.eq_iff_iff.2
 simp only [beq_iff_eq]
 constructor
 ·intro h
  have:c.toNat=b.toNat:=by omega
  rw [this];simp
 ·rintro rfl
  have:c.toNat<256:=by omega
  simp [UInt8.toNat_ofNat']
  omega
end Go.Proofs.YtffdpnmioidloaaGreatDoor
namespace Go.Proofs.YtffdpnmioidloaaGreatDoor
open Go Go.Mir
attribute [local irreducible] Go.Mir.DT.sat Go.Mir.evPat Go.Mir.RT.sat Go.Mir.evFn
abbrev qTn:Pat:=dI [I]
abbrev qTw:Pat:=dI [I,I]
abbrev Aq:Pat:=dI [.str]
def Fv (n:Int):Prop:=0≤n∧n≤1000000000000
def OK (w:Int):Prop:=w=1
def JH:Den (tyP qTw)→List Prop×Den (tyP Aq):=fun x=>([Fv x.1,OK x.2.1],(aY x.1,()))
def JC:Den (tyP qTn)→List Prop×Den (tyP Aq):=fun x=>([Fv x.1],(aY x.1,()))
abbrev qPt:Pat:=⟨[(1,.h I),(5,.h .str),(6,.h (.int .u64)),(7,.h .str),(8,.h .str)],[],0⟩
abbrev xPt:List (Lf×Pat):= [(.ext 0,⟨[(5,.h .str),(8,.h .str)],[],0⟩)]
abbrev TPt:Type:=Int×ByteArray×Int×ByteArray×ByteArray×Unit
def tenB:ByteArray:=⟨#[48,49,50,51,52,53,54,55,56,57]⟩
def xA (n:Int):ByteArray:=tenB.extract n.toNat (n+1).toNat
def rT (u:Int) (s:ByteArray):ByteArray:=if decide (u>0)||decide ((s.size:Int)<1) then toB (Lib.decDigits u.toNat++s.data.toList) else s
def uA (x:TPt):Prop:=x.1=1∧(0≤x.2.2.1∧x.2.2.1≤1000000000000)∧x.2.2.2.1=tenB∧(x.2.2.2.2.1.size:Int)+x.2.2.1≤2000000000000
def IA (x:TPt):Nat:=x.2.2.1.toNat +(if x.2.2.2.2.1.size=0 then 1 else 0)
def pQ (x:TPt):ByteArray×ByteArray×Unit:=(x.2.1,rT x.2.2.1 x.2.2.2.2.1,())
theorem vY {a b:ByteArray} (h:a.data.toList=b.data.toList):a=b:=ByteArray.ext (Array.toList_inj.1 h)
theorem vK {n:Int} (h0:0≤n) (h1:n<18446744073709551616):IntKind.u64.wrap n=n:=by
 simp only [IntKind.wrap,IntKind.bits,IntKind.signed]
 simp
 omega
theorem vi {n:Int} (h0:0≤n) (h1:n≤9) :(xA n).data.toList=[UInt8.ofNat (48+n.toNat)]:=by
 have key :((List.range 10).all fun k=>(xA (k:Int)).data.toList==[UInt8.ofNat (48+k)])=true:=by kernel_rfl
 have:=List.all_eq_true.1 key n.toNat (List.mem_range.2 (by omega))
 rw [show ((n.toNat:Nat):Int)=n from by omega] at this
 exact eq_of_beq this
theorem vj {n:Int} (h0:0≤n) (h1:n≤9) :(xA n).size=1:=by
 have :(xA n).data.toList.length=1:=by rw [vi h0 h1];rfl
 rw [Array.length_toList] at this
 exact this
theorem I5 {u:Int} {s:ByteArray} (h0:0≤u) (hb :(decide (u>0)||decide ((s.size:Int)<1))=true):rT (u / 10) (xA (u % 10)++s)=rT u s:=by
 have z :(xA (u % 10)++s).size=1+s.size:=by rw [ByteArray.size_append,vj (by omega) (by omega)]
 have l :(xA (u % 10)++s).data.toList=UInt8.ofNat (48 +(u % 10).toNat)::s.data.toList:=by
  rw [ByteArray.data_append,Array.toList_append,vi (by omega) (by omega)];rfl
 have hd:decide (((xA (u % 10)++s).size:Int)<1)=false:=decide_eq_false (by rw [z];omega)
 unfold rT
 rw [hd,Bool.or_false,if_pos hb]
 by_cases h10:u / 10>0
 ·rw [if_pos (decide_eq_true h10),l]
  have hu :¬ u.toNat<10:=by omega
  have e1 :(u / 10).toNat=u.toNat / 10:=by omega
  have e2 :(u % 10).toNat=u.toNat % 10:=by omega
  conv=>rhs;rw [Lib.decDigits,dif_neg hu]
  rw [e1,e2,List.append_assoc]
  rfl
 ·rw [if_neg (by simpa using h10)]
  apply vY
  rw [l]
  have hu:u.toNat<10:=by omega
  have e2 :(u % 10).toNat=u.toNat:=by omega
  rw [Lib.decDigits,dif_pos hu,e2]
  rfl
noncomputable def lpPt:Lp:=(⟨0,ay [] Tryz.f121,(fun _=>none),(bt Tryz.f121 0),qPt,xPt⟩:Lp)
theorem Pm (w:Int) (sg:ByteArray) (u:Int) (dg:ByteArray) (s:ByteArray) (hi:uA (w,sg,u,dg,s,())) :(Go.Mir.stepG lpPt pQ (fun y:Den (tyP lpPt.q)=>uA y∧IA y<IA (w,sg,u,dg,s,())) (w,sg,u,dg,s,())∧Go.Mir.stepE lpPt pQ (w,sg,u,dg,s,())=pQ (w,sg,u,dg,s,())):=by
 refine cast (by kernel_rfl) (?_:let r1:Int:=IntKind.u64.wrap (u.tmod (10:Int) +(1:Int));let r2:Int:=if (20:Int)<w then (20:Int) else w;let r3:ByteArray:=dg.extract (u.tmod (10:Int)).toNat r1.toNat;let r4:Int:=if r2 >(1:Int) then r2 else (1:Int);let r5:Bool:=bif decide (u >(0:Int)) then true else decide ((↑s.size:Int)<r4);((r5=true→(10:Int)≠(0:Int)∧(10:Int)≠(0:Int)∧((0:Int)≤u.tmod (10:Int)∧u.tmod (10:Int)≤r1∧r1≤(↑dg.size:Int))∧r3.size+s.size≤ak∧(10:Int)≠(0:Int)∧uA (w,sg,IntKind.u64.wrap (u.tdiv (10:Int)),dg,r3++s,())∧IA (w,sg,IntKind.u64.wrap (u.tdiv (10:Int)),dg,r3++s,())<IA (w,sg,u,dg,s,()))∧(r5=false→True))∧(bif r5 then pQ (w,sg,IntKind.u64.wrap (u.tdiv (10:Int)),dg,r3++s,()) else (sg,s,()))=pQ (w,sg,u,dg,s,()))
 intro r1 r2 r3 r4 r5
 clear_value (hr1:r1=_) (hr2:r2=_) (hr3:r3=_) (hr4:r4=_) (hr5:r5=_)
 obtain ⟨h1,⟨h2,h3⟩,h4,h5⟩:=hi
 have h1:w=1:=h1
 have h2:0≤u:=h2
 have h3:u≤1000000000000:=h3
 have h4:dg=tenB:=h4
 have h5 :(s.size:Int)+u≤2000000000000:=h5
 have et:u.tmod 10=u % 10:=Int.tmod_eq_emod_of_nonneg h2
 have ed:u.tdiv 10=u / 10:=Int.tdiv_eq_ediv_of_nonneg h2
 rw [ed]
 rw [et] at hr1 hr3 ⊢
 have e1:r1=u % 10+1:=by rw [hr1];exact vK (by omega) (by omega)
 have e2:r2=1:=by rw [hr2,h1];rfl
 have e4:r4=1:=by rw [hr4,e2];rfl
 have e3:r3=xA (u % 10):=by rw [hr3,e1,h4];rfl
 have z3:=vj (n:=u % 10) (by omega) (by omega)
 have zs :(r3++s).size=1+s.size:=by rw [ByteArray.size_append,e3,z3]
 have eW:IntKind.u64.wrap (u / 10)=u / 10:=vK (by omega) (by omega)
 have hL :(3000000000000:Nat)≤ak:=by decide
 have e5:r5 =(decide (u>0)||decide ((s.size:Int)<1)):=by rw [hr5,e4];cases decide (u>0) <;> rfl
 have hc:r5=true→u>0∨(s.size:Int)<1:=fun h=>by rw [e5] at h;simpa using h
 have z10 :(tenB.size:Int)=10:=rfl
 rw [eW]
 refine ⟨⟨fun h=>⟨by decide,by decide,⟨by omega,by omega,by rw [h4];omega⟩,by rw [e3,z3];omega,by decide,⟨h1,⟨by show 0≤u / 10;omega,by show u / 10≤1000000000000;omega⟩,h4,?_⟩,?_⟩,fun _=>trivial⟩,?_⟩
 ·show ((r3++s).size:Int)+u / 10≤2000000000000
  rw [zs]
  rcases hc h with h|h <;> omega
 ·show (u / 10).toNat +(if (r3++s).size=0 then 1 else 0)<u.toNat +(if s.size=0 then 1 else 0)
  rw [zs,if_neg (by omega)]
  rcases hc h with h|h
  ·omega
  ·rw [if_pos (by omega)];omega
 ·cases hb:r5 with
  | true=>
   show (sg,rT (u / 10) (r3++s),()) =(sg,rT u s,())
   rw [e3,I5 h2 (e5▸hb)]
  | false=>
   rw [e5] at hb
   show (sg,s,()) =(sg,rT u s,())
   unfold rT
   rw [hb]
   rfl
noncomputable def Na:LoopSum:=aD lpPt pQ uA
noncomputable def MR:Nat:=rid (bt Tryz.f121 0)
theorem Om:LoopOKp Tryz.prog 0 Tryz.f121.ntmps (bt Tryz.f121 0) (aD lpPt pQ uA):=
 bq lpPt (au (CtrsOK.nil) _) mixed (fun b hb S hS=>by cases hS) pQ uA IA (fun |⟨w,sg,u,dg,s,⟨⟩⟩,hi=>Pm w sg u dg s hi)
theorem AL (n:Int) (w:Int) (hk:Fv n) (hw1:OK w) :(evPat (ay [] Tryz.f121) (find [(MR,Na)]) Tryz.f121 qTw Aq (n,w,())).sat fun z_=>z_ =(JH (n,w,())).2:=by
 refine cast (by kernel_rfl) (?_:let r1:Bool:=decide (n <(0:Int));let r2:ByteArray:=bif r1 then ByteArray.mk #[45] else ByteArray.mk #[];let r3:Int:=bif r1 then IntKind.u64.wrap ((0:Int) - IntKind.u64.wrap n) else IntKind.u64.wrap n;let r4:ByteArray:=rT r3 (ByteArray.mk #[]);((jZ fun x=>none)∧w =(1:Int)∧((0:Int)≤r3∧r3≤(1000000000000:Int))∧ByteArray.mk #[48,49,50,51,52,53,54,55,56,57]=tenB∧(↑(ByteArray.mk #[]).size:Int)+r3≤(2000000000000:Int))∧r2.size+r4.size≤ak∧(r2++r4,()) =(aY n,()))
 intro r1 r2 r3 r4
 clear_value (hr1:r1=_) (hr2:r2=_) (hr3:r3=_) (hr4:r4=_)
 obtain ⟨k0,k1⟩:=hk
 have e1:r1=false:=by rw [hr1];exact decide_eq_false (by omega)
 have e2:r2=ByteArray.mk #[]:=by rw [hr2,e1];rfl
 have e3:r3=n:=by rw [hr3,e1];exact vK k0 (by omega)
 have hz:rT n ⟨#[]⟩=aY n:=by
  unfold rT aY
  rw [if_pos (Bool.or_eq_true_iff.2 (.inr (by decide))),Lib.itoa,if_neg (by omega)]
  simp [toB]
 have e4:r4=aY n:=by rw [hr4,e3];exact hz
 have hl :(aY n).size≤21:=by
  show (Lib.itoa n).toArray.size≤21
  rw [List.size_toArray]
  exact Lib.itoa_length_le n (by omega) (by omega)
 have hL :(500:Nat)≤ak:=by decide
 have z0 :(ByteArray.mk #[]).size=0:=rfl
 rw [e2,e3,e4,z0]
 exact ⟨⟨rfl,hw1,⟨k0,k1⟩,rfl,by omega⟩,by omega,congrArg (fun z=>(z,())) (vY (by simp [ByteArray.data_append]))⟩
def uQ:FuncId×Ctr:=(121,ae KE qTw Aq JH)
theorem Ca:CtrOK Tryz.prog KE 121 (ae KE qTw Aq JH):=by
 refine aE (C:=ay [] Tryz.f121) (au (CtrsOK.nil) _) mixed (fn:=Tryz.f121) Tryz.func121 (by kernel_rfl) (by kernel_rfl) (by kernel_rfl) (by kernel_rfl) (by kernel_rfl) (by kernel_rfl) (Λ:=fun x=>find [(MR,Na)]) ?_ ?_
 ·rintro ⟨n,w,⟨⟩⟩ hw hn
  exact LoopsOKp.at (by kernel_rfl) (.cons (by kernel_rfl) (Om) .nil)
 ·rintro ⟨n,w,⟨⟩⟩ hw hn
  exact AL n w (hn _ List.mem_cons_self) (hn _ (List.mem_cons_of_mem _ List.mem_cons_self))
theorem xP (n:Int) (hk:Fv n) :(evPat (ay [uQ] Tryz.f71) (fun _=>none) Tryz.f71 qTn Aq (n,())).sat fun z_=>z_ =(JC (n,())).2:=by
 refine cast (by kernel_rfl) (?_:Fv n∧OK (1:Int)∧(aY n,()) =(aY n,()))
 exact ⟨hk,rfl,rfl⟩
def jU:FuncId×Ctr:=(71,ae KE qTn Aq JC)
theorem lg:CtrOK Tryz.prog KE 71 (ae KE qTn Aq JC):=by
 refine aE (C:=ay [uQ] Tryz.f71) (au (.consU Ca rfl .nil) _) mixed (fn:=Tryz.f71) Tryz.func71 (by kernel_rfl) (by kernel_rfl) (by kernel_rfl) (by kernel_rfl) (by kernel_rfl) (by kernel_rfl) (Λ:=fun _ _=>none) ?_ ?_
 ·exact fun _ _ _ _ _ _ _ _ h=>by cases h
 ·rintro ⟨n,⟨⟩⟩ hw hn
  exact xP n (hn _ List.mem_cons_self)
end Go.Proofs.YtffdpnmioidloaaGreatDoor
namespace Go.Proofs.YtffdpnmioidloaaGreatDoor
open Go Go.Mir Go.RowKit Go.Shelf
def zk:Go.Shelf.Ren:=⟨fun|137=>108|217=>170|266=>214|n=>n,fun|9=>9|5=>5|3=>3|n=>n,fun|n=>n⟩
theorem DM:Go.Proofs.Lays.n137 Tryz.prog zk where
 mixed:=by kernel_rfl
 f137:=Tryz.func108.trans (congrArg some (by kernel_rfl))
 f217:=Tryz.func170.trans (congrArg some (by kernel_rfl))
 f266:=Tryz.func214.trans (congrArg some (by kernel_rfl))
 t3:=Tryz.underlying3
 a3:=Tryz.isAgg3
 z3:=Tryz.sizeOf3
 v3:=Tryz.zeroValue3
 t5:=Tryz.underlying5
 a5:=Tryz.isAgg5
 z5:=Tryz.sizeOf5
 v5:=Tryz.zeroValue5
 t9:=Tryz.underlying9
 a9:=Tryz.isAgg9
 z9:=Tryz.sizeOf9
 v9:=Tryz.zeroValue9
attribute [local go_sem] Oper.semAt_some
theorem AZ (s:ByteArray) (a i:Nat):toB ((s.data.toList.take i).drop a)=s.extract a i:=by
 apply ByteArray.ext
 apply Array.ext'
 show ((s.data.toList.take i).drop a)=_
 rw [Lib.extract_data]
 simp [Array.toList_extract,List.extract_eq_take_drop,List.drop_take]
def eG (l:List UInt8):Nat:=if 0≤Lib.indexByte l 10 then (Lib.indexByte l 10).toNat+1 else l.length
def gW:Nat→List UInt8→List (List UInt8)
 | 0,_=> []
 | k+1,l=>if l.isEmpty then [] else l.take (eG l)::gW k (l.drop (eG l))
def bc (s:ByteArray):List ByteArray:=(gW (s.size+1) s.data.toList).map toB
theorem oG {l:List UInt8} (h:l≠ []):1≤eG l:=by
 unfold eG
 split
 ·omega
 ·have:=List.length_pos_iff.2 h;omega
theorem pC :∀ (k k':Nat) (l:List UInt8),l.length<k→l.length<k'→gW k l=gW k' l
 | 0,_,_,h,_=>absurd h (Nat.not_lt_zero _)
 | _+1,0,_,_,h=>absurd h (Nat.not_lt_zero _)
 | k+1,k'+1,l,h1,h2=>by
  unfold gW
  split
  ·rfl
  ·rename_i hne
   have hne:l≠ []:=fun e=>hne (by rw [e];rfl)
   have:=oG hne
   have:=List.length_pos_iff.2 hne
   rw [pC k k' _ (by rw [List.length_drop];omega) (by rw [List.length_drop];omega)]
theorem mJ {s:ByteArray} (h:s.size=0):bc s=[]:=by
 unfold bc
 have:s.data.toList=[]:=List.eq_nil_of_length_eq_zero (by rw [Array.length_toList];exact h)
 rw [this]
 rfl
theorem pz {s:ByteArray} (h:0<s.size):bc s=s.extract 0 (eG s.data.toList)::bc (s.extract (eG s.data.toList) s.size):=by
 have hl:s.data.toList.length=s.size:=by rw [Array.length_toList];rfl
 have hne:s.data.toList≠ []:=fun e=>by rw [e] at hl;simp at hl;omega
 have hp:=oG hne
 have e1:toB (s.data.toList.take (eG s.data.toList))=s.extract 0 (eG s.data.toList):=by rw [←AZ];rfl
 have e2 :(s.extract (eG s.data.toList) s.size).data.toList=s.data.toList.drop (eG s.data.toList):=by
  rw [←AZ]
  show (s.data.toList.take s.size).drop _=_
  rw [List.take_of_length_le (by omega)]
 have z2 :(s.extract (eG s.data.toList) s.size).size=s.size - eG s.data.toList:=by rw [ByteArray.size_extract];omega
 unfold bc
 rw [e2]
 conv=>lhs;unfold gW
 rw [if_neg (by simpa using hne)]
 rw [List.map_cons,e1,z2]
 rw [pC s.size (s.size - eG s.data.toList+1) _ (by rw [List.length_drop];omega) (by rw [List.length_drop];omega)]
end Go.Proofs.YtffdpnmioidloaaGreatDoor
namespace Go.Proofs.YtffdpnmioidloaaGreatDoor
open Go Go.Mir Go.RowKit Go.Shelf
attribute [local go_sem] Oper.semAt_some
def vW (bx:Nat) (w:World):Nat:=match w.cell? ⟨bx,0,none⟩ with|some (.string z)=>z.size|_=>0
theorem Gg {n:Int} (h0:0≤n) (h1:n≤2000000):RowKit.wrap64 n=n:=by
 unfold RowKit.wrap64
 omega
set_option maxRecDepth 100000 in
set_option maxHeartbeats 2000000 in
theorem Ie (n l bx:Nat) (s0:ByteArray) (hs0:s0.size≤1000000) (J Jx:List ByteArray→World→Prop)
  (hsetJ :∀ pre W v,J pre W→J pre (W.setCell ⟨bx,0,none⟩ v)) (hdrw :∀ pre (W:World),J pre W→J pre { W with drawn:=W.drawn+1 })
  (hY :∀ pre x W,J pre W→x.size≤s0.size→(pre++[x]) <+: bc s0→YieldAt Fence.wide (n - 1) Tryz.prog l #[.string x] W fun e W'=>
   (e = .returned (.bool true)∧J (pre++[x]) W'∧W'.cell? ⟨bx,0,none⟩=W.cell? ⟨bx,0,none⟩∧W'.frozen? ⟨bx,0,none⟩=W.frozen? ⟨bx,0,none⟩)∨(e = .returned (.bool false)∧Jx (pre++[x]) W'))
  (W:World) (hb:W.cell? ⟨bx,0,none⟩=some (.string s0)) (hf:W.frozen? ⟨bx,0,none⟩=false) (h0:J [] W) :
  CallsIn Fence.wide n Tryz.prog 107 #[.func (.yield l) #[] #[],.pointer (some ⟨bx,0,none⟩)] W fun e W'=>(∃ v,e = .returned v)∧(J (bc s0) W'∨∃ pre,pre <+: bc s0∧Jx pre W'):=by
 refine callsIn_of_wp Tryz.func107 rfl trivial ?_ rfl
 simp only [Tryz.ntmps107,List.size_toArray,List.length_cons,List.length_nil,Nat.reduceAdd,Nat.reduceSub,Array.replicate_succ,Array.replicate_zero,List.push_toArray,List.append_toArray,List.nil_append,List.cons_append]
 gi_wp2
 gi_loopw [3] (fun _ wr=>∃ (pre:List ByteArray) (z:ByteArray),wr.cell? ⟨bx,0,none⟩=some (.string z)∧wr.frozen? ⟨bx,0,none⟩=false∧z.size≤s0.size∧bc s0=pre++bc z∧J pre wr)
  (fun _ wr=>vW bx wr)
 case atStart=>
  exact ⟨[],s0,hb,hf,Nat.le_refl _,rfl,h0⟩
 case round=>
  obtain ⟨pre,z,hc,hfr,hz,hl,hJs⟩:=hrel
  have hidx:=Any.strings_IndexByte DM z 10
  have mixed0:=mixed
  by_cases hz0:0<z.size
  ·have hzl :(z.size:Int)≤1000000:=by omega
   by_cases hi:0≤Lib.indexByte z.data.toList 10
   ·obtain ⟨i,hi'⟩ :∃ i:Nat,Lib.indexByte z.data.toList 10=i:=⟨(Lib.indexByte z.data.toList 10).toNat,by omega⟩
    have hlt:i<z.size:=by
     obtain ⟨h1,_⟩:=List.getElem?_eq_some_iff.1 (Lib.indexByte_some hi').1
     rw [Array.length_toList] at h1
     exact h1
    have hW:RowKit.wrap64 ((i:Int)+1) =(i:Int)+1:=Gg (by omega) (by omega)
    have hidx :∀ w,Calls Tryz.prog 108 #[.string z,.int .u8 10] w fun e w'=>e = .returned (.int .i64 i)∧w'=w:=fun w=>by
     have:=hidx w
     rw [show ((10:Int).toNat.toUInt8)=10 from rfl,hi'] at this
     exact this
    have hb1 :(0:Int)≤(i:Int)+1:=by omega
    have hb2 :(i:Int)+1≤(z.size:Int):=by omega
    have hnn :(0:Int)≤(i:Int):=by omega
    gi_wp2_with (first |(refine ⟨trivial,fun h=>absurd h (by simp [Fence.wide]),?_⟩;gi_at_call 108;refine (callsIn_wide.2 (hidx _)).mono ?_;rintro e w' ⟨rfl,rfl⟩))
    gi_region
    have hJ1:J pre ((w'.setCell ⟨bx,0,none⟩ (.string (z.extract (i+1) z.size))).drew):=hdrw _ _ (hsetJ _ _ _ hJs)
    have hc1 :((w'.setCell ⟨bx,0,none⟩ (.string (z.extract (i+1) z.size))).drew).cell? ⟨bx,0,none⟩=some (.string (z.extract (i+1) z.size)):=World.cell?_setCell_same' _ _ _ (by rw [hc];rfl)
    have hf1 :((w'.setCell ⟨bx,0,none⟩ (.string (z.extract (i+1) z.size))).drew).frozen? ⟨bx,0,none⟩=false:=(World.frozen?_setCell ..).trans hfr
    have hN:eG z.data.toList=i+1:=by unfold eG;rw [hi',if_pos (by omega)];omega
    have hL:bc z=z.extract 0 (i+1)::bc (z.extract (i+1) z.size):=by rw [pz hz0,hN]
    obtain ⟨fn,tmps,assign,body,hy,hR⟩:=hY pre (z.extract 0 (i+1)) _ hJ1 (by rw [ByteArray.size_extract];omega) ⟨bc (z.extract (i+1) z.size),by rw [hl,hL];simp⟩
    gi_wp2
    refine ⟨fun h=>absurd h (by simp [Fence.wide]),hR.mono ?_⟩
    rintro e W3 (⟨rfl,hJ3,hc3,hf3⟩ |⟨rfl,hJx3⟩)
    ·gi_wp2
     go_roundw
     case rel=>exact ⟨pre++[z.extract 0 (i+1)],z.extract (i+1) z.size,hc3.trans hc1,hf3.trans hf1,by rw [ByteArray.size_extract];omega,by rw [hl,hL];simp,hJ3⟩
     case measure=>
      unfold vW
      rw [hc3,hc1,hc]
      simp only [ByteArray.size_extract]
      omega
    ·gi_wp2
     refine bodyPost_ret (results_none rfl _ _ _) rfl ?_
     exact ⟨⟨_,rfl⟩,.inr ⟨_,⟨bc (z.extract (i+1) z.size),by rw [hl,hL];simp⟩,hJx3⟩⟩
   ·have hi':Lib.indexByte z.data.toList 10 = -1:=by have:=Lib.indexByte_ge z.data.toList 10;omega
    have hidx :∀ w,Calls Tryz.prog 108 #[.string z,.int .u8 10] w fun e w'=>e = .returned (.int .i64 (-1))∧w'=w:=fun w=>by
     have:=hidx w
     rw [show ((10:Int).toNat.toUInt8)=10 from rfl,hi'] at this
     exact this
    have hN:eG z.data.toList=z.data.toList.length:=by unfold eG;rw [hi',if_neg (by omega)]
    have hzz:z.data.toList.length=z.size:=by rw [Array.length_toList];rfl
    have hL:bc z=[z]:=by
     rw [pz hz0,hN,hzz,mJ (by rw [ByteArray.size_extract];omega)]
     rw [ByteArray.extract_zero_size]
    have hJ1 :∀ wr,J pre wr→J pre (wr.setCell ⟨bx,0,none⟩ (.string ⟨#[]⟩)):=fun wr h=>hsetJ _ _ _ h
    gi_wp2_with (first |(refine ⟨trivial,fun h=>absurd h (by simp [Fence.wide]),?_⟩;gi_at_call 108;refine (callsIn_wide.2 (hidx _)).mono ?_;rintro e w' ⟨rfl,rfl⟩))
    have hc1 :(w'.setCell ⟨bx,0,none⟩ (.string ⟨#[]⟩)).cell? ⟨bx,0,none⟩=some (.string ⟨#[]⟩):=World.cell?_setCell_same' _ _ _ (by rw [hc];rfl)
    have hf1 :(w'.setCell ⟨bx,0,none⟩ (.string ⟨#[]⟩)).frozen? ⟨bx,0,none⟩=false:=(World.frozen?_setCell ..).trans hfr
    obtain ⟨fn,tmps,assign,body,hy,hR⟩:=hY pre z _ (hJ1 _ hJs) hz ⟨[],by rw [hl,hL];simp⟩
    rw [hy]
    refine ⟨fun h=>absurd h (by simp [Fence.wide]),hR.mono ?_⟩
    rintro e W3 (⟨rfl,hJ3,hc3,hf3⟩ |⟨rfl,hJx3⟩)
    ·gi_wp2
     go_roundw
     case rel=>exact ⟨pre++[z],⟨#[]⟩,hc3.trans hc1,hf3.trans hf1,Nat.zero_le _,by rw [hl,hL,mJ rfl];simp,hJ3⟩
     case measure=>
      unfold vW
      rw [hc3,hc1,hc]
      exact hz0
    ·gi_wp2
     refine bodyPost_ret (results_none rfl _ _ _) rfl ?_
     exact ⟨⟨_,rfl⟩,.inr ⟨_,⟨[],by rw [hl,hL];simp⟩,hJx3⟩⟩
  ·gi_wp2
   go_end0
   exact ⟨⟨_,rfl⟩,.inl (by rw [hl,mJ (by omega),List.append_nil];exact hJs)⟩
end Go.Proofs.YtffdpnmioidloaaGreatDoor
namespace Go.Mir
open Go.RowKit
variable {P:Program}
abbrev RF (l:Nat):Fence:=Fence.wide.inRound l
def pb (Q:Exit→Act→World→Prop):Prop:=¬ LetsOut Q
theorem rJ {K:Act→World→Prop} {Q:Exit→Act→World→Prop} (h:pb Q):pb (Exit.then K Q):=fun ⟨a,w,z⟩=>h ⟨a,w,z⟩
theorem zN {id:Nat} {Q:Exit→Act→World→Prop} (h:pb Q):pb (Exit.inBlock id Q):=fun ⟨a,w,z⟩=>h ⟨a,w,z⟩
theorem LQ {l n:Nat} {row:String} {args:Array Value} {w:World} {R:Value→World→Prop} (h:Rows P row args w R):RowsIn (RF l) n P row args w R:=
 fun c cs _=>let ⟨v,w',r,s⟩:=h c cs;⟨v,w',r,stepsIn_wide.2 s⟩
theorem GN {l n:Nat} {f:FuncId} {args:Array Value} {w:World} {R:Ending→World→Prop} (h:Calls P f args w R):CallsIn (RF l) n P f args w R:=
 CallsIn.inRound l (callsIn_wide.2 h)
theorem Ex {l n:Nat} {o:Oper} (hd :∀ c,o.op≠ .defer c) {a:Act} {w:World} {next next':Act→World→Prop} {Q:Exit→Act→World→Prop}
  (hn :∀ a w,next a w→next' a w) (h:o.wp P a w next Q):o.wpIn (RF l) n P a w next' Q:=by
 refine ⟨fun _ _=>trivial,?_⟩
 have e:o.semAt (RF l).round a.eval=execOp a.eval o:=Oper.semAt_some l _ o hd
 rw [e]
 unfold Oper.wp at h
 cases hr :(execOp a.eval o).run P w with
 | ok r w'=>
  rw [hr] at h
  cases r with
  | value v=>exact hn _ _ h
  | skip=>exact hn _ _ h
  | defer d=>exact hn _ _ h
  | enter f args=>
   have h:Calls P f args w' _:=h
   refine ⟨fun hz=>(by cases hz),(GN h).mono fun e w'' q=>?_⟩
   cases e with
   | returned v=>exact hn _ _ q
   | panicked ch=>exact q
   | outgrown=>exact q
  | row r args=>exact ⟨fun hz=>(by cases hz),(LQ h).mono fun v w'' q=>hn _ _ q⟩
  | _=>exact False.elim h
 | halt r w'=>
  rw [hr] at h
  cases r <;> first|exact h|exact False.elim h
def u6 (ops:List Oper):Bool:=ops.all fun o=>match o.op with | .defer _=>false|_=>true
theorem zM {ops:List Oper} (h:u6 ops=true) {o:Oper} (ho:o∈ops) :∀ c,o.op≠ .defer c:=fun c e=>by
 have:=List.all_eq_true.1 h o ho
 rw [e] at this
 cases this
theorem xh {l n:Nat} {ops:Array Oper} {Q:Exit→Act→World→Prop} (hQ:pb Q) :∀ (rest:List Oper),u6 rest=true→∀ a w,wpList P ops Q rest a w→wpListIn (RF l) n P ops Q rest a w
 | [],_,a,w,h=>h
 | o::rest,hd,a,w,h=>by
  have hr:u6 rest=true:=by unfold u6 at hd ⊢;rw [List.all_cons,Bool.and_eq_true] at hd;exact hd.2
  unfold wpList at h
  unfold wpListIn
  split
  ·rename_i hw
   rw [if_pos hw] at h
   rcases h with h|h
   ·exact Ex (zM hd List.mem_cons_self) (fun a w q=>xh hQ rest hr a w q) h
   ·exact absurd h.2 hQ
  ·rename_i hw
   rw [if_neg hw] at h
   exact ⟨fun _ _=>trivial,xh hQ rest hr _ _ h⟩
theorem vV {l n:Nat} {md:Region.Mode} {ops:Array Oper} {Q:Exit→Act→World→Prop} (hQ:pb Q) (hd:u6 ops.toList=true) :∀ (fuel:Nat) (listed:Array Bool) (a:Act) (w:World),wpAny P md ops Q fuel listed a w→wpAnyIn (RF l) n P md ops Q fuel listed a w
 | 0,_,_,_,h=>h
 | fuel+1,listed,a,w,h=>by
  refine ⟨h.1,fun i hi=>?_⟩
  have h2:=h.2 i hi
  unfold wpOp at h2
  unfold wpOpIn
  split
  ·rename_i e
   rw [e] at h2
   exact vV hQ hd fuel _ _ _ h2
  ·rename_i o e
   rw [e] at h2
   simp only at h2
   have ho:o∈ops.toList:=Array.mem_toList_iff.2 (Array.mem_of_getElem? e)
   split
   ·rename_i hw
    rw [if_pos hw] at h2
    rcases h2 with h2|h2
    ·exact Ex (zM hd ho) (fun a w q=>vV hQ hd fuel _ _ _ q) h2
    ·exact absurd h2.2 hQ
   ·rename_i hw
    rw [if_neg hw] at h2
    exact ⟨fun _ _=>trivial,vV hQ hd fuel _ _ _ h2⟩
def fk:Code→Bool
 | .region _ ops _=>u6 ops.toList
 | .seq a b=>fk a&&fk b
 | .cond _ a b=>fk a&&fk b
 | .block _ b=>fk b
 | .loop b=>fk b
 | _=>true
end Go.Mir
namespace Go.Mir
open Go.RowKit
variable {P:Program}
def Stb (D L bx:Nat) (I:World→Prop):Prop:=∀ W W',I W→Keeps W (fun b=>b=bx∨b=D∨b=L) W'→I W'
def C7 (D L bx:Nat) (W W':World):Prop:=W'.heap[bx]?=W.heap[bx]?∧W'.heap[D]?=W.heap[D]?∧W'.heap[L]?=W.heap[L]?
def N9 (D L bx:Nat) (I:World→Prop) (Ix:Code→World→Prop) (W:World):Exit→Act→World→Prop
 | .normal,_,W'=>C7 D L bx W W'∧I W'
 | .ret,_,W'=>C7 D L bx W W'∧Ix .ret W'
 | .exit id,_,W'=>C7 D L bx W W'∧Ix (.exit id) W'
 | _,_,_=>False
def vQ (P:Program) (gf bx:Nat) (s0:ByteArray) (LB:List ByteArray):Prop:=
 ∀ (n l:Nat) (J Jx:List ByteArray→World→Prop),
  (∀ pre W v,J pre W→J pre (W.setCell ⟨bx,0,none⟩ v))→(∀ pre (W:World),J pre W→J pre { W with drawn:=W.drawn+1 })→
  (∀ pre x W,J pre W→x.size≤s0.size→(pre++[x]) <+: LB→YieldAt Fence.wide (n - 1) P l #[.string x] W fun e W'=>
   (e = .returned (.bool true)∧J (pre++[x]) W'∧W'.cell? ⟨bx,0,none⟩=W.cell? ⟨bx,0,none⟩∧W'.frozen? ⟨bx,0,none⟩=W.frozen? ⟨bx,0,none⟩)∨(e = .returned (.bool false)∧Jx (pre++[x]) W'))→
  ∀ W:World,W.cell? ⟨bx,0,none⟩=some (.string s0)→W.frozen? ⟨bx,0,none⟩=false→J [] W→
  CallsIn Fence.wide n P gf #[.func (.yield l) #[] #[],.pointer (some ⟨bx,0,none⟩)] W fun e W'=>(∃ v,e = .returned v)∧(J LB W'∨∃ pre,pre <+: LB∧Jx pre W')
theorem uH (W:World) {l:Nat} (o:Obj) {F:Nat→Prop} (hF:F l):Keeps W F (W.putObj l o):=
 ⟨rfl,rfl,rfl,by simp [World.putObj],fun b _ hb=>by
  show (W.putObj l o).heap[b]?=_
  exact World.putObj_heap_other (fun e=>hb (by rw [e];exact hF))⟩
theorem Fo (W:World) {bx:Nat} (v:Value) {F:Nat→Prop} (hF:F bx):Keeps W F (W.setCell ⟨bx,0,none⟩ v):=
 ⟨rfl,rfl,rfl,by simp,fun b _ hb=>Below.heap_setCell _ _ _ _ (fun e=>hb (by rw [e];exact hF))⟩
theorem tT {W W':World} {b:Nat} (h:W'.heap[b]?=W.heap[b]?):W'.cell? ⟨b,0,none⟩=W.cell? ⟨b,0,none⟩∧W'.frozen? ⟨b,0,none⟩=W.frozen? ⟨b,0,none⟩:=by
 unfold World.cell? World.frozen?
 simp only [h,and_self]
theorem Ka {g:Operand} {ps:Array Tmp} {assign body:Code} {Q:Exit→Act→World→Prop} {a:Act} {w:World} {gf bx:Nat} {s0:ByteArray} {LB:List ByteArray}
  (hg:a.eval g = .func (.func gf) #[] #[.pointer (some ⟨bx,0,none⟩)]) (eg :∀ args w,(callFunc gf args).run P w = .ok (.enter gf args) w) (hps:ps.size=1)
  (hit:vQ P gf bx s0 LB) (hb:w.cell? ⟨bx,0,none⟩=some (.string s0)) (hf:w.frozen? ⟨bx,0,none⟩=false)
  (I:List ByteArray→World→Prop) (Ix:List ByteArray→Code→World→Prop) (hI :∀ pre,Stb w.heap.size (w.heap.size+1) bx (I pre)) (hIx :∀ pre c,Stb w.heap.size (w.heap.size+1) bx (Ix pre c)) (h0:I [] w)
  (hround :∀ pre x W,I pre W→x.size≤s0.size→(pre++[x]) <+: LB→w.heap.size+1<W.heap.size→
   assign.wpIn (RF (w.heap.size+1)) 0 P (Exit.then (fun a' W'=>W'=W∧∀ Wb,Wb.heap.size=W.heap.size→I pre Wb→body.wpIn (RF (w.heap.size+1)) 0 P (N9 w.heap.size (w.heap.size+1) bx (I (pre++[x])) (Ix (pre++[x])) Wb) a' Wb) (fun _ _ _=>False))
    { tmps:=(ps.zip #[.string x]).foldl (fun t (p,v)=>t.setIfInBounds p v) a.tmps,defers:= [] } W)
  (hdone :∀ W,I LB W→W.heap[w.heap.size]?=some (.deferred (some []))→w.heap.size<W.heap.size→Q .normal { a with defers:={ target:= .collected w.heap.size,args:=#[] }::a.defers } W)
  (hstop :∀ pre c W,pre <+: LB→Ix pre c W→W.heap[w.heap.size]?=some (.deferred (some []))→w.heap.size<W.heap.size→c.wp P Q { a with defers:={ target:= .collected w.heap.size,args:=#[] }::a.defers } W) :
  (Code.rangeFunc g ps assign body).wp P Q a w:=by
 have hbx:bx<w.heap.size:=by
  rcases Nat.lt_or_ge bx w.heap.size with h|h
  ·exact h
  ·rw [World.cell?,Array.getElem?_eq_none h] at hb;cases hb
 refine (wpIn_wide (n:=0)).1 (wpIn_rangeFunc ?_)
 intro fn hfn
 rw [Fence.wide_round]
 obtain ⟨rec,hrec⟩ :∃ rec:LoopState→Option Code→Loop,rec=fun st pe=>{ state:=st,pending:=pe,fn,tmps:=a.tmps,params:=ps,assign,body,defers:=w.heap.size }:=⟨_,rfl⟩
 obtain ⟨W1,hW1⟩ :∃ W1,(w.alloc (.deferred (some []))).alloc (.loop (rec .ready none))=W1:=⟨_,rfl⟩
 have hL1:W1.heap[w.heap.size+1]?=some (.loop (rec .ready none)):=by
  rw [←hW1];have:=World.alloc_heap_new (w.alloc (.deferred (some []))) (.loop (rec .ready none));rwa [World.size_alloc] at this
 have hK1:W1.heap[w.heap.size]?=some (.deferred (some [])):=by
  rw [←hW1];exact (Below.heap_alloc _ _ _ (by simp)).trans (World.alloc_heap_new w _)
 have hkw :∀ F:Nat→Prop,Keeps w F W1:=fun F=>by
  rw [←hW1]
  exact ⟨rfl,rfl,rfl,by simp;omega,fun b hb' _=>(Below.heap_alloc _ _ _ (by simp;omega)).trans (Below.heap_alloc w _ _ hb')⟩
 have hI1:I [] W1:=hI _ _ _ h0 (hkw _)
 have hbW:W1.heap[bx]?=w.heap[bx]?:=(hkw fun _=>False).block bx hbx (fun h=>h)
 have hb1:=tT hbW
 refine ⟨w.heap.size+1,[{ target:= .collected w.heap.size,args:=#[] }],W1,{ target:= .fn (.func gf) #[.pointer (some ⟨bx,0,none⟩)],args:=#[.func (.yield (w.heap.size+1)) #[] #[]] },W1,gf,
  #[.func (.yield (w.heap.size+1)) #[] #[],.pointer (some ⟨bx,0,none⟩)],W1,?_,?_,?_,?_,fun h=>(by cases h),?_⟩
 ·rw [←hW1,hrec];exact run_enterLoop_outer _ _ _ _ _
 ·simp only [resolve,hg]
  simp [go_sem]
 ·intro f' _;exact trivial
 ·simp [invoke,go_sem,eg]
 ·have hput :∀ {W:World} {o:Obj} {pre:List ByteArray},I pre W→I pre (W.putObj (w.heap.size+1) o):=fun h=>hI _ _ _ h (uH _ _ (.inr (.inr rfl)))
  have hputx :∀ {W:World} {o:Obj} {c:Code} {pre:List ByteArray},Ix pre c W→Ix pre c (W.putObj (w.heap.size+1) o):=fun h=>hIx _ _ _ _ h (uH _ _ (.inr (.inr rfl)))
  refine (hit 0 (w.heap.size+1)
   (fun pre W=>I pre W∧W.heap[w.heap.size+1]?=some (.loop (rec .ready none))∧W.heap[w.heap.size]?=some (.deferred (some [])))
   (fun pre W=>∃ c,Ix pre c W∧W.heap[w.heap.size+1]?=some (.loop (rec .done (some c)))∧W.heap[w.heap.size]?=some (.deferred (some [])))
   (fun pre W v h=>⟨hI _ _ _ h.1 (Fo W v (.inl rfl)),(Below.heap_setCell _ _ _ _ (by simp only;omega)).trans h.2.1,(Below.heap_setCell _ _ _ _ (by simp only;omega)).trans h.2.2⟩)
   (fun pre W h=>⟨hI _ _ _ h.1 ⟨rfl,rfl,rfl,Nat.le_refl _,fun _ _ _=>rfl⟩,h.2⟩)
   ?_ W1 (hb1.1.trans hb) (hb1.2.trans hf) ⟨hI1,hL1,hK1⟩).mono ?_
  ·rintro pre x W ⟨hi,hl,hk⟩ hx hpx
   have hlt:w.heap.size+1<W.heap.size:=(Array.getElem?_eq_some_iff.1 hl).1
   have hy:=run_yield (P:=P) (args:=#[.string x]) hl (by rw [hrec];simp [hps])
   rw [hrec] at hy
   refine ⟨fn,_,assign,body,hy,roundIn_of_wpIn hfn (wpIn_mono (hround pre x W hi hx hpx hlt) ?_)⟩
   clear hy
   rintro e a' W' hp
   cases e with
   | normal=>
    obtain ⟨rfl,hbody⟩:=hp
    refine ⟨_,run_beginRound hl (by rw [hrec]),?_⟩
    have hl2 :(W'.putObj (w.heap.size+1) (.loop { rec .ready none with state:= .busy })).heap[w.heap.size+1]?=some (.loop { rec .ready none with state:= .busy }):=World.putObj_heap_same hlt
    have hk2 :(W'.putObj (w.heap.size+1) (.loop { rec .ready none with state:= .busy })).heap[w.heap.size]?=some (.deferred (some [])):=(World.putObj_heap_other (by omega)).trans hk
    have hx2 :(W'.putObj (w.heap.size+1) (.loop { rec .ready none with state:= .busy })).heap[bx]?=W'.heap[bx]?:=World.putObj_heap_other (by omega)
    refine wpIn_mono (hbody _ (by simp [World.putObj]) (hput hi)) ?_
    have fin :∀ (jump:Option Code) (W3:World),C7 w.heap.size (w.heap.size+1) bx (W'.putObj (w.heap.size+1) (.loop { rec .ready none with state:= .busy })) W3→
      (Instr.endRound (w.heap.size+1) jump).run P W3 = .ok (.bool jump.isNone) (W3.putObj (w.heap.size+1) (.loop (rec (if jump.isNone then .ready else .done) jump)))∧
      (W3.putObj (w.heap.size+1) (.loop (rec (if jump.isNone then .ready else .done) jump))).heap[w.heap.size+1]?=some (.loop (rec (if jump.isNone then .ready else .done) jump))∧
      (W3.putObj (w.heap.size+1) (.loop (rec (if jump.isNone then .ready else .done) jump))).heap[w.heap.size]?=some (.deferred (some []))∧
      (W3.putObj (w.heap.size+1) (.loop (rec (if jump.isNone then .ready else .done) jump))).heap[bx]?=W'.heap[bx]?:=fun jump W3 hs3=>by
     obtain ⟨s1,s2,s3⟩:=hs3
     have hl3:=s3.trans hl2
     have:=run_endRound (P:=P) jump hl3
     rw [hrec] at this hl3 ⊢
     exact ⟨this,World.putObj_heap_same (Array.getElem?_eq_some_iff.1 hl3).1,(World.putObj_heap_other (by omega)).trans (s2.trans hk2),(World.putObj_heap_other (by omega)).trans (s1.trans hx2)⟩
    rintro e a3 W3 hp
    cases e with
    | normal=>
     obtain ⟨hs3,hi3⟩:=hp
     obtain ⟨hr,hl4,hk4,hx4⟩:=fin none W3 hs3
     have hc4:=tT hx4
     exact ⟨_,_,hr,.inl ⟨rfl,⟨hput hi3,hl4,hk4⟩,hc4.1,hc4.2⟩⟩
    | ret=>
     obtain ⟨hs3,hi3⟩:=hp
     obtain ⟨hr,hl4,hk4,_⟩:=fin (some .ret) W3 hs3
     exact ⟨_,_,hr,.inr ⟨rfl,.ret,hputx hi3,hl4,hk4⟩⟩
    | exit id=>
     obtain ⟨hs3,hi3⟩:=hp
     obtain ⟨hr,hl4,hk4,_⟩:=fin (some (.exit id)) W3 hs3
     exact ⟨_,_,hr,.inr ⟨rfl,.exit id,hputx hi3,hl4,hk4⟩⟩
    | goto t=>exact hp.elim
    | panic ch=>exact hp.elim
    | outgrown=>exact hp.elim
   | ret=>exact hp.elim
   | exit id=>exact hp.elim
   | goto t=>exact hp.elim
   | panic ch=>exact hp.elim
   | outgrown=>exact hp.elim
  ·rintro e W2 ⟨⟨v,rfl⟩,(⟨hi,hl,hk⟩ |⟨pre,hpre,c,hi,hl,hk⟩)⟩
   ·have hlt:=(Array.getElem?_eq_some_iff.1 hl).1
    exact ⟨none,_,by have:=run_endLoop (P:=P) hl (by rw [hrec];simp);rw [hrec] at this;exact this,hdone _ (hput hi) ((World.putObj_heap_other (by omega)).trans hk) (by simp [World.putObj];omega)⟩
   ·have hlt:=(Array.getElem?_eq_some_iff.1 hl).1
    exact ⟨some c,_,by have:=run_endLoop (P:=P) hl (by rw [hrec];simp);rw [hrec] at this;exact this,wpIn_wide.2 (hstop pre c _ hpre (hputx hi) ((World.putObj_heap_other (by omega)).trans hk) (by simp [World.putObj];omega))⟩
end Go.Mir
namespace Go.Mir
open Go.RowKit
variable {P:Program}
def Nmd (E:Env) (b:Nat):Prop:=∃ h k,E.H h=some k∧Tch E h k b
theorem P5 {B:Base} {E:Env} (hE:HRel B E) (w':World) (h1:w'.os=E.w.os) (h2:w'.tape=E.w.tape) (h3:w'.output=E.w.output) (h4:E.w.heap.size≤w'.heap.size)
  (hS :∀ b,E.S b→w'.heap[b]?=E.w.heap[b]?) (hN :∀ b,Nmd E b→w'.heap[b]?=E.w.heap[b]?) (h0 :∀ b,b<B.w0.heap.size→¬ B.F b→w'.heap[b]?=E.w.heap[b]?) :
  HRel B { E with w:=w' }∧Ext E { E with w:=w' }:=by
 have X:Ext E { E with w:=w' }:=
  ⟨fun _ h=>h,fun _ h=>h,fun b h=>hS b h,fun h cs _ hx=>⟨⟨cs,hx⟩,rfl⟩,fun h ver rw t xs _ _ hx=>⟨rw,xs,hx,rfl,rfl,fun b c T fr hr hw=>⟨c,T,fr,(hN b ⟨h,_,hx,.inl hr⟩).trans hw,rfl⟩⟩,
   fun h ver esz cs _ _ hx=>⟨cs,hx,rfl,rfl,fun b c T fr hr hw=>⟨c,T,fr,(hN b ⟨h,_,hx,.inl hr⟩).trans hw,rfl⟩⟩,fun h es _ hx=>⟨⟨es,hx⟩,rfl⟩,fun h k t x _ hx=>⟨⟨x,hx⟩,rfl⟩⟩
 have tm :∀ {h k b},E.H h=some k→Tch { E with w:=w' } h k b→Tch E h k b:=fun hx ht=>Tch.mv (E:=E) (E':={ E with w:=w' }) rfl (fun b hb'=>hN b ⟨_,_,hx,.inl hb'⟩) ht
 refine ⟨⟨hE.used,fun b h=>Nat.lt_of_lt_of_le (hE.stab b h) h4,fun h k b a1 a2=>Nat.lt_of_lt_of_le (hE.lt' h k b a1 (tm a1 a2)) h4,fun h h' k k' b a1 a2 a3 a4=>hE.inj' h h' k k' b a1 a2 (tm a1 a3) (tm a2 a4),fun h k a1=>bl X rfl (fun b hb'=>hN b ⟨h,k,a1,hb'⟩) (fun _ _ _ h=>h) (hE.blk h k a1),?_,fun h k b a1 a2=>hE.own' h k b a1 (tm a1 a2),hE.s0,hE.sb⟩,X⟩
 exact ⟨h1.trans hE.keeps.os,h2.trans hE.keeps.tape,h3.trans hE.keeps.output,Nat.le_trans hE.keeps.size h4,fun b hb hF=>(h0 b hb hF).trans (hE.keeps.block b hb hF)⟩
def reb (B:Base) (E:Env) (g:jM E.w (Nmd E)) (ds:List Deferred):Base:=⟨E.w,Nmd E,E.S,B.G,B.clo,g,ds⟩
theorem cC {B:Base} {E:Env} (hE:HRel B E):jM E.w (Nmd E):=hE.glob fun _ h=>h
theorem Cv {B:Base} {E:Env} (hE:HRel B E) (ds:List Deferred):HRel (reb B E (cC hE) ds) E:=
 ⟨hE.used,hE.stab,hE.lt',hE.inj',hE.blk,Keeps.refl _ _,fun h k b a1 a2=> .inl ⟨h,k,a1,a2⟩,fun _ h=>h,fun _ h=> .inl h⟩
theorem Au {B:Base} {E:Env} {g:jM E.w (Nmd E)} {ds:List Deferred} {p:Nat} (h:B.pins p) :(reb B E g ds).pins p:=h
theorem oN {B:Base} {E:Env} (hE:HRel B E) {b:Nat} (h:Nmd E b):B.F b∨B.w0.heap.size≤b:=by
 obtain ⟨n,k,h1,h2⟩:=h
 exact hE.own' n k b h1 h2
theorem xK {B:Base} {E E3:Env} (hE:HRel B E) {ds:List Deferred} (h3:HRel (reb B E (cC hE) ds) E3):HRel B E3:=by
 have hk:=h3.keeps
 refine ⟨h3.used,h3.stab,h3.lt',h3.inj',h3.blk,⟨hk.os.trans hE.keeps.os,hk.tape.trans hE.keeps.tape,hk.output.trans hE.keeps.output,Nat.le_trans hE.keeps.size hk.size,fun b hb hF=>?_⟩,fun h k b a1 a2=>?_,fun b hb=>h3.s0 b (hE.s0 b hb),fun b hb=>?_⟩
 ·refine (hk.block b (Nat.lt_of_lt_of_le hb hE.keeps.size) (fun hn=>?_)).trans (hE.keeps.block b hb hF)
  rcases oN hE hn with h|h
  ·exact hF h
  ·omega
 ·rcases h3.own' h k b a1 a2 with h|h
  ·exact oN hE h
  ·exact .inr (Nat.le_trans hE.keeps.size h)
 ·rcases h3.sb b hb with h|h|h
  ·exact hE.sb b h
  ·exact .inr (oN hE h)
  ·exact .inr (.inr (Nat.le_trans hE.keeps.size h))
theorem xJ {B:Base} {E E3:Env} (hE:HRel B E) {ds:List Deferred} (h3:HRel (reb B E (cC hE) ds) E3) {b:Nat} (hb:b<E.w.heap.size) (hn :¬ Nmd E b) :
  E3.w.heap[b]?=E.w.heap[b]?∧¬ Nmd E3 b∧(¬ E.S b→¬ E3.S b):=by
 refine ⟨h3.keeps.block b hb hn,fun ⟨n,k,a1,a2⟩=>?_,fun hs h=>?_⟩
 ·rcases h3.own' n k b a1 a2 with h|h
  ·exact hn h
  ·have h:E.w.heap.size≤b:=h
   omega
 ·rcases h3.sb b h with h|h|h
  ·exact hs h
  ·exact hn h
  ·have h:E.w.heap.size≤b:=h
   omega
end Go.Mir
namespace Go.Mir
open Go.RowKit
variable {P:Program}
def C6 (P:Program) (N:Nat) (B:Base) (l n:Nat) (body:Code) (L:LoopSum):Prop:=
 ∀ (st:St) (Q:Lf→Dl→Nat→Prop) (CQ:Exit→Act→World→Prop),pb CQ→L.pre st→(L.T st).sat Q→(∀ e d nx a w,Q e d nx→at_ B N st d nx a w→CQ (dJ e) a w)→∀ a w,eo B N st a w→(Code.loop body).wpIn (RF l) n P CQ a w
def gB (P:Program) (p N:Nat) (body:Code) (L:LoopSum):Prop:=∀ (B:Base),B.pins p→∀ l n,C6 P N B l n body L
theorem b9 {C:Cfg} (hC:CfgOK P C) (hP:P.follows .mixedOrders=true) {B:Base} {l n:Nat} {Λ:Nat→Option LoopSum} :∀ (c:Code),(∀ b∈aB Λ c,∃ L,Λ (rid b)=some L∧C6 P C.N B l n b L)→fk c=true→
  ∀ (st:St) (Q:Lf→Dl→Nat→Prop) (CQ:Exit→Act→World→Prop),pb CQ→(aR C Λ c st).sat Q→(∀ e d nx a w,Q e d nx→at_ B C.N st d nx a w→CQ (dJ e) a w)→∀ a w,eo B C.N st a w→c.wpIn (RF l) n P CQ a w
 | .skip,hM,_,st,Q,CQ,hO,h,hQ,a,w,hs=>wpIn_skip (hQ .nrm _ _ a w h (fi hs))
 | .ret,hM,_,st,Q,CQ,hO,h,hQ,a,w,hs=>wpIn_ret (hQ .ret _ _ a w h (fi hs))
 | .exit id,hM,_,st,Q,CQ,hO,h,hQ,a,w,hs=>wpIn_exit (hQ (.ext id) _ _ a w h (fi hs))
 | .region id ops dr,hM,hL,st,Q,CQ,hO,h,hQ,a,w,hs=>by
  simp only [aR] at h
  obtain ⟨df,rf,hrun,hc,hq⟩:=im _ _ _ _ h
  have hfin :∀ a w,SRel B C.N (find (df.tm++st.tm)) (an st.H df.hp) (fun n=>n<st.nx+ops.toList.length*C.K) a w→CQ .normal a w:=fun a w h'=>hQ .nrm _ _ a w hq h'
  cases dr with
  | false=>
   refine wpIn_region_list (xh hO _ hL _ _ ?_)
   have:=qn hC ops.toList 0 _ _ _ _ hrun (Q:=CQ) (B:=B) (fun a w h'=>hfin a w (by simpa using h')) a w (by simpa [eo,kT] using hs)
   simpa using this
  | true=>
   rcases hc with hc|hc
   ·cases hc
   ·have:=pf hC hrun hc.1 hc.2 hfin hs
    exact wpIn_region_any hP (vV hO hL _ _ _ _ (by simpa using this))
 | .seq x y,hM,hL,st,Q,CQ,hO,h,hQ,a,w,hs=>by
  simp only [aR] at h
  have hL :(fk x&&fk y)=true:=hL
  rw [Bool.and_eq_true] at hL
  have hx:=b9 hC hP (B:=B) (l:=l) (n:=n) x (fun b hb=>hM b (List.mem_append_left _ hb)) hL.1
  have hy:=b9 hC hP (B:=B) (l:=l) (n:=n) y (fun b hb=>hM b (List.mem_append_right _ hb)) hL.2
  have h2:=jD (B:=B) (N:=C.N) (Y:=fun a w=>y.wpIn (RF l) n P CQ a w) h (fun d nx hk a w ha=>by
   rw [pre_sat] at hk
   exact hy (st.app d nx) _ CQ hO hk (fun e d' nx' a w hq hat=>hQ e _ _ a w hq (at_pre.1 hat)) a w (at_here.1 ha))
  refine wpIn_seq (hx st _ _ (rJ hO) h2 (fun e d nx a w hq hat=>?_) a w hs)
  cases e with
  | nrm=>exact hq a w hat
  | ext id=>exact hQ (.ext id) d nx a w hq hat
  | ret=>exact hQ .ret d nx a w hq hat
 | .cond c x y,hM,hL,st,Q,CQ,hO,h,hQ,a,w,hs=>by
  simp only [aR] at h
  have hL :(fk x&&fk y)=true:=hL
  rw [Bool.and_eq_true] at hL
  have hx:=b9 hC hP (B:=B) (l:=l) (n:=n) x (fun b hb=>hM b (List.mem_append_left _ hb)) hL.1
  have hy:=b9 hC hP (B:=B) (l:=l) (n:=n) y (fun b hb=>hM b (List.mem_append_right _ hb)) hL.2
  have hv :∃ E:Env,cY E (find st.tm) a:=by
   obtain ⟨⟨E,_,_,_,_,hT⟩,_⟩:=hs
   exact ⟨E,hT⟩
  obtain ⟨E,hT⟩:=hv
  have hc:=hZ hT c
  split at h
  ·rename_i e;rw [e] at hc;simp only [aa] at hc
   exact wpIn_cond_true hc (hx st Q CQ hO h hQ a w hs)
  ·rename_i e;rw [e] at hc;simp only [aa] at hc
   exact wpIn_cond_false hc (hy st Q CQ hO h hQ a w hs)
  ·rename_i b e;rw [e] at hc;simp only [aa] at hc
   exact wpIn_cond_split hc (fun hb=>hx st Q CQ hO (h.1 hb) hQ a w hs) (fun hb=>hy st Q CQ hO (h.2 hb) hQ a w hs)
  ·rename_i q e;rw [e] at hc;simp only [aa] at hc
   obtain ⟨b,hc,hq⟩:=hc
   exact wpIn_cond_split hc (fun hb=>hx st Q CQ hO (h.1 (hq hb)) hQ a w hs) (fun _=>hy st Q CQ hO h.2 hQ a w hs)
  ·rename_i q e;rw [e] at hc;simp only [aa] at hc
   obtain ⟨b,hc,hq⟩:=hc
   exact wpIn_cond_split hc (fun _=>hx st Q CQ hO h.2 hQ a w hs) (fun hb=>hy st Q CQ hO (h.1 (hq hb)) hQ a w hs)
  ·exact h.elim
 | .block id b,hM,hL,st,Q,CQ,hO,h,hQ,a,w,hs=>by
  simp only [aR] at h
  refine wpIn_block (b9 hC hP (B:=B) (l:=l) (n:=n) b hM hL st _ _ (zN hO) (dw h) (fun e d nx a w hq hat=>?_) a w hs)
  cases e with
  | nrm=>exact hQ .nrm d nx a w hq hat
  | ret=>exact hQ .ret d nx a w hq hat
  | ext id'=>
   simp only [dJ,Exit.inBlock]
   simp only at hq
   split
   ·rename_i e;rw [if_pos e] at hq;exact hQ .nrm d nx a w hq hat
   ·rename_i e;rw [if_neg e] at hq;exact hQ (.ext id') d nx a w hq hat
 | .loop b,hM,hL,st,Q,CQ,hO,h,hQ,a,w,hs=>by
  simp only [aR] at h
  obtain ⟨S,hS,hat⟩:=hM b List.mem_cons_self
  rw [hS] at h
  exact hat st Q CQ hO h.1 h.2 hQ a w hs
 | .rangeFunc _ _ _ _,_,_,_,_,_,_,h,_,_,_,_=>h.elim
 | .scope _,_,_,_,_,_,_,h,_,_,_,_=>h.elim
 | .label _,_,_,_,_,_,_,h,_,_,_,_=>h.elim
 | .goto _,_,_,_,_,_,_,h,_,_,_,_=>h.elim
 | .refuse _,_,_,_,_,_,_,h,_,_,_,_=>h.elim
theorem FO {p p':Nat} (hp:p≤p') {M:Nam} {h:Nat} :∀ {o:Option Nat},ja p' M h o=true→ja p M h o=true
 | none,e=>e
 | some v,e=>by
  simp only [ja] at e ⊢
  cases hv:Nat.blt v p with
  | false=>rfl
  | true=>
   rw [show Nat.blt v p'=true from by rw [Nat.blt_eq] at hv ⊢;omega] at e
   exact e
theorem vr {p p':Nat} (hp:p≤p') {M:Nam} :∀ {l:List (Nat×Option Nat)},eu p' M l=true→eu p M l=true
 | [],h=>Nat.ble_eq_true_of_le (Nat.le_trans hp (Nat.le_of_ble_eq_true h))
 |(n,o)::l,h=>by
  simp only [eu] at h ⊢
  cases hb :(bif Nat.blt n p' then ja p' M n o else true) with
  | false=>rw [hb] at h;cases h
  | true=>
   rw [hb] at h
   rw [show (bif Nat.blt n p then ja p M n o else true)=true from ?_]
   ·exact vr hp (l:=l) h
   ·cases hn:Nat.blt n p with
    | false=>rfl
    | true=>
     rw [show Nat.blt n p'=true from by rw [Nat.blt_eq] at hn ⊢;omega] at hb
     exact FO hp hb
theorem Lx {p p':Nat} (hp:p≤p') {B:Base} (h:B.pins p):B.pins p':=fun M E hp' hk hs hG=>h M E hp' (vr hp hk) hs hG
theorem FP {E0:Env} {p:Nat} (hU :∀ n,E0.U n→n<p) {M':Nam} {E:Env} {hp:List (Nat×Blk)} (hpin:eu p M' (tv hp)=true) (hs:HSub M' E hp) (hG:Ext E0 E):Ext E0 (aM M' E hp):=by
 have hle:=oQ hpin
 refine ⟨fun n hn=>Nat.lt_of_lt_of_le (hU n hn) hle,hG.s,hG.keepS,fun h cs hu hx=>?_,fun h ver rw t xs hu hv hx=>?_,fun h ver esz cs hu hv hx=>?_,fun h es hu hx=>?_,fun h kk t x hu hx=>?_⟩
 case refine_5=>
  obtain ⟨e,z⟩:=ke hpin (ag (ah hx)) rfl (hU _ hu)
  obtain ⟨_,g1⟩:=hs.abs _ _ _ _ (ah hx)
  rw [e] at g1
  obtain ⟨g2,g3⟩:=hG.ha h kk t x hu g1
  refine ⟨g2,?_⟩
  simp only [aM,z,Bool.false_eq_true,if_false,e]
  exact g3
 ·obtain ⟨e,z⟩:=ke hpin (ag (ah hx)) rfl (hU _ hu)
  obtain ⟨_,cs0,g1⟩:=hs.cells _ _ (ah hx)
  rw [e] at g1
  obtain ⟨g2,g3⟩:=hG.hc h cs0 hu g1
  refine ⟨g2,?_⟩
  simp only [aM,z,Bool.false_eq_true,if_false,e]
  exact g3
 ·obtain ⟨e,z,e2⟩:=nO hpin (ag (ah hx)) rfl (hU _ hu) (hU _ hv)
  rcases (hs.row _ _ _ _ _ (ah hx)).2 with ⟨h1,_⟩ |⟨_,g1⟩
  ·rw [z] at h1;cases h1
  ·rw [e,e2] at g1
   obtain ⟨rw0,xs0,g2,g3,g4,g5⟩:=hG.hr h ver rw t xs hu hv g1
   refine ⟨rw0,xs0,g2,g3,?_,g5⟩
   simp only [aM,z,Bool.false_eq_true,if_false,e]
   exact g4
 ·obtain ⟨e,z,e2⟩:=nO hpin (ag (ah hx)) rfl (hU _ hu) (hU _ hv)
  obtain ⟨_,_,cs0,g1,g0⟩:=hs.grow _ _ _ _ (ah hx)
  rw [e,e2] at g1
  obtain ⟨cs1,g2,g3,g4,g5⟩:=hG.hg h ver esz cs0 hu hv g1
  refine ⟨cs1,g2,by omega,?_,g5⟩
  simp only [aM,z,Bool.false_eq_true,if_false,e]
  exact g4
 ·exact (hs.nomp _ _ (ah hx)).elim
theorem Bi (L:Lp) (hC:CfgOK P L.C) (hP:P.follows .mixedOrders=true) (hd:fk L.body=true) (hΛ :∀ b∈aB L.Λ L.body,∃ S,L.Λ (rid b)=some S∧gB P L.p L.C.N b S)
  (res:Den (tyP L.q)→mh L.X) (inv:Den (tyP L.q)→Prop) (μ:Den (tyP L.q)→Nat)
  (step :∀ x,inv x→stepG L res (fun y=>inv y∧μ y<μ x) x∧stepE L res x=res x):gB P L.p L.C.N L.body (aD L res inv):=by
 intro B hB l m st Q CQ hO hpre hT hQ a w hs
 simp only [aD] at hpre hT
 obtain ⟨hH0,hpre⟩:=hpre
 obtain ⟨hl,hpre⟩:=ifB_iff.1 hpre
 cases hr:cu L.p L.q st with
 | none=>rw [hr] at hpre;exact hpre.elim
 | some x0=>
 rw [hr] at hpre hT
 simp only at hpre hT
 have hT:=cM hT
 obtain ⟨hp0,hg0⟩:=cF hr
 have start:eo B L.C.N (put L.q x0) a w:=dA hB hg0 hp0 hs
 have key :∀ n x a w,inv x→μ x<n→(TX L.X (res x)).sat (fun e d nx=>Q e ⟨d.tm++kX st.tm,d.hp++iY (Nat.max nx st.nx) st.hp⟩ (Nat.max nx st.nx+1))→eo B L.C.N (put L.q x) a w→Code.roundsIn (RF l) m P L.body CQ n a w:=by
  intro n
  induction n with
  | zero=>intro x a w _ hlt;omega
  | succ n ih=>
   intro x a w hx hlt hTx hs
   rw [roundsIn_succ]
   obtain ⟨hG,hE⟩:=step x hx
   refine b9 hC hP (B:=B) L.body (fun b hb=>let ⟨S,hS,h⟩:=hΛ b hb;⟨S,hS,h B hB l m⟩) hd (put L.q x) _ _ (rJ hO) (eD _ _ _ _ hG) (fun e d nx a w hq hat=>?_) a w hs
   have hat:=at_here.1 hat
   obtain ⟨hok,hv⟩:=hq
   change hdL L res (put L.q x) e d nx=stepE L res x at hv
   rw [hE] at hv
   have out :∀ e:Lf,(match oM L.p L.X e ((put L.q x).app d nx) with|some _=>True|none=>False)→(match oM L.p L.X e ((put L.q x).app d nx) with|some o=>o|none=>qF L.X)=res x→CQ (dJ e) a w:=fun e hok hv=>by
    cases ho:oM L.p L.X e ((put L.q x).app d nx) with
    | none=>rw [ho] at hok;exact hok.elim
    | some o=>
     rw [ho] at hv
     simp only at hv
     subst hv
     obtain ⟨q,y,h1,h2⟩:=Bf ho hTx
     obtain ⟨h3,h4⟩:=cF h1
     have h5:=dA hB h4 h3 hat
     exact hQ e _ _ a w h2 (qk hH0 hl h5)
   cases e with
   | nrm=>
    simp only [okL] at hok
    simp only [hdL] at hv
    cases hr2:cu L.p L.q ((put L.q x).app d nx) with
    | none=>rw [hr2] at hok;exact hok.elim
    | some y=>
     rw [hr2] at hok
     obtain ⟨h3,h4⟩:=cF hr2
     rw [h4] at hv
     simp only at hok hv
     exact ih y a w hok.1 (by omega) (by rw [hv];exact hTx) (dA hB h4 h3 hat)
   | ext id=>exact out (.ext id) hok hv
   | ret=>exact out .ret hok hv
 exact wpIn_loop_rounds (μ x0+1) (key _ x0 a w hpre (Nat.lt_succ_self _) hT start)
theorem IJ {p N:Nat} {c:Code} {Λ:Nat→Option LoopSum} (h :(aB Λ c).isEmpty=true) :∀ b∈aB Λ c,∃ S,Λ (rid b)=some S∧gB P p N b S:=fun b hb=>by
 rw [List.isEmpty_iff.1 h] at hb
 cases hb
theorem I0 {p N:Nat} {c b0:Code} {Λ:Nat→Option LoopSum} {S:LoopSum} (h:aB Λ c=[b0]) (hS:Λ (rid b0)=some S) (hok:gB P p N b0 S) :∀ b∈aB Λ c,∃ S,Λ (rid b)=some S∧gB P p N b S:=fun b hb=>by
 rw [h] at hb
 cases List.mem_singleton.1 hb
 exact ⟨S,hS,hok⟩
end Go.Mir
namespace Go.Mir
open Go.RowKit
variable {P:Program}
theorem EE {l n id sl p ty:Nat} {pos:String} {Q:Exit→Act→World→Prop} {a:Act} {w:World} (h:Q .normal { a with tmps:=a.tmps.setIfInBounds sl (a.tmps.getD p undef) } w) :
  (Code.region id #[⟨some sl,.assign (.tmp p),ty,pos,#[],none⟩] false).wpIn (RF l) n P Q a w:=wpIn_region_list (by
 unfold wpListIn
 split
 ·exact ⟨fun _ _=>trivial,h⟩
 ·rename_i hw
  exact (hw rfl).elim)
def qI (hb:Nat) (E:Env):Env:=⟨E.U,E.ρ,E.S,E.w,fun h=>bif Nat.beq h hb then none else E.H h⟩
theorem bg {hb:Nat} {E:Env} {h:Nat} {k:Blk} (e :(qI hb E).H h=some k):E.H h=some k∧h≠hb:=by
 have e :(bif Nat.beq h hb then none else E.H h)=some k:=e
 cases hh:Nat.beq h hb with
 | true=>rw [hh] at e;cases e
 | false=>
  rw [hh] at e
  exact ⟨e,fun x=>by subst x;rw [Nat.beq_refl] at hh;cases hh⟩
theorem yw (hb:Nat) (E:Env):Ext E (qI hb E):=
 ⟨fun _ h=>h,fun _ h=>h,fun _ _=>rfl,fun _ cs _ hx=>⟨⟨cs,(bg hx).1⟩,rfl⟩,fun _ _ rw _ xs _ _ hx=>⟨rw,xs,(bg hx).1,rfl,rfl,fun _ c T fr _ hw=>⟨c,T,fr,hw,rfl⟩⟩,
  fun _ _ _ cs _ _ hx=>⟨cs,(bg hx).1,rfl,rfl,fun _ c T fr _ hw=>⟨c,T,fr,hw,rfl⟩⟩,fun _ es _ hx=>⟨⟨es,(bg hx).1⟩,rfl⟩,fun _ _ _ x _ hx=>⟨⟨x,(bg hx).1⟩,rfl⟩⟩
theorem G3 {B:Base} {E:Env} (hE:HRel B E) (hb:Nat):HRel B (qI hb E):=
 ⟨fun h k a=>hE.used h k (bg a).1,hE.stab,fun h k b a1 a2=>hE.lt' h k b (bg a1).1 a2,fun h h' k k' b a1 a2=>hE.inj' h h' k k' b (bg a1).1 (bg a2).1,
  fun h k a=>bl (yw hb E) rfl (fun _ _=>rfl) (fun _ _ _ h=>h) (hE.blk h k (bg a).1),hE.keeps,fun h k b a1 a2=>hE.own' h k b (bg a1).1 a2,hE.s0,hE.sb⟩
theorem yx {B:Base} {E:Env} (hE:HRel B E) {hb bx:Nat} {k:Blk} (h1:E.H hb=some k) (h2:E.ρ hb=some bx) :¬ Nmd (qI hb E) bx:=fun ⟨_,_,a1,a2⟩=>
 (bg a1).2 (hE.inj' _ _ _ _ _ (bg a1).1 h1 a2 (.inl h2))
def og (hb:Nat):List (Nat×Blk)→List (Nat×Blk)
 | []=> []
 |(h,k)::l=>bif Nat.beq h hb then og hb l else (h,k)::og hb l
theorem kL {hb:Nat} :∀ {l:List (Nat×Blk)} {h:Nat},find (og hb l) h=bif Nat.beq h hb then none else find l h
 | [],h=>by cases Nat.beq h hb <;> rfl
 |(n,k)::l,h=>by
  simp only [og]
  cases hn:Nat.beq n hb with
  | true=>
   simp only [cond_true,kL (l:=l),find]
   cases hh:Nat.beq h hb with
   | true=>rfl
   | false=>
    cases hnh:Nat.beq n h with
    | false=>rfl
    | true=>
     have a:=Nat.eq_of_beq_eq_true hn
     have b:=Nat.eq_of_beq_eq_true hnh
     subst a;subst b
     rw [Nat.beq_refl] at hh;cases hh
  | false=>
   simp only [cond_false,find,kL (l:=l)]
   cases hnh:Nat.beq n h with
   | false=>rfl
   | true=>
    have b:=Nat.eq_of_beq_eq_true hnh
    subst b
    rw [hn];rfl
def BC (hb:Nat) (st:St):St:=⟨st.tm,og hb st.hp,fun _=>none,st.nx⟩
theorem NH {hb:Nat} {st:St} {E:Env} (h0:st.H0=fun _=>none) (hH:E.H=st.H) :(qI hb E).H =(BC hb st).H:=by
 funext h
 show (bif Nat.beq h hb then none else E.H h)=an (fun _=>none) (og hb st.hp) h
 rw [hH]
 unfold St.H an
 rw [h0,kL]
 cases Nat.beq h hb <;> rfl
theorem yH {B:Base} {p N:Nat} (hB:B.pins p) {q:Pat} {st:St} {y:Den (tyP q)} (hr:cu p q st=some y) {E:Env} (hE:HRel B E) (hH:E.H=st.H) (hG:B.G E) (hU :∀ n,E.U n→n<st.nx)
  {a:Act} (hT:cY E (find st.tm) a) (hsz:a.tmps.size=N) :
  ∃ E4,HRel B E4∧E4.w=E.w∧E4.H =(put q y).H∧(B.G E4∧∀ n,E4.U n→n<q.nx)∧cY E4 (find (put q y).tm) a∧∀ b,¬ Nmd E b→¬ E.S b→¬ Nmd E4 b∧¬ E4.S b:=by
 obtain ⟨h3,h4⟩:=cF hr
 have hs:eo (reb B E (cC hE) a.defers) N st a E.w:=⟨⟨E,Cv hE _,rfl,hH,⟨hG,hU⟩,hT⟩,hsz,rfl⟩
 obtain ⟨⟨E4,hE4,hw,hH4,hG4,hT4⟩,_,_⟩:=dA (Au hB) h4 h3 hs
 refine ⟨E4,xK hE hE4,hw,hH4,hG4,hT4,fun b hn hs=>?_⟩
 by_cases hb:b<E.w.heap.size
 ·have:=xJ hE hE4 hb hn
  exact ⟨this.2.1,this.2.2 hs⟩
 ·exact ⟨fun ⟨n,k,a1,a2⟩=>hb (hw▸hE4.lt' n k b a1 a2),fun h=>hb (hw▸hE4.stab b h)⟩
def Far (B:Base) (E:Env) (b:Nat):Prop:=¬ Nmd E b∧¬ E.S b∧(B.F b∨B.w0.heap.size≤b)
def RIn (B:Base) (a:Act) (bx D L:Nat) (q:Pat) (y:Den (tyP q)) (W:World):Prop:=
 ∃ E,HRel B E∧E.w=W∧E.H =(put q y).H∧(B.G E∧∀ n,E.U n→n<q.nx)∧cY E (find (put q y).tm) a∧Far B E bx∧Far B E D∧Far B E L
theorem Ef {B:Base} {a:Act} {bx D L:Nat} {q:Pat} {y:Den (tyP q)} {W W':World} (h:RIn B a bx D L q y W) (hk:Keeps W (fun b=>b=bx∨b=D∨b=L) W'):RIn B a bx D L q y W':=by
 obtain ⟨E,hE,rfl,hH,⟨hG,hU⟩,hT,f1,f2,f3⟩:=h
 have key :∀ b,b<E.w.heap.size→(Far B E b→False)→W'.heap[b]?=E.w.heap[b]?:=fun b hb hf=>hk.block b hb fun e=>hf (by rcases e with rfl|rfl|rfl <;> assumption)
 obtain ⟨h1,X⟩:=P5 hE W' hk.os hk.tape hk.output hk.size (fun b hS=>key b (hE.stab b hS) fun f=>f.2.1 hS)
  (fun b hN=>key b (by obtain ⟨n,k,a1,a2⟩:=hN;exact hE.lt' n k b a1 a2) fun f=>f.1 hN)
  (fun b hb hF=>key b (Nat.lt_of_lt_of_le hb hE.keeps.size) fun f=>by rcases f.2.2 with h|h;exact hF h;omega)
 have far :∀ {b},Far B E b→Far B { E with w:=W' } b:=fun f=>⟨fun ⟨n,k,a1,a2⟩=>f.1 ⟨n,k,a1,Tch.mv (E:=E) (E':={ E with w:=W' }) rfl (fun b hb=>key b (hE.lt n k b a1 hb) fun g=>g.1 ⟨n,k,a1,.inl hb⟩) a2⟩,f.2⟩
 exact ⟨_,h1,rfl,hH,⟨B.clo _ _ hG X,hU⟩,fun s v hv=>aI X _ _ (hT s v hv),far f1,far f2,far f3⟩
structure Rg where
 p:Nat
 N:Nat
 q:Pat
 qx:Pat
 sl:Nat
 sp:Nat
 body:Code
 nb:Nat
section
variable (L:Rg)
def Rg.st (x:ByteArray) (y:Den (tyP L.q)):St:=⟨(L.sl,.str x) ::(L.sp,.str x) ::(put L.q y).tm,(put L.q y).hp,fun _=>none,L.q.nx⟩
def Rg.okS (inv:Den (tyP L.q)→Prop) (r:Sum (Den (tyP L.qx)) (Den (tyP L.q))) (y:Den (tyP L.q)):Lf→Dl→Nat→Prop
 | .nrm,d,nx=>match cu L.p L.q ((put L.q y).app ⟨[],d.hp⟩ nx) with
  | some z=>r = .inr z∧inv z
  | none=>False
 | .ret,d,nx=>match cu L.p L.qx ((put L.q y).app ⟨[],d.hp⟩ nx) with
  | some z=>r = .inl z
  | none=>False
 | .ext _,_,_=>False
def Rg.stepS (C:Cfg) (Λ:Nat→Option LoopSum) (inv:Den (tyP L.q)→Prop) (x:ByteArray) (y:Den (tyP L.q)) (r:Sum (Den (tyP L.qx)) (Den (tyP L.q))):Prop:=(aR C Λ L.body (L.st x y)).sat (L.okS inv r y)
end
def mU {α β:Type} (res:ByteArray→β→Sum α β) (l:List ByteArray) (y:β):Sum α β:=l.foldl (fun o x=>match o with | .inl z=> .inl z | .inr y=>res x y) (.inr y)
theorem oS {α β:Type} {res:ByteArray→β→Sum α β} {z:α} :∀ l:List ByteArray,l.foldl (fun (o:Sum α β) x=>match o with | .inl z=> .inl z | .inr y=>res x y) (.inl z) = .inl z
 | []=>rfl
 | _::l=>oS l
theorem vx {α β:Type} {res:ByteArray→β→Sum α β} {l:List ByteArray} {x:ByteArray} {y0 y:β} (h:mU res l y0 = .inr y):mU res (l++[x]) y0=res x y:=by
 unfold mU at h ⊢
 rw [List.foldl_append,h]
 rfl
theorem Jw {α β:Type} {res:ByteArray→β→Sum α β} {l r:List ByteArray} {y0:β} {z:α} (h:mU res l y0 = .inl z) (hp:l <+: r):mU res r y0 = .inl z:=by
 obtain ⟨t,rfl⟩:=hp
 unfold mU at h ⊢
 rw [List.foldl_append,h]
 exact oS t
def ij:Code→List Code
 | .seq a b=>ij a++ij b
 | .cond _ a b=>ij a++ij b
 | .block _ b=>ij b
 | .loop b=>ij b
 | .rangeFunc _ _ _ b=> [b]
 | _=> []
def Jm (fn:Func) (k:Nat):Code:=match (ij (iL fn))[k]? with|some c=>c|none=> .skip
def Cz (fn:Func) (k j:Nat):Code:=match (iI (Jm fn k))[j]? with|some c=>c|none=> .skip
def Da:Code→Option Code
 | .seq (.seq _ (.block _ (.rangeFunc _ _ _ _))) y=>some y
 | .seq _ y=>Da y
 | _=>none
def Gr (fn:Func):Code:=match Da (iL fn) with|some c=>c|none=> .skip
theorem GC {B:Base} {E:Env} (hE:HRel B E) {hb:Nat} {s:ByteArray} (h:E.H hb=some (.cells [.str s])) :
  ∃ bx,E.ρ hb=some bx∧¬ E.S bx∧E.w.cell? ⟨bx,0,none⟩=some (.string s)∧E.w.frozen? ⟨bx,0,none⟩=false:=by
 obtain ⟨b,c,T,fr,h1,h2,h3,h4,h5⟩:=hE.blk hb _ h
 have hc:c=#[.string s]:=by
  obtain ⟨l⟩:=c
  match l,h5 with
  | [v],h5=>
   simp only [ab,aa] at h5
   rw [h5.1.1]
 subst hc
 refine ⟨b,h1,h4,?_,?_⟩
 ·simp [World.cell?,h2]
 ·have:=h3 0 (by simp)
  simp only [World.frozen?,h2]
  simp
  omega
theorem ns {t:Array Value} {i j:Nat} {v d:Value} :(t.setIfInBounds i v).getD j d=if i=j∧i<t.size then v else t.getD j d:=by
 simp only [Array.getD_eq_getD_getElem?,Array.getElem?_setIfInBounds]
 by_cases h:i=j
 ·subst h
  by_cases hl:i<t.size
  ·simp [hl]
  ·simp [hl]
 ·simp [h]
theorem Jn (L:Rg) (hP:P.follows .mixedOrders=true) {gf:FuncId} (eg :∀ args w,(callFunc gf args).run P w = .ok (.enter gf args) w) {LB:ByteArray→List ByteArray} (hit :∀ bx s0,s0.size≤L.nb→vQ P gf bx s0 (LB s0))
  (hnd:fk L.body=true) (hslots :(Nat.blt L.sl L.N&&Nat.blt L.sp L.N&&Nat.ble L.nb ak&&Nat.ble L.p L.q.nx)=true)
  {res:ByteArray→Den (tyP L.q)→Sum (Den (tyP L.qx)) (Den (tyP L.q))} {inv:Nat→Den (tyP L.q)→Prop} (hLB :∀ s,(LB s).length≤s.size)
  (step :∀ n x y,inv n y→x.size≤L.nb→n<L.nb→∃ (C:Cfg) (Λ:Nat→Option LoopSum),CfgOK P C∧C.N=L.N∧(∀ b∈aB Λ L.body,∃ S,Λ (rid b)=some S∧gB P L.q.nx C.N b S)∧L.stepS C Λ (inv (n+1)) x y (res x y))
  {B:Base} (hB:B.pins L.p) {st:St} (h0:st.H0=fun _=>none) {g:Operand} {hb:Nat} {s:ByteArray} (hg:zZ st.tm g = .fn gf [.ptr hb 0]) (hh:st.H hb=some (.cells [.str s])) (hs:s.size≤L.nb)
  {y0:Den (tyP L.q)} (hr:cu L.p L.q (BC hb st)=some y0) (hi:inv 0 y0) {id ty:Nat} {pos:String}
  {Q:Exit→Act→World→Prop} {a:Act} {w:World} (ha:eo B L.N st a w)
  (hdone :∀ y bx D Lp W,mU res (LB s) y0 = .inr y→RIn B a bx D Lp L.q y W→W.heap[D]?=some (.deferred (some []))→D<W.heap.size→Q .normal { a with defers:={ target:= .collected D,args:=#[] }::a.defers } W)
  (hstop :∀ z bx D Lp W,mU res (LB s) y0 = .inl z→RIn B a bx D Lp L.qx z W→W.heap[D]?=some (.deferred (some []))→D<W.heap.size→Q .ret { a with defers:={ target:= .collected D,args:=#[] }::a.defers } W) :
  (Code.rangeFunc g #[L.sp] (Code.region id #[⟨some L.sl,.assign (.tmp L.sp),ty,pos,#[],none⟩] false) L.body).wp P Q a w:=by
 simp only [Bool.and_eq_true,Nat.blt_eq] at hslots
 obtain ⟨⟨⟨hsl,hsp⟩,hnb⟩,hpq⟩:=hslots
 have hpq:=Nat.le_of_ble_eq_true hpq
 have hnb:=Nat.le_of_ble_eq_true hnb
 obtain ⟨⟨E0,hE0,rfl,hH,⟨hG,hU⟩,hT⟩,hsz,hdf⟩:=ha
 rw [←hH] at hh
 obtain ⟨bx,hρ,hSb,hcell,hfrz⟩:=GC hE0 hh
 have hbx:bx<E0.w.heap.size:=hE0.lt _ _ _ hh hρ
 have hgv:a.eval g = .func (.func gf) #[] #[.pointer (some ⟨bx,0,none⟩)]:=by
  have:=hZ hT g
  rw [hg] at this
  simp only [aa] at this
  obtain ⟨l,h1,h2⟩:=this
  obtain ⟨l⟩:=l
  match l,h2 with
  | [v],h2=>
   simp only [ab,aa] at h2
   obtain ⟨⟨_,_,h2⟩,_⟩:=h2
   obtain ⟨b,h3,rfl⟩:=h2 _ hh
   rw [hρ] at h3
   cases h3
   rw [h1]
   rfl
 have hX:=yw hb E0
 have hEd:=G3 hE0 hb
 obtain ⟨E4,hE4,hw4,hH4,hG4,hT4,hfar⟩:=yH hB hr hEd (NH h0 hH) (B.clo _ _ hG hX) hU (fun s v hv=>aI hX _ _ (hT s v hv)) hsz
 have new :∀ b,E0.w.heap.size≤b→Far B E4 b:=fun b hb'=>by
  have h1 :¬ Nmd (qI hb E0) b:=fun ⟨n,k,a1,a2⟩=>Nat.not_lt.2 hb' (hEd.lt' n k b a1 a2)
  have h2 :¬(qI hb E0).S b:=fun h=>Nat.not_lt.2 hb' (hE0.stab b h)
  exact ⟨(hfar b h1 h2).1,(hfar b h1 h2).2,.inr (Nat.le_trans hE0.keeps.size hb')⟩
 have hfbx:Far B E4 bx:=⟨(hfar bx (yx hE0 hh hρ) hSb).1,(hfar bx (yx hE0 hh hρ) hSb).2,hE0.own _ _ _ hh hρ⟩
 refine Ka (LB:=LB s) hgv eg rfl (hit bx s hs) hcell hfrz
  (fun pre W=>∃ y,mU res pre y0 = .inr y∧inv pre.length y∧RIn B a bx E0.w.heap.size (E0.w.heap.size+1) L.q y W)
  (fun pre c W=>c = .ret∧∃ z,mU res pre y0 = .inl z∧RIn B a bx E0.w.heap.size (E0.w.heap.size+1) L.qx z W)
  (fun pre W W' h hk=>?_) (fun pre c W W' h hk=>?_) ?_ ?_ ?_ ?_
 ·obtain ⟨y,h1,h2,h3⟩:=h
  exact ⟨y,h1,h2,Ef h3 hk⟩
 ·obtain ⟨hc,z,h1,h3⟩:=h
  exact ⟨hc,z,h1,Ef h3 hk⟩
 ·exact ⟨y0,rfl,hi,E4,hE4,hw4,hH4,hG4,hT4,hfbx,new _ (Nat.le_refl _),new _ (Nat.le_succ _)⟩
 ·intro pre x W hI hx hpx hlt
  refine EE ⟨rfl,fun Wb hWb hIb=>?_⟩
  obtain ⟨y,hrun,hinv,E,hE,rfl,hHE,⟨hGE,hUE⟩,hTE,f1,f2,f3⟩:=hIb
  have hx':x.size≤L.nb:=Nat.le_trans hx hs
  obtain ⟨C,Λ,hC,hN,hΛ,hg1⟩:=step pre.length x y hinv hx' (by have:=hpx.length_le;rw [List.length_append] at this;have:=hLB s;simp at *;omega)
  have hE1:HRel (⟨E.w,Nmd E,E.S,fun E'=>B.G E'∧Ext E E',fun _ _ h k=>⟨B.clo _ _ h.1 k,h.2.trans k⟩,cC hE,[]⟩:Base) E:=have h:=Cv hE []
   ⟨h.used,h.stab,h.lt',h.inj',h.blk,h.keeps,h.own',h.s0,h.sb⟩
  have hst:eo (⟨E.w,Nmd E,E.S,fun E'=>B.G E'∧Ext E E',fun _ _ h k=>⟨B.clo _ _ h.1 k,h.2.trans k⟩,cC hE,[]⟩:Base) C.N (L.st x y)
    { tmps:=((#[L.sp].zip #[.string x]).foldl (fun t (p,v)=>t.setIfInBounds p v) a.tmps).setIfInBounds L.sl (((#[L.sp].zip #[.string x]).foldl (fun t (p,v)=>t.setIfInBounds p v) a.tmps).getD L.sp undef),defers:= [] } E.w:=by
   refine ⟨⟨E,hE1,rfl,hHE,⟨⟨hGE,Ext.refl E⟩,hUE⟩,fun i v hv=>?_⟩,?_,rfl⟩
   ·have hz :(#[L.sp].zip #[Value.string x]).foldl (fun t (p,v)=>t.setIfInBounds p v) a.tmps=a.tmps.setIfInBounds L.sp (.string x):=by simp
    show aa E v (Array.getD _ i undef)
    rw [hz]
    have hv1:aa E (.str x) (.string x):=by simp only [aa];exact ⟨trivial,by omega⟩
    simp only [Rg.st,find] at hv
    cases hb1:Nat.beq L.sl i with
    | true=>
     rw [hb1] at hv
     cases hv
     rw [ns,if_pos ⟨Nat.eq_of_beq_eq_true hb1,by simp;omega⟩,ns,if_pos ⟨rfl,by omega⟩]
     exact hv1
    | false=>
     rw [hb1] at hv
     rw [ns,if_neg (fun h=>by rw [h.1,Nat.beq_refl] at hb1;cases hb1),ns]
     cases hb2:Nat.beq L.sp i with
     | true=>
      rw [hb2] at hv
      cases hv
      rw [if_pos ⟨Nat.eq_of_beq_eq_true hb2,by omega⟩]
      exact hv1
     | false=>
      rw [hb2] at hv
      rw [if_neg (fun h=>by rw [h.1,Nat.beq_refl] at hb2;cases hb2)]
      exact hTE i v hv
   ·rw [hN,←hsz];simp
  have hpins:Base.pins L.q.nx (⟨E.w,Nmd E,E.S,fun E'=>B.G E'∧Ext E E',fun _ _ h k=>⟨B.clo _ _ h.1 k,h.2.trans k⟩,cC hE,[]⟩:Base):=fun M E' hp' hk hs' hG'=>⟨Lx hpq hB M E' hp' hk hs' hG'.1,FP hUE hk hs' hG'.2⟩
  refine b9 hC hP L.body (fun b hb=>let ⟨S,hS,h⟩:=hΛ b hb;⟨S,hS,h _ hpins _ _⟩) hnd (L.st x y) _ _ (fun ⟨_,_,z⟩=>z) hg1 (fun e d nx a3 W3 hok hat=>?_) _ _ hst
  obtain ⟨⟨E3,hE3,rfl,hH3,⟨⟨hG3,X3⟩,hU3⟩,_⟩,_,_⟩:=hat
  have hE3':HRel (reb B E (cC hE) []) E3:=⟨hE3.used,hE3.stab,hE3.lt',hE3.inj',hE3.blk,hE3.keeps,hE3.own',hE3.s0,hE3.sb⟩
  have hE3B:=xK hE hE3'
  have far3 :∀ b,b<E.w.heap.size→Far B E b→E3.w.heap[b]?=E.w.heap[b]?∧Far B E3 b:=fun b hb' f=>by
   obtain ⟨g1,g2,g3⟩:=xJ hE hE3' hb' f.1
   exact ⟨g1,g2,g3 f.2.1,f.2.2⟩
  have hsize:E0.w.heap.size+1<E.w.heap.size:=by rw [hWb];exact hlt
  obtain ⟨k1,e1⟩:=far3 bx (by omega) f1
  obtain ⟨k2,e2⟩:=far3 _ (by omega) f2
  obtain ⟨k3,e3⟩:=far3 _ hsize f3
  have hH3':E3.H =((put L.q y).app ⟨[],d.hp⟩ nx).H:=by
   rw [hH3]
   unfold St.app St.H
   rw [bJ]
   rfl
  have hT3:cY E3 (find ((put L.q y).app ⟨[],d.hp⟩ nx).tm) a:=fun s v hv=>aI X3 _ _ (hTE s v hv)
  have rd :∀ {q:Pat} {z:Den (tyP q)},cu L.p q ((put L.q y).app ⟨[],d.hp⟩ nx)=some z→RIn B a bx E0.w.heap.size (E0.w.heap.size+1) q z E3.w:=fun {q z} hz=>by
   obtain ⟨E5,g1,g2,g3,g4,g5,g6⟩:=yH hB hz hE3B hH3' hG3 hU3 hT3 hsz
   exact ⟨E5,g1,g2,g3,g4,g5,⟨(g6 _ e1.1 e1.2.1).1,(g6 _ e1.1 e1.2.1).2,e1.2.2⟩,⟨(g6 _ e2.1 e2.2.1).1,(g6 _ e2.1 e2.2.1).2,e2.2.2⟩,⟨(g6 _ e3.1 e3.2.1).1,(g6 _ e3.1 e3.2.1).2,e3.2.2⟩⟩
  cases e with
  | nrm=>
   simp only [Rg.okS] at hok
   cases hz:cu L.p L.q ((put L.q y).app ⟨[],d.hp⟩ nx) with
   | none=>rw [hz] at hok;exact hok.elim
   | some z=>
    rw [hz] at hok
    exact ⟨⟨k1,k2,k3⟩,z,(vx hrun).trans hok.1,by rw [List.length_append];exact hok.2,rd hz⟩
  | ret=>
   simp only [Rg.okS] at hok
   cases hz:cu L.p L.qx ((put L.q y).app ⟨[],d.hp⟩ nx) with
   | none=>rw [hz] at hok;exact hok.elim
   | some z=>
    rw [hz] at hok
    exact ⟨⟨k1,k2,k3⟩,rfl,z,(vx hrun).trans hok,rd hz⟩
  | ext id=>exact hok.elim
 ·rintro W ⟨y,h1,_,h2⟩ hD hlt
  exact hdone y _ _ _ W h1 h2 hD hlt
 ·rintro pre c W hpre ⟨rfl,z,h1,h2⟩ hD hlt
  exact wp_ret (hstop z _ _ _ W (Jw h1 hpre) h2 hD hlt)
theorem Dm {B:Base} {E:Env} (hE:HRel B E) {D:Nat} (f:Far B E D) (o:Obj):HRel B { E with w:=E.w.putObj D o }∧Ext E { E with w:=E.w.putObj D o }:=
 have key :∀ b,(b=D→False)→(E.w.putObj D o).heap[b]?=E.w.heap[b]?:=fun _ h=>World.putObj_heap_other h
 P5 hE _ rfl rfl rfl (by simp [World.putObj]) (fun b hS=>key b fun e=>f.2.1 (e▸hS)) (fun b hN=>key b fun e=>f.1 (e▸hN))
  (fun b hb hF=>key b fun e=>by subst e;rcases f.2.2 with h|h;exact hF h;omega)
def TrW (P:Program) (N p:Nat) (c:Code) (tr:St→Tr):Prop:=∀ st,TreeFor P N p c st (tr st)
def TrM (P:Program) (N p:Nat) (c:Code) (tr:St→Tr):Prop:=∀ st,qq P N p c st (tr st)
def PS (P:Program) (N p:Nat) (x y:Code) (tr:St→Tr):Prop:=∀ st,∀ (B:Base),B.pins p→B.dfs=[]→∀ (Q:Lf→Dl→Nat→Prop) (K:Lf→Act→World→Prop),(tr st).sat Q→
 (∀ e d nx a w,Q e d nx→at_ B N st d nx a w→K e a w)→∀ a w,eo B N st a w→x.wp P (Exit.then (fun a w=>y.wp P (oE K) a w) (oE K)) a w
theorem x4 {C:Cfg} (hC:CfgOK P C) (hP:P.follows .mixedOrders=true) {p:Nat} {c:Code} {Λ:Nat→Option LoopSum} (hΛ :∀ b∈aB Λ c,∀ S,Λ (rid b)=some S→LoopOKp P p C.N b S):TrW P C.N p c (aR C Λ c):=fun st B hB Q CQ hs hQ a w ha=>
 bX hC hP (B:=B) c (fun b hb S hS=>hΛ b hb S hS B hB) st Q CQ hs hQ a w ha
def AP (t1 t2:St→Tr):St→Tr:=fun st=>F5 st (t1 st) fun d nx=>t2 (st.app d nx)
theorem Ew {N p:Nat} {x y:Code} {t1 t2:St→Tr} (hx:TrW P N p x t1) (hy:TrM P N p y t2):TrM P N p (.seq x y) (AP t1 t2):=fun st B hB hd Q K hs hK a w ha=>by
 have h2:=jD (B:=B) (N:=N) (Y:=fun a w=>y.wp P (oE K) a w) hs (fun d nx hk a w ha=>by
  rw [pre_sat] at hk
  exact hy (st.app d nx) B hB hd _ K hk (fun e d' nx' a w hq hat=>hK e _ _ a w hq (at_pre.1 hat)) a w (at_here.1 ha))
 refine wp_seq (hx st B hB _ _ h2 (fun e d nx a w hq hat=>?_) a w ha)
 have hd':a.defers=[]:=hat.defers.trans hd
 cases e with
 | nrm=>exact hq a w hat
 | ext id=>exact .inl ⟨hd',hK (.ext id) d nx a w hq hat⟩
 | ret=>exact .inl ⟨hd',hK .ret d nx a w hq hat⟩
theorem J2 {N p:Nat} {z x y:Code} {t1 t2:St→Tr} (hz:TrW P N p z t1) (hx:PS P N p x y t2):TrM P N p (.seq (.seq z x) y) (AP t1 t2):=fun st B hB hd Q K hs hK a w ha=>by
 have h2:=jD (B:=B) (N:=N) (Y:=fun a w=>x.wp P (Exit.then (fun a w=>y.wp P (oE K) a w) (oE K)) a w) hs (fun d nx hk a w ha=>by
  rw [pre_sat] at hk
  exact hx (st.app d nx) B hB hd _ K hk (fun e d' nx' a w hq hat=>hK e _ _ a w hq (at_pre.1 hat)) a w (at_here.1 ha))
 refine wp_seq (wp_seq (hz st B hB _ _ h2 (fun e d nx a w hq hat=>?_) a w ha))
 have hd':a.defers=[]:=hat.defers.trans hd
 cases e with
 | nrm=>exact hq a w hat
 | ext id=>exact .inl ⟨hd',hK (.ext id) d nx a w hq hat⟩
 | ret=>exact .inl ⟨hd',hK .ret d nx a w hq hat⟩
def QK (L:Rg) (trP:St→Tr) (st:St) (o:Sum (Den (tyP L.qx)) (Den (tyP L.q))):Tr:=
 .br (isL o) (mf st (.leaf .ret ⟨L.qx.tmOf (tp (dflt _) o),L.qx.hpOf (tp (dflt _) o)⟩ L.qx.nx))
  (mf st ((trP (put L.q (wX (dflt _) o))).pre ⟨L.q.tmOf (wX (dflt _) o),L.q.hpOf (wX (dflt _) o)⟩))
def GB (gf:FuncId) (st:St):V→Option (Nat×ByteArray)
 | .fn f [.ptr hb off]=>bif Nat.beq f gf&&Nat.beq off 0 then (match st.H hb with|some (.cells [.str s])=>some (hb,s)|_=>none) else none
 | _=>none
def rgT (L:Rg) (gf:FuncId) (g:Operand) (all:ByteArray→Den (tyP L.q)→Sum (Den (tyP L.qx)) (Den (tyP L.q))) (inv:Nat→Den (tyP L.q)→Prop) (trP:St→Tr) (st:St):Tr:=
 match GB gf st (zZ st.tm g) with
 | some (hb,s)=>match cu L.p L.q (BC hb st) with
  | some y0=> .need (jZ st.H0∧ifB (uU st.nx st.hp) (s.size≤L.nb∧inv 0 y0)) (QK L trP st (all s y0))
  | none=> .bad
 | none=> .bad
theorem Bo {gf:FuncId} {st:St} {v:V} {hb:Nat} {s:ByteArray} (h:GB gf st v=some (hb,s)):v = .fn gf [.ptr hb 0]∧st.H hb=some (.cells [.str s]):=by
 unfold GB at h
 split at h
 case h_2=>cases h
 rename_i f hb' off
 cases hc:Nat.beq f gf&&Nat.beq off 0 with
 | false=>rw [hc] at h;cases h
 | true=>
  rw [hc] at h
  simp only [Bool.and_eq_true,Nat.beq_eq] at hc
  obtain ⟨rfl,rfl⟩:=hc
  simp only [cond_true] at h
  split at h
  case h_2=>cases h
  rename_i s' hH
  cases h
  exact ⟨rfl,hH⟩
theorem LP (L:Rg) (hP:P.follows .mixedOrders=true) {gf:FuncId} (eg :∀ args w,(callFunc gf args).run P w = .ok (.enter gf args) w) {LB:ByteArray→List ByteArray} (hit :∀ bx s0,s0.size≤L.nb→vQ P gf bx s0 (LB s0))
  (hnd:fk L.body=true) (hslots :(Nat.blt L.sl L.N&&Nat.blt L.sp L.N&&Nat.ble L.nb ak&&Nat.ble L.p L.q.nx)=true)
  {res all:ByteArray→Den (tyP L.q)→Sum (Den (tyP L.qx)) (Den (tyP L.q))} {inv:Nat→Den (tyP L.q)→Prop} (hLB :∀ s,(LB s).length≤s.size) (hall :∀ s y,all s y=mU res (LB s) y)
  (step :∀ n x y,inv n y→x.size≤L.nb→n<L.nb→∃ (C:Cfg) (Λ:Nat→Option LoopSum),CfgOK P C∧C.N=L.N∧(∀ b∈aB Λ L.body,∃ S,Λ (rid b)=some S∧gB P L.q.nx C.N b S)∧L.stepS C Λ (inv (n+1)) x y (res x y))
  {g:Operand} {k id ty:Nat} {pos:String} {post:Code} {trP:St→Tr} (hpost:TrW P L.N L.p post trP) :
  PS P L.N L.p (.block k (.rangeFunc g #[L.sp] (.region id #[⟨some L.sl,.assign (.tmp L.sp),ty,pos,#[],none⟩] false) L.body)) post (rgT L gf g all inv trP):=by
 intro st B hB hd Q K hs hK a w ha
 unfold rgT at hs
 split at hs
 case h_2=>exact hs.elim
 rename_i hb s hbox
 split at hs
 case h_2=>exact hs.elim
 rename_i y0 hr
 obtain ⟨⟨h0,hpre⟩,hs⟩:=hs
 obtain ⟨hl,hsz,hi⟩:=ifB_iff.1 hpre
 obtain ⟨hg,hh⟩:=Bo hbox
 rw [hall] at hs
 have hda:a.defers=[]:=ha.defers.trans hd
 have hN:a.tmps.size=L.N:=ha.size
 refine wp_block (Jn L hP eg hit hnd hslots hLB step hB h0 hg hh hsz hr hi ha ?_ ?_)
 ·intro y bx D Lp W hrun hW hD hlt
  rw [hrun] at hs
  obtain ⟨E,hE,rfl,hH,hG,hT,f1,f2,f3⟩:=hW
  have hs2:=pre_sat.1 (cM (hs.2 rfl))
  have hB':Base.pins L.p (reb B E (cC hE) [{ target:= .collected D,args:=#[] }]):=Au hB
  refine hpost (put L.q y) _ hB' _ _ hs2 (fun e d nx a3 w3 hq hat=>?_) _ _ ⟨⟨E,Cv hE _,rfl,hH,hG,hT⟩,hN,by rw [hda];rfl⟩
  have hat':=at_here.1 hat
  obtain ⟨⟨E3,hE3,rfl,hH3,hG3,hT3⟩,hsz3,hdf3⟩:=hat'
  obtain ⟨k1,k2,k3⟩:=xJ hE hE3 hlt f2.1
  obtain ⟨hE4,X4⟩:=Dm (xK hE hE3) (D:=D) ⟨k2,k3 f2.2.1,f2.2.2⟩ (.deferred none)
  have hfin:eo B L.N ⟨d.tm++L.q.tmOf y,d.hp++L.q.hpOf y,fun _=>none,nx⟩ { a3 with defers:= [] } (E3.w.putObj D (.deferred none)):=
   ⟨⟨_,hE4,rfl,hH3,⟨B.clo _ _ hG3.1 X4,hG3.2⟩,fun s v hv=>aI X4 _ _ (hT3 s v hv)⟩,hsz3,hd.symm⟩
  have fin:uV (K e) a3 E3.w:= .inr ⟨D,hdf3,k1.trans hD,hK e _ _ _ _ hq (qk h0 hl hfin)⟩
  cases e with
  | nrm=>exact fin
  | ext id=>exact fin
  | ret=>exact fin
 ·intro z bx D Lp W hrun hW hD hlt
  rw [hrun] at hs
  obtain ⟨E,hE,rfl,hH,hG,hT,f1,f2,f3⟩:=hW
  have hs2:=cM (hs.1 rfl)
  obtain ⟨hE4,X4⟩:=Dm hE f2 (.deferred none)
  have hfin:eo B L.N ⟨L.qx.tmOf z,L.qx.hpOf z,fun _=>none,L.qx.nx⟩ { a with defers:= [] } (E.w.putObj D (.deferred none)):=
   ⟨⟨_,hE4,rfl,hH,⟨B.clo _ _ hG.1 X4,hG.2⟩,fun s v hv=>aI X4 _ _ (hT s v hv)⟩,hN,hd.symm⟩
  exact .inr ⟨D,by rw [hda],hD,hK .ret _ _ _ _ hs2 (qk h0 hl hfin)⟩
end Go.Mir
namespace Go.Proofs.YtffdpnmioidloaaGreatDoor
open Go Go.Mir Go.RowKit Go.Shelf
attribute [local irreducible] Go.Mir.DT.sat Go.Mir.evPat Go.Mir.RT.sat Go.Mir.evFn
def zj:Go.Shelf.Ren:=⟨fun|102=>54|209=>113|207=>174|n=>n,fun|9=>9|4=>4|3=>3|n=>n,fun|n=>n⟩
theorem KY:Go.Proofs.Lays.n102 Tryz.prog zj where
 mixed:=by kernel_rfl
 f102:=Tryz.func54.trans (congrArg some (by kernel_rfl))
 f207:=Tryz.func174.trans (congrArg some (by kernel_rfl))
 f209:=Tryz.func113.trans (congrArg some (by kernel_rfl))
 t3:=Tryz.underlying3
 a3:=Tryz.isAgg3
 z3:=Tryz.sizeOf3
 v3:=Tryz.zeroValue3
 t4:=Tryz.underlying4
 a4:=Tryz.isAgg4
 z4:=Tryz.sizeOf4
 v4:=Tryz.zeroValue4
 t9:=Tryz.underlying9
 a9:=Tryz.isAgg9
 z9:=Tryz.sizeOf9
 v9:=Tryz.zeroValue9
abbrev qLs:Pat:=dI [.str]
abbrev LG:Pat:=⟨[(0,.c (.fn 107 [.ptr 0 0]))],[(0,.cells [.h .str])],1⟩
def sLs:Den (tyP qLs)→List Prop×Den (tyP LG):=fun x=>([],(x.1,()))
theorem Jy (s:ByteArray) :(evPat (ay [] Tryz.f51) (fun _=>none) Tryz.f51 qLs LG (s,())).sat fun z_=>z_ =(sLs (s,())).2:=by
 refine cast (by kernel_rfl) (?_ :(s,()) =(s,()))
 all_goals trivial
def N6:FuncId×Ctr:=(51,ae KE qLs LG sLs)
theorem Lj:CtrOK Tryz.prog KE 51 (ae KE qLs LG sLs):=by
 refine aE (C:=ay [] Tryz.f51) (au (CtrsOK.nil) _) mixed (fn:=Tryz.f51) Tryz.func51 (by kernel_rfl) (by kernel_rfl) (by kernel_rfl) (by kernel_rfl) (by kernel_rfl) (by kernel_rfl) (Λ:=fun _ _=>none) ?_ ?_
 ·exact fun _ _ _ _ _ _ _ _ h=>by cases h
 ·rintro ⟨s,⟨⟩⟩ hw hn
  exact Jy s
def gb (s t:ByteArray):ByteArray:=toB (Lib.trimSuffix s.data.toList t.data.toList)
abbrev OR:Ty:= .prod .str (.prod .str .unit)
def JO:Den OR→PRes:=fun x=>⟨[x.1.size≤1000000],.str (gb x.1 x.2.1),[]⟩
def pw:FuncId×Ctr:=(54,bu KE OR JO)
theorem mW (s t:ByteArray) :(gb s t).size≤s.size:=by
 unfold gb toB Lib.trimSuffix
 show (List.toArray _).size≤s.data.size
 rw [List.size_toArray,←Array.length_toList]
 split <;> simp
theorem xw:CtrOK Tryz.prog KE 54 (bu KE OR JO):=by
 refine ob Tryz.func54 (by kernel_rfl) (by kernel_rfl) (fun _=>⟨rfl,rfl⟩) (fun x av w E hw hn hg hav=>?_) (fun _ _=>rfl)
 obtain ⟨s,sep,⟨⟩⟩:=x
 have hs:s.size≤1000000:=hn _ List.mem_cons_self
 obtain ⟨a,r,rfl,⟨rfl,hs1⟩,h1⟩:=bh hav
 obtain ⟨a,r,rfl,⟨rfl,hs2⟩,h2⟩:=bh h1
 have h5:r=[]:=by cases r with|nil=>rfl|cons=>simp [iD,ab] at h2
 subst h5
 refine (Any.strings_TrimSuffix KY s sep w (by omega)).mono fun e w' ⟨he,hw'⟩=>⟨_,he,by rw [hw'];exact Keeps.refl _ _,fun E'=>?_⟩
 refine ⟨rfl,?_⟩
 have:=mW s sep
 have hL :(1000000:Nat)≤ak:=by decide
 show (gb s sep).size≤ak
 omega
theorem Fq :∀ bx s0,s0.size≤1000000→vQ Tryz.prog 107 bx s0 (bc s0):=fun bx s0 hs n l J Jx h1 h2 h3 W hb hf h0=>
 Ie n l bx s0 hs J Jx h1 h2 h3 W hb hf h0
end Go.Proofs.YtffdpnmioidloaaGreatDoor
namespace Go.Proofs.YtffdpnmioidloaaGreatDoor
open Go Go.Mir Go.RowKit
attribute [local irreducible] Go.Mir.DT.sat Go.Mir.evPat Go.Mir.RT.sat Go.Mir.evFn
def QS (b:Mir.Book):List Int:= [b.Total,b.Wickets,b.Extras.Wides,b.Extras.NoBalls,b.Extras.Byes,b.Extras.LegByes,b.Extras.Penalties]
abbrev mR:Pat:=dI [.bool]
def okI (v:Int):Bool:=!(decide (v<0)||decide (v>1000000))
end Go.Proofs.YtffdpnmioidloaaGreatDoor
namespace Go.Proofs.YtffdpnmioidloaaGreatDoor
open Go Go.Mir Go.RowKit
attribute [local irreducible] Go.Mir.DT.sat Go.Mir.evPat Go.Mir.RT.sat Go.Mir.evFn
def Rx (v:Int):Bool:=v==46 ||(!decide (v<48)&&!decide (v>57)) ||(!decide (v<65)&&!decide (v>90)) ||(!decide (v<97)&&!decide (v>122))
def okC (b:UInt8):Bool:=Rx (b.toNat:Int)
def Ja (s:ByteArray):Bool:=s.data.toList.all okC&&(bif !s.toList ==(⟨#[]⟩:ByteArray).toList then decide ((s.size:Int)≤16) else false)
end Go.Proofs.YtffdpnmioidloaaGreatDoor
namespace Go.Proofs.YtffdpnmioidloaaGreatDoor
open Go Go.Mir
attribute [local irreducible] Go.Mir.DT.sat Go.Mir.evPat
def gT (p:Int→Bool):List Int→Int→Option Int
 | [],_=>none
 | x::r,i=>if p x then some i else gT p r (i+1)
def Qq:Option Int→Sum (Int×Unit) Unit
 | some k=> .inl (k,())
 | none=> .inr ()
def IK (o:Option Int):Int:=o.getD (-1)
theorem rb {p:Int→Bool} :∀ {l:List Int} {i:Int},(gT p l i).isSome=l.any p
 | [],_=>rfl
 | x::r,i=>by
  simp only [gT,List.any_cons]
  cases hp:p x with
  | true=>simp
  | false=>simpa using rb
theorem yK {p:Int→Bool} :∀ {l:List Int} {i k:Int},gT p l i=some k→i≤k
 | [],_,_,h=>by simp [gT] at h
 | x::r,i,k,h=>by
  simp only [gT] at h
  split at h
  ·cases h;exact Int.le_refl _
  ·have:=yK h;omega
theorem gD {α:Type} {l:List α} {i:Int} (h0:0≤i) (h:i<l.length) (d:α):l.drop i.toNat=l.getD i.toNat d::l.drop (i+1).toNat:=by
 have h1:i.toNat<l.length:=by omega
 rw [List.drop_eq_getElem_cons h1,show (i+1).toNat=i.toNat+1 by omega,List.getD_eq_getElem?_getD,List.getElem?_eq_getElem h1]
 rfl
theorem fa {α:Type} {l:List α} {i:Int} (h :(l.length:Int)≤i):l.drop i.toNat=[]:=List.drop_of_length_le (by omega)
theorem pR {n:Int} (h1:-9223372036854775808≤n) (h2:n≤9223372036854775807):IntKind.i64.wrap n=n:=wrap64 h1 h2
end Go.Proofs.YtffdpnmioidloaaGreatDoor
namespace Go.Proofs.YtffdpnmioidloaaGreatDoor
open Go Go.Mir Go.RowKit
attribute [local irreducible] Go.Mir.DT.sat Go.Mir.evPat Go.Mir.RT.sat Go.Mir.evFn
def dB (v:Int):Bool:=bif decide (v<0) then true else decide (v>1000000)
abbrev qI1:Pat:=dI [I]
def O4:Den (tyP qI1)→List Prop×Den (tyP mR):=fun x=>([],(dB x.1,()))
abbrev qLo (f:Nat):Pat:=⟨[(0,.h (.slice I)),(1,.c (.fn f [])),(7,.h I),(8,.h I)],[],0⟩
abbrev xLo:List (Lf×Pat):= [(.ret,⟨[(4,.h I)],[],0⟩),(.ext 0,⟨[],[],0⟩)]
def uu (x:List Int×Int×Int×Unit):Prop:=x.2.1=x.1.length∧0≤x.2.2.1∧x.2.2.1≤x.2.1∧x.1.length≤ak
def Fu (x:List Int×Int×Int×Unit):Nat:=(x.2.1 - x.2.2.1).toNat
def jz (x:List Int×Int×Int×Unit):Sum (Int×Unit) Unit:=Qq (gT dB (x.1.drop x.2.2.1.toNat) x.2.2.1)
abbrev qFo (f:Nat):Pat:=⟨[(0,.h (.slice I)),(1,.c (.fn f []))],[],0⟩
abbrev LF:Pat:=dI [I]
def O3 (f:Nat):Den (tyP (qFo f))→List Prop×Den (tyP LF):=fun x=>([],(IK (gT dB x.1 0),()))
def O0 (f:Nat):Den (tyP (qFo f))→List Prop×Den (tyP mR):=fun x=>([],(x.1.any dB,()))
theorem xC (v:Int):dB v=!okI v:=by
 unfold dB okI
 rw [Bool.not_not]
 cases decide (v<0) <;> rfl
end Go.Proofs.YtffdpnmioidloaaGreatDoor
namespace Go.Proofs.YtffdpnmioidloaaGreatDoor
open Go Go.Mir Go.RowKit Go.Shelf
theorem J1 (l:List UInt8) :(toB l).size=l.length:=by
 show l.toArray.size=_
 rw [List.size_toArray]
def lays156_ren:Go.Shelf.Ren:=⟨fun|156=>103|165=>167|166=>68|169=>70|240=>120|241=>209|276=>176|277=>253|n=>n,fun|31=>76|9=>9|3=>3|4=>4|0=>0|20=>20|72=>111|76=>119|70=>108|37=>109|75=>118|127=>193|164=>236|5=>5|80=>122|n=>n,fun|n=>n⟩
theorem lays156:Go.Proofs.Lays.n156 Tryz.prog lays156_ren where
 mixed:=by kernel_rfl
 f156:=Tryz.func103.trans (congrArg some (by kernel_rfl))
 f165:=Tryz.func167.trans (congrArg some (by kernel_rfl))
 f166:=Tryz.func68.trans (congrArg some (by kernel_rfl))
 f169:=Tryz.func70.trans (congrArg some (by kernel_rfl))
 f240:=Tryz.func120.trans (congrArg some (by kernel_rfl))
 f241:=Tryz.func209.trans (congrArg some (by kernel_rfl))
 f276:=Tryz.func176.trans (congrArg some (by kernel_rfl))
 f277:=Tryz.func253.trans (congrArg some (by kernel_rfl))
 t0:=Tryz.underlying0
 a0:=Tryz.isAgg0
 z0:=Tryz.sizeOf0
 v0:=Tryz.zeroValue0
 t3:=Tryz.underlying3
 a3:=Tryz.isAgg3
 z3:=Tryz.sizeOf3
 v3:=Tryz.zeroValue3
 t4:=Tryz.underlying4
 a4:=Tryz.isAgg4
 z4:=Tryz.sizeOf4
 v4:=Tryz.zeroValue4
 t9:=Tryz.underlying9
 a9:=Tryz.isAgg9
 z9:=Tryz.sizeOf9
 v9:=Tryz.zeroValue9
 t20:=Tryz.underlying20
 a20:=Tryz.isAgg20
 z20:=Tryz.sizeOf20
 v20:=Tryz.zeroValue20
 t31:=Tryz.underlying76
 a31:=Tryz.isAgg76
 z31:=Tryz.sizeOf76
 v31:=Tryz.zeroValue76
 t37:=Tryz.underlying109
 a37:=Tryz.isAgg109
 z37:=Tryz.sizeOf109
 v37:=Tryz.zeroValue109
 t70:=Tryz.underlying108
 a70:=Tryz.isAgg108
 z70:=Tryz.sizeOf108
 v70:=Tryz.zeroValue108
 t72:=Tryz.underlying111
 a72:=Tryz.isAgg111
 z72:=Tryz.sizeOf111
 v72:=Tryz.zeroValue111
 t75:=Tryz.underlying118
 a75:=Tryz.isAgg118
 z75:=Tryz.sizeOf118
 v75:=Tryz.zeroValue118
 t76:=Tryz.underlying119
 a76:=Tryz.isAgg119
 z76:=Tryz.sizeOf119
 v76:=Tryz.zeroValue119
 t127:=Tryz.underlying193
 a127:=Tryz.isAgg193
 z127:=Tryz.sizeOf193
 v127:=Tryz.zeroValue193
 t164:=Tryz.underlying236
 a164:=Tryz.isAgg236
 z164:=Tryz.sizeOf236
 v164:=Tryz.zeroValue236
theorem zm:Builder.Extra Tryz.prog lays156_ren where
 sizeBuilder:=by kernel_rfl
 liesBuilder:=by kernel_rfl
 t5:=Tryz.underlying5
 a5:=Tryz.isAgg5
 z5:=Tryz.sizeOf5
 v5:=Tryz.zeroValue5
 infoByte:=by kernel_rfl
 cellsByte:=by kernel_rfl
 sizeByte:=by kernel_rfl
 neB5:=by decide
def fU (l:List ByteArray) (sep:ByteArray):ByteArray:=toB (Lib.join (l.map (·.data.toList)) sep.data.toList)
end Go.Proofs.YtffdpnmioidloaaGreatDoor
namespace Go.Proofs.YtffdpnmioidloaaGreatDoor
open Go Go.Mir Go.RowKit
attribute [local irreducible] Go.Mir.DT.sat Go.Mir.evPat Go.Mir.RT.sat Go.Mir.evFn
def spV:ByteArray:=⟨#[32]⟩
def nlV:ByteArray:=⟨#[10]⟩
end Go.Proofs.YtffdpnmioidloaaGreatDoor
namespace Go.Proofs.YtffdpnmioidloaaGreatDoor
open Go Go.Mir
attribute [local irreducible] Go.Mir.DT.sat Go.Mir.evPat Go.Mir.RT.sat Go.Mir.evFn
def IH (n:Int) (b:Int):Int:=IntKind.u64.wrap (IntKind.u64.wrap (n*10)+IntKind.u64.wrap (IntKind.u8.wrap (b - 48)))
def pZ:List UInt8→Int→Bool→Option (Int×Bool)
 | [],n,b=>some (n,b)
 | x::r,n,b=>if decide ((x.toNat:Int)<48)||decide ((x.toNat:Int)>57) then none else pZ r (IH n x.toNat) (b||decide (n>1152921504606846976))
def kY (s:ByteArray):Bool:=!s.data.toList.isEmpty&&s.data.toList.headD 0==45
def cn (s:ByteArray):ByteArray:=if kY s then s.extract 1 s.size else s
def He (neg:Bool) (lo hi:Int):Option (Int×Bool)→Int×Int
 | none=>(0,4)
 | some p=>
  if p.2 ||(decide (p.1>9223372036854775808) ||(p.1==9223372036854775808&&!neg)) then (0,2)
  else
   let v:=if neg then IntKind.i64.wrap (0 - IntKind.i64.wrap p.1) else IntKind.i64.wrap p.1
   if decide (v<lo)||decide (v>hi) then (0,2) else (v,0)
def dW (s:ByteArray) (lo hi:Int):Int×Int:=
 let d:=cn s
 if d.data.toList.isEmpty ||(d.data.toList.headD 0==48&&(kY s||decide ((d.size:Int)>1))) then (0,4)
 else He (kY s) lo hi (pZ d.data.toList 0 false)
theorem u7 (x:UInt8) (r:List UInt8) (n:Int) (b:Bool):pZ (x::r) n b=if decide ((x.toNat:Int)<48)||decide ((x.toNat:Int)>57) then none else pZ r (IH n x.toNat) (b||decide (n>1152921504606846976)):=rfl
end Go.Proofs.YtffdpnmioidloaaGreatDoor
namespace Go.Proofs.YtffdpnmioidloaaGreatDoor
open Go Go.Mir
def iU (c:UInt8):Bool:=decide (48≤c.toNat)&&decide (c.toNat≤57)
def ly:List UInt8→Nat→Nat
 | [],a=>a
 | c::r,a=>ly r (a*10 +(c.toNat - 48))
theorem Ez :∀ (l:List UInt8) (a:Nat),a≤ly l a
 | [],_=>Nat.le_refl _
 | c::r,a=>by
  have:=Ez r (a*10 +(c.toNat - 48))
  unfold ly
  omega
theorem EW (c:UInt8):digsB.data.toList.contains c=iU c:=by
 have key :∀ c:Fin 256,digsB.data.toList.contains (UInt8.ofNat c.val)=iU (UInt8.ofNat c.val):=by decide +kernel
 have:=key ⟨c.toNat,UInt8.toNat_lt c⟩
 simpa using this
theorem BD (p:UInt8→Bool) :∀ l:List UInt8,l.dropWhile p=[]↔∀ x∈l,p x=true
 | []=>by simp
 | x::r=>by
  have ih:=BD p r
  rw [List.dropWhile_cons]
  cases hp:p x
  ·simp [hp]
  ·simp [hp,ih]
theorem J3 (p:UInt8→Bool) (l:List UInt8) :((l.reverse.dropWhile p).reverse.dropWhile p).isEmpty=l.all p:=by
 apply Bool.eq_iff_iff.2
 rw [List.isEmpty_iff,BD,List.all_eq_true]
 constructor
 ·intro h
  by_cases he:l.reverse.dropWhile p=[]
  ·intro x hx
   exact ((BD p _).1 he) x (List.mem_reverse.2 hx)
  ·have h1:=List.head_dropWhile_not p he
   have h2:=h _ (List.mem_reverse.2 (List.head_mem he))
   rw [h1] at h2;cases h2
 ·intro h x hx
  have hx:=List.mem_reverse.1 hx
  exact h x (List.mem_reverse.1 ((List.dropWhile_sublist p).mem hx))
theorem Ri (s:ByteArray) :(s.extract 1 s.size).data.toList=s.data.toList.drop 1:=by
 rw [←Md]
 show ((s.data.toList.take s.size).drop 1)=_
 rw [List.take_of_length_le (by rw [Array.length_toList];exact Nat.le_refl _)]
theorem lB (s:ByteArray) :(cn s).data.toList=if kY s then s.data.toList.drop 1 else s.data.toList:=by
 unfold cn
 split
 ·exact Ri s
 ·rfl
theorem C2 (s:ByteArray):Lib.trimPrefix s.data.toList minusB.data.toList =(cn s).data.toList:=by
 rw [lB]
 unfold kY Lib.trimPrefix Lib.hasPrefix minusB
 cases s.data.toList with
 | nil=>rfl
 | cons b t=>
  have:List.isPrefixOf [45] (b::t) =(b==45):=by
   show ((45:UInt8)==b&&List.isPrefixOf [] t)=_
   rw [BEq.comm]
   simp [List.isPrefixOf]
  show (if List.isPrefixOf [45] (b::t) then _ else _)=_
  rw [this]
  simp
theorem AR (s:ByteArray):s.size=s.data.toList.length:=by rw [Array.length_toList];rfl
theorem wy (s:ByteArray):l3 s =(!(cn s).data.toList.isEmpty&&!((cn s).data.toList.headD 0==48&&(kY s||decide (((cn s).size:Int)>1)))&&(cn s).data.toList.all iU):=by
 unfold l3
 rw [C2,Lib.toList_data]
 have ht :(Lib.trimS (cn s).data.toList digsB.data.toList).isEmpty =(cn s).data.toList.all iU:=by
  unfold Lib.trimS Lib.trimLeftS Lib.trimRightS
  have :(fun x=>digsB.data.toList.contains x)=iU:=funext EW
  rw [this,J3]
 simp only [ht,AR]
 rw [lB]
 cases hn:kY s with
 | true=>
  simp only [if_true,Bool.true_or,Bool.and_true]
  have :(s.data.toList==[48])=false:=by
   unfold kY at hn
   cases hs:s.data.toList with
   | nil=>rfl
   | cons b t=>
    rw [hs] at hn
    have hb:b=45:=by simpa using hn
    subst hb
    simp
  rw [this]
  cases (s.data.toList.drop 1).isEmpty <;> simp
 | false=>
  simp only [Bool.false_or,Bool.false_eq_true,if_false]
  cases hs:s.data.toList with
  | nil=>rfl
  | cons b t=>
   cases t with
   | nil=>simp
   | cons c r=>
    have h1:decide (((b::c::r).length:Int)>1)=true:=decide_eq_true (by simp only [List.length_cons];omega)
    have h2 :(b::c::r==[(48:UInt8)])=false:=by simp
    rw [h1,h2]
    simp
theorem vb :∀ (l:List UInt8) (n:Int) (b:Bool),l.all iU=false→pZ l n b=none
 | [],_,_,h=>by cases h
 | c::r,n,b,h=>by
  rw [u7]
  by_cases hc:iU c=true
  ·have h':r.all iU=false:=by
    rw [List.all_cons,hc] at h;exact h
   unfold iU at hc
   rw [if_neg (by simp at hc ⊢;omega)]
   exact vb r _ _ h'
  ·unfold iU at hc
   rw [if_pos (by simp at hc ⊢;omega)]
def PQ (n:Int) (b:Bool) (a:Nat):Prop:=(b=false∧n=a∧a≤11529215046068469769)∨(b=true∧a>9223372036854775808)
theorem vc :∀ (l:List UInt8) (n:Int) (b:Bool) (a:Nat),l.all iU=true→PQ n b a→∃ n' b',pZ l n b=some (n',b')∧PQ n' b' (ly l a)
 | [],n,b,a,_,h=>⟨n,b,rfl,h⟩
 | c::r,n,b,a,h,hi=>by
  rw [List.all_cons,Bool.and_eq_true] at h
  have hc:=h.1
  unfold iU at hc
  simp only [Bool.and_eq_true,decide_eq_true_eq] at hc
  rw [u7,if_neg (by simp;omega)]
  refine vc r _ _ (a*10 +(c.toNat - 48)) h.2 ?_
  rcases hi with ⟨rfl,rfl,h3⟩ |⟨rfl,h3⟩
  ·by_cases hb:a>1152921504606846976
   ·refine .inr ⟨by simp;omega,by omega⟩
   ·refine .inl ⟨by simp;omega,?_,by omega⟩
    unfold IH
    have e1:IntKind.u8.wrap ((c.toNat:Int) - 48) =(c.toNat:Int) - 48:=by
     simp only [IntKind.wrap,IntKind.bits,IntKind.signed]
     simp
     omega
    have e2:IntKind.u64.wrap ((a:Int)*10) =(a:Int)*10:=vK (by omega) (by omega)
    have e3:IntKind.u64.wrap ((c.toNat:Int) - 48) =(c.toNat:Int) - 48:=vK (by omega) (by omega)
    rw [e1,e2,e3,vK (by omega) (by omega)]
    omega
  ·exact .inr ⟨by simp,by omega⟩
theorem A5 :∀ (l:List UInt8) (a:Nat),l.all iU=true→a≤18446744073709551615→
  (Lib.parseUintM 18446744073709551615 a l = .ok (ly l a)∧ly l a≤18446744073709551615)∨(Lib.parseUintM 18446744073709551615 a l = .range∧ly l a>18446744073709551615)
 | [],a,_,h=> .inl ⟨rfl,h⟩
 | c::r,a,h,ha=>by
  rw [List.all_cons,Bool.and_eq_true] at h
  have hc:=h.1
  unfold iU at hc
  simp only [Bool.and_eq_true,decide_eq_true_eq] at hc
  unfold Lib.parseUintM
  rw [if_pos hc]
  have hv:=Ez r (a*10 +(c.toNat - 48))
  split
  ·exact .inr ⟨rfl,by unfold ly;omega⟩
  ·split
   ·exact .inr ⟨rfl,by unfold ly;omega⟩
   ·exact A5 r _ h.2 (by omega)
theorem Lg {s:ByteArray} {lo hi:Int} (h:l3 s=false):dW s lo hi =(0,4):=by
 rw [wy] at h
 unfold dW
 simp only []
 split
 ·rfl
 ·rename_i h1
  have h1 :((cn s).data.toList.isEmpty ||((cn s).data.toList.headD 0==48&&(kY s||decide (((cn s).size:Int)>1))))=false:=by simpa using h1
  rw [Bool.or_eq_false_iff] at h1
  rw [h1.1,h1.2] at h
  rw [vb _ _ _ (by simpa using h)]
  rfl
theorem IL {s:ByteArray} {lo hi:Int} (h:l3 s=true) :(cn s).data.toList≠ []∧(cn s).data.toList.all iU=true∧dW s lo hi=He (kY s) lo hi (pZ (cn s).data.toList 0 false):=by
 rw [wy,Bool.and_eq_true,Bool.and_eq_true] at h
 obtain ⟨⟨h1,h2⟩,h3⟩:=h
 refine ⟨fun e=>(by rw [e] at h1;cases h1),h3,?_⟩
 unfold dW
 simp only []
 rw [if_neg]
 have h1 :(cn s).data.toList.isEmpty=false:=by simpa using h1
 rw [Bool.not_eq_true'] at h2
 rw [h1,h2]
 decide
theorem vq {s:ByteArray} (h1 :(cn s).data.toList≠ []) (h2 :(cn s).data.toList.all iU=true) :
  Lib.parseIntB 64 s.data.toList =(if (if kY s then ly (cn s).data.toList 0>9223372036854775808 else ly (cn s).data.toList 0≥9223372036854775808) then .range else .ok (if kY s then -(ly (cn s).data.toList 0:Int) else ly (cn s).data.toList 0)):=by
 have hl:=lB s
 generalize (cn s).data.toList=d at *
 unfold kY at *
 generalize s.data.toList=l at *
 cases l with
 | nil=>exact absurd hl h1
 | cons c r=>
  have hv:=A5 d 0 h2 (by decide)
  have hd:Lib.parseUintB 64 (if c.toNat=43∨c.toNat=45 then r else c::r)=Lib.parseUintM 18446744073709551615 0 d:=by
   have :(if c.toNat=43∨c.toNat=45 then r else c::r)=d:=by
    rw [hl]
    by_cases h:c=45
    ·subst h;rfl
    ·have hb :(c==45)=false:=by simpa using h
     have hn :(!(c::r).isEmpty&&(c::r).headD 0==45)=false:=by simpa using hb
     rw [hn] at hl ⊢
     simp only [if_false,Bool.false_eq_true] at hl ⊢
     rw [if_neg]
     rw [hl,List.all_cons,Bool.and_eq_true] at h2
     have:=h2.1
     unfold iU at this
     simp only [Bool.and_eq_true,decide_eq_true_eq] at this
     omega
   rw [this]
   unfold Lib.parseUintB
   rw [if_neg h1]
  unfold Lib.parseIntB
  simp only []
  rw [hd]
  have hneg :(c.toNat=45)↔(!(c::r).isEmpty&&(c::r).headD 0==45)=true:=by
   simp only [List.isEmpty_cons,Bool.not_false,Bool.true_and,List.headD_cons,beq_iff_eq]
   rw [←UInt8.toNat_inj]
   exact Iff.rfl
  cases hb :(!(c::r).isEmpty&&(c::r).headD 0==45) with
  | true=>
   have hc:c.toNat=45:=hneg.2 hb
   rcases hv with ⟨e,hle⟩ |⟨e,hgt⟩
   ·rw [e]
    simp only [hc,not_true,false_and,if_false,true_and,if_true]
   ·rw [e]
    simp only [if_true]
    rw [if_pos (by omega)]
  | false=>
   have hc :¬ c.toNat=45:=fun h=>by rw [hneg.1 h] at hb;cases hb
   rcases hv with ⟨e,hle⟩ |⟨e,hgt⟩
   ·rw [e]
    simp only [hc,not_false_iff,true_and,false_and,if_false,Bool.false_eq_true]
   ·rw [e]
    simp only [Bool.false_eq_true,if_false]
    rw [if_pos (by omega)]
theorem cE (s:ByteArray) (lo hi:Int):dW s lo hi=js s lo hi:=by
 unfold js
 cases hb:l3 s with
 | false=>exact Lg hb
 | true=>
  obtain ⟨h1,h2,h3⟩:=IL (lo:=lo) (hi:=hi) hb
  rw [h3,vq h1 h2]
  obtain ⟨n,b,hn,hi'⟩:=vc (cn s).data.toList 0 false 0 h2 (.inl ⟨rfl,rfl,by omega⟩)
  rw [hn]
  generalize ly (cn s).data.toList 0=V at *
  unfold He
  simp only [if_true]
  rcases hi' with ⟨rfl,rfl,hV⟩ |⟨rfl,hV⟩
  ·cases kY s with
   | true=>
    by_cases hg:V>9223372036854775808
    ·rw [if_pos (by simp;omega)]
     simp [hg]
    ·rw [if_neg (by simp;omega)]
     simp only [if_true,hg,if_false]
     have e1:IntKind.i64.wrap (0 - IntKind.i64.wrap (V:Int)) = -(V:Int):=by
      by_cases h63:V=9223372036854775808
      ·subst h63;decide
      ·rw [wrap64 (n:=(V:Int)) (by omega) (by omega),wrap64 (by omega) (by omega)];omega
     rw [e1]
     by_cases hr:-(V:Int)<lo∨hi < -(V:Int)
     ·rw [if_pos (by simpa using hr),if_pos hr]
     ·rw [if_neg (by simpa using hr),if_neg hr]
   | false=>
    by_cases hg:V≥9223372036854775808
    ·rw [if_pos (by simp;omega)]
     simp [hg]
    ·rw [if_neg (by simp;omega)]
     simp only [Bool.false_eq_true,if_false,hg]
     have e1:IntKind.i64.wrap (V:Int) =(V:Int):=wrap64 (by omega) (by omega)
     rw [e1]
     by_cases hr :(V:Int)<lo∨hi <(V:Int)
     ·rw [if_pos (by simpa using hr),if_pos hr]
     ·rw [if_neg (by simpa using hr),if_neg hr]
  ·rw [if_pos (by simp)]
   cases kY s
   ·simp only [Bool.false_eq_true,if_false]
    rw [if_pos (by omega)]
   ·simp only [if_true]
    rw [if_pos (by omega)]
end Go.Proofs.YtffdpnmioidloaaGreatDoor
namespace Go.Mir
open Go.RowKit
variable {P:Program}
end Go.Mir
namespace Go.Proofs.YtffdpnmioidloaaGreatDoor
open Go Go.Mir
def pE (b:ByteArray):Int×Int:=js b 0 1000000
theorem jk {n:Int} (h0:0≤n) (h1:n≤1000000) :(aY n).size≤21:=by
 show (Lib.itoa n).toArray.size≤21
 rw [List.size_toArray]
 exact Lib.itoa_length_le n (by omega) (by omega)
end Go.Proofs.YtffdpnmioidloaaGreatDoor
namespace Go.Proofs.YtffdpnmioidloaaGreatDoor
open Go Go.Mir Go.RowKit
attribute [local irreducible] Go.Mir.DT.sat Go.Mir.evPat Go.Mir.RT.sat Go.Mir.evFn
end Go.Proofs.YtffdpnmioidloaaGreatDoor
namespace Go.Proofs.YtffdpnmioidloaaGreatDoor
open Go Go.Mir
theorem Dg (c:UInt8) :∀ a:List UInt8,c∉a→eZ c a=[a]
 | [],_=>rfl
 | b::l,h=>by
  have h1:b≠c:=fun e=>h (by rw [e];exact List.mem_cons_self)
  have ih:=Dg c l (fun e=>h (List.mem_cons_of_mem _ e))
  unfold eZ
  rw [if_neg (by simpa using h1),ih]
theorem oe (c:UInt8) :∀ a r:List UInt8,c∉a→eZ c (a++c::r)=a::eZ c r
 | [],r,_=>by
  show eZ c (c::r)=_
  conv=>lhs;unfold eZ
  rw [if_pos (by simp)]
 | b::l,r,h=>by
  have h1:b≠c:=fun e=>h (by rw [e];exact List.mem_cons_self)
  have ih:=oe c l r (fun e=>h (List.mem_cons_of_mem _ e))
  show eZ c (b ::(l++c::r))=_
  conv=>lhs;unfold eZ
  rw [if_neg (by simpa using h1),ih]
theorem A6 (c:UInt8) :∀ (l:List UInt8) (a:Nat),ly (l++[c]) a=ly l a*10 +(c.toNat - 48)
 | [],a=>rfl
 | x::r,a=>A6 c r _
theorem nf {d:Nat} (h:d<10) :(UInt8.ofNat (48+d)).toNat=48+d:=by
 rw [UInt8.toNat_ofNat']
 omega
theorem GX {n:Nat} (h :¬ n<10):Lib.decDigits n=Lib.decDigits (n / 10)++[UInt8.ofNat (48+n % 10)]:=by
 conv=>lhs;rw [Lib.decDigits]
 rw [dif_neg h]
theorem Ky {n:Nat} (h:n<10):Lib.decDigits n=[UInt8.ofNat (48+n)]:=by
 rw [Lib.decDigits,dif_pos h]
theorem nZ :∀ (k n:Nat),n<k→ly (Lib.decDigits n) 0=n∧(Lib.decDigits n).all iU=true∧Lib.decDigits n≠ []∧((Lib.decDigits n).headD 0=48→(Lib.decDigits n).length=1)
 | 0,n,h=>absurd h (Nat.not_lt_zero _)
 | k+1,n,h=>by
  by_cases h10:n<10
  ·rw [Ky h10]
   refine ⟨?_,?_,by simp,fun _=>rfl⟩
   ·show 0*10 +((UInt8.ofNat (48+n)).toNat - 48)=n
    rw [nf h10];omega
   ·simp [iU,nf h10];omega
  ·obtain ⟨i1,i2,i3,i4⟩:=nZ k (n / 10) (by omega)
   have hm:n % 10<10:=by omega
   rw [GX h10]
   refine ⟨?_,?_,by simp,fun hh=>?_⟩
   ·rw [A6,i1,nf hm];omega
   ·rw [List.all_append,i2]
    simp [iU,nf hm];omega
   ·exfalso
    cases hd:Lib.decDigits (n / 10) with
    | nil=>exact i3 hd
    | cons x t=>
     rw [hd] at hh i4 i1
     have hx:x=48:=hh
     have hl:=i4 hx
     cases t with
     | cons=>simp at hl
     | nil=>
      subst hx
      have :(0:Nat)=n / 10:=i1
      omega
theorem DB {b:UInt8} (h:iU b=true):b≠45∧b≠32:=by
 constructor <;>(rintro rfl;exact absurd h (by decide))
theorem lA {n:Int} (h0:0≤n) :(aY n).data.toList=Lib.decDigits n.toNat:=by
 show (Lib.itoa n).toArray.toList=_
 unfold Lib.itoa
 rw [if_neg (by omega)]
theorem IG {n:Int} (h0:0≤n):kY (aY n)=false:=by
 unfold kY
 rw [lA h0]
 obtain ⟨_,h2,h3,_⟩:=nZ _ n.toNat (Nat.lt_succ_self _)
 cases hd:Lib.decDigits n.toNat with
 | nil=>exact absurd hd h3
 | cons x t=>
  rw [hd,List.all_cons,Bool.and_eq_true] at h2
  simpa using (DB h2.1).1
theorem Lh {n:Int} (h0:0≤n) (h1:n≤1000000):pE (aY n) =(n,0):=by
 obtain ⟨v1,v2,v3,v4⟩:=nZ _ n.toNat (Nat.lt_succ_self _)
 have hn:=IG h0
 have hl :(cn (aY n)).data.toList=Lib.decDigits n.toNat:=by
  rw [lB,hn,if_neg (by decide),lA h0]
 have hb:l3 (aY n)=true:=by
  rw [wy,hl,hn,v2,AR,hl,Bool.false_or]
  have h1 :(Lib.decDigits n.toNat).isEmpty=false:=by simpa using v3
  rw [h1]
  cases h48 :((Lib.decDigits n.toNat).headD 0==48)
  ·rfl
  ·rw [v4 (eq_of_beq h48)];rfl
 unfold pE js
 rw [if_pos hb,vq (by rw [hl];exact v3) (by rw [hl];exact v2),hl,hn,v1]
 simp only [Bool.false_eq_true,if_false]
 rw [if_neg (by omega)]
 simp only []
 rw [if_neg (by omega)]
 have :((n.toNat:Nat):Int)=n:=by omega
 rw [this]
theorem A0 (a:ByteArray):toB a.data.toList=a:=vY rfl
theorem QD {n:Int} (h0:0≤n) :(32:UInt8)∉(aY n).data.toList:=by
 intro h
 rw [lA h0] at h
 obtain ⟨_,h2,_,_⟩:=nZ _ n.toNat (Nat.lt_succ_self _)
 exact (DB (List.all_eq_true.1 h2 _ h)).2 rfl
end Go.Proofs.YtffdpnmioidloaaGreatDoor
namespace Go.Proofs.YtffdpnmioidloaaGreatDoor
open Go Go.Mir
def wtab:List dismissal_way:=
 [{ how:=0,name:={ data:=#[78,79,84,79,85,84] },fair:=false,wide:=false,no:=false,fielder:=false,either:=false },
  { how:=1,name:={ data:=#[66,79,87,76,69,68] },fair:=true,wide:=false,no:=false,fielder:=false,either:=false },
  { how:=2,name:={ data:=#[67,65,85,71,72,84] },fair:=true,wide:=false,no:=false,fielder:=true,either:=false },
  { how:=3,name:={ data:=#[76,66,87] },fair:=true,wide:=false,no:=false,fielder:=false,either:=false },
  { how:=4,name:={ data:=#[83,84,85,77,80,69,68] },fair:=true,wide:=true,no:=false,fielder:=true,either:=false },
  { how:=5,name:={ data:=#[72,73,84,87,73,67,75,69,84] },fair:=true,wide:=true,no:=false,fielder:=false,either:=false },
  { how:=6,name:={ data:=#[82,85,78,79,85,84] },fair:=true,wide:=true,no:=true,fielder:=true,either:=true },
  { how:=7,name:={ data:=#[72,73,84,84,87,73,67,69] },fair:=true,wide:=false,no:=true,fielder:=false,either:=false },
  { how:=8,name:={ data:=#[79,66,83,84,82,85,67,84,73,78,71] },fair:=true,wide:=true,no:=true,fielder:=false,either:=true },
  { how:=9,name:={ data:=#[84,73,77,69,68,79,85,84] },fair:=false,wide:=false,no:=false,fielder:=false,either:=false },
  { how:=10,name:={ data:=#[82,69,84,73,82,69,68] },fair:=false,wide:=false,no:=false,fielder:=false,either:=false }]
def ofW (h:Int):dismissal_way:=(wtab.find? fun w=>w.how==h).getD dismissal_way.zero
end Go.Proofs.YtffdpnmioidloaaGreatDoor
namespace Go.Proofs.YtffdpnmioidloaaGreatDoor
open Go Go.Mir
attribute [local irreducible] Go.Mir.RT.sat Go.Mir.evFn Go.Mir.stepObl
end Go.Proofs.YtffdpnmioidloaaGreatDoor
namespace Go.Proofs.YtffdpnmioidloaaGreatDoor
open Go Go.Mir Go.RowKit
attribute [local irreducible] Go.Mir.DT.sat Go.Mir.evPat Go.Mir.RT.sat Go.Mir.evFn
abbrev qPn:Pat:=dI [.str]
def QB (h:Int):ByteArray:=(ofW h).name
end Go.Proofs.YtffdpnmioidloaaGreatDoor
namespace Go.Proofs.YtffdpnmioidloaaGreatDoor
open Go Go.Mir
theorem uc :∀ (w:List UInt8) (ws:List (List UInt8)),(∀ x∈w::ws,(32:UInt8)∉x)→eZ 32 (Lib.join (w::ws) [32])=w::ws
 | w,[],h=>by
  rw [Lib.join_one]
  exact Dg _ _ (h w List.mem_cons_self)
 | w,v::ws,h=>by
  have ih:=uc v ws fun x hx=>h x (List.mem_cons_of_mem _ hx)
  have e:Lib.join (w::v::ws) [32]=w++32::Lib.join (v::ws) [32]:=by
   rw [Lib.join_cons,Lib.join_cons]
   simp [Lib.joinTail]
  rw [e,oe _ _ _ (h w List.mem_cons_self),ih]
theorem KT {c:UInt8} (hc:c≠32) :∀ (ws:List (List UInt8)),(∀ x∈ws,c∉x)→c∉Lib.join ws [32]
 | [],_=>by simp [Lib.join_nil]
 | w::ws,h=>by
  rw [Lib.join_cons]
  intro hm
  rcases List.mem_append.1 hm with hm|hm
  ·exact h w List.mem_cons_self hm
  ·unfold Lib.joinTail at hm
   obtain ⟨l,hl,hm⟩:=List.mem_flatten.1 hm
   obtain ⟨x,hx,rfl⟩:=List.mem_map.1 hl
   rcases List.mem_append.1 hm with hm|hm
   ·exact hc (List.mem_singleton.1 hm)
   ·exact h x (List.mem_cons_of_mem _ hx) hm
theorem nv {c:UInt8} :∀ (a b:List UInt8),c∉a→Lib.indexByte (a++c::b) c=a.length
 | [],b,_=>by simp [Lib.indexByte]
 | x::a,b,h=>by
  have ih:=nv a b fun hm=>h (List.mem_cons_of_mem _ hm)
  have hx :(x==c)=false:=by
   apply beq_eq_false_iff_ne.2
   rintro rfl
   exact h List.mem_cons_self
  show (if (x==c)=true then (0:Int) else if (Lib.indexByte (a++c::b) c == -1)=true then -1 else Lib.indexByte (a++c::b) c+1)=_
  rw [ih,hx]
  have :((a.length:Int) == -1)=false:=by
   apply beq_eq_false_iff_ne.2;omega
  rw [this]
  simp
theorem Ib {a b:List UInt8} (h :(10:UInt8)∉a):eG (a++10::b)=a.length+1:=by
 unfold eG
 rw [nv a b h,if_pos (by omega)]
 omega
theorem zG :∀ (ls:List (List UInt8)) (k:Nat),(∀ x∈ls,(10:UInt8)∉x)→((ls.map (·++[10])).flatten).length<k→gW k (ls.map (·++[10])).flatten=ls.map (·++[10])
 | [],0,_,h=>absurd h (Nat.not_lt_zero _)
 | [],k+1,_,_=>rfl
 | l::ls,0,_,h=>absurd h (Nat.not_lt_zero _)
 | l::ls,k+1,h,hk=>by
  have e :((l::ls).map (·++[10])).flatten=l++10 ::(ls.map (·++[10])).flatten:=by simp
  rw [e] at hk ⊢
  have hl :(10:UInt8)∉l:=h l List.mem_cons_self
  have e1 :(l++10 ::(ls.map (·++[10])).flatten).isEmpty=false:=by simp
  have e2 :(l++10 ::(ls.map (·++[10])).flatten).take (l.length+1)=l++[10]:=by
   rw [show l++10 ::(ls.map (·++[10])).flatten =(l++[10]) ++(ls.map (·++[10])).flatten by simp]
   rw [List.take_left' (by simp)]
  have e3 :(l++10 ::(ls.map (·++[10])).flatten).drop (l.length+1) =(ls.map (·++[10])).flatten:=by
   rw [show l++10 ::(ls.map (·++[10])).flatten =(l++[10]) ++(ls.map (·++[10])).flatten by simp]
   rw [List.drop_left' (by simp)]
  unfold gW
  rw [e1,Ib hl,e2,e3]
  rw [zG ls k (fun x hx=>h x (List.mem_cons_of_mem _ hx)) (by rw [List.length_append,List.length_cons] at hk;omega)]
  rfl
theorem ub :∀ (ls:List (List UInt8)),(∀ x∈ls,(10:UInt8)∉x)→eZ 10 (ls.map (·++[10])).flatten=ls++[[]]
 | [],_=>rfl
 | l::ls,h=>by
  have e :((l::ls).map (·++[10])).flatten=l++10 ::(ls.map (·++[10])).flatten:=by simp
  rw [e,oe _ _ _ (h l List.mem_cons_self),ub ls fun x hx=>h x (List.mem_cons_of_mem _ hx)]
  rfl
theorem Mf (l:List UInt8):Lib.trimSuffix (l++[10]) [10]=l:=by
 unfold Lib.trimSuffix Lib.hasSuffix
 have:List.isSuffixOf [10] (l++[10])=true:=List.isSuffixOf_iff_suffix.2 (List.suffix_append _ _)
 rw [if_pos this]
 simp
def lnB (ws:List ByteArray):ByteArray:=fU ws spV++nlV
def N7 (x:Mir.Strip):Bool:=!((QB x.How).toList ==(⟨#[]⟩:ByteArray).toList)
theorem lH {α:Type} (f:α→ByteArray) :∀ (l:List α) (o:ByteArray),(l.foldl (fun o x=>o++f x) o).data.toList=o.data.toList ++(l.map fun x=>(f x).data.toList).flatten
 | [],o=>by simp
 | x::l,o=>by
  rw [List.foldl_cons,lH f l,ByteArray.data_append,Array.toList_append]
  simp
def jnL (ws:List ByteArray):List UInt8:=Lib.join (ws.map (·.data.toList)) [32]
def xx (s:ByteArray):Prop:=(32:UInt8)∉s.data.toList∧(10:UInt8)∉s.data.toList
theorem GY {n:Int} (h0:0≤n):xx (aY n):=by
 have h2:=(nZ _ n.toNat (Nat.lt_succ_self _)).2.1
 rw [List.all_eq_true] at h2
 constructor
 ·exact QD h0
 ·intro hm
  rw [lA h0] at hm
  exact absurd (h2 _ hm) (by decide)
theorem xu {n:Int} (h:okI n=true):0≤n∧n≤1000000:=by
 unfold okI at h
 simp only [Bool.not_eq_true',Bool.or_eq_false_iff,decide_eq_false_iff_not] at h
 omega
structure Wr (b:Mir.Book):Prop where
 hd :∀ n∈b.Side::QS b,0≤n∧n≤1000000
 bx :∀ x∈b.Boxes,(0≤x.Over∧x.Over≤1000000)∧(0≤x.Bowler∧x.Bowler≤1000000)∧∀ s∈x.Symbols,Ja s=true
 st :∀ x∈b.Strips,(0≤x.Player∧x.Player≤1000000)∧(0≤x.Bowler∧x.Bowler≤1000000)∧N7 x=true∧∀ s∈x.Symbols,Ja s=true
theorem MB {ws:List ByteArray} (h :∀ s∈ws,xx s) :(10:UInt8)∉jnL ws:=KT (by decide) _ fun x hx=>by
 obtain ⟨s,hs,rfl⟩:=List.mem_map.1 hx
 exact (h s hs).2
theorem GU {ws:List ByteArray} (hne:ws≠ []) (h :∀ s∈ws,xx s) :(eZ 32 (jnL ws)).map toB=ws:=by
 cases ws with
 | nil=>exact absurd rfl hne
 | cons w ws=>
  unfold jnL
  rw [List.map_cons,uc _ _ fun x hx=>?_]
  ·rw [List.map_cons,List.map_map,A0]
   congr 1
   have :(toB ∘ fun x:ByteArray=>x.data.toList)=id:=by funext x;exact A0 x
   rw [this,List.map_id]
  ·rw [←List.map_cons (f:=fun x:ByteArray=>x.data.toList)] at hx
   obtain ⟨s,hs,rfl⟩:=List.mem_map.1 hx
   exact (h s hs).1
theorem bytes_ne {a b:ByteArray} :(a.toList != b.toList)=false↔a=b:=by
 rw [ByteArray.toList_eq,ByteArray.toList_eq]
 constructor
 ·intro h
  have h:a.data.toList=b.data.toList:=by simpa using h
  exact vY h
 ·rintro rfl;simp
end Go.Proofs.YtffdpnmioidloaaGreatDoor
namespace Go.Proofs.YtffdpnmioidloaaGreatDoor
open Go Go.Mir Go.RowKit
attribute [local irreducible] Go.Mir.DT.sat Go.Mir.evPat Go.Mir.RT.sat Go.Mir.evFn
def nlB:ByteArray:=⟨#[10]⟩
abbrev qLr:Pat:=⟨[(0,.h .str),(2,.c (.ptr 0 0)),(3,.c (.ptr 1 0)),(4,.c (.ptr 2 0))],[(0,.cells [.c .any]),(1,.cells [.c .any]),(2,.cells [.c (.osl 3 4)]),(3,.row 4 (.nm .Row))],5⟩
abbrev qLx:Pat:=⟨[(2,.c (.ptr 0 0)),(3,.c (.ptr 1 0))],[(0,.cells [.c .nilsl]),(1,.cells [.h I])],2⟩
noncomputable def rgLp:Rg:=⟨0,Tryz.f23.ntmps,qLr,qLx,5,16,Jm Tryz.f23 0,1000000⟩
def BH (b:ByteArray):Bool:=(pE b).2 != 0
def I2 (r:Option Mir.Row) (y:ByteArray×List Mir.Row×Unit):Sum (Int×Unit) (ByteArray×List Mir.Row×Unit):=match r with
 | some r=> .inr (y.1,y.2.1++[r],())
 | none=> .inl (4,())
def rq (n:Nat) (y:ByteArray×List Mir.Row×Unit):Prop:=y.2.1.length≤n
abbrev c9I:List PC0:= [.h I,.h I,.h I,.h I,.h I,.h I,.h I,.h I,.h I]
abbrev Ql:List (Nat×PB):= [(0,.cells [.c .any]),(1,.cells [.c .any]),(2,.cells [.c (.osl 3 4)]),(3,.row 4 (.nm .Row)),(5,.cells c9I),(6,.row 7 .str)]
abbrev qLi:Pat:=⟨[(2,.c (.ptr 0 0)),(3,.c (.ptr 1 0)),(4,.c (.ptr 2 0)),(6,.c (.osl 6 7)),(7,.c (.ptr 5 0)),(23,.c (.osl 6 7)),(24,.h I),(25,.h I)],Ql,8⟩
abbrev xLi:List (Lf×Pat):= [(.ext 2,⟨[(2,.c (.ptr 0 0)),(3,.c (.ptr 1 0)),(4,.c (.ptr 2 0)),(6,.c (.osl 6 7)),(7,.c (.ptr 5 0))],Ql,8⟩),(.ret,⟨[(2,.c (.ptr 0 0)),(3,.c (.ptr 1 0))],[(0,.cells [.c .nilsl]),(1,.cells [.h I])],8⟩)]
abbrev I9:Type:=Int×Int×Int×Int×Int×Int×Int×Int×Int
def O5 (a:I9) (i v:Int):I9:=
 if i==0 then (v,a.2.1,a.2.2.1,a.2.2.2.1,a.2.2.2.2.1,a.2.2.2.2.2.1,a.2.2.2.2.2.2.1,a.2.2.2.2.2.2.2.1,a.2.2.2.2.2.2.2.2)
 else if i==1 then (a.1,v,a.2.2.1,a.2.2.2.1,a.2.2.2.2.1,a.2.2.2.2.2.1,a.2.2.2.2.2.2.1,a.2.2.2.2.2.2.2.1,a.2.2.2.2.2.2.2.2)
 else if i==2 then (a.1,a.2.1,v,a.2.2.2.1,a.2.2.2.2.1,a.2.2.2.2.2.1,a.2.2.2.2.2.2.1,a.2.2.2.2.2.2.2.1,a.2.2.2.2.2.2.2.2)
 else if i==3 then (a.1,a.2.1,a.2.2.1,v,a.2.2.2.2.1,a.2.2.2.2.2.1,a.2.2.2.2.2.2.1,a.2.2.2.2.2.2.2.1,a.2.2.2.2.2.2.2.2)
 else if i==4 then (a.1,a.2.1,a.2.2.1,a.2.2.2.1,v,a.2.2.2.2.2.1,a.2.2.2.2.2.2.1,a.2.2.2.2.2.2.2.1,a.2.2.2.2.2.2.2.2)
 else if i==5 then (a.1,a.2.1,a.2.2.1,a.2.2.2.1,a.2.2.2.2.1,v,a.2.2.2.2.2.2.1,a.2.2.2.2.2.2.2.1,a.2.2.2.2.2.2.2.2)
 else if i==6 then (a.1,a.2.1,a.2.2.1,a.2.2.2.1,a.2.2.2.2.1,a.2.2.2.2.2.1,v,a.2.2.2.2.2.2.2.1,a.2.2.2.2.2.2.2.2)
 else if i==7 then (a.1,a.2.1,a.2.2.1,a.2.2.2.1,a.2.2.2.2.1,a.2.2.2.2.2.1,a.2.2.2.2.2.2.1,v,a.2.2.2.2.2.2.2.2)
 else (a.1,a.2.1,a.2.2.1,a.2.2.2.1,a.2.2.2.2.1,a.2.2.2.2.2.1,a.2.2.2.2.2.2.1,a.2.2.2.2.2.2.2.1,v)
def liF:List ByteArray→Int→I9→Option I9
 | [],_,a=>some a
 | w::l,i,a=>if i==6 then liF l (i+1) a else if BH w then none else liF l (i+1) (O5 a i (pE w).1)
abbrev TLi:Type:=Int×Int×List Mir.Row×Int×Int×Int×Int×Int×Int×Int×Int×Int×List ByteArray×Unit
abbrev OLi:Type:=Sum (List Mir.Row×Int×Int×Int×Int×Int×Int×Int×Int×Int×List ByteArray×Unit) (Int×Unit)
def liO (rows:List Mir.Row) (xs:List ByteArray):Option I9→OLi
 | some a=> .inl (rows,a.1,a.2.1,a.2.2.1,a.2.2.2.1,a.2.2.2.2.1,a.2.2.2.2.2.1,a.2.2.2.2.2.2.1,a.2.2.2.2.2.2.2.1,a.2.2.2.2.2.2.2.2,xs,())
 | none=> .inr (4,())
def liX (n i:Int) (rows:List Mir.Row) (a:I9) (xs:List ByteArray):OLi:=liO rows xs (liF (xs.drop i.toNat) i a)
def dv:TLi→OLi
 |(n,i,rows,a0,a1,a2,a3,a4,a5,a6,a7,a8,xs,_)=>liX n i rows (a0,a1,a2,a3,a4,a5,a6,a7,a8) xs
def gz:TLi→Prop
 |(n,i,_,_,_,_,_,_,_,_,_,_,xs,_)=>(n =(xs.length:Int)∧xs.length=9)∧0≤i∧i≤n
def gm:TLi→Nat
 |(n,i,_)=>(n - i).toNat
def z9:I9:=(0,0,0,0,0,0,0,0,0)
def Rz (l:List ByteArray):Option I9→Option Mir.Row
 | some a=>some ⟨a.1,a.2.1,a.2.2.1,a.2.2.2.1,a.2.2.2.2.1,a.2.2.2.2.2.1,l.getD 6 ByteArray.empty,a.2.2.2.2.2.2.2.1,a.2.2.2.2.2.2.2.2⟩
 | none=>none
def fq (l:List ByteArray):Option Mir.Row:=if l.length=9 then Rz l (liF l 0 z9) else none
noncomputable def lpLi:Lp:=(⟨5,ay [rF] Tryz.f23,(fun _=>none),(Cz Tryz.f23 0 0),qLi,xLi⟩:Lp)
theorem Pg (n:Int) (i:Int) (rows:List Mir.Row) (a0:Int) (a1:Int) (a2:Int) (a3:Int) (a4:Int) (a5:Int) (a6:Int) (a7:Int) (a8:Int) (xs:List ByteArray) (hi:gz (n,i,rows,a0,a1,a2,a3,a4,a5,a6,a7,a8,xs,())) :(Go.Mir.stepG lpLi dv (fun y:Den (tyP lpLi.q)=>gz y∧gm y<gm (n,i,rows,a0,a1,a2,a3,a4,a5,a6,a7,a8,xs,())) (n,i,rows,a0,a1,a2,a3,a4,a5,a6,a7,a8,xs,())∧Go.Mir.stepE lpLi dv (n,i,rows,a0,a1,a2,a3,a4,a5,a6,a7,a8,xs,())=dv (n,i,rows,a0,a1,a2,a3,a4,a5,a6,a7,a8,xs,())):=by
 refine cast (by kernel_rfl) (?_:let r1:Int:=IntKind.i64.wrap (i +(1:Int));let r2:Int×Int:=js (xs.getD i.toNat (dflt Ty.str)) (0:Int) (1000000:Int);let r3:Bool:=r2.2 !=(0:Int);((decide (i<n)=true→((0:Int)≤i∧i <(↑xs.length:Int))∧((i ==(6:Int))=true→gz (n,r1,rows,a0,a1,a2,a3,a4,a5,a6,a7,a8,xs,())∧gm (n,r1,rows,a0,a1,a2,a3,a4,a5,a6,a7,a8,xs,())<gm (n,i,rows,a0,a1,a2,a3,a4,a5,a6,a7,a8,xs,()))∧((i ==(6:Int))=false→(r3=true→True)∧(r3=false→((i ==(0:Int))=true→((0:Int)≤(0:Int)∧(0:Int) <(↑(9:Nat):Int))∧gz (n,r1,rows,r2.1,a1,a2,a3,a4,a5,a6,a7,a8,xs,())∧gm (n,r1,rows,r2.1,a1,a2,a3,a4,a5,a6,a7,a8,xs,())<gm (n,i,rows,a0,a1,a2,a3,a4,a5,a6,a7,a8,xs,()))∧((i ==(0:Int))=false→((i ==(1:Int))=true→((0:Int)≤(1:Int)∧(1:Int) <(↑(9:Nat):Int))∧gz (n,r1,rows,a0,r2.1,a2,a3,a4,a5,a6,a7,a8,xs,())∧gm (n,r1,rows,a0,r2.1,a2,a3,a4,a5,a6,a7,a8,xs,())<gm (n,i,rows,a0,a1,a2,a3,a4,a5,a6,a7,a8,xs,()))∧((i ==(1:Int))=false→((i ==(2:Int))=true→((0:Int)≤(2:Int)∧(2:Int) <(↑(9:Nat):Int))∧gz (n,r1,rows,a0,a1,r2.1,a3,a4,a5,a6,a7,a8,xs,())∧gm (n,r1,rows,a0,a1,r2.1,a3,a4,a5,a6,a7,a8,xs,())<gm (n,i,rows,a0,a1,a2,a3,a4,a5,a6,a7,a8,xs,()))∧((i ==(2:Int))=false→((i ==(3:Int))=true→((0:Int)≤(3:Int)∧(3:Int) <(↑(9:Nat):Int))∧gz (n,r1,rows,a0,a1,a2,r2.1,a4,a5,a6,a7,a8,xs,())∧gm (n,r1,rows,a0,a1,a2,r2.1,a4,a5,a6,a7,a8,xs,())<gm (n,i,rows,a0,a1,a2,a3,a4,a5,a6,a7,a8,xs,()))∧((i ==(3:Int))=false→((i ==(4:Int))=true→((0:Int)≤(4:Int)∧(4:Int) <(↑(9:Nat):Int))∧gz (n,r1,rows,a0,a1,a2,a3,r2.1,a5,a6,a7,a8,xs,())∧gm (n,r1,rows,a0,a1,a2,a3,r2.1,a5,a6,a7,a8,xs,())<gm (n,i,rows,a0,a1,a2,a3,a4,a5,a6,a7,a8,xs,()))∧((i ==(4:Int))=false→((i ==(5:Int))=true→((0:Int)≤(5:Int)∧(5:Int) <(↑(9:Nat):Int))∧gz (n,r1,rows,a0,a1,a2,a3,a4,r2.1,a6,a7,a8,xs,())∧gm (n,r1,rows,a0,a1,a2,a3,a4,r2.1,a6,a7,a8,xs,())<gm (n,i,rows,a0,a1,a2,a3,a4,a5,a6,a7,a8,xs,()))∧((i ==(5:Int))=false→((i ==(6:Int))=true→((0:Int)≤(6:Int)∧(6:Int) <(↑(9:Nat):Int))∧gz (n,r1,rows,a0,a1,a2,a3,a4,a5,r2.1,a7,a8,xs,())∧gm (n,r1,rows,a0,a1,a2,a3,a4,a5,r2.1,a7,a8,xs,())<gm (n,i,rows,a0,a1,a2,a3,a4,a5,a6,a7,a8,xs,()))∧((i ==(6:Int))=false→((i ==(7:Int))=true→((0:Int)≤(7:Int)∧(7:Int) <(↑(9:Nat):Int))∧gz (n,r1,rows,a0,a1,a2,a3,a4,a5,a6,r2.1,a8,xs,())∧gm (n,r1,rows,a0,a1,a2,a3,a4,a5,a6,r2.1,a8,xs,())<gm (n,i,rows,a0,a1,a2,a3,a4,a5,a6,a7,a8,xs,()))∧((i ==(7:Int))=false→((i ==(8:Int))=true→((0:Int)≤(8:Int)∧(8:Int) <(↑(9:Nat):Int))∧gz (n,r1,rows,a0,a1,a2,a3,a4,a5,a6,a7,r2.1,xs,())∧gm (n,r1,rows,a0,a1,a2,a3,a4,a5,a6,a7,r2.1,xs,())<gm (n,i,rows,a0,a1,a2,a3,a4,a5,a6,a7,a8,xs,()))∧((i ==(8:Int))=false→False∧True))))))))))))∧(decide (i<n)=false→True))∧(bif decide (i<n) then bif i ==(6:Int) then dv (n,r1,rows,a0,a1,a2,a3,a4,a5,a6,a7,a8,xs,()) else bif r3 then Sum.inr ((4:Int),()) else bif i ==(0:Int) then dv (n,r1,rows,r2.1,a1,a2,a3,a4,a5,a6,a7,a8,xs,()) else bif i ==(1:Int) then dv (n,r1,rows,a0,r2.1,a2,a3,a4,a5,a6,a7,a8,xs,()) else bif i ==(2:Int) then dv (n,r1,rows,a0,a1,r2.1,a3,a4,a5,a6,a7,a8,xs,()) else bif i ==(3:Int) then dv (n,r1,rows,a0,a1,a2,r2.1,a4,a5,a6,a7,a8,xs,()) else bif i ==(4:Int) then dv (n,r1,rows,a0,a1,a2,a3,r2.1,a5,a6,a7,a8,xs,()) else bif i ==(5:Int) then dv (n,r1,rows,a0,a1,a2,a3,a4,r2.1,a6,a7,a8,xs,()) else bif i ==(6:Int) then dv (n,r1,rows,a0,a1,a2,a3,a4,a5,r2.1,a7,a8,xs,()) else bif i ==(7:Int) then dv (n,r1,rows,a0,a1,a2,a3,a4,a5,a6,r2.1,a8,xs,()) else bif i ==(8:Int) then dv (n,r1,rows,a0,a1,a2,a3,a4,a5,a6,a7,r2.1,xs,()) else Sum.inl (dflt ((Ty.nm Nm.Row).slice.prod (I.prod (I.prod (I.prod (I.prod (I.prod (I.prod (I.prod (I.prod (I.prod (Ty.str.slice.prod Ty.unit)))))))))))) else Sum.inl (rows,a0,a1,a2,a3,a4,a5,a6,a7,a8,xs,()))=dv (n,i,rows,a0,a1,a2,a3,a4,a5,a6,a7,a8,xs,()))
 intro r1 r2 r3
 clear_value (hr1:r1=_) (hr2:r2=_) (hr3:r3=_)
 obtain ⟨⟨h1,h1b⟩,h2,h3⟩:=hi
 have h1:n =(xs.length:Int):=h1
 have h1b:xs.length=9:=h1b
 have h2:0≤i:=h2
 have h3:i≤n:=h3
 by_cases h:i<n
 ·have e1:r1=i+1:=by rw [hr1];exact wrap64 (by omega) (by omega)
  have hd:xs.drop i.toNat=xs.getD i.toNat (dflt Ty.str)::xs.drop (i+1).toNat:=by
   have hn:i.toNat<xs.length:=by omega
   have e1 :(i+1).toNat=i.toNat+1:=by omega
   show _=List.getD xs i.toNat ByteArray.empty::_
   rw [List.drop_eq_getElem_cons hn,e1,List.getD_eq_getElem?_getD,List.getElem?_eq_getElem hn]
   rfl
  have hI :∀ c0 c1 c2 c3 c4 c5 c6 c7 c8:Int,gz (n,i+1,rows,c0,c1,c2,c3,c4,c5,c6,c7,c8,xs,())∧gm (n,i+1,rows,c0,c1,c2,c3,c4,c5,c6,c7,c8,xs,())<gm (n,i,rows,a0,a1,a2,a3,a4,a5,a6,a7,a8,xs,()):=fun c0 c1 c2 c3 c4 c5 c6 c7 c8=>by
   refine ⟨⟨⟨h1,h1b⟩,?_,?_⟩,?_⟩
   ·show 0≤i+1;omega
   ·show i+1≤n;omega
   ·show (n - (i+1)).toNat <(n - i).toNat;omega
  have key:dv (n,i,rows,a0,a1,a2,a3,a4,a5,a6,a7,a8,xs,())=bif i==6 then liX n (i+1) rows (a0,a1,a2,a3,a4,a5,a6,a7,a8) xs else bif r3 then .inr (4,()) else liX n (i+1) rows (O5 (a0,a1,a2,a3,a4,a5,a6,a7,a8) i r2.1) xs:=by
   have e2:pE (xs.getD i.toNat (dflt Ty.str))=r2:=hr2.symm
   have e3:BH (xs.getD i.toNat (dflt Ty.str))=r3:=by unfold BH;rw [e2,hr3]
   show liO rows xs (liF (xs.drop i.toNat) i _)=_
   rw [hd]
   show liO rows xs (if i==6 then _ else if BH _ then _ else liF _ _ (O5 _ i (pE _).1))=_
   rw [e2,e3]
   unfold liX
   cases i==6 <;> cases r3 <;> rfl
  have h9:i=0∨i=1∨i=2∨i=3∨i=4∨i=5∨i=6∨i=7∨i=8:=by omega
  rw [decide_eq_true h,e1,key]
  clear hr1 hr2 hr3 hd e1 key
  refine ⟨⟨fun _=>⟨⟨h2,by omega⟩,fun _=>hI _ _ _ _ _ _ _ _ _,fun q6=>⟨fun _=>trivial,fun _=>?_⟩⟩,fun z=>Bool.noConfusion z⟩,?_⟩
  ·rcases h9 with rfl|rfl|rfl|rfl|rfl|rfl|rfl|rfl|rfl
   all_goals repeat' (first|exact absurd q (by decide)|exact ⟨by decide,hI _ _ _ _ _ _ _ _ _⟩|refine ⟨fun _=>?_,fun q=>?_⟩)
  ·clear hI
   rcases h9 with rfl|rfl|rfl|rfl|rfl|rfl|rfl|rfl|rfl <;> cases r3 <;> rfl
 ·rw [decide_eq_false h]
  refine ⟨⟨fun z=>Bool.noConfusion z,fun _=>trivial⟩,?_⟩
  unfold dv liX
  simp only [cond_false]
  rw [List.drop_eq_nil_of_le (by omega)]
  rfl
noncomputable def M5:LoopSum:=aD lpLi dv gz
noncomputable def MM:Nat:=rid (Cz Tryz.f23 0 0)
theorem Og:gB Tryz.prog 5 Tryz.f23.ntmps (Cz Tryz.f23 0 0) (aD lpLi dv gz):=
 Bi lpLi (au (.consU vh rfl .nil) _) mixed (by kernel_rfl) (IJ (by kernel_rfl)) dv gz gm (fun |⟨n,i,rows,a0,a1,a2,a3,a4,a5,a6,a7,a8,xs,⟨⟩⟩,hi=>Pg n i rows a0 a1 a2 a3 a4 a5 a6 a7 a8 xs hi)
theorem QM (x s:ByteArray) (rows:List Mir.Row) (n:Nat) (hx:x.size≤1000000) (hn:n<1000000) (hr:rows.length≤n):rgLp.stepS (ay [pw,HO,rF] Tryz.f23) (find [(MM,M5)]) (rq (n+1)) x (s,rows,()) (I2 (fq (cA (gb x nlB) 32)) (s,rows,())):=by
 refine cast (by kernel_rfl) (?_:let r1:ByteArray:=gb x (ByteArray.mk #[10]);let r2:List ByteArray:=P8 (r1,ByteArray.mk #[32],());let r3:Int:=(↑r2.length:Int);let r4:Bool:=r3 !=(9:Int);let r5:Bool:=isL (dv (r3,(0:Int),rows,(0:Int),(0:Int),(0:Int),(0:Int),(0:Int),(0:Int),(0:Int),(0:Int),(0:Int),r2,()));let r6:List Mir.Row×Int×Int×Int×Int×Int×Int×Int×Int×Int×List ByteArray×PUnit:=tp (dflt ((Ty.nm Nm.Row).slice.prod (I.prod (I.prod (I.prod (I.prod (I.prod (I.prod (I.prod (I.prod (I.prod (Ty.str.slice.prod Ty.unit)))))))))))) (dv (r3,(0:Int),rows,(0:Int),(0:Int),(0:Int),(0:Int),(0:Int),(0:Int),(0:Int),(0:Int),(0:Int),r2,()));let r7:List Mir.Row:= [Mir.Row.mk r6.2.1 r6.2.2.1 r6.2.2.2.1 r6.2.2.2.2.1 r6.2.2.2.2.2.1 r6.2.2.2.2.2.2.1 (r6.2.2.2.2.2.2.2.2.2.2.1.getD (Int.toNat (6:Int)) (dflt Ty.str)) r6.2.2.2.2.2.2.2.2.1 r6.2.2.2.2.2.2.2.2.2.1];x.size.le (1000000:Nat)∧(r1.size≤(1000000:Nat)∧nat_lit 1=nat_lit 1)∧(r4=true→I2 (fq (cA (gb x nlB) (32:UInt8))) (s,rows,())=Sum.inl ((4:Int),()))∧(r4=false→((jZ fun x=>none)∧(r3 =(↑r2.length:Int)∧r2.length=nat_lit 9)∧(0:Int)≤(0:Int)∧(0:Int)≤r3)∧(r5=true→((0:Int)≤(0:Int)∧(0:Int) <(↑(9:Nat):Int))∧((0:Int)≤(1:Int)∧(1:Int) <(↑(9:Nat):Int))∧((0:Int)≤(2:Int)∧(2:Int) <(↑(9:Nat):Int))∧((0:Int)≤(3:Int)∧(3:Int) <(↑(9:Nat):Int))∧((0:Int)≤(4:Int)∧(4:Int) <(↑(9:Nat):Int))∧((0:Int)≤(5:Int)∧(5:Int) <(↑(9:Nat):Int))∧((0:Int)≤(6:Int)∧(6:Int) <(↑r6.2.2.2.2.2.2.2.2.2.2.1.length:Int))∧((0:Int)≤(7:Int)∧(7:Int) <(↑(9:Nat):Int))∧((0:Int)≤(8:Int)∧(8:Int) <(↑(9:Nat):Int))∧((r6.1.length+r7.length) *(80:Nat)).le (70368744177664:Nat)∧I2 (fq (cA (gb x nlB) (32:UInt8))) (s,rows,())=Sum.inr (s,r6.1++r7,())∧rq (n +(1:Nat)) (s,r6.1++r7,()))∧(r5=false→I2 (fq (cA (gb x nlB) (32:UInt8))) (s,rows,())=Sum.inl (wX (dflt (I.prod Ty.unit)) (dv (r3,(0:Int),rows,(0:Int),(0:Int),(0:Int),(0:Int),(0:Int),(0:Int),(0:Int),(0:Int),(0:Int),r2,()))))))
 intro r1 r2 r3 r4 r5 r6 r7
 clear_value (hr1:r1=_) (hr2:r2=_) (hr3:r3=_) (hr4:r4=_) (hr5:r5=_) (hr6:r6=_) (hr7:r7=_)
 have e1:r1=gb x nlB:=hr1
 have e2:r2=cA (gb x nlB) 32:=by rw [hr2,e1];rfl
 have hs1:r1.size≤1000000:=by rw [e1];exact Nat.le_trans (mW _ _) hx
 have key:dv (r3,0,rows,0,0,0,0,0,0,0,0,0,r2,())=liO rows r2 (liF r2 0 z9):=rfl
 rw [key] at hr5 hr6 ⊢
 rw [←e2]
 clear hr1 hr2 e2 key
 have hl:r4=false→r2.length=9:=fun h4=>by
  have h :((r2.length:Int) != 9)=false:=by rw [←hr3,←hr4];exact h4
  have h :(r2.length:Int)=9:=by simpa using h
  omega
 refine ⟨hx,⟨hs1,rfl⟩,fun h4=>?_,fun h4=>⟨⟨rfl,⟨hr3,hl h4⟩,Int.le_refl _,by omega⟩,fun h5=>?_,fun h5=>?_⟩⟩
 ·have hl:r2.length≠9:=fun e=>by rw [hr4,hr3,e] at h4;exact Bool.noConfusion h4
  unfold fq
  rw [if_neg hl]
  rfl
 ·have hl:=hl h4
  cases hf:liF r2 0 z9 with
  | none=>rw [hr5,hf] at h5;exact Bool.noConfusion h5
  | some a=>
   rw [hf] at hr6
   subst hr6
   subst hr7
   refine ⟨by decide,by decide,by decide,by decide,by decide,by decide,⟨by decide,?_⟩,by decide,by decide,?_,?_,?_⟩
   ·show (6:Int) <(r2.length:Int);omega
   ·show (rows.length+1)*80≤70368744177664;omega
   ·unfold fq
    rw [if_pos hl,hf]
    rfl
   ·show (rows++[_]).length≤n+1
    rw [List.length_append]
    simp
    omega
 ·have hl:=hl h4
  cases hf:liF r2 0 z9 with
  | some a=>rw [hr5,hf] at h5;exact Bool.noConfusion h5
  | none=>
   unfold fq
   rw [if_pos hl,hf]
   rfl
end Go.Proofs.YtffdpnmioidloaaGreatDoor
namespace Go.Proofs.YtffdpnmioidloaaGreatDoor
open Go Go.Mir Go.RowKit Go.Shelf
attribute [local irreducible] Go.Mir.DT.sat Go.Mir.evPat Go.Mir.RT.sat Go.Mir.evFn
def laysG115_ren:Go.Shelf.Ren:=⟨fun|4=>115|n=>n,fun|22=>85|25=>3|3=>3|4=>4|9=>9|20=>20|0=>0|n=>n,fun|n=>n⟩
theorem HZ:Go.Proofs.Lays8.n4 Tryz.prog laysG115_ren where
 mixed:=by kernel_rfl
 f4:=⟨"slices.Grow[[]int,int]",by decide,Tryz.func115.trans (congrArg some (by kernel_rfl))⟩
 t0:=Tryz.underlying0
 a0:=Tryz.isAgg0
 z0:=Tryz.sizeOf0
 v0:=Tryz.zeroValue0
 t3:=Tryz.underlying3
 a3:=Tryz.isAgg3
 z3:=Tryz.sizeOf3
 v3:=Tryz.zeroValue3
 t4:=Tryz.underlying4
 a4:=Tryz.isAgg4
 z4:=Tryz.sizeOf4
 v4:=Tryz.zeroValue4
 t9:=Tryz.underlying9
 a9:=Tryz.isAgg9
 z9:=Tryz.sizeOf9
 v9:=Tryz.zeroValue9
 t20:=Tryz.underlying20
 a20:=Tryz.isAgg20
 z20:=Tryz.sizeOf20
 v20:=Tryz.zeroValue20
 t22:=Tryz.underlying85
 a22:=Tryz.isAgg85
 z22:=Tryz.sizeOf85
 v22:=Tryz.zeroValue85
def Hv (n:Int):Prop:=0<n∧n≤1000000
def Hu:Ctr:=fun args _ m=>match args with
 | [.nilsl,.int .i64 n]=>some ([Hv n],.osl m m,[(m,.row m true (.int .i64) [])])
 | _=>none
def yZ:FuncId×Ctr:=(115,Hu)
abbrev qCc:Pat:=dI [.slice (.slice I)]
abbrev Lz:Pat:=⟨[(0,.c (.osl 0 1))],[(0,.row 1 I)],2⟩
def xm (l:List (List Int)):Prop:=(l.length≤1000∧0<l.flatten.length)∧l.flatten.length≤1000000
def sCc:Den (tyP qCc)→List Prop×Den (tyP Lz):=fun x=>([xm x.1],(List.flatten x.1,()))
abbrev qG0:Pat:=⟨[(0,.h (.slice (.slice I))),(3,.h I),(9,.h (.slice (.slice I))),(10,.h I),(11,.h I)],[],0⟩
abbrev xG0:List (Lf×Pat):= [(.ext 0,⟨[(0,.h (.slice (.slice I))),(3,.h I)],[],0⟩)]
abbrev TG0:Type:=List (List Int)×Int×List (List Int)×Int×Int×Unit
def iW (l:List (List Int)):Int:=(l.flatten.length:Int)
def ml:TG0→List (List Int)×Int×Unit
 |(a,k,l,_,i,_)=>(a,k+iW (l.drop i.toNat),())
def Ff (l:List (List Int)):Prop:=l.length≤1000∧l.flatten.length≤1000000
def uq:TG0→Prop
 |(_,k,l,n,i,_)=>(n =(l.length:Int)∧Ff l)∧(0≤i∧i≤n)∧0≤k∧k+iW (l.drop i.toNat)≤1000000
def Ir:TG0→Nat
 |(_,_,_,n,i,_)=>(n - i).toNat
abbrev qG1:Pat:=⟨[(6,.c (.osl 0 1)),(25,.h (.slice (.slice I))),(26,.h I),(27,.h I)],[(0,.row 1 I)],2⟩
abbrev xG1:List (Lf×Pat):= [(.ext 2,⟨[(6,.c (.osl 0 1))],[(0,.row 1 I)],2⟩)]
abbrev TG1:Type:=List (List Int)×Int×Int×List Int×Unit
def mm:TG1→List Int×Unit
 |(l,_,i,o,_)=>(o++List.flatten (l.drop i.toNat),())
def ur:TG1→Prop
 |(l,n,i,o,_)=>(n =(l.length:Int)∧Ff l)∧(0≤i∧i≤n)∧(o.length:Int)+iW (l.drop i.toNat)≤1000000
def It:TG1→Nat
 |(_,n,i,_)=>(n - i).toNat
theorem FB:CtrOK Tryz.prog KE 115 Hu:=by
 refine ⟨⟨_,Tryz.func115,by kernel_rfl,by kernel_rfl⟩,fun B E hE args av hav m hm ps' v dh hct hps=>?_⟩
 unfold Hu at hct
 split at hct
 case h_2=>cases hct
 rename_i n
 cases hct
 obtain ⟨h0,h1⟩:Hv n:=hps _ List.mem_cons_self
 match av,hav with
 | [a,b],hav=>
  simp only [ab,aa] at hav
  obtain ⟨rfl,⟨rfl,hb⟩,_⟩:=hav
  obtain ⟨k,rfl⟩ :∃ k:Nat,n =(k:Int):=⟨n.toNat,by omega⟩
  have hk:0<k:=by omega
  have hk1:k≤1000000:=by omega
  obtain ⟨i0,hi0,hz0,hs0,hb0⟩ :∃ i0,Tryz.prog.info? (laysG115_ren.t 25)=some i0∧i0.zero=some (Value.int .i64 0)∧i0.size=1∧i0.bytes=8:=
   ⟨(Tryz.prog.info? 3).get (by kernel_rfl),by kernel_rfl,by kernel_rfl,by kernel_rfl,by kernel_rfl⟩
  refine (Any8.slices_Grow_grow HZ i0 (Value.int .i64 0) hi0 hz0 (by omega) none 0 0 k [] E.w (Nat.le_refl _) (by omega) (by rw [hb0];omega) (by omega) (by simp) (fun _=>rfl) (fun a ha=>by cases ha)).mono fun e w' ⟨h2,h3⟩=>?_
  obtain ⟨R0,X0⟩:=sH hE E.w.drew rfl rfl rfl rfl
  have hg:=grownCap_ge E.w (0+k) 0 (laysG115_ren.t 25)
  obtain ⟨E',G,hv⟩:=xp R0 m (hm m (Nat.le_refl _) (by unfold KE;omega)) (.int .i64) [] (([]:List Value).toArray++Builtin.zeroCells (Value.int .i64 0).cells (0+k - 0)++Builtin.zeroCells (Value.int .i64 0).cells (grownCap E.w (0+k) 0 (laysG115_ren.t 25) - (0+k))) (laysG115_ren.t 25) (grownCap E.w (0+k) 0 (laysG115_ren.t 25))
   (by
    have h1 :(Value.int .i64 0).cells.size=1:=rfl
    have h4:sz (.int .i64)=1:=rfl
    simp only [Array.size_append,Builtin.zeroCells,Array.size_map,Array.size_range,h1,h4]
    show 0+_+_=_
    omega) (Nat.zero_le _) (Nat.zero_le _) (fun i h=>absurd h (Nat.not_lt_zero _))
  have G2:=ej X0 G
  rw [h3]
  exact ⟨E',_,h2,G2.toK (by decide),hv⟩
noncomputable def lpG0:Lp:=(⟨0,ay [] Tryz.f65,(fun _=>none),(bt Tryz.f65 0),qG0,xG0⟩:Lp)
theorem Pd (a:List (List Int)) (k:Int) (l:List (List Int)) (n:Int) (i:Int) (hi:uq (a,k,l,n,i,())) :(Go.Mir.stepG lpG0 ml (fun y:Den (tyP lpG0.q)=>uq y∧Ir y<Ir (a,k,l,n,i,())) (a,k,l,n,i,())∧Go.Mir.stepE lpG0 ml (a,k,l,n,i,())=ml (a,k,l,n,i,())):=by
 refine cast (by kernel_rfl) (?_:let r1:Int:=IntKind.i64.wrap (k +(↑(List.length (l.getD i.toNat (dflt (Ty.int IntKind.i64).slice))):Int));let r2:Bool:=decide (r1 <(0:Int));((decide (i<n)=true→((0:Int)≤i∧i <(↑l.length:Int))∧(r2=true→False)∧(r2=false→uq (a,r1,l,n,IntKind.i64.wrap (i +(1:Int)),())∧Ir (a,r1,l,n,IntKind.i64.wrap (i +(1:Int)),())<Ir (a,k,l,n,i,())))∧(decide (i<n)=false→True))∧(bif decide (i<n) then bif r2 then dflt (I.slice.slice.prod (I.prod Ty.unit)) else ml (a,r1,l,n,IntKind.i64.wrap (i +(1:Int)),()) else (a,k,()))=ml (a,k,l,n,i,()))
 intro r1 r2
 clear_value (hr1:r1=_) (hr2:r2=_)
 obtain ⟨⟨h1,h1b⟩,⟨h2,h3⟩,h4,h5⟩:=hi
 have h1:n =(l.length:Int):=h1
 have h1b:Ff l:=h1b
 have h2:0≤i:=h2
 have h3:i≤n:=h3
 have h4:0≤k:=h4
 have h5:k+iW (l.drop i.toNat)≤1000000:=h5
 have hf:=h1b.1
 by_cases h:i<n
 ·have e1:IntKind.i64.wrap (i+1)=i+1:=wrap64 (by omega) (by omega)
  have hd:l.drop i.toNat=l.getD i.toNat (dflt (Ty.int IntKind.i64).slice)::l.drop (i+1).toNat:=gD h2 (by omega) _
  generalize l.getD i.toNat (dflt (Ty.int IntKind.i64).slice)=x at *
  have hF:iW (l.drop i.toNat) =(List.length x:Int)+iW (l.drop (i+1).toNat):=by
   rw [hd]
   unfold iW
   rw [List.flatten_cons,List.length_append]
   exact Int.natCast_add _ _
  have hp:0≤iW (l.drop (i+1).toNat):=Int.natCast_nonneg _
  have er:r1=k +(List.length x:Int):=by rw [hr1];exact wrap64 (by omega) (by omega)
  have e2:r2=false:=by rw [hr2];exact decide_eq_false (by omega)
  have key:ml (a,k,l,n,i,())=ml (a,r1,l,n,i+1,()):=by
   show (a,k+iW (l.drop i.toNat),()) =(a,r1+iW (l.drop (i+1).toNat),())
   rw [hF,er,Int.add_assoc]
  rw [decide_eq_true h,e1,key,e2]
  refine ⟨⟨fun _=>⟨⟨h2,by omega⟩,fun z=>Bool.noConfusion z,fun _=>⟨⟨⟨h1,h1b⟩,⟨?_,?_⟩,?_,?_⟩,?_⟩⟩,fun z=>Bool.noConfusion z⟩,rfl⟩
  ·show 0≤i+1;omega
  ·show i+1≤n;omega
  ·show 0≤r1;omega
  ·show r1+iW (l.drop (i+1).toNat)≤1000000;omega
  ·show (n - (i+1)).toNat <(n - i).toNat;omega
 ·rw [decide_eq_false h]
  refine ⟨⟨fun z=>Bool.noConfusion z,fun _=>trivial⟩,?_⟩
  show _ =(a,k+iW (l.drop i.toNat),())
  rw [fa (l:=l) (by omega)]
  show (a,k,()) =(a,k+0,())
  rw [Int.add_zero]
noncomputable def M3:LoopSum:=aD lpG0 ml uq
noncomputable def MK:Nat:=rid (bt Tryz.f65 0)
theorem Od:LoopOKp Tryz.prog 0 Tryz.f65.ntmps (bt Tryz.f65 0) (aD lpG0 ml uq):=
 bq lpG0 (au (CtrsOK.nil) _) mixed (fun b hb S hS=>by cases hS) ml uq Ir (fun |⟨a,k,l,n,i,⟨⟩⟩,hi=>Pd a k l n i hi)
noncomputable def lpG1:Lp:=(⟨0,ay [] Tryz.f65,(fun _=>none),(bt Tryz.f65 1),qG1,xG1⟩:Lp)
theorem Pe (l:List (List Int)) (n:Int) (i:Int) (o:List Int) (hi:ur (l,n,i,o,())) :(Go.Mir.stepG lpG1 mm (fun y:Den (tyP lpG1.q)=>ur y∧It y<It (l,n,i,o,())) (l,n,i,o,())∧Go.Mir.stepE lpG1 mm (l,n,i,o,())=mm (l,n,i,o,())):=by
 refine cast (by kernel_rfl) (?_ :((decide (i<n)=true→((0:Int)≤i∧i <(↑l.length:Int))∧(o.length+List.length (l.getD i.toNat (dflt (Ty.int IntKind.i64).slice))) *(8:Nat)≤(70368744177664:Nat)∧ur (l,n,IntKind.i64.wrap (i +(1:Int)),o++l.getD i.toNat (dflt (Ty.int IntKind.i64).slice),())∧It (l,n,IntKind.i64.wrap (i +(1:Int)),o++l.getD i.toNat (dflt (Ty.int IntKind.i64).slice),())<It (l,n,i,o,()))∧(decide (i<n)=false→True))∧(bif decide (i<n) then mm (l,n,IntKind.i64.wrap (i +(1:Int)),o++l.getD i.toNat (dflt (Ty.int IntKind.i64).slice),()) else (o,()))=mm (l,n,i,o,()))
 obtain ⟨⟨h1,h1b⟩,⟨h2,h3⟩,h4⟩:=hi
 have h1:n =(l.length:Int):=h1
 have h1b:Ff l:=h1b
 have h2:0≤i:=h2
 have h3:i≤n:=h3
 have h4 :(o.length:Int)+iW (l.drop i.toNat)≤1000000:=h4
 have hf:=h1b.1
 by_cases h:i<n
 ·have e1:IntKind.i64.wrap (i+1)=i+1:=wrap64 (by omega) (by omega)
  have hd:l.drop i.toNat=l.getD i.toNat (dflt (Ty.int IntKind.i64).slice)::l.drop (i+1).toNat:=gD h2 (by omega) _
  generalize l.getD i.toNat (dflt (Ty.int IntKind.i64).slice)=x at *
  have hF:iW (l.drop i.toNat) =(List.length x:Int)+iW (l.drop (i+1).toNat):=by
   rw [hd]
   unfold iW
   rw [List.flatten_cons,List.length_append]
   exact Int.natCast_add _ _
  have hp:0≤iW (l.drop (i+1).toNat):=Int.natCast_nonneg _
  have hl :((o++x).length:Int) =(o.length:Int) +(List.length x:Int):=by
   rw [List.length_append]
   exact Int.natCast_add _ _
  have key:mm (l,n,i,o,())=mm (l,n,i+1,o++x,()):=by
   show (o++List.flatten (l.drop i.toNat),()) =((o++x)++List.flatten (l.drop (i+1).toNat),())
   rw [hd,List.flatten_cons,List.append_assoc]
  rw [decide_eq_true h,e1,key]
  refine ⟨⟨fun _=>⟨⟨h2,by omega⟩,?_,⟨⟨h1,h1b⟩,⟨?_,?_⟩,?_⟩,?_⟩,fun z=>Bool.noConfusion z⟩,rfl⟩
  ·show (o.length+List.length x)*8≤70368744177664;omega
  ·show 0≤i+1;omega
  ·show i+1≤n;omega
  ·show ((o++x).length:Int)+iW (l.drop (i+1).toNat)≤1000000;omega
  ·show (n - (i+1)).toNat <(n - i).toNat;omega
 ·rw [decide_eq_false h]
  refine ⟨⟨fun z=>Bool.noConfusion z,fun _=>trivial⟩,?_⟩
  show _ =(o++List.flatten (l.drop i.toNat),())
  rw [fa (l:=l) (by omega)]
  show (o,()) =(o++[],())
  rw [List.append_nil]
noncomputable def M4:LoopSum:=aD lpG1 mm ur
noncomputable def ML:Nat:=rid (bt Tryz.f65 1)
theorem Oe:LoopOKp Tryz.prog 0 Tryz.f65.ntmps (bt Tryz.f65 1) (aD lpG1 mm ur):=
 bq lpG1 (au (CtrsOK.nil) _) mixed (fun b hb S hS=>by cases hS) mm ur It (fun |⟨l,n,i,o,⟨⟩⟩,hi=>Pe l n i o hi)
theorem xN (l:List (List Int)) (hl:xm l) :(evPat (ay [yZ] Tryz.f65) (find [(MK,M3),(ML,M4)]) Tryz.f65 qCc Lz (l,())).sat fun z_=>z_ =(sCc (l,())).2:=by
 refine cast (by kernel_rfl) (?_:let r1:Int:=(0:Int)+iW (List.drop (Int.toNat (0:Int)) l);((jZ fun x=>none)∧((↑l.length:Int) =(↑l.length:Int)∧Ff l)∧((0:Int)≤(0:Int)∧(0:Int)≤(↑l.length:Int))∧(0:Int)≤(0:Int)∧r1≤(1000000:Int))∧Hv r1∧((jZ fun x=>none)∧((↑l.length:Int) =(↑l.length:Int)∧Ff l)∧((0:Int)≤(0:Int)∧(0:Int)≤(↑l.length:Int))∧(↑(0:Nat):Int)+iW (List.drop (Int.toNat (0:Int)) l)≤(1000000:Int))∧([] ++(List.drop (Int.toNat (0:Int)) l).flatten,()) =(l.flatten,()))
 intro r1
 clear_value (hr1:r1=_)
 obtain ⟨⟨h1,h2⟩,h3⟩:=hl
 have e1:r1 =(List.length l.flatten:Int):=by rw [hr1];exact Int.zero_add _
 have e2:iW (List.drop (Int.toNat 0) l) =(List.length l.flatten:Int):=rfl
 rw [e2]
 refine ⟨⟨rfl,⟨rfl,h1,h3⟩,⟨Int.le_refl _,by omega⟩,Int.le_refl _,by omega⟩,⟨by omega,by omega⟩,⟨rfl,⟨rfl,h1,h3⟩,⟨Int.le_refl _,by omega⟩,?_⟩,rfl⟩
 show (0:Int)+_≤1000000
 omega
def BU:FuncId×Ctr:=(65,ae KE qCc Lz sCc)
theorem zQ:CtrOK Tryz.prog KE 65 (ae KE qCc Lz sCc):=by
 refine aE (C:=ay [yZ] Tryz.f65) (au (.consU FB rfl .nil) _) mixed (fn:=Tryz.f65) Tryz.func65 (by kernel_rfl) (by kernel_rfl) (by kernel_rfl) (by kernel_rfl) (by kernel_rfl) (by kernel_rfl) (Λ:=fun x=>find [(MK,M3),(ML,M4)]) ?_ ?_
 ·rintro ⟨l,⟨⟩⟩ hw hn
  exact LoopsOKp.at (by kernel_rfl) (.cons (by kernel_rfl) (Od) (.cons (by kernel_rfl) (Oe) .nil))
 ·rintro ⟨l,⟨⟩⟩ hw hn
  exact xN l (hn _ List.mem_cons_self)
end Go.Proofs.YtffdpnmioidloaaGreatDoor
namespace Go.Proofs.YtffdpnmioidloaaGreatDoor
open Go Go.Mir
def ef (r:Mir.Row):List Int:= [r.Innings,r.Over,r.Ball,r.Bowler,r.Striker,r.Partner]
def eU (r:Mir.Row):List Int:= [r.Total,r.Wickets]
def aF (r:Mir.Row):List ByteArray:=(ef r).map aY ++(r.Symbol ::(eU r).map aY)
def jd (l:List Mir.Row) (o:ByteArray):ByteArray:=l.foldl (fun o r=>o++lnB (aF r)) o
def lnG (y:ByteArray):List Int→Int→ByteArray→Option ByteArray
 | [],_,s=>some s
 | x::l,i,s=>if dB x then none else lnG y l (i+1) ((bif i==6 then s ++(y++spV) else s) ++(aY x++spV))
def lZ (l:List ByteArray) (o:ByteArray):ByteArray:=l.foldl (fun o x=>o ++(x++spV)) o
theorem Bq {a b:ByteArray} (h:a.data.toList=b.data.toList):a=b:=by
 cases a;cases b
 congr 1
 exact Array.toList_inj.1 h
theorem Dp :∀ l:List (List UInt8),(l.map fun x=>x++[32]).flatten ++([]:List UInt8) =(match l with | []=> []|w::r=>w ++((r.map ([32]++·)).flatten++[32]))
 | []=>rfl
 | [w]=>by simp
 | w::v::l=>by
  have ih:=Dp (v::l)
  simp only [List.append_nil,List.map_cons,List.flatten_cons] at ih ⊢
  rw [ih]
  simp
theorem tE (w:ByteArray) (l:List ByteArray):lZ (w::l) ⟨#[]⟩=fU (w::l) spV++spV:=by
 apply Bq
 unfold lZ
 rw [lH,ByteArray.data_append,Array.toList_append]
 show ([]:List UInt8)++_=Lib.join ((w::l).map fun s=>s.data.toList) [32]++[32]
 rw [List.nil_append,List.map_cons,List.map_cons,Lib.join_cons]
 have h:=Dp ((w::l).map fun s=>s.data.toList)
 rw [List.append_nil,List.map_map] at h
 have e :((fun x=>x++[32]) ∘ fun s:ByteArray=>s.data.toList)=fun s=>(s++spV).data.toList:=by
  funext s
  show s.data.toList++[32]=_
  rw [ByteArray.data_append,Array.toList_append]
  rfl
 rw [e] at h
 rw [List.map_cons] at h
 rw [h]
 show _ ++(_++[32]) =(_++Lib.joinTail [32] _)++[32]
 unfold Lib.joinTail
 rw [List.append_assoc]
theorem GV (a:ByteArray) :(a++spV).extract 0 ((a++spV).size - 1)=a:=by
 apply Bq
 have hs:spV.size=1:=rfl
 rw [ByteArray.size_append,hs,Lib.extract_data,Nat.add_sub_cancel,List.drop_zero,ByteArray.data_append,Array.toList_append,Nat.sub_zero]
 exact List.take_left' (by rw [Array.length_toList];rfl)
theorem K5 {r:Mir.Row} (h :(ef r++eU r).any dB=false):lnG r.Symbol (ef r++eU r) 0 ⟨#[]⟩=some (fU (aF r) spV++spV):=by
 have h' :∀ x∈ef r++eU r,dB x=false:=fun x hx=>by
  have:=List.any_eq_false.1 h x hx
  simpa using this
 unfold ef eU at h'
 have e:lnG r.Symbol (ef r++eU r) 0 ⟨#[]⟩=some (lZ (aF r) ⟨#[]⟩):=by
  unfold ef eU
  simp only [List.cons_append,List.nil_append,lnG]
  rw [h' r.Innings (by simp),h' r.Over (by simp),h' r.Ball (by simp),h' r.Bowler (by simp),h' r.Striker (by simp),h' r.Partner (by simp),h' r.Total (by simp),h' r.Wickets (by simp)]
  rfl
 rw [e]
 congr 1
 exact tE _ _
theorem DQ (y:ByteArray) :∀ (l:List Int) (i:Int) (s:ByteArray),l.any dB=true→lnG y l i s=none
 | [],_,_,h=>by cases h
 | x::l,i,s,h=>by
  unfold lnG
  cases hx:dB x with
  | true=>rfl
  | false=>
   rw [List.any_cons,hx,Bool.false_or] at h
   exact DQ y l _ _ h
end Go.Proofs.YtffdpnmioidloaaGreatDoor
namespace Go.Proofs.YtffdpnmioidloaaGreatDoor
open Go Go.Mir Go.RowKit
attribute [local irreducible] Go.Mir.DT.sat Go.Mir.evPat Go.Mir.RT.sat Go.Mir.evFn
abbrev RwsL:Ty:= .slice (.nm .Row)
def LL:List ByteArray→Int→Option (List Int)
 | [],_=>some []
 | w::l,i=>if i==6 then LL l (i+1) else if BH w then none else (LL l (i+1)).map ((pE w).1::·)
def CB (l:List ByteArray):Option Mir.Row:=if l.length=9 then (LL l 0).map (fun v=>⟨v.getD 0 0,v.getD 1 0,v.getD 2 0,v.getD 3 0,v.getD 4 0,v.getD 5 0,l.getD 6 ByteArray.empty,v.getD 6 0,v.getD 7 0⟩) else none
def Eg:List ByteArray→Option (List Mir.Row)
 | []=>some []
 | x::l=>(CB (cA x 32)).bind fun r=>(Eg l).map (r::·)
end Go.Proofs.YtffdpnmioidloaaGreatDoor
namespace Go.Mir
open Go.RowKit
variable {P:Program}
theorem Ke {B:Base} {E:Env} (hE:HRel B E) (m K:Nat) {h kk b:Nat} {t:Ty} {x:Den t} (hH:E.H h=some (.abs kk t x)) (hρ:E.ρ h=some b) {w':World}
  (hk:Keeps E.w (fun k=>k=b∨fx kk E.w b=some k) w') (hg :∀ g,fx kk w' b=some g→fx kk E.w b=some g∨(E.w.heap.size≤g∧g<w'.heap.size)) {x':Den t} (hA:AbsAt w' b kk t x') :
  ∃ E',GoodK B E m K [(h,.abs kk t x')] w' E':=by
 have tb :∀ {k},(k=b∨fx kk E.w b=some k)→k=b∨∃ k0,E.H h=some k0∧Tch E h k0 k:=fun hx=>hx.imp id fun h1=>⟨_,hH,.inr ⟨b,hρ,h1⟩⟩
 obtain ⟨R,X⟩:=MX hE h kk t x' b w' E.U (fun n h=>h) (hE.used _ _ hH)
  ⟨hk.os,hk.tape,hk.output,hk.size,fun k hlt hn=>hk.block k hlt fun hx=>hn (tb hx)⟩ (.inl ⟨⟨_,hH⟩,hρ⟩)
  (fun g h1=>(hg g h1).imp (fun h2=>⟨_,hH,.inr ⟨b,hρ,h2⟩⟩) id) hA
 exact ⟨_,R,X,rfl,(bf _ _ _).symm,fun n h=> .inl h⟩
def Gi (w:World) (b:Nat) (s:ByteArray):Prop:=s.size≤ak∧Lib.IsBuilderF bTy uTy 0 b (Lib.strCells s) w
theorem absB {w:World} {b:Nat} {s:ByteArray}:AbsAt w b 0 .str s↔Gi w b s:=by
 constructor
 ·rintro (⟨_,s',e,h⟩ |⟨e,_⟩)
  ·cases e;exact h
  ·cases e
 ·exact fun h=> .inl ⟨rfl,s,rfl,h⟩
def yl (f:ByteArray→List V→Option (List Prop×V×ByteArray)):Ctr:=fun args H _=>match args with
 | .av 0 h::r=>match H h with
  | some (.abs 0 .str s)=>match f s r with
   | some (ps,v,s')=>some (ps,v,[(h,.abs 0 .str s')])
   | none=>none
  | _=>none
 | _=>none
theorem Bj {K:Nat} {f:FuncId} {fn:Func} (hf:P.funcs[f]?=some fn) (hbody:fn.body.isSome=true) (hname :(fn.name == "runtime.NumGoroutine")=false) {g:ByteArray→List V→Option (List Prop×V×ByteArray)}
  (h :∀ (w:World) (b:Nat) (s:ByteArray) (r:List V) (us:List Value) (E:Env) (ps:List Prop) (v:V) (s':ByteArray),g s r=some (ps,v,s')→(∀ p∈ps,p)→Gi w b s→ab E r us→
   Calls P f (.pointer (some ⟨b,0,none⟩)::us).toArray w fun e w'=>∃ v',e = .returned v'∧Keeps w (fun k=>k=b∨eY w b=some k) w'∧(∀ k,eY w' b=some k→eY w b=some k∨(w.heap.size≤k∧k<w'.heap.size))∧Gi w' b s'∧∀ E':Env,aa E' v v') :
  CtrOK P K f (yl g):=by
 refine ⟨⟨fn,hf,hbody,hname⟩,fun B E hE args av hav m hm ps v dh hct hps=>?_⟩
 unfold yl at hct
 split at hct
 case h_2=>cases hct
 rename_i hh r
 split at hct
 case h_2=>cases hct
 rename_i s hH
 split at hct
 case h_2=>cases hct
 rename_i ps' v' s' hg
 cases hct
 cases av with
 | nil=>simp [ab] at hav
 | cons a us=>
  simp only [ab,aa] at hav
  obtain ⟨⟨_,_,h1⟩,h2⟩:=hav
  obtain ⟨b,h3,rfl⟩:=h1 _ _ hH
  obtain ⟨b',h4,_,_,h5⟩:=hE.blk _ _ hH
  rw [h3] at h4
  cases h4
  refine (h E.w b s r us E _ _ _ hg hps (absB.1 h5) h2).mono fun e w' ⟨u,k1,k2,k3,k4,k5⟩=>?_
  obtain ⟨E',G⟩:=Ke hE m K hH h3 (w':=w') k2 k3 (x':=s') (absB.2 k4)
  exact ⟨E',u,k1,G,k5 E'⟩
end Go.Mir
