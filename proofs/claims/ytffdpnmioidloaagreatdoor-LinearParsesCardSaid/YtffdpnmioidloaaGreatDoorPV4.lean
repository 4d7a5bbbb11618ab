/- Texts of the mirror and contracts, put together. -/
import Derived.Test.YtffdpnmioidloaaGreatDoorPV3
import Derived.Shelf.Strings.Split
import Derived.RangeFuncNested
import Derived.RangeFuncBound
import Derived.RangeFuncCalls
import Derived.RangeFuncLeaves
import Derived.Shelf.RegionOpen
import Derived.WalkKit
import Derived.OwnWalkIn
import Derived.TacticsInMore
import Derived.LoopNIn
import Derived.LoopIn
import Derived.Shelf.Small.Strs
import Derived.TacticsIn
import Derived.OrdersIn
import Derived.Shelf.Strings.Prefix
import Derived.Shelf.Strings.Cut
import Derived.Shelf.Strings.OnBuilder
import Derived.Shelf.Spec.SlicesGrow
namespace Go.Proofs.YtffdpnmioidloaaGreatDoor
open Go Go.Mir Go.RowKit Go.Shelf
def Aa:Go.Shelf.Ren:=⟨fun|146=>53|221=>112|268=>171|138=>172|143=>173|195=>215|197=>216|218=>217|219=>218|260=>259|217=>170|225=>260|224=>261|267=>262|266=>214|314=>294|n=>n,fun|9=>9|31=>76|3=>3|4=>4|0=>0|105=>264|21=>21|5=>5|46=>276|119=>318|139=>321|138=>320|146=>322|51=>299|n=>n,fun|1=>1|3=>4|4=>5|n=>n⟩
theorem lays146:Go.Proofs.LaysM.n146 Tryz.prog Aa where
 mixed:=by kernel_rfl
 f138:=Tryz.func172.trans (congrArg some (by kernel_rfl))
 f143:=Tryz.func173.trans (congrArg some (by kernel_rfl))
 f146:=Tryz.func53.trans (congrArg some (by kernel_rfl))
 f195:=Tryz.func215.trans (congrArg some (by kernel_rfl))
 f197:=Tryz.func216.trans (congrArg some (by kernel_rfl))
 f217:=Tryz.func170.trans (congrArg some (by kernel_rfl))
 f218:=Tryz.func217.trans (congrArg some (by kernel_rfl))
 f219:=Tryz.func218.trans (congrArg some (by kernel_rfl))
 f221:=Tryz.func112.trans (congrArg some (by kernel_rfl))
 f224:=Tryz.func261.trans (congrArg some (by kernel_rfl))
 f225:=Tryz.func260.trans (congrArg some (by kernel_rfl))
 f260:=Tryz.func259.trans (congrArg some (by kernel_rfl))
 f266:=Tryz.func214.trans (congrArg some (by kernel_rfl))
 f267:=Tryz.func262.trans (congrArg some (by kernel_rfl))
 f268:=Tryz.func171.trans (congrArg some (by kernel_rfl))
 f314:=Tryz.func294.trans (congrArg some (by kernel_rfl))
 t0:=Tryz.underlying0
 a0:=Tryz.isAgg0
 z0:=Tryz.sizeOf0
 v0:=Tryz.zeroValue0
 t3:=Tryz.underlying3
 a3:=Tryz.isAgg3
 z3:=Tryz.sizeOf3
 v3:=Tryz.zeroValue3
 t4:=Tryz.underlying4
 a4:=Tryz.isAgg4
 z4:=Tryz.sizeOf4
 v4:=Tryz.zeroValue4
 t5:=Tryz.underlying5
 a5:=Tryz.isAgg5
 z5:=Tryz.sizeOf5
 v5:=Tryz.zeroValue5
 t9:=Tryz.underlying9
 a9:=Tryz.isAgg9
 z9:=Tryz.sizeOf9
 v9:=Tryz.zeroValue9
 t21:=Tryz.underlying21
 a21:=Tryz.isAgg21
 z21:=Tryz.sizeOf21
 v21:=Tryz.zeroValue21
 t31:=Tryz.underlying76
 a31:=Tryz.isAgg76
 z31:=Tryz.sizeOf76
 v31:=Tryz.zeroValue76
 t46:=Tryz.underlying276
 a46:=Tryz.isAgg276
 z46:=Tryz.sizeOf276
 v46:=Tryz.zeroValue276
 t51:=Tryz.underlying299
 a51:=Tryz.isAgg299
 z51:=Tryz.sizeOf299
 v51:=Tryz.zeroValue299
 t105:=Tryz.underlying264
 a105:=Tryz.isAgg264
 z105:=Tryz.sizeOf264
 v105:=Tryz.zeroValue264
 t119:=Tryz.underlying318
 a119:=Tryz.isAgg318
 z119:=Tryz.sizeOf318
 t138:=Tryz.underlying320
 a138:=Tryz.isAgg320
 z138:=Tryz.sizeOf320
 v138:=Tryz.zeroValue320
 t139:=Tryz.underlying321
 a139:=Tryz.isAgg321
 z139:=Tryz.sizeOf321
 v139:=Tryz.zeroValue321
 t146:=Tryz.underlying322
 a146:=Tryz.isAgg322
 z146:=Tryz.sizeOf322
 v146:=Tryz.zeroValue322
 g1:=by kernel_rfl
 g3:=by kernel_rfl
 g4:=by kernel_rfl
 i0:=by kernel_rfl
 i3:=by kernel_rfl
 i4:=by kernel_rfl
 i5:=by kernel_rfl
 i9:=by kernel_rfl
 i21:=by kernel_rfl
 i31:=by kernel_rfl
 i46:=by kernel_rfl
 i51:=by kernel_rfl
 i105:=by kernel_rfl
 i138:=by kernel_rfl
 i139:=by kernel_rfl
 i146:=by kernel_rfl
 m1:=by kernel_rfl
 s1_3:=fun w h=>Go.Proofs.cell_of_shapedOpen_int (zero:=#[.int .i64 0]) (t:=3) h (of_decide_eq_true (by kernel_rfl)) (by kernel_rfl) rfl (by kernel_rfl) (by kernel_rfl) Tryz.underlying3
 m3:=by kernel_rfl
 m4:=by kernel_rfl
def dp (c:UInt8):List UInt8→List (List UInt8)
 | []=> [[]]
 | b::l=>if b==c then []::dp c l else match dp c l with | []=> [[b]]|x::r=>(b::x)::r
def toB (l:List UInt8):ByteArray:=⟨l.toArray⟩
def bj (s:ByteArray) (c:UInt8):List ByteArray:=(dp c s.data.toList).map toB
theorem DR (c:UInt8) :∀ l,dp c l≠ []
 | []=>by simp [dp]
 | b::l=>by
  unfold dp
  split
  ·simp
  ·split <;> simp
theorem mV {b c:UInt8} {l:List UInt8}:Lib.index (b::l) [c]=if b==c then 0 else if Lib.index l [c] == -1 then -1 else Lib.index l [c]+1:=by
 show (if List.isPrefixOf [c] (b::l) then _ else _)=_
 have:List.isPrefixOf [c] (b::l) =(b==c):=by
  show (c==b&&List.isPrefixOf [] l)=_
  rw [BEq.comm]
  simp [List.isPrefixOf]
 rw [this]
theorem nQ (c:UInt8) :∀ l,-1≤Lib.index l [c]
 | []=>by simp [Lib.index]
 | b::l=>by
  rw [mV]
  have:=nQ c l
  repeat' split
  all_goals omega
theorem uy (c:UInt8) :∀ l,Lib.index l [c] = -1→dp c l=[l]
 | [],_=>rfl
 | b::l,h=>by
  rw [mV] at h
  split at h
  ·cases h
  ·rename_i hb
   split at h
   ·rename_i h1
    have:=uy c l (beq_iff_eq.1 h1)
    unfold dp
    rw [if_neg hb,this]
   ·have:=nQ c l
    omega
theorem yX (c:UInt8) :∀ (l:List UInt8) (i:Nat),Lib.index l [c]=i→dp c l=l.take i::dp c (l.drop (i+1))
 | [],i,h=>by
  have:Lib.index [] [c] = -1:=rfl
  omega
 | b::l,i,h=>by
  rw [mV] at h
  split at h
  ·rename_i hb
   obtain rfl:i=0:=by omega
   show dp c (b::l)=[]::dp c l
   conv=>lhs;unfold dp
   rw [if_pos hb]
  ·rename_i hb
   split at h
   ·omega
   ·have h0:=nQ c l
    obtain ⟨j,rfl⟩ :∃ j,i=j+1:=⟨i - 1,by rename_i h1;have :¬ Lib.index l [c] = -1:=fun e=>h1 (beq_iff_eq.2 e);omega⟩
    have ih:=yX c l j (by omega)
    show dp c (b::l) =(b::l.take j)::dp c (l.drop (j+1))
    conv=>lhs;unfold dp
    rw [if_neg hb,ih]
theorem v8 (c:UInt8) :∀ (k:Nat) (l:List UInt8),l.length<k→Lib.splitK [c] 0 (Lib.count l [c]) l=dp c l
 | 0,l,h=>absurd h (Nat.not_lt_zero _)
 | k+1,l,h=>by
  by_cases hm:Lib.index l [c] = -1
  ·rw [Lib.count_miss hm,uy c l hm];rfl
  ·obtain ⟨i,hi⟩ :∃ i:Nat,Lib.index l [c]=i:=⟨(Lib.index l [c]).toNat,by have:=nQ c l;omega⟩
   rw [Lib.count_hit (by simp) hi,yX c l i hi,Nat.add_comm]
   conv=>lhs;unfold Lib.splitK
   rw [if_neg (fun e=>hm (beq_iff_eq.1 e)),hi]
   show l.take i::Lib.splitK [c] 0 (Lib.count (l.drop (i+1)) [c]) (l.drop (i+1))=_
   rw [v8 c k _ ?_]
   rw [List.length_drop]
   cases l with
   | nil=>exact absurd rfl hm
   | cons b t=>simp at h ⊢;omega
theorem sY (s:ByteArray) (c:UInt8):Lib.splitB ⟨#[c]⟩ 0 (Lib.countB s ⟨#[c]⟩) s=bj s c:=by
 have h:=Lib.splitB_data ⟨#[c]⟩ 0 (Lib.countB s ⟨#[c]⟩) s
 have h2:Lib.countB s ⟨#[c]⟩=Lib.count s.data.toList [c]:=rfl
 rw [h2] at h ⊢
 rw [v8 c _ _ (Nat.lt_succ_self _)] at h
 unfold bj
 rw [←h,List.map_map]
 have :(toB ∘ fun x:ByteArray=>x.data.toList)=id:=by funext x;simp [toB]
 rw [this,List.map_id]
theorem uz (c:UInt8) :∀ (l:List UInt8),(dp c l).length≤l.length+1∧∀ x∈dp c l,x.length≤l.length
 | []=>by simp [dp]
 | b::l=>by
  obtain ⟨h1,h2⟩:=uz c l
  unfold dp
  split
  ·refine ⟨by simp;omega,fun x hx=>?_⟩
   rcases List.mem_cons.1 hx with rfl|hx
   ·simp
   ·have:=h2 x hx;simp;omega
  ·split
   ·simp
   ·rename_i x r he
    rw [he] at h1 h2
    refine ⟨by simp at h1 ⊢;omega,fun y hy=>?_⟩
    rcases List.mem_cons.1 hy with rfl|hy
    ·have:=h2 x List.mem_cons_self;simp;omega
    ·have:=h2 y (List.mem_cons_of_mem _ hy);simp;omega
theorem lK (s:ByteArray) (c:UInt8) :(bj s c).length≤s.size+1∧∀ x∈bj s c,x.size≤s.size:=by
 obtain ⟨h1,h2⟩:=uz c s.data.toList
 rw [Array.length_toList] at h1 h2
 refine ⟨by unfold bj;rw [List.length_map];exact h1,fun x hx=>?_⟩
 unfold bj at hx
 obtain ⟨y,hy,rfl⟩:=List.mem_map.1 hx
 have:=h2 y hy
 show (toB y).data.size≤s.data.size
 unfold toB
 rw [List.size_toArray]
 exact this
theorem Hr (s:ByteArray) (c:UInt8):1≤(bj s c).length:=by
 unfold bj
 rw [List.length_map]
 cases h:dp c s.data.toList with
 | nil=>exact absurd h (DR _ _)
 | cons=>simp
abbrev JK:Ty:= .prod .str (.prod .str .unit)
def Pa:Den JK→List Prop:=fun x=> [x.1.size≤1000000∧x.2.1.size=1]
def QQ:Den JK→List (Den .str):=fun x=>bj x.1 (x.2.1.data.toList.headD 0)
def Kk:Den JK→PRes:=fun x=>⟨Pa x,.osl 0 0,[⟨.str,QQ x⟩]⟩
def Iy:FuncId×Ctr:=(53,bC KE JK Kk)
theorem Bu (s:ByteArray) (c:UInt8) (w:World) (hs:s.size≤1000000) {m:Int} (hm:w.cell? ⟨1,0,none⟩=some (.int .i64 m)) :
  Calls Tryz.prog 53 #[.string s,.string ⟨#[c]⟩] w fun e w'=>∃ c1 T cap,e = .returned (.slice (some ⟨w.heap.size,0,none⟩) (bj s c).length cap)∧w'={ w with heap:=w.heap.push (.cells c1 T (0,0)) }∧
   c1.size=cap*sz .str∧(bj s c).length≤cap∧(bj s c).length≤ai∧∀ (S:Nat→Prop) (i:Nat) (hi:i <(bj s c).length),Rd S w .str (bj s c)[i] (seg c1 (i*sz .str) (sz .str)):=by
 refine (Any.strings_Split { lays146 with } lays146.i9 s ⟨#[c]⟩ m w (by omega) hm (show 1≤1 by decide)).mono fun e w' ⟨he,hw'⟩=>?_
 rw [sY] at hw'
 have hlen:Lib.countB s ⟨#[c]⟩+1 =(bj s c).length:=by
  rw [←sY,Lib.splitB_all ⟨#[c]⟩ (show 1≤1 by decide) 0 _ s rfl]
 rw [hlen] at he
 obtain ⟨z1,z2⟩:=lK s c
 have hL :(2000000:Nat)≤ai:=by decide
 refine ⟨_,_,_,he,hw',?_,Nat.le_refl _,?_,fun S i hi=>?_⟩
 ·simp [sz]
 ·show (bj s c).length≤ai
  omega
 ·have hi:i <(bj s c).length:=hi
  have hseg:seg ((bj s c).map Value.string).toArray (i*sz .str) (sz .str)=[.string (bj s c)[i]]:=by
   show (((bj s c).map Value.string).drop (i*1)).take 1=_
   rw [Nat.mul_one,List.drop_eq_getElem_cons (by simpa using hi)]
   simp
  show Rd S w .str ((bj s c)[i]) (seg ((bj s c).map Value.string).toArray (i*sz .str) (sz .str))
  rw [hseg]
  have:=z2 _ (List.getElem_mem hi)
  exact Rd.str (by omega)
theorem LX:CtrOK Tryz.prog KE 53 (bC KE JK Kk):=by
 refine yU (by decide) Tryz.func53 (by kernel_rfl) (by kernel_rfl) (by decide) (fun x av w E hw hn hg hav=>?_)
 obtain ⟨s,sep,⟨⟩⟩:=x
 obtain ⟨hs,hsep⟩:=hn _ List.mem_cons_self
 obtain ⟨a,r,rfl,⟨rfl,hs1⟩,h1⟩:=bp hav
 obtain ⟨a,r,rfl,⟨rfl,hs2⟩,h2⟩:=bp h1
 have h5:r=[]:=by cases r with|nil=>rfl|cons=>simp [iK,ab] at h2
 subst h5
 obtain ⟨c,rfl⟩:=Lib.one_byte sep hsep
 have hm :∃ m,w.cell? ⟨1,0,none⟩=some (.int .i64 m):=by
  obtain ⟨⟨o,h1,m,T,fr,rfl⟩,_⟩:=hg (1,Ir) (by unfold GL;simp)
  exact ⟨m,by simp [World.cell?,h1]⟩
 obtain ⟨m,hm⟩:=hm
 have hs:s.size≤1000000:=hs
 exact Bu s c w hs hm
end Go.Proofs.YtffdpnmioidloaaGreatDoor
namespace Go.Proofs.YtffdpnmioidloaaGreatDoor
open Go Go.Mir
attribute [local irreducible] Go.Mir.DT.sat Go.Mir.evPat Go.Mir.RT.sat Go.Mir.evFn
abbrev Q8:List (Nat×PB):= [(0,.row 1 .str)]
abbrev qWd:Pat:=⟨[(0,.h .str),(1,.h U8),(5,.c (.osl 0 1)),(6,.h I),(7,.h I)],Q8,2⟩
abbrev xWd:List (Lf×Pat):= [(.ext 0,⟨[(5,.c (.osl 0 1))],Q8,2⟩)]
abbrev TWd:Type:=ByteArray×Int×Int×Int×List ByteArray×Unit
def K9 (l:List UInt8):List (List UInt8)→List ByteArray
 | []=> []
 | x::r=>toB (l++x)::r.map toB
def iU (s:ByteArray) (c a i:Int):List ByteArray:=if i >(s.size:Int) then [] else K9 ((s.data.toList.take i.toNat).drop a.toNat) (dp (UInt8.ofNat c.toNat) (s.data.toList.drop i.toNat))
def rN (x:TWd):Prop:=x.1.size≤1000000∧(0≤x.2.1∧x.2.1<256)∧0≤x.2.2.1∧x.2.2.1≤x.2.2.2.1∧x.2.2.2.1≤(x.1.size:Int)+1∧(x.2.2.2.2.1.length:Int)≤x.2.2.2.1
def Ao (x:TWd):Nat:=((x.1.size:Int)+1 - x.2.2.2.1).toNat
def lF (x:TWd):List ByteArray×Unit:=(x.2.2.2.2.1++iU x.1 x.2.1 x.2.2.1 x.2.2.2.1,())
abbrev qSC:Pat:=cW [.str,U8]
abbrev Mp:Pat:=cW [.slice .str]
def Dv:Den (tyP qSC)→List Prop×Den (tyP Mp):=fun x=>([x.1.size≤1000000],(bj x.1 (UInt8.ofNat x.2.1.toNat),()))
theorem Qq {n:Int} (h:wfD (.int .u8) n):0≤n∧n≤255:=by
 obtain ⟨S,w,cs,h⟩:=h
 cases h with|int h=>exact h
theorem yW :∀ L,K9 [] L=L.map toB
 | []=>rfl
 | _::_=>rfl
theorem yy (s:ByteArray) (a i:Nat):toB ((s.data.toList.take i).drop a)=s.extract a i:=by
 apply ByteArray.ext
 apply Array.ext'
 show ((s.data.toList.take i).drop a)=_
 rw [Lib.extract_data]
 simp [Array.toList_extract,List.extract_eq_take_drop,List.drop_take]
theorem eqC {c:Int} (b:UInt8) (h0:0≤c) (h1:c<256) :((b.toNat:Int)==c) =(b==UInt8.ofNat c.toNat):=by
 apply Bool.eq_iff_iff.2
 simp only [beq_iff_eq]
 constructor
 ·intro h
  have:c.toNat=b.toNat:=by omega
  rw [this];simp
 ·rintro rfl
  have:c.toNat<256:=by omega
  simp [UInt8.toNat_ofNat']
  omega
theorem Ks (s:ByteArray) (c a:Int):iU s c a (s.size:Int)=[s.extract a.toNat s.size]:=by
 unfold iU
 rw [if_neg (by omega)]
 have:s.data.toList.drop (s.size:Int).toNat=[]:=by
  apply List.drop_eq_nil_of_le
  rw [Array.length_toList]
  exact Nat.le_of_eq (by show s.data.size =(s.size:Int).toNat;rw [Int.toNat_natCast];rfl)
 rw [this]
 show [toB (_++[])]=_
 rw [List.append_nil,yy,Int.toNat_natCast]
theorem wb (s:ByteArray) (c a:Int):iU s c a ((s.size:Int)+1)=[]:=if_pos (by omega)
theorem GI (s:ByteArray) {c a i:Int} (h0:0≤a) (h1:a≤i) (h2:i<s.size) :
  iU s c a i=if s.data.getD i.toNat 0==UInt8.ofNat c.toNat then s.extract a.toNat i.toNat::iU s c (i+1) (i+1) else iU s c a (i+1):=by
 obtain ⟨n,rfl⟩ :∃ n:Nat,i=n:=⟨i.toNat,by omega⟩
 obtain ⟨m,rfl⟩ :∃ m:Nat,a=m:=⟨a.toNat,by omega⟩
 have hn:n<s.data.toList.length:=by rw [Array.length_toList];show n<s.size;omega
 have hb:s.data.getD (n:Int).toNat 0=s.data.toList[n]:=by
  rw [Int.toNat_natCast]
  have:n<s.data.size:=by rw [Array.length_toList] at hn;exact hn
  exact dif_pos this
 have e1 :((n:Int)+1).toNat=n+1:=by omega
 have tw :∀ x y:Int,y≤(s.size:Int)→iU s c x y=K9 ((s.data.toList.take y.toNat).drop x.toNat) (dp (UInt8.ofNat c.toNat) (s.data.toList.drop y.toNat)):=fun x y h=>if_neg (by omega)
 rw [tw _ _ (by omega),tw _ _ (by omega),tw _ _ (by omega),hb,e1,Int.toNat_natCast,Int.toNat_natCast,List.drop_eq_getElem_cons hn]
 generalize hg:s.data.toList[n]=b
 conv=>lhs;unfold dp
 split
 ·have :(s.data.toList.take (n+1)).drop (n+1)=[]:=List.drop_eq_nil_of_le (List.length_take_le _ _)
  rw [this,yW]
  show toB (_++[])::_=_
  rw [List.append_nil,yy]
 ·have :(s.data.toList.take (n+1)).drop m =(s.data.toList.take n).drop m++[b]:=by
   rw [List.take_succ_eq_append_getElem hn,List.drop_append_of_le_length (by rw [List.length_take];omega),hg]
  rw [this]
  split
  ·rename_i h;exact absurd h (DR _ _)
  ·simp [K9, *]
noncomputable def lpWd:Lp:=(⟨0,ax [] Tryz.f61,(fun _=>none),(bf Tryz.f61 0),qWd,xWd⟩:Lp)
theorem Qa (s:ByteArray) (c:Int) (a:Int) (i:Int) (o:List ByteArray) (hi:rN (s,c,a,i,o,())) :(Go.Mir.stepG lpWd lF (fun y:Den (tyP lpWd.q)=>rN y∧Ao y<Ao (s,c,a,i,o,())) (s,c,a,i,o,())∧Go.Mir.stepE lpWd lF (s,c,a,i,o,())=lF (s,c,a,i,o,())):=by
 refine cast (by kernel_rfl) (?_:let r1:Int:=IntKind.i64.wrap (i +(1:Int));let r2:Bool:=decide (i≤(↑s.size:Int));let r3:Bool:=bif i ==(↑s.size:Int) then true else (↑(s.1.getD i.toNat (0:UInt8)).toNat:Int)==c;let r4:List ByteArray×PUnit:=bif r3 then lF (s,c,r1,r1,o++[s.extract a.toNat i.toNat],()) else lF (s,c,a,r1,o,());((r2=true→(((i ==(↑s.size:Int))=true→True)∧((i ==(↑s.size:Int))=false→((0:Int)≤i∧i <(↑s.size:Int))∧True))∧(true=true→(r3=true→((0:Int)≤a∧a≤i∧i≤(↑s.size:Int))∧(o.length+[s.extract a.toNat i.toNat].length) *(16:Nat)≤(70368744177664:Nat)∧rN (s,c,r1,r1,o++[s.extract a.toNat i.toNat],())∧Ao (s,c,r1,r1,o++[s.extract a.toNat i.toNat],())<Ao (s,c,a,i,o,()))∧(r3=false→rN (s,c,a,r1,o,())∧Ao (s,c,a,r1,o,())<Ao (s,c,a,i,o,()))))∧(r2=false→True))∧(bif r2 then bif true&&true then r4 else bif true then r4 else bif i ==(↑s.size:Int) then dflt (Ty.str.slice.prod Ty.unit) else dflt (Ty.str.slice.prod Ty.unit) else (o,()))=lF (s,c,a,i,o,()))
 intro r1 r2 r3 r4
 clear_value (hr1:r1=_) (hr2:r2=_) (hr3:r3=_) (hr4:r4=_)
 obtain ⟨h1,⟨h2,h3⟩,h4,h5,h6,h7⟩:=hi
 simp only at h1 h2 h3 h4 h5 h6 h7
 by_cases h:i≤(s.size:Int)
 ·have er2:r2=true:=by rw [hr2];exact decide_eq_true h
  have ew:r1=i+1:=by rw [hr1];exact wrap64 (by omega) (by omega)
  have el :(o++[s.extract a.toNat i.toNat]).length=o.length+1:=by rw [List.length_append];rfl
  have key:iU s c a i=if r3 then s.extract a.toNat i.toNat::iU s c (i+1) (i+1) else iU s c a (i+1):=by
   by_cases he:i=s.size
   ·have:r3=true:=by rw [hr3,he];simp
    rw [this,he,if_pos rfl,Ks,wb,Int.toNat_natCast]
   ·rw [GI s h4 h5 (by omega),hr3,eqC _ h2 h3]
    have :(i ==(s.size:Int))=false:=by simpa using he
    rw [this]
    rfl
  have hlt :(i ==(s.size:Int))=false→i<s.size:=fun he=>by
   have :¬ i =(s.size:Int):=by simpa using he
   omega
  rw [er2]
  refine ⟨⟨fun _=>⟨⟨fun _=>trivial,fun he=>⟨⟨by omega,hlt he⟩,trivial⟩⟩,fun _=>⟨fun h3'=>⟨⟨h4,h5,h⟩,by simp only [List.length_cons,List.length_nil];omega,⟨h1,⟨h2,h3⟩,?_,?_,?_,?_⟩,?_⟩,fun _=>⟨⟨h1,⟨h2,h3⟩,h4,?_,?_,?_⟩,?_⟩⟩⟩,fun z=>Bool.noConfusion z⟩,?_⟩
  all_goals (try simp only [Ao,el,ew])
  all_goals (try omega)
  rw [hr4]
  simp only [cond_true,Bool.and_true]
  simp only [lF,ew,key]
  cases r3
  ·rfl
  ·simp
 ·have er2:r2=false:=by rw [hr2];exact decide_eq_false h
  rw [er2]
  refine ⟨⟨fun z=>Bool.noConfusion z,fun _=>trivial⟩,?_⟩
  have:i =(s.size:Int)+1:=by omega
  simp only [cond_false,lF]
  rw [this,wb,List.append_nil]
noncomputable def NQ:LoopSum:=az lpWd lF rN
noncomputable def Nu:Nat:=rid (bf Tryz.f61 0)
theorem O5:LoopOKp Tryz.prog 0 Tryz.f61.ntmps (bf Tryz.f61 0) (az lpWd lF rN):=
 aY lpWd (au (CtrsOK.nil) _) mixed (fun b hb S hS=>by cases hS) lF rN Ao (fun |⟨s,c,a,i,o,⟨⟩⟩,hi=>Qa s c a i o hi)
theorem Bj (s:ByteArray) (c:Int) (hs:s.size≤1000000) (hc:0≤c∧c≤255) :(evPat (ax [] Tryz.f61) (find [(Nu,NQ)]) Tryz.f61 qSC Mp (s,c,())).sat fun z_=>z_ =(Dv (s,c,())).2:=by
 refine cast (by kernel_rfl) (?_ :((ij fun x=>none)∧s.size≤(1000000:Nat)∧((0:Int)≤c∧c <(256:Int))∧(0:Int)≤(0:Int)∧(0:Int)≤(0:Int)∧(0:Int)≤(↑s.size:Int) +(1:Int)∧(↑(0:Nat):Int)≤(0:Int))∧([]++iU s c (0:Int) (0:Int),()) =(bj s (UInt8.ofNat c.toNat),()))
 refine ⟨⟨rfl,hs,⟨hc.1,by omega⟩,Int.le_refl _,Int.le_refl _,by omega,Int.le_refl _⟩,?_⟩
 have:iU s c 0 0=bj s (UInt8.ofNat c.toNat):=by
  unfold iU bj
  rw [if_neg (by omega)]
  exact yW _
 rw [this]
 rfl
def oU:FuncId×Ctr:=(61,ae KE qSC Mp Dv)
theorem sq:CtrOK Tryz.prog KE 61 (ae KE qSC Mp Dv):=by
 refine aE (C:=ax [] Tryz.f61) (au (CtrsOK.nil) _) mixed (fn:=Tryz.f61) Tryz.func61 (by kernel_rfl) (by kernel_rfl) (by kernel_rfl) (by kernel_rfl) (by kernel_rfl) (by kernel_rfl) (Λ:=fun x=>find [(Nu,NQ)]) ?_ ?_
 ·rintro ⟨s,c,⟨⟩⟩ hw hn
  exact LoopsOKp.at (by kernel_rfl) (.cons (by kernel_rfl) (O5) .nil)
 ·rintro ⟨s,c,⟨⟩⟩ hw hn
  exact Bj s c (hn _ List.mem_cons_self) (Qq (nv (nw hw)))
end Go.Proofs.YtffdpnmioidloaaGreatDoor
namespace Go.Proofs.YtffdpnmioidloaaGreatDoor
open Go Go.Mir
attribute [local irreducible] Go.Mir.DT.sat Go.Mir.evPat Go.Mir.RT.sat Go.Mir.evFn
abbrev qTn:Pat:=cW [I]
abbrev qTw:Pat:=cW [I,I]
abbrev AZ:Pat:=cW [.str]
def F2 (n:Int):Prop:=0≤n∧n≤1000000000000
def Pp (w:Int):Prop:=w=1
def Kd:Den (tyP qTw)→List Prop×Den (tyP AZ):=fun x=>([F2 x.1,Pp x.2.1],(aZ x.1,()))
def J7:Den (tyP qTn)→List Prop×Den (tyP AZ):=fun x=>([F2 x.1],(aZ x.1,()))
abbrev qPt:Pat:=⟨[(1,.h I),(5,.h .str),(6,.h (.int .u64)),(7,.h .str),(8,.h .str)],[],0⟩
abbrev xPt:List (Lf×Pat):= [(.ext 0,⟨[(5,.h .str),(8,.h .str)],[],0⟩)]
abbrev TPt:Type:=Int×ByteArray×Int×ByteArray×ByteArray×Unit
def tenB:ByteArray:=⟨#[48,49,50,51,52,53,54,55,56,57]⟩
def x3 (n:Int):ByteArray:=tenB.extract n.toNat (n+1).toNat
def sA (u:Int) (s:ByteArray):ByteArray:=if decide (u>0)||decide ((s.size:Int)<1) then toB (Lib.decDigits u.toNat++s.data.toList) else s
def uW (x:TPt):Prop:=x.1=1∧(0≤x.2.2.1∧x.2.2.1≤1000000000000)∧x.2.2.2.1=tenB∧(x.2.2.2.2.1.size:Int)+x.2.2.1≤2000000000000
def Jb (x:TPt):Nat:=x.2.2.1.toNat +(if x.2.2.2.2.1.size=0 then 1 else 0)
def qe (x:TPt):ByteArray×ByteArray×Unit:=(x.2.1,sA x.2.2.1 x.2.2.2.2.1,())
theorem wF {a b:ByteArray} (h:a.data.toList=b.data.toList):a=b:=ByteArray.ext (Array.toList_inj.1 h)
theorem wk {n:Int} (h0:0≤n) (h1:n<18446744073709551616):IntKind.u64.wrap n=n:=by
 simp only [IntKind.wrap,IntKind.bits,IntKind.signed]
 simp
 omega
theorem vI {n:Int} (h0:0≤n) (h1:n≤9) :(x3 n).data.toList=[UInt8.ofNat (48+n.toNat)]:=by
 have key :((List.range 10).all fun k=>(x3 (k:Int)).data.toList==[UInt8.ofNat (48+k)])=true:=by kernel_rfl
 have:=List.all_eq_true.1 key n.toNat (List.mem_range.2 (by omega))
 rw [show ((n.toNat:Nat):Int)=n from by omega] at this
 exact eq_of_beq this
theorem vJ {n:Int} (h0:0≤n) (h1:n≤9) :(x3 n).size=1:=by
 have :(x3 n).data.toList.length=1:=by rw [vI h0 h1];rfl
 rw [Array.length_toList] at this
 exact this
theorem JB {u:Int} {s:ByteArray} (h0:0≤u) (hb :(decide (u>0)||decide ((s.size:Int)<1))=true):sA (u / 10) (x3 (u % 10)++s)=sA u s:=by
 have z :(x3 (u % 10)++s).size=1+s.size:=by rw [ByteArray.size_append,vJ (by omega) (by omega)]
 have l :(x3 (u % 10)++s).data.toList=UInt8.ofNat (48 +(u % 10).toNat)::s.data.toList:=by
  rw [ByteArray.data_append,Array.toList_append,vI (by omega) (by omega)];rfl
 have hd:decide (((x3 (u % 10)++s).size:Int)<1)=false:=decide_eq_false (by rw [z];omega)
 unfold sA
 rw [hd,Bool.or_false,if_pos hb]
 by_cases h10:u / 10>0
 ·rw [if_pos (decide_eq_true h10),l]
  have hu :¬ u.toNat<10:=by omega
  have e1 :(u / 10).toNat=u.toNat / 10:=by omega
  have e2 :(u % 10).toNat=u.toNat % 10:=by omega
  conv=>rhs;rw [Lib.decDigits,dif_neg hu]
  rw [e1,e2,List.append_assoc]
  rfl
 ·rw [if_neg (by simpa using h10)]
  apply wF
  rw [l]
  have hu:u.toNat<10:=by omega
  have e2 :(u % 10).toNat=u.toNat:=by omega
  rw [Lib.decDigits,dif_pos hu,e2]
  rfl
noncomputable def lpPt:Lp:=(⟨0,ax [] Tryz.f121,(fun _=>none),(bf Tryz.f121 0),qPt,xPt⟩:Lp)
theorem P8 (w:Int) (sg:ByteArray) (u:Int) (dg:ByteArray) (s:ByteArray) (hi:uW (w,sg,u,dg,s,())) :(Go.Mir.stepG lpPt qe (fun y:Den (tyP lpPt.q)=>uW y∧Jb y<Jb (w,sg,u,dg,s,())) (w,sg,u,dg,s,())∧Go.Mir.stepE lpPt qe (w,sg,u,dg,s,())=qe (w,sg,u,dg,s,())):=by
 refine cast (by kernel_rfl) (?_:let r1:Int:=IntKind.u64.wrap (u.tmod (10:Int) +(1:Int));let r2:Int:=if (20:Int)<w then (20:Int) else w;let r3:ByteArray:=dg.extract (u.tmod (10:Int)).toNat r1.toNat;let r4:Int:=if r2 >(1:Int) then r2 else (1:Int);let r5:Bool:=bif decide (u >(0:Int)) then true else decide ((↑s.size:Int)<r4);((r5=true→(10:Int)≠(0:Int)∧(10:Int)≠(0:Int)∧((0:Int)≤u.tmod (10:Int)∧u.tmod (10:Int)≤r1∧r1≤(↑dg.size:Int))∧r3.size+s.size≤ai∧(10:Int)≠(0:Int)∧uW (w,sg,IntKind.u64.wrap (u.tdiv (10:Int)),dg,r3++s,())∧Jb (w,sg,IntKind.u64.wrap (u.tdiv (10:Int)),dg,r3++s,())<Jb (w,sg,u,dg,s,()))∧(r5=false→True))∧(bif r5 then qe (w,sg,IntKind.u64.wrap (u.tdiv (10:Int)),dg,r3++s,()) else (sg,s,()))=qe (w,sg,u,dg,s,()))
 intro r1 r2 r3 r4 r5
 clear_value (hr1:r1=_) (hr2:r2=_) (hr3:r3=_) (hr4:r4=_) (hr5:r5=_)
 obtain ⟨h1,⟨h2,h3⟩,h4,h5⟩:=hi
 have h1:w=1:=h1
 have h2:0≤u:=h2
 have h3:u≤1000000000000:=h3
 have h4:dg=tenB:=h4
 have h5 :(s.size:Int)+u≤2000000000000:=h5
 have et:u.tmod 10=u % 10:=Int.tmod_eq_emod_of_nonneg h2
 have ed:u.tdiv 10=u / 10:=Int.tdiv_eq_ediv_of_nonneg h2
 rw [ed]
 rw [et] at hr1 hr3 ⊢
 have e1:r1=u % 10+1:=by rw [hr1];exact wk (by omega) (by omega)
 have e2:r2=1:=by rw [hr2,h1];rfl
 have e4:r4=1:=by rw [hr4,e2];rfl
 have e3:r3=x3 (u % 10):=by rw [hr3,e1,h4];rfl
 have z3:=vJ (n:=u % 10) (by omega) (by omega)
 have zs :(r3++s).size=1+s.size:=by rw [ByteArray.size_append,e3,z3]
 have eW:IntKind.u64.wrap (u / 10)=u / 10:=wk (by omega) (by omega)
 have hL :(3000000000000:Nat)≤ai:=by decide
 have e5:r5 =(decide (u>0)||decide ((s.size:Int)<1)):=by rw [hr5,e4];cases decide (u>0) <;> rfl
 have hc:r5=true→u>0∨(s.size:Int)<1:=fun h=>by rw [e5] at h;simpa using h
 have z10 :(tenB.size:Int)=10:=rfl
 rw [eW]
 refine ⟨⟨fun h=>⟨by decide,by decide,⟨by omega,by omega,by rw [h4];omega⟩,by rw [e3,z3];omega,by decide,⟨h1,⟨by show 0≤u / 10;omega,by show u / 10≤1000000000000;omega⟩,h4,?_⟩,?_⟩,fun _=>trivial⟩,?_⟩
 ·show ((r3++s).size:Int)+u / 10≤2000000000000
  rw [zs]
  rcases hc h with h|h <;> omega
 ·show (u / 10).toNat +(if (r3++s).size=0 then 1 else 0)<u.toNat +(if s.size=0 then 1 else 0)
  rw [zs,if_neg (by omega)]
  rcases hc h with h|h
  ·omega
  ·rw [if_pos (by omega)];omega
 ·cases hb:r5 with
  | true=>
   show (sg,sA (u / 10) (r3++s),()) =(sg,sA u s,())
   rw [e3,JB h2 (e5▸hb)]
  | false=>
   rw [e5] at hb
   show (sg,s,()) =(sg,sA u s,())
   unfold sA
   rw [hb]
   rfl
noncomputable def NO:LoopSum:=az lpPt qe uW
noncomputable def Ns:Nat:=rid (bf Tryz.f121 0)
theorem O3:LoopOKp Tryz.prog 0 Tryz.f121.ntmps (bf Tryz.f121 0) (az lpPt qe uW):=
 aY lpPt (au (CtrsOK.nil) _) mixed (fun b hb S hS=>by cases hS) qe uW Jb (fun |⟨w,sg,u,dg,s,⟨⟩⟩,hi=>P8 w sg u dg s hi)
theorem Bn (n:Int) (w:Int) (hk:F2 n) (hw1:Pp w) :(evPat (ax [] Tryz.f121) (find [(Ns,NO)]) Tryz.f121 qTw AZ (n,w,())).sat fun z_=>z_ =(Kd (n,w,())).2:=by
 refine cast (by kernel_rfl) (?_:let r1:Bool:=decide (n <(0:Int));let r2:ByteArray:=bif r1 then ByteArray.mk #[45] else ByteArray.mk #[];let r3:Int:=bif r1 then IntKind.u64.wrap ((0:Int) - IntKind.u64.wrap n) else IntKind.u64.wrap n;let r4:ByteArray:=sA r3 (ByteArray.mk #[]);((ij fun x=>none)∧w =(1:Int)∧((0:Int)≤r3∧r3≤(1000000000000:Int))∧ByteArray.mk #[48,49,50,51,52,53,54,55,56,57]=tenB∧(↑(ByteArray.mk #[]).size:Int)+r3≤(2000000000000:Int))∧r2.size+r4.size≤ai∧(r2++r4,()) =(aZ n,()))
 intro r1 r2 r3 r4
 clear_value (hr1:r1=_) (hr2:r2=_) (hr3:r3=_) (hr4:r4=_)
 obtain ⟨k0,k1⟩:=hk
 have e1:r1=false:=by rw [hr1];exact decide_eq_false (by omega)
 have e2:r2=ByteArray.mk #[]:=by rw [hr2,e1];rfl
 have e3:r3=n:=by rw [hr3,e1];exact wk k0 (by omega)
 have hz:sA n ⟨#[]⟩=aZ n:=by
  unfold sA aZ
  rw [if_pos (Bool.or_eq_true_iff.2 (.inr (by decide))),Lib.itoa,if_neg (by omega)]
  simp [toB]
 have e4:r4=aZ n:=by rw [hr4,e3];exact hz
 have hl :(aZ n).size≤21:=by
  show (Lib.itoa n).toArray.size≤21
  rw [List.size_toArray]
  exact Lib.itoa_length_le n (by omega) (by omega)
 have hL :(500:Nat)≤ai:=by decide
 have z0 :(ByteArray.mk #[]).size=0:=rfl
 rw [e2,e3,e4,z0]
 exact ⟨⟨rfl,hw1,⟨k0,k1⟩,rfl,by omega⟩,by omega,congrArg (fun z=>(z,())) (wF (by simp [ByteArray.data_append]))⟩
def vn:FuncId×Ctr:=(121,ae KE qTw AZ Kd)
theorem CK:CtrOK Tryz.prog KE 121 (ae KE qTw AZ Kd):=by
 refine aE (C:=ax [] Tryz.f121) (au (CtrsOK.nil) _) mixed (fn:=Tryz.f121) Tryz.func121 (by kernel_rfl) (by kernel_rfl) (by kernel_rfl) (by kernel_rfl) (by kernel_rfl) (by kernel_rfl) (Λ:=fun x=>find [(Ns,NO)]) ?_ ?_
 ·rintro ⟨n,w,⟨⟩⟩ hw hn
  exact LoopsOKp.at (by kernel_rfl) (.cons (by kernel_rfl) (O3) .nil)
 ·rintro ⟨n,w,⟨⟩⟩ hw hn
  exact Bn n w (hn _ List.mem_cons_self) (hn _ (List.mem_cons_of_mem _ List.mem_cons_self))
theorem yi (n:Int) (hk:F2 n) :(evPat (ax [vn] Tryz.f71) (fun _=>none) Tryz.f71 qTn AZ (n,())).sat fun z_=>z_ =(J7 (n,())).2:=by
 refine cast (by kernel_rfl) (?_:F2 n∧Pp (1:Int)∧(aZ n,()) =(aZ n,()))
 exact ⟨hk,rfl,rfl⟩
def ke:FuncId×Ctr:=(71,ae KE qTn AZ J7)
theorem lx:CtrOK Tryz.prog KE 71 (ae KE qTn AZ J7):=by
 refine aE (C:=ax [vn] Tryz.f71) (au (.consU CK rfl .nil) _) mixed (fn:=Tryz.f71) Tryz.func71 (by kernel_rfl) (by kernel_rfl) (by kernel_rfl) (by kernel_rfl) (by kernel_rfl) (by kernel_rfl) (Λ:=fun _ _=>none) ?_ ?_
 ·exact fun _ _ _ _ _ _ _ _ h=>by cases h
 ·rintro ⟨n,⟨⟩⟩ hw hn
  exact yi n (hn _ List.mem_cons_self)
end Go.Proofs.YtffdpnmioidloaaGreatDoor
namespace Go.Proofs.YtffdpnmioidloaaGreatDoor
open Go Go.Mir Go.RowKit Go.Shelf
def zZ:Go.Shelf.Ren:=⟨fun|137=>108|217=>170|266=>214|n=>n,fun|9=>9|5=>5|3=>3|n=>n,fun|n=>n⟩
theorem Ep:Go.Proofs.Lays.n137 Tryz.prog zZ where
 mixed:=by kernel_rfl
 f137:=Tryz.func108.trans (congrArg some (by kernel_rfl))
 f217:=Tryz.func170.trans (congrArg some (by kernel_rfl))
 f266:=Tryz.func214.trans (congrArg some (by kernel_rfl))
 t3:=Tryz.underlying3
 a3:=Tryz.isAgg3
 z3:=Tryz.sizeOf3
 v3:=Tryz.zeroValue3
 t5:=Tryz.underlying5
 a5:=Tryz.isAgg5
 z5:=Tryz.sizeOf5
 v5:=Tryz.zeroValue5
 t9:=Tryz.underlying9
 a9:=Tryz.isAgg9
 z9:=Tryz.sizeOf9
 v9:=Tryz.zeroValue9
attribute [local go_sem] Oper.semAt_some
theorem Bx (s:ByteArray) (a i:Nat):toB ((s.data.toList.take i).drop a)=s.extract a i:=by
 apply ByteArray.ext
 apply Array.ext'
 show ((s.data.toList.take i).drop a)=_
 rw [Lib.extract_data]
 simp [Array.toList_extract,List.extract_eq_take_drop,List.drop_take]
def eK (l:List UInt8):Nat:=if 0≤Lib.indexByte l 10 then (Lib.indexByte l 10).toNat+1 else l.length
def ie:Nat→List UInt8→List (List UInt8)
 | 0,_=> []
 | k+1,l=>if l.isEmpty then [] else l.take (eK l)::ie k (l.drop (eK l))
def bh (s:ByteArray):List ByteArray:=(ie (s.size+1) s.data.toList).map toB
theorem oX {l:List UInt8} (h:l≠ []):1≤eK l:=by
 unfold eK
 split
 ·omega
 ·have:=List.length_pos_iff.2 h;omega
theorem pU :∀ (k k':Nat) (l:List UInt8),l.length<k→l.length<k'→ie k l=ie k' l
 | 0,_,_,h,_=>absurd h (Nat.not_lt_zero _)
 | _+1,0,_,_,h=>absurd h (Nat.not_lt_zero _)
 | k+1,k'+1,l,h1,h2=>by
  unfold ie
  split
  ·rfl
  ·rename_i hne
   have hne:l≠ []:=fun e=>hne (by rw [e];rfl)
   have:=oX hne
   have:=List.length_pos_iff.2 hne
   rw [pU k k' _ (by rw [List.length_drop];omega) (by rw [List.length_drop];omega)]
theorem mX {s:ByteArray} (h:s.size=0):bh s=[]:=by
 unfold bh
 have:s.data.toList=[]:=List.eq_nil_of_length_eq_zero (by rw [Array.length_toList];exact h)
 rw [this]
 rfl
theorem pS {s:ByteArray} (h:0<s.size):bh s=s.extract 0 (eK s.data.toList)::bh (s.extract (eK s.data.toList) s.size):=by
 have hl:s.data.toList.length=s.size:=by rw [Array.length_toList];rfl
 have hne:s.data.toList≠ []:=fun e=>by rw [e] at hl;simp at hl;omega
 have hp:=oX hne
 have e1:toB (s.data.toList.take (eK s.data.toList))=s.extract 0 (eK s.data.toList):=by rw [←Bx];rfl
 have e2 :(s.extract (eK s.data.toList) s.size).data.toList=s.data.toList.drop (eK s.data.toList):=by
  rw [←Bx]
  show (s.data.toList.take s.size).drop _=_
  rw [List.take_of_length_le (by omega)]
 have z2 :(s.extract (eK s.data.toList) s.size).size=s.size - eK s.data.toList:=by rw [ByteArray.size_extract];omega
 unfold bh
 rw [e2]
 conv=>lhs;unfold ie
 rw [if_neg (by simpa using hne)]
 rw [List.map_cons,e1,z2]
 rw [pU s.size (s.size - eK s.data.toList+1) _ (by rw [List.length_drop];omega) (by rw [List.length_drop];omega)]
end Go.Proofs.YtffdpnmioidloaaGreatDoor
namespace Go.Proofs.YtffdpnmioidloaaGreatDoor
open Go Go.Mir Go.RowKit Go.Shelf
attribute [local go_sem] Oper.semAt_some
def wD (bx:Nat) (w:World):Nat:=match w.cell? ⟨bx,0,none⟩ with|some (.string z)=>z.size|_=>0
theorem GO {n:Int} (h0:0≤n) (h1:n≤2000000):RowKit.wrap64 n=n:=by
 unfold RowKit.wrap64
 omega
set_option maxRecDepth 100000 in
set_option maxHeartbeats 2000000 in
theorem IR (n l bx:Nat) (s0:ByteArray) (hs0:s0.size≤1000000) (J Jx:List ByteArray→World→Prop)
  (hsetJ :∀ pre W v,J pre W→J pre (W.setCell ⟨bx,0,none⟩ v)) (hdrw :∀ pre (W:World),J pre W→J pre { W with drawn:=W.drawn+1 })
  (hY :∀ pre x W,J pre W→x.size≤s0.size→(pre++[x]) <+: bh s0→YieldAt Fence.wide (n - 1) Tryz.prog l #[.string x] W fun e W'=>
   (e = .returned (.bool true)∧J (pre++[x]) W'∧W'.cell? ⟨bx,0,none⟩=W.cell? ⟨bx,0,none⟩∧W'.frozen? ⟨bx,0,none⟩=W.frozen? ⟨bx,0,none⟩)∨(e = .returned (.bool false)∧Jx (pre++[x]) W'))
  (W:World) (hb:W.cell? ⟨bx,0,none⟩=some (.string s0)) (hf:W.frozen? ⟨bx,0,none⟩=false) (h0:J [] W) :
  CallsIn Fence.wide n Tryz.prog 107 #[.func (.yield l) #[] #[],.pointer (some ⟨bx,0,none⟩)] W fun e W'=>(∃ v,e = .returned v)∧(J (bh s0) W'∨∃ pre,pre <+: bh s0∧Jx pre W'):=by
 refine callsIn_of_wp Tryz.func107 rfl trivial ?_ rfl
 simp only [Tryz.ntmps107,List.size_toArray,List.length_cons,List.length_nil,Nat.reduceAdd,Nat.reduceSub,Array.replicate_succ,Array.replicate_zero,List.push_toArray,List.append_toArray,List.nil_append,List.cons_append]
 gi_wp2
 gi_loopw [3] (fun _ wr=>∃ (pre:List ByteArray) (z:ByteArray),wr.cell? ⟨bx,0,none⟩=some (.string z)∧wr.frozen? ⟨bx,0,none⟩=false∧z.size≤s0.size∧bh s0=pre++bh z∧J pre wr)
  (fun _ wr=>wD bx wr)
 case atStart=>
  exact ⟨[],s0,hb,hf,Nat.le_refl _,rfl,h0⟩
 case round=>
  obtain ⟨pre,z,hc,hfr,hz,hl,hJs⟩:=hrel
  have hidx:=Any.strings_IndexByte Ep z 10
  have mixed0:=mixed
  by_cases hz0:0<z.size
  ·have hzl :(z.size:Int)≤1000000:=by omega
   by_cases hi:0≤Lib.indexByte z.data.toList 10
   ·obtain ⟨i,hi'⟩ :∃ i:Nat,Lib.indexByte z.data.toList 10=i:=⟨(Lib.indexByte z.data.toList 10).toNat,by omega⟩
    have hlt:i<z.size:=by
     obtain ⟨h1,_⟩:=List.getElem?_eq_some_iff.1 (Lib.indexByte_some hi').1
     rw [Array.length_toList] at h1
     exact h1
    have hW:RowKit.wrap64 ((i:Int)+1) =(i:Int)+1:=GO (by omega) (by omega)
    have hidx :∀ w,Calls Tryz.prog 108 #[.string z,.int .u8 10] w fun e w'=>e = .returned (.int .i64 i)∧w'=w:=fun w=>by
     have:=hidx w
     rw [show ((10:Int).toNat.toUInt8)=10 from rfl,hi'] at this
     exact this
    have hb1 :(0:Int)≤(i:Int)+1:=by omega
    have hb2 :(i:Int)+1≤(z.size:Int):=by omega
    have hnn :(0:Int)≤(i:Int):=by omega
    gi_wp2_with (first |(refine ⟨trivial,fun h=>absurd h (by simp [Fence.wide]),?_⟩;gi_at_call 108;refine (callsIn_wide.2 (hidx _)).mono ?_;rintro e w' ⟨rfl,rfl⟩))
    gi_region
    have hJ1:J pre ((w'.setCell ⟨bx,0,none⟩ (.string (z.extract (i+1) z.size))).drew):=hdrw _ _ (hsetJ _ _ _ hJs)
    have hc1 :((w'.setCell ⟨bx,0,none⟩ (.string (z.extract (i+1) z.size))).drew).cell? ⟨bx,0,none⟩=some (.string (z.extract (i+1) z.size)):=World.cell?_setCell_same' _ _ _ (by rw [hc];rfl)
    have hf1 :((w'.setCell ⟨bx,0,none⟩ (.string (z.extract (i+1) z.size))).drew).frozen? ⟨bx,0,none⟩=false:=(World.frozen?_setCell ..).trans hfr
    have hN:eK z.data.toList=i+1:=by unfold eK;rw [hi',if_pos (by omega)];omega
    have hL:bh z=z.extract 0 (i+1)::bh (z.extract (i+1) z.size):=by rw [pS hz0,hN]
    obtain ⟨fn,tmps,assign,body,hy,hR⟩:=hY pre (z.extract 0 (i+1)) _ hJ1 (by rw [ByteArray.size_extract];omega) ⟨bh (z.extract (i+1) z.size),by rw [hl,hL];simp⟩
    gi_wp2
    refine ⟨fun h=>absurd h (by simp [Fence.wide]),hR.mono ?_⟩
    rintro e W3 (⟨rfl,hJ3,hc3,hf3⟩ |⟨rfl,hJx3⟩)
    ·gi_wp2
     go_roundw
     case rel=>exact ⟨pre++[z.extract 0 (i+1)],z.extract (i+1) z.size,hc3.trans hc1,hf3.trans hf1,by rw [ByteArray.size_extract];omega,by rw [hl,hL];simp,hJ3⟩
     case measure=>
      unfold wD
      rw [hc3,hc1,hc]
      simp only [ByteArray.size_extract]
      omega
    ·gi_wp2
     refine bodyPost_ret (results_none rfl _ _ _) rfl ?_
     exact ⟨⟨_,rfl⟩,.inr ⟨_,⟨bh (z.extract (i+1) z.size),by rw [hl,hL];simp⟩,hJx3⟩⟩
   ·have hi':Lib.indexByte z.data.toList 10 = -1:=by have:=Lib.indexByte_ge z.data.toList 10;omega
    have hidx :∀ w,Calls Tryz.prog 108 #[.string z,.int .u8 10] w fun e w'=>e = .returned (.int .i64 (-1))∧w'=w:=fun w=>by
     have:=hidx w
     rw [show ((10:Int).toNat.toUInt8)=10 from rfl,hi'] at this
     exact this
    have hN:eK z.data.toList=z.data.toList.length:=by unfold eK;rw [hi',if_neg (by omega)]
    have hzz:z.data.toList.length=z.size:=by rw [Array.length_toList];rfl
    have hL:bh z=[z]:=by
     rw [pS hz0,hN,hzz,mX (by rw [ByteArray.size_extract];omega)]
     rw [ByteArray.extract_zero_size]
    have hJ1 :∀ wr,J pre wr→J pre (wr.setCell ⟨bx,0,none⟩ (.string ⟨#[]⟩)):=fun wr h=>hsetJ _ _ _ h
    gi_wp2_with (first |(refine ⟨trivial,fun h=>absurd h (by simp [Fence.wide]),?_⟩;gi_at_call 108;refine (callsIn_wide.2 (hidx _)).mono ?_;rintro e w' ⟨rfl,rfl⟩))
    have hc1 :(w'.setCell ⟨bx,0,none⟩ (.string ⟨#[]⟩)).cell? ⟨bx,0,none⟩=some (.string ⟨#[]⟩):=World.cell?_setCell_same' _ _ _ (by rw [hc];rfl)
    have hf1 :(w'.setCell ⟨bx,0,none⟩ (.string ⟨#[]⟩)).frozen? ⟨bx,0,none⟩=false:=(World.frozen?_setCell ..).trans hfr
    obtain ⟨fn,tmps,assign,body,hy,hR⟩:=hY pre z _ (hJ1 _ hJs) hz ⟨[],by rw [hl,hL];simp⟩
    rw [hy]
    refine ⟨fun h=>absurd h (by simp [Fence.wide]),hR.mono ?_⟩
    rintro e W3 (⟨rfl,hJ3,hc3,hf3⟩ |⟨rfl,hJx3⟩)
    ·gi_wp2
     go_roundw
     case rel=>exact ⟨pre++[z],⟨#[]⟩,hc3.trans hc1,hf3.trans hf1,Nat.zero_le _,by rw [hl,hL,mX rfl];simp,hJ3⟩
     case measure=>
      unfold wD
      rw [hc3,hc1,hc]
      exact hz0
    ·gi_wp2
     refine bodyPost_ret (results_none rfl _ _ _) rfl ?_
     exact ⟨⟨_,rfl⟩,.inr ⟨_,⟨[],by rw [hl,hL];simp⟩,hJx3⟩⟩
  ·gi_wp2
   go_end0
   exact ⟨⟨_,rfl⟩,.inl (by rw [hl,mX (by omega),List.append_nil];exact hJs)⟩
end Go.Proofs.YtffdpnmioidloaaGreatDoor
namespace Go.Mir
open Go.RowKit
variable {P:Program}
abbrev RF (l:Nat):Fence:=Fence.wide.inRound l
def pC (Q:Exit→Act→World→Prop):Prop:=¬ LetsOut Q
theorem sa {K:Act→World→Prop} {Q:Exit→Act→World→Prop} (h:pC Q):pC (Exit.then K Q):=fun ⟨a,w,z⟩=>h ⟨a,w,z⟩
theorem Au {id:Nat} {Q:Exit→Act→World→Prop} (h:pC Q):pC (Exit.inBlock id Q):=fun ⟨a,w,z⟩=>h ⟨a,w,z⟩
theorem Mw {l n:Nat} {row:String} {args:Array Value} {w:World} {R:Value→World→Prop} (h:Rows P row args w R):RowsIn (RF l) n P row args w R:=
 fun c cs _=>let ⟨v,w',r,s⟩:=h c cs;⟨v,w',r,stepsIn_wide.2 s⟩
theorem Hj {l n:Nat} {f:FuncId} {args:Array Value} {w:World} {R:Ending→World→Prop} (h:Calls P f args w R):CallsIn (RF l) n P f args w R:=
 CallsIn.inRound l (callsIn_wide.2 h)
theorem Fb {l n:Nat} {o:Oper} (hd :∀ c,o.op≠ .defer c) {a:Act} {w:World} {next next':Act→World→Prop} {Q:Exit→Act→World→Prop}
  (hn :∀ a w,next a w→next' a w) (h:o.wp P a w next Q):o.wpIn (RF l) n P a w next' Q:=by
 refine ⟨fun _ _=>trivial,?_⟩
 have e:o.semAt (RF l).round a.eval=execOp a.eval o:=Oper.semAt_some l _ o hd
 rw [e]
 unfold Oper.wp at h
 cases hr :(execOp a.eval o).run P w with
 | ok r w'=>
  rw [hr] at h
  cases r with
  | value v=>exact hn _ _ h
  | skip=>exact hn _ _ h
  | defer d=>exact hn _ _ h
  | enter f args=>
   have h:Calls P f args w' _:=h
   refine ⟨fun hz=>(by cases hz),(Hj h).mono fun e w'' q=>?_⟩
   cases e with
   | returned v=>exact hn _ _ q
   | panicked ch=>exact q
   | outgrown=>exact q
  | row r args=>exact ⟨fun hz=>(by cases hz),(Mw h).mono fun v w'' q=>hn _ _ q⟩
  | _=>exact False.elim h
 | halt r w'=>
  rw [hr] at h
  cases r <;> first|exact h|exact False.elim h
def vA (ops:List Oper):Bool:=ops.all fun o=>match o.op with | .defer _=>false|_=>true
theorem Ar {ops:List Oper} (h:vA ops=true) {o:Oper} (ho:o∈ops) :∀ c,o.op≠ .defer c:=fun c e=>by
 have:=List.all_eq_true.1 h o ho
 rw [e] at this
 cases this
theorem xM {l n:Nat} {ops:Array Oper} {Q:Exit→Act→World→Prop} (hQ:pC Q) :∀ (rest:List Oper),vA rest=true→∀ a w,wpList P ops Q rest a w→wpListIn (RF l) n P ops Q rest a w
 | [],_,a,w,h=>h
 | o::rest,hd,a,w,h=>by
  have hr:vA rest=true:=by unfold vA at hd ⊢;rw [List.all_cons,Bool.and_eq_true] at hd;exact hd.2
  unfold wpList at h
  unfold wpListIn
  split
  ·rename_i hw
   rw [if_pos hw] at h
   rcases h with h|h
   ·exact Fb (Ar hd List.mem_cons_self) (fun a w q=>xM hQ rest hr a w q) h
   ·exact absurd h.2 hQ
  ·rename_i hw
   rw [if_neg hw] at h
   exact ⟨fun _ _=>trivial,xM hQ rest hr _ _ h⟩
theorem wC {l n:Nat} {md:Region.Mode} {ops:Array Oper} {Q:Exit→Act→World→Prop} (hQ:pC Q) (hd:vA ops.toList=true) :∀ (fuel:Nat) (listed:Array Bool) (a:Act) (w:World),wpAny P md ops Q fuel listed a w→wpAnyIn (RF l) n P md ops Q fuel listed a w
 | 0,_,_,_,h=>h
 | fuel+1,listed,a,w,h=>by
  refine ⟨h.1,fun i hi=>?_⟩
  have h2:=h.2 i hi
  unfold wpOp at h2
  unfold wpOpIn
  split
  ·rename_i e
   rw [e] at h2
   exact wC hQ hd fuel _ _ _ h2
  ·rename_i o e
   rw [e] at h2
   simp only at h2
   have ho:o∈ops.toList:=Array.mem_toList_iff.2 (Array.mem_of_getElem? e)
   split
   ·rename_i hw
    rw [if_pos hw] at h2
    rcases h2 with h2|h2
    ·exact Fb (Ar hd ho) (fun a w q=>wC hQ hd fuel _ _ _ q) h2
    ·exact absurd h2.2 hQ
   ·rename_i hw
    rw [if_neg hw] at h2
    exact ⟨fun _ _=>trivial,wC hQ hd fuel _ _ _ h2⟩
def fk:Code→Bool
 | .region _ ops _=>vA ops.toList
 | .seq a b=>fk a&&fk b
 | .cond _ a b=>fk a&&fk b
 | .block _ b=>fk b
 | .loop b=>fk b
 | _=>true
end Go.Mir
namespace Go.Mir
open Go.RowKit
variable {P:Program}
def Stb (D L bx:Nat) (I:World→Prop):Prop:=∀ W W',I W→Keeps W (fun b=>b=bx∨b=D∨b=L) W'→I W'
def DG (D L bx:Nat) (W W':World):Prop:=W'.heap[bx]?=W.heap[bx]?∧W'.heap[D]?=W.heap[D]?∧W'.heap[L]?=W.heap[L]?
def OQ (D L bx:Nat) (I:World→Prop) (Ix:Code→World→Prop) (W:World):Exit→Act→World→Prop
 | .normal,_,W'=>DG D L bx W W'∧I W'
 | .ret,_,W'=>DG D L bx W W'∧Ix .ret W'
 | .exit id,_,W'=>DG D L bx W W'∧Ix (.exit id) W'
 | _,_,_=>False
def wx (P:Program) (gf bx:Nat) (s0:ByteArray) (LB:List ByteArray):Prop:=
 ∀ (n l:Nat) (J Jx:List ByteArray→World→Prop),
  (∀ pre W v,J pre W→J pre (W.setCell ⟨bx,0,none⟩ v))→(∀ pre (W:World),J pre W→J pre { W with drawn:=W.drawn+1 })→
  (∀ pre x W,J pre W→x.size≤s0.size→(pre++[x]) <+: LB→YieldAt Fence.wide (n - 1) P l #[.string x] W fun e W'=>
   (e = .returned (.bool true)∧J (pre++[x]) W'∧W'.cell? ⟨bx,0,none⟩=W.cell? ⟨bx,0,none⟩∧W'.frozen? ⟨bx,0,none⟩=W.frozen? ⟨bx,0,none⟩)∨(e = .returned (.bool false)∧Jx (pre++[x]) W'))→
  ∀ W:World,W.cell? ⟨bx,0,none⟩=some (.string s0)→W.frozen? ⟨bx,0,none⟩=false→J [] W→
  CallsIn Fence.wide n P gf #[.func (.yield l) #[] #[],.pointer (some ⟨bx,0,none⟩)] W fun e W'=>(∃ v,e = .returned v)∧(J LB W'∨∃ pre,pre <+: LB∧Jx pre W')
theorem vb (W:World) {l:Nat} (o:Obj) {F:Nat→Prop} (hF:F l):Keeps W F (W.putObj l o):=
 ⟨rfl,rfl,rfl,by simp [World.putObj],fun b _ hb=>by
  show (W.putObj l o).heap[b]?=_
  exact World.putObj_heap_other (fun e=>hb (by rw [e];exact hF))⟩
theorem FW (W:World) {bx:Nat} (v:Value) {F:Nat→Prop} (hF:F bx):Keeps W F (W.setCell ⟨bx,0,none⟩ v):=
 ⟨rfl,rfl,rfl,by simp,fun b _ hb=>Below.heap_setCell _ _ _ _ (fun e=>hb (by rw [e];exact hF))⟩
theorem uu {W W':World} {b:Nat} (h:W'.heap[b]?=W.heap[b]?):W'.cell? ⟨b,0,none⟩=W.cell? ⟨b,0,none⟩∧W'.frozen? ⟨b,0,none⟩=W.frozen? ⟨b,0,none⟩:=by
 unfold World.cell? World.frozen?
 simp only [h,and_self]
theorem KM {g:Operand} {ps:Array Tmp} {assign body:Code} {Q:Exit→Act→World→Prop} {a:Act} {w:World} {gf bx:Nat} {s0:ByteArray} {LB:List ByteArray}
  (hg:a.eval g = .func (.func gf) #[] #[.pointer (some ⟨bx,0,none⟩)]) (eg :∀ args w,(callFunc gf args).run P w = .ok (.enter gf args) w) (hps:ps.size=1)
  (hit:wx P gf bx s0 LB) (hb:w.cell? ⟨bx,0,none⟩=some (.string s0)) (hf:w.frozen? ⟨bx,0,none⟩=false)
  (I:List ByteArray→World→Prop) (Ix:List ByteArray→Code→World→Prop) (hI :∀ pre,Stb w.heap.size (w.heap.size+1) bx (I pre)) (hIx :∀ pre c,Stb w.heap.size (w.heap.size+1) bx (Ix pre c)) (h0:I [] w)
  (hround :∀ pre x W,I pre W→x.size≤s0.size→(pre++[x]) <+: LB→w.heap.size+1<W.heap.size→
   assign.wpIn (RF (w.heap.size+1)) 0 P (Exit.then (fun a' W'=>W'=W∧∀ Wb,Wb.heap.size=W.heap.size→I pre Wb→body.wpIn (RF (w.heap.size+1)) 0 P (OQ w.heap.size (w.heap.size+1) bx (I (pre++[x])) (Ix (pre++[x])) Wb) a' Wb) (fun _ _ _=>False))
    { tmps:=(ps.zip #[.string x]).foldl (fun t (p,v)=>t.setIfInBounds p v) a.tmps,defers:= [] } W)
  (hdone :∀ W,I LB W→W.heap[w.heap.size]?=some (.deferred (some []))→w.heap.size<W.heap.size→Q .normal { a with defers:={ target:= .collected w.heap.size,args:=#[] }::a.defers } W)
  (hstop :∀ pre c W,pre <+: LB→Ix pre c W→W.heap[w.heap.size]?=some (.deferred (some []))→w.heap.size<W.heap.size→c.wp P Q { a with defers:={ target:= .collected w.heap.size,args:=#[] }::a.defers } W) :
  (Code.rangeFunc g ps assign body).wp P Q a w:=by
 have hbx:bx<w.heap.size:=by
  rcases Nat.lt_or_ge bx w.heap.size with h|h
  ·exact h
  ·rw [World.cell?,Array.getElem?_eq_none h] at hb;cases hb
 refine (wpIn_wide (n:=0)).1 (wpIn_rangeFunc ?_)
 intro fn hfn
 rw [Fence.wide_round]
 obtain ⟨rec,hrec⟩ :∃ rec:LoopState→Option Code→Loop,rec=fun st pe=>{ state:=st,pending:=pe,fn,tmps:=a.tmps,params:=ps,assign,body,defers:=w.heap.size }:=⟨_,rfl⟩
 obtain ⟨W1,hW1⟩ :∃ W1,(w.alloc (.deferred (some []))).alloc (.loop (rec .ready none))=W1:=⟨_,rfl⟩
 have hL1:W1.heap[w.heap.size+1]?=some (.loop (rec .ready none)):=by
  rw [←hW1];have:=World.alloc_heap_new (w.alloc (.deferred (some []))) (.loop (rec .ready none));rwa [World.size_alloc] at this
 have hK1:W1.heap[w.heap.size]?=some (.deferred (some [])):=by
  rw [←hW1];exact (Below.heap_alloc _ _ _ (by simp)).trans (World.alloc_heap_new w _)
 have hkw :∀ F:Nat→Prop,Keeps w F W1:=fun F=>by
  rw [←hW1]
  exact ⟨rfl,rfl,rfl,by simp;omega,fun b hb' _=>(Below.heap_alloc _ _ _ (by simp;omega)).trans (Below.heap_alloc w _ _ hb')⟩
 have hI1:I [] W1:=hI _ _ _ h0 (hkw _)
 have hbW:W1.heap[bx]?=w.heap[bx]?:=(hkw fun _=>False).block bx hbx (fun h=>h)
 have hb1:=uu hbW
 refine ⟨w.heap.size+1,[{ target:= .collected w.heap.size,args:=#[] }],W1,{ target:= .fn (.func gf) #[.pointer (some ⟨bx,0,none⟩)],args:=#[.func (.yield (w.heap.size+1)) #[] #[]] },W1,gf,
  #[.func (.yield (w.heap.size+1)) #[] #[],.pointer (some ⟨bx,0,none⟩)],W1,?_,?_,?_,?_,fun h=>(by cases h),?_⟩
 ·rw [←hW1,hrec];exact run_enterLoop_outer _ _ _ _ _
 ·simp only [resolve,hg]
  simp [go_sem]
 ·intro f' _;exact trivial
 ·simp [invoke,go_sem,eg]
 ·have hput :∀ {W:World} {o:Obj} {pre:List ByteArray},I pre W→I pre (W.putObj (w.heap.size+1) o):=fun h=>hI _ _ _ h (vb _ _ (.inr (.inr rfl)))
  have hputx :∀ {W:World} {o:Obj} {c:Code} {pre:List ByteArray},Ix pre c W→Ix pre c (W.putObj (w.heap.size+1) o):=fun h=>hIx _ _ _ _ h (vb _ _ (.inr (.inr rfl)))
  refine (hit 0 (w.heap.size+1)
   (fun pre W=>I pre W∧W.heap[w.heap.size+1]?=some (.loop (rec .ready none))∧W.heap[w.heap.size]?=some (.deferred (some [])))
   (fun pre W=>∃ c,Ix pre c W∧W.heap[w.heap.size+1]?=some (.loop (rec .done (some c)))∧W.heap[w.heap.size]?=some (.deferred (some [])))
   (fun pre W v h=>⟨hI _ _ _ h.1 (FW W v (.inl rfl)),(Below.heap_setCell _ _ _ _ (by simp only;omega)).trans h.2.1,(Below.heap_setCell _ _ _ _ (by simp only;omega)).trans h.2.2⟩)
   (fun pre W h=>⟨hI _ _ _ h.1 ⟨rfl,rfl,rfl,Nat.le_refl _,fun _ _ _=>rfl⟩,h.2⟩)
   ?_ W1 (hb1.1.trans hb) (hb1.2.trans hf) ⟨hI1,hL1,hK1⟩).mono ?_
  ·rintro pre x W ⟨hi,hl,hk⟩ hx hpx
   have hlt:w.heap.size+1<W.heap.size:=(Array.getElem?_eq_some_iff.1 hl).1
   have hy:=run_yield (P:=P) (args:=#[.string x]) hl (by rw [hrec];simp [hps])
   rw [hrec] at hy
   refine ⟨fn,_,assign,body,hy,roundIn_of_wpIn hfn (wpIn_mono (hround pre x W hi hx hpx hlt) ?_)⟩
   clear hy
   rintro e a' W' hp
   cases e with
   | normal=>
    obtain ⟨rfl,hbody⟩:=hp
    refine ⟨_,run_beginRound hl (by rw [hrec]),?_⟩
    have hl2 :(W'.putObj (w.heap.size+1) (.loop { rec .ready none with state:= .busy })).heap[w.heap.size+1]?=some (.loop { rec .ready none with state:= .busy }):=World.putObj_heap_same hlt
    have hk2 :(W'.putObj (w.heap.size+1) (.loop { rec .ready none with state:= .busy })).heap[w.heap.size]?=some (.deferred (some [])):=(World.putObj_heap_other (by omega)).trans hk
    have hx2 :(W'.putObj (w.heap.size+1) (.loop { rec .ready none with state:= .busy })).heap[bx]?=W'.heap[bx]?:=World.putObj_heap_other (by omega)
    refine wpIn_mono (hbody _ (by simp [World.putObj]) (hput hi)) ?_
    have fin :∀ (jump:Option Code) (W3:World),DG w.heap.size (w.heap.size+1) bx (W'.putObj (w.heap.size+1) (.loop { rec .ready none with state:= .busy })) W3→
      (Instr.endRound (w.heap.size+1) jump).run P W3 = .ok (.bool jump.isNone) (W3.putObj (w.heap.size+1) (.loop (rec (if jump.isNone then .ready else .done) jump)))∧
      (W3.putObj (w.heap.size+1) (.loop (rec (if jump.isNone then .ready else .done) jump))).heap[w.heap.size+1]?=some (.loop (rec (if jump.isNone then .ready else .done) jump))∧
      (W3.putObj (w.heap.size+1) (.loop (rec (if jump.isNone then .ready else .done) jump))).heap[w.heap.size]?=some (.deferred (some []))∧
      (W3.putObj (w.heap.size+1) (.loop (rec (if jump.isNone then .ready else .done) jump))).heap[bx]?=W'.heap[bx]?:=fun jump W3 hs3=>by
     obtain ⟨s1,s2,s3⟩:=hs3
     have hl3:=s3.trans hl2
     have:=run_endRound (P:=P) jump hl3
     rw [hrec] at this hl3 ⊢
     exact ⟨this,World.putObj_heap_same (Array.getElem?_eq_some_iff.1 hl3).1,(World.putObj_heap_other (by omega)).trans (s2.trans hk2),(World.putObj_heap_other (by omega)).trans (s1.trans hx2)⟩
    rintro e a3 W3 hp
    cases e with
    | normal=>
     obtain ⟨hs3,hi3⟩:=hp
     obtain ⟨hr,hl4,hk4,hx4⟩:=fin none W3 hs3
     have hc4:=uu hx4
     exact ⟨_,_,hr,.inl ⟨rfl,⟨hput hi3,hl4,hk4⟩,hc4.1,hc4.2⟩⟩
    | ret=>
     obtain ⟨hs3,hi3⟩:=hp
     obtain ⟨hr,hl4,hk4,_⟩:=fin (some .ret) W3 hs3
     exact ⟨_,_,hr,.inr ⟨rfl,.ret,hputx hi3,hl4,hk4⟩⟩
    | exit id=>
     obtain ⟨hs3,hi3⟩:=hp
     obtain ⟨hr,hl4,hk4,_⟩:=fin (some (.exit id)) W3 hs3
     exact ⟨_,_,hr,.inr ⟨rfl,.exit id,hputx hi3,hl4,hk4⟩⟩
    | goto t=>exact hp.elim
    | panic ch=>exact hp.elim
    | outgrown=>exact hp.elim
   | ret=>exact hp.elim
   | exit id=>exact hp.elim
   | goto t=>exact hp.elim
   | panic ch=>exact hp.elim
   | outgrown=>exact hp.elim
  ·rintro e W2 ⟨⟨v,rfl⟩,(⟨hi,hl,hk⟩ |⟨pre,hpre,c,hi,hl,hk⟩)⟩
   ·have hlt:=(Array.getElem?_eq_some_iff.1 hl).1
    exact ⟨none,_,by have:=run_endLoop (P:=P) hl (by rw [hrec];simp);rw [hrec] at this;exact this,hdone _ (hput hi) ((World.putObj_heap_other (by omega)).trans hk) (by simp [World.putObj];omega)⟩
   ·have hlt:=(Array.getElem?_eq_some_iff.1 hl).1
    exact ⟨some c,_,by have:=run_endLoop (P:=P) hl (by rw [hrec];simp);rw [hrec] at this;exact this,wpIn_wide.2 (hstop pre c _ hpre (hputx hi) ((World.putObj_heap_other (by omega)).trans hk) (by simp [World.putObj];omega))⟩
end Go.Mir
namespace Go.Mir
open Go.RowKit
variable {P:Program}
def Nmd (E:Env) (b:Nat):Prop:=∃ h k,E.H h=some k∧Tch E h k b
theorem QN {B:Base} {E:Env} (hE:HRel B E) (w':World) (h1:w'.os=E.w.os) (h2:w'.tape=E.w.tape) (h3:w'.output=E.w.output) (h4:E.w.heap.size≤w'.heap.size)
  (hS :∀ b,E.S b→w'.heap[b]?=E.w.heap[b]?) (hN :∀ b,Nmd E b→w'.heap[b]?=E.w.heap[b]?) (h0 :∀ b,b<B.w0.heap.size→¬ B.F b→w'.heap[b]?=E.w.heap[b]?) :
  HRel B { E with w:=w' }∧Ext E { E with w:=w' }:=by
 have X:Ext E { E with w:=w' }:=
  ⟨fun _ h=>h,fun _ h=>h,fun b h=>hS b h,fun h cs _ hx=>⟨⟨cs,hx⟩,rfl⟩,fun h ver rw t xs _ _ hx=>⟨rw,xs,hx,rfl,rfl,fun b c T fr hr hw=>⟨c,T,fr,(hN b ⟨h,_,hx,.inl hr⟩).trans hw,rfl⟩⟩,
   fun h ver esz cs _ _ hx=>⟨cs,hx,rfl,rfl,fun b c T fr hr hw=>⟨c,T,fr,(hN b ⟨h,_,hx,.inl hr⟩).trans hw,rfl⟩⟩,fun h es _ hx=>⟨⟨es,hx⟩,rfl⟩,fun h k t x _ hx=>⟨⟨x,hx⟩,rfl⟩⟩
 have tm :∀ {h k b},E.H h=some k→Tch { E with w:=w' } h k b→Tch E h k b:=fun hx ht=>Tch.mv (E:=E) (E':={ E with w:=w' }) rfl (fun b hb'=>hN b ⟨_,_,hx,.inl hb'⟩) ht
 refine ⟨⟨hE.used,fun b h=>Nat.lt_of_lt_of_le (hE.stab b h) h4,fun h k b a1 a2=>Nat.lt_of_lt_of_le (hE.lt' h k b a1 (tm a1 a2)) h4,fun h h' k k' b a1 a2 a3 a4=>hE.inj' h h' k k' b a1 a2 (tm a1 a3) (tm a2 a4),fun h k a1=>bu X rfl (fun b hb'=>hN b ⟨h,k,a1,hb'⟩) (fun _ _ _ h=>h) (hE.blk h k a1),?_,fun h k b a1 a2=>hE.own' h k b a1 (tm a1 a2),hE.s0,hE.sb⟩,X⟩
 exact ⟨h1.trans hE.keeps.os,h2.trans hE.keeps.tape,h3.trans hE.keeps.output,Nat.le_trans hE.keeps.size h4,fun b hb hF=>(h0 b hb hF).trans (hE.keeps.block b hb hF)⟩
def reb (B:Base) (E:Env) (g:jT E.w (Nmd E)) (ds:List Deferred):Base:=⟨E.w,Nmd E,E.S,B.G,B.clo,g,ds⟩
theorem cH {B:Base} {E:Env} (hE:HRel B E):jT E.w (Nmd E):=hE.glob fun _ h=>h
theorem C5 {B:Base} {E:Env} (hE:HRel B E) (ds:List Deferred):HRel (reb B E (cH hE) ds) E:=
 ⟨hE.used,hE.stab,hE.lt',hE.inj',hE.blk,Keeps.refl _ _,fun h k b a1 a2=> .inl ⟨h,k,a1,a2⟩,fun _ h=>h,fun _ h=> .inl h⟩
theorem A1 {B:Base} {E:Env} {g:jT E.w (Nmd E)} {ds:List Deferred} {p:Nat} (h:B.pins p) :(reb B E g ds).pins p:=h
theorem pg {B:Base} {E:Env} (hE:HRel B E) {b:Nat} (h:Nmd E b):B.F b∨B.w0.heap.size≤b:=by
 obtain ⟨n,k,h1,h2⟩:=h
 exact hE.own' n k b h1 h2
theorem yd {B:Base} {E E3:Env} (hE:HRel B E) {ds:List Deferred} (h3:HRel (reb B E (cH hE) ds) E3):HRel B E3:=by
 have hk:=h3.keeps
 refine ⟨h3.used,h3.stab,h3.lt',h3.inj',h3.blk,⟨hk.os.trans hE.keeps.os,hk.tape.trans hE.keeps.tape,hk.output.trans hE.keeps.output,Nat.le_trans hE.keeps.size hk.size,fun b hb hF=>?_⟩,fun h k b a1 a2=>?_,fun b hb=>h3.s0 b (hE.s0 b hb),fun b hb=>?_⟩
 ·refine (hk.block b (Nat.lt_of_lt_of_le hb hE.keeps.size) (fun hn=>?_)).trans (hE.keeps.block b hb hF)
  rcases pg hE hn with h|h
  ·exact hF h
  ·omega
 ·rcases h3.own' h k b a1 a2 with h|h
  ·exact pg hE h
  ·exact .inr (Nat.le_trans hE.keeps.size h)
 ·rcases h3.sb b hb with h|h|h
  ·exact hE.sb b h
  ·exact .inr (pg hE h)
  ·exact .inr (.inr (Nat.le_trans hE.keeps.size h))
theorem yc {B:Base} {E E3:Env} (hE:HRel B E) {ds:List Deferred} (h3:HRel (reb B E (cH hE) ds) E3) {b:Nat} (hb:b<E.w.heap.size) (hn :¬ Nmd E b) :
  E3.w.heap[b]?=E.w.heap[b]?∧¬ Nmd E3 b∧(¬ E.S b→¬ E3.S b):=by
 refine ⟨h3.keeps.block b hb hn,fun ⟨n,k,a1,a2⟩=>?_,fun hs h=>?_⟩
 ·rcases h3.own' n k b a1 a2 with h|h
  ·exact hn h
  ·have h:E.w.heap.size≤b:=h
   omega
 ·rcases h3.sb b h with h|h|h
  ·exact hs h
  ·exact hn h
  ·have h:E.w.heap.size≤b:=h
   omega
end Go.Mir
namespace Go.Mir
open Go.RowKit
variable {P:Program}
def DF (P:Program) (N:Nat) (B:Base) (l n:Nat) (body:Code) (L:LoopSum):Prop:=
 ∀ (st:St) (Q:Lf→Dl→Nat→Prop) (CQ:Exit→Act→World→Prop),pC CQ→L.pre st→(L.T st).sat Q→(∀ e d nx a w,Q e d nx→at_ B N st d nx a w→CQ (dP e) a w)→∀ a w,eu B N st a w→(Code.loop body).wpIn (RF l) n P CQ a w
def gH (P:Program) (p N:Nat) (body:Code) (L:LoopSum):Prop:=∀ (B:Base),B.pins p→∀ l n,DF P N B l n body L
theorem cg {C:Cfg} (hC:CfgOK P C) (hP:P.follows .mixedOrders=true) {B:Base} {l n:Nat} {Λ:Nat→Option LoopSum} :∀ (c:Code),(∀ b∈aC Λ c,∃ L,Λ (rid b)=some L∧DF P C.N B l n b L)→fk c=true→
  ∀ (st:St) (Q:Lf→Dl→Nat→Prop) (CQ:Exit→Act→World→Prop),pC CQ→(aR C Λ c st).sat Q→(∀ e d nx a w,Q e d nx→at_ B C.N st d nx a w→CQ (dP e) a w)→∀ a w,eu B C.N st a w→c.wpIn (RF l) n P CQ a w
 | .skip,hM,_,st,Q,CQ,hO,h,hQ,a,w,hs=>wpIn_skip (hQ .nrm _ _ a w h (fi hs))
 | .ret,hM,_,st,Q,CQ,hO,h,hQ,a,w,hs=>wpIn_ret (hQ .ret _ _ a w h (fi hs))
 | .exit id,hM,_,st,Q,CQ,hO,h,hQ,a,w,hs=>wpIn_exit (hQ (.ext id) _ _ a w h (fi hs))
 | .region id ops dr,hM,hL,st,Q,CQ,hO,h,hQ,a,w,hs=>by
  simp only [aR] at h
  obtain ⟨df,rf,hrun,hc,hq⟩:=iA _ _ _ _ h
  have hfin :∀ a w,SRel B C.N (find (df.tm++st.tm)) (an st.H df.hp) (fun n=>n<st.nx+ops.toList.length*C.K) a w→CQ .normal a w:=fun a w h'=>hQ .nrm _ _ a w hq h'
  cases dr with
  | false=>
   refine wpIn_region_list (xM hO _ hL _ _ ?_)
   have:=qF hC ops.toList 0 _ _ _ _ hrun (Q:=CQ) (B:=B) (fun a w h'=>hfin a w (by simpa using h')) a w (by simpa [eu,la] using hs)
   simpa using this
  | true=>
   rcases hc with hc|hc
   ·cases hc
   ·have:=pG hC hrun hc.1 hc.2 hfin hs
    exact wpIn_region_any hP (wC hO hL _ _ _ _ (by simpa using this))
 | .seq x y,hM,hL,st,Q,CQ,hO,h,hQ,a,w,hs=>by
  simp only [aR] at h
  have hL :(fk x&&fk y)=true:=hL
  rw [Bool.and_eq_true] at hL
  have hx:=cg hC hP (B:=B) (l:=l) (n:=n) x (fun b hb=>hM b (List.mem_append_left _ hb)) hL.1
  have hy:=cg hC hP (B:=B) (l:=l) (n:=n) y (fun b hb=>hM b (List.mem_append_right _ hb)) hL.2
  have h2:=jK (B:=B) (N:=C.N) (Y:=fun a w=>y.wpIn (RF l) n P CQ a w) h (fun d nx hk a w ha=>by
   rw [pre_sat] at hk
   exact hy (st.app d nx) _ CQ hO hk (fun e d' nx' a w hq hat=>hQ e _ _ a w hq (at_pre.1 hat)) a w (at_here.1 ha))
  refine wpIn_seq (hx st _ _ (sa hO) h2 (fun e d nx a w hq hat=>?_) a w hs)
  cases e with
  | nrm=>exact hq a w hat
  | ext id=>exact hQ (.ext id) d nx a w hq hat
  | ret=>exact hQ .ret d nx a w hq hat
 | .cond c x y,hM,hL,st,Q,CQ,hO,h,hQ,a,w,hs=>by
  simp only [aR] at h
  have hL :(fk x&&fk y)=true:=hL
  rw [Bool.and_eq_true] at hL
  have hx:=cg hC hP (B:=B) (l:=l) (n:=n) x (fun b hb=>hM b (List.mem_append_left _ hb)) hL.1
  have hy:=cg hC hP (B:=B) (l:=l) (n:=n) y (fun b hb=>hM b (List.mem_append_right _ hb)) hL.2
  have hv :∃ E:Env,dt E (find st.tm) a:=by
   obtain ⟨⟨E,_,_,_,_,hT⟩,_⟩:=hs
   exact ⟨E,hT⟩
  obtain ⟨E,hT⟩:=hv
  have hc:=iq hT c
  split at h
  ·rename_i e;rw [e] at hc;simp only [aa] at hc
   exact wpIn_cond_true hc (hx st Q CQ hO h hQ a w hs)
  ·rename_i e;rw [e] at hc;simp only [aa] at hc
   exact wpIn_cond_false hc (hy st Q CQ hO h hQ a w hs)
  ·rename_i b e;rw [e] at hc;simp only [aa] at hc
   exact wpIn_cond_split hc (fun hb=>hx st Q CQ hO (h.1 hb) hQ a w hs) (fun hb=>hy st Q CQ hO (h.2 hb) hQ a w hs)
  ·rename_i q e;rw [e] at hc;simp only [aa] at hc
   obtain ⟨b,hc,hq⟩:=hc
   exact wpIn_cond_split hc (fun hb=>hx st Q CQ hO (h.1 (hq hb)) hQ a w hs) (fun _=>hy st Q CQ hO h.2 hQ a w hs)
  ·rename_i q e;rw [e] at hc;simp only [aa] at hc
   obtain ⟨b,hc,hq⟩:=hc
   exact wpIn_cond_split hc (fun _=>hx st Q CQ hO h.2 hQ a w hs) (fun hb=>hy st Q CQ hO (h.1 (hq hb)) hQ a w hs)
  ·exact h.elim
 | .block id b,hM,hL,st,Q,CQ,hO,h,hQ,a,w,hs=>by
  simp only [aR] at h
  refine wpIn_block (cg hC hP (B:=B) (l:=l) (n:=n) b hM hL st _ _ (Au hO) (dB h) (fun e d nx a w hq hat=>?_) a w hs)
  cases e with
  | nrm=>exact hQ .nrm d nx a w hq hat
  | ret=>exact hQ .ret d nx a w hq hat
  | ext id'=>
   simp only [dP,Exit.inBlock]
   simp only at hq
   split
   ·rename_i e;rw [if_pos e] at hq;exact hQ .nrm d nx a w hq hat
   ·rename_i e;rw [if_neg e] at hq;exact hQ (.ext id') d nx a w hq hat
 | .loop b,hM,hL,st,Q,CQ,hO,h,hQ,a,w,hs=>by
  simp only [aR] at h
  obtain ⟨S,hS,hat⟩:=hM b List.mem_cons_self
  rw [hS] at h
  exact hat st Q CQ hO h.1 h.2 hQ a w hs
 | .rangeFunc _ _ _ _,_,_,_,_,_,_,h,_,_,_,_=>h.elim
 | .scope _,_,_,_,_,_,_,h,_,_,_,_=>h.elim
 | .label _,_,_,_,_,_,_,h,_,_,_,_=>h.elim
 | .goto _,_,_,_,_,_,_,h,_,_,_,_=>h.elim
 | .refuse _,_,_,_,_,_,_,h,_,_,_,_=>h.elim
theorem Gl {p p':Nat} (hp:p≤p') {M:Nam} {h:Nat} :∀ {o:Option Nat},ji p' M h o=true→ji p M h o=true
 | none,e=>e
 | some v,e=>by
  simp only [ji] at e ⊢
  cases hv:Nat.blt v p with
  | false=>rfl
  | true=>
   rw [show Nat.blt v p'=true from by rw [Nat.blt_eq] at hv ⊢;omega] at e
   exact e
theorem vR {p p':Nat} (hp:p≤p') {M:Nam} :∀ {l:List (Nat×Option Nat)},eC p' M l=true→eC p M l=true
 | [],h=>Nat.ble_eq_true_of_le (Nat.le_trans hp (Nat.le_of_ble_eq_true h))
 |(n,o)::l,h=>by
  simp only [eC] at h ⊢
  cases hb :(bif Nat.blt n p' then ji p' M n o else true) with
  | false=>rw [hb] at h;cases h
  | true=>
   rw [hb] at h
   rw [show (bif Nat.blt n p then ji p M n o else true)=true from ?_]
   ·exact vR hp (l:=l) h
   ·cases hn:Nat.blt n p with
    | false=>rfl
    | true=>
     rw [show Nat.blt n p'=true from by rw [Nat.blt_eq] at hn ⊢;omega] at hb
     exact Gl hp hb
theorem Mg {p p':Nat} (hp:p≤p') {B:Base} (h:B.pins p):B.pins p':=fun M E hp' hk hs hG=>h M E hp' (vR hp hk) hs hG
theorem Gm {E0:Env} {p:Nat} (hU :∀ n,E0.U n→n<p) {M':Nam} {E:Env} {hp:List (Nat×Blk)} (hpin:eC p M' (tV hp)=true) (hs:HSub M' E hp) (hG:Ext E0 E):Ext E0 (aL M' E hp):=by
 have hle:=pk hpin
 refine ⟨fun n hn=>Nat.lt_of_lt_of_le (hU n hn) hle,hG.s,hG.keepS,fun h cs hu hx=>?_,fun h ver rw t xs hu hv hx=>?_,fun h ver esz cs hu hv hx=>?_,fun h es hu hx=>?_,fun h kk t x hu hx=>?_⟩
 case refine_5=>
  obtain ⟨e,z⟩:=ko hpin (ag (ah hx)) rfl (hU _ hu)
  obtain ⟨_,g1⟩:=hs.abs _ _ _ _ (ah hx)
  rw [e] at g1
  obtain ⟨g2,g3⟩:=hG.ha h kk t x hu g1
  refine ⟨g2,?_⟩
  simp only [aL,z,Bool.false_eq_true,if_false,e]
  exact g3
 ·obtain ⟨e,z⟩:=ko hpin (ag (ah hx)) rfl (hU _ hu)
  obtain ⟨_,cs0,g1⟩:=hs.cells _ _ (ah hx)
  rw [e] at g1
  obtain ⟨g2,g3⟩:=hG.hc h cs0 hu g1
  refine ⟨g2,?_⟩
  simp only [aL,z,Bool.false_eq_true,if_false,e]
  exact g3
 ·obtain ⟨e,z,e2⟩:=ob hpin (ag (ah hx)) rfl (hU _ hu) (hU _ hv)
  rcases (hs.row _ _ _ _ _ (ah hx)).2 with ⟨h1,_⟩ |⟨_,g1⟩
  ·rw [z] at h1;cases h1
  ·rw [e,e2] at g1
   obtain ⟨rw0,xs0,g2,g3,g4,g5⟩:=hG.hr h ver rw t xs hu hv g1
   refine ⟨rw0,xs0,g2,g3,?_,g5⟩
   simp only [aL,z,Bool.false_eq_true,if_false,e]
   exact g4
 ·obtain ⟨e,z,e2⟩:=ob hpin (ag (ah hx)) rfl (hU _ hu) (hU _ hv)
  obtain ⟨_,_,cs0,g1,g0⟩:=hs.grow _ _ _ _ (ah hx)
  rw [e,e2] at g1
  obtain ⟨cs1,g2,g3,g4,g5⟩:=hG.hg h ver esz cs0 hu hv g1
  refine ⟨cs1,g2,by omega,?_,g5⟩
  simp only [aL,z,Bool.false_eq_true,if_false,e]
  exact g4
 ·exact (hs.nomp _ _ (ah hx)).elim
theorem BR (L:Lp) (hC:CfgOK P L.C) (hP:P.follows .mixedOrders=true) (hd:fk L.body=true) (hΛ :∀ b∈aC L.Λ L.body,∃ S,L.Λ (rid b)=some S∧gH P L.p L.C.N b S)
  (res:Den (tyP L.q)→mC L.X) (inv:Den (tyP L.q)→Prop) (μ:Den (tyP L.q)→Nat)
  (step :∀ x,inv x→stepG L res (fun y=>inv y∧μ y<μ x) x∧stepE L res x=res x):gH P L.p L.C.N L.body (az L res inv):=by
 intro B hB l m st Q CQ hO hpre hT hQ a w hs
 simp only [az] at hpre hT
 obtain ⟨hH0,hpre⟩:=hpre
 obtain ⟨hl,hpre⟩:=ifB_iff.1 hpre
 cases hr:cA L.p L.q st with
 | none=>rw [hr] at hpre;exact hpre.elim
 | some x0=>
 rw [hr] at hpre hT
 simp only at hpre hT
 have hT:=cQ hT
 obtain ⟨hp0,hg0⟩:=cJ hr
 have start:eu B L.C.N (put L.q x0) a w:=dG hB hg0 hp0 hs
 have key :∀ n x a w,inv x→μ x<n→(TX L.X (res x)).sat (fun e d nx=>Q e ⟨d.tm++ln st.tm,d.hp++jg (Nat.max nx st.nx) st.hp⟩ (Nat.max nx st.nx+1))→eu B L.C.N (put L.q x) a w→Code.roundsIn (RF l) m P L.body CQ n a w:=by
  intro n
  induction n with
  | zero=>intro x a w _ hlt;omega
  | succ n ih=>
   intro x a w hx hlt hTx hs
   rw [roundsIn_succ]
   obtain ⟨hG,hE⟩:=step x hx
   refine cg hC hP (B:=B) L.body (fun b hb=>let ⟨S,hS,h⟩:=hΛ b hb;⟨S,hS,h B hB l m⟩) hd (put L.q x) _ _ (sa hO) (eI _ _ _ _ hG) (fun e d nx a w hq hat=>?_) a w hs
   have hat:=at_here.1 hat
   obtain ⟨hok,hv⟩:=hq
   change hdL L res (put L.q x) e d nx=stepE L res x at hv
   rw [hE] at hv
   have out :∀ e:Lf,(match pf L.p L.X e ((put L.q x).app d nx) with|some _=>True|none=>False)→(match pf L.p L.X e ((put L.q x).app d nx) with|some o=>o|none=>qV L.X)=res x→CQ (dP e) a w:=fun e hok hv=>by
    cases ho:pf L.p L.X e ((put L.q x).app d nx) with
    | none=>rw [ho] at hok;exact hok.elim
    | some o=>
     rw [ho] at hv
     simp only at hv
     subst hv
     obtain ⟨q,y,h1,h2⟩:=BO ho hTx
     obtain ⟨h3,h4⟩:=cJ h1
     have h5:=dG hB h4 h3 hat
     exact hQ e _ _ a w h2 (qB hH0 hl h5)
   cases e with
   | nrm=>
    simp only [okL] at hok
    simp only [hdL] at hv
    cases hr2:cA L.p L.q ((put L.q x).app d nx) with
    | none=>rw [hr2] at hok;exact hok.elim
    | some y=>
     rw [hr2] at hok
     obtain ⟨h3,h4⟩:=cJ hr2
     rw [h4] at hv
     simp only at hok hv
     exact ih y a w hok.1 (by omega) (by rw [hv];exact hTx) (dG hB h4 h3 hat)
   | ext id=>exact out (.ext id) hok hv
   | ret=>exact out .ret hok hv
 exact wpIn_loop_rounds (μ x0+1) (key _ x0 a w hpre (Nat.lt_succ_self _) hT start)
theorem Ji {p N:Nat} {c:Code} {Λ:Nat→Option LoopSum} (h :(aC Λ c).isEmpty=true) :∀ b∈aC Λ c,∃ S,Λ (rid b)=some S∧gH P p N b S:=fun b hb=>by
 rw [List.isEmpty_iff.1 h] at hb
 cases hb
theorem Jv {p N:Nat} {c b0:Code} {Λ:Nat→Option LoopSum} {S:LoopSum} (h:aC Λ c=[b0]) (hS:Λ (rid b0)=some S) (hok:gH P p N b0 S) :∀ b∈aC Λ c,∃ S,Λ (rid b)=some S∧gH P p N b S:=fun b hb=>by
 rw [h] at hb
 cases List.mem_singleton.1 hb
 exact ⟨S,hS,hok⟩
end Go.Mir
namespace Go.Mir
open Go.RowKit
variable {P:Program}
theorem Fk {l n id sl p ty:Nat} {pos:String} {Q:Exit→Act→World→Prop} {a:Act} {w:World} (h:Q .normal { a with tmps:=a.tmps.setIfInBounds sl (a.tmps.getD p undef) } w) :
  (Code.region id #[⟨some sl,.assign (.tmp p),ty,pos,#[],none⟩] false).wpIn (RF l) n P Q a w:=wpIn_region_list (by
 unfold wpListIn
 split
 ·exact ⟨fun _ _=>trivial,h⟩
 ·rename_i hw
  exact (hw rfl).elim)
def qY (hb:Nat) (E:Env):Env:=⟨E.U,E.ρ,E.S,E.w,fun h=>bif Nat.beq h hb then none else E.H h⟩
theorem bn {hb:Nat} {E:Env} {h:Nat} {k:Blk} (e :(qY hb E).H h=some k):E.H h=some k∧h≠hb:=by
 have e :(bif Nat.beq h hb then none else E.H h)=some k:=e
 cases hh:Nat.beq h hb with
 | true=>rw [hh] at e;cases e
 | false=>
  rw [hh] at e
  exact ⟨e,fun x=>by subst x;rw [Nat.beq_refl] at hh;cases hh⟩
theorem yZ (hb:Nat) (E:Env):Ext E (qY hb E):=
 ⟨fun _ h=>h,fun _ h=>h,fun _ _=>rfl,fun _ cs _ hx=>⟨⟨cs,(bn hx).1⟩,rfl⟩,fun _ _ rw _ xs _ _ hx=>⟨rw,xs,(bn hx).1,rfl,rfl,fun _ c T fr _ hw=>⟨c,T,fr,hw,rfl⟩⟩,
  fun _ _ _ cs _ _ hx=>⟨cs,(bn hx).1,rfl,rfl,fun _ c T fr _ hw=>⟨c,T,fr,hw,rfl⟩⟩,fun _ es _ hx=>⟨⟨es,(bn hx).1⟩,rfl⟩,fun _ _ _ x _ hx=>⟨⟨x,(bn hx).1⟩,rfl⟩⟩
theorem HA {B:Base} {E:Env} (hE:HRel B E) (hb:Nat):HRel B (qY hb E):=
 ⟨fun h k a=>hE.used h k (bn a).1,hE.stab,fun h k b a1 a2=>hE.lt' h k b (bn a1).1 a2,fun h h' k k' b a1 a2=>hE.inj' h h' k k' b (bn a1).1 (bn a2).1,
  fun h k a=>bu (yZ hb E) rfl (fun _ _=>rfl) (fun _ _ _ h=>h) (hE.blk h k (bn a).1),hE.keeps,fun h k b a1 a2=>hE.own' h k b (bn a1).1 a2,hE.s0,hE.sb⟩
theorem y3 {B:Base} {E:Env} (hE:HRel B E) {hb bx:Nat} {k:Blk} (h1:E.H hb=some k) (h2:E.ρ hb=some bx) :¬ Nmd (qY hb E) bx:=fun ⟨_,_,a1,a2⟩=>
 (bn a1).2 (hE.inj' _ _ _ _ _ (bn a1).1 h1 a2 (.inl h2))
def oD (hb:Nat):List (Nat×Blk)→List (Nat×Blk)
 | []=> []
 |(h,k)::l=>bif Nat.beq h hb then oD hb l else (h,k)::oD hb l
theorem kU {hb:Nat} :∀ {l:List (Nat×Blk)} {h:Nat},find (oD hb l) h=bif Nat.beq h hb then none else find l h
 | [],h=>by cases Nat.beq h hb <;> rfl
 |(n,k)::l,h=>by
  simp only [oD]
  cases hn:Nat.beq n hb with
  | true=>
   simp only [cond_true,kU (l:=l),find]
   cases hh:Nat.beq h hb with
   | true=>rfl
   | false=>
    cases hnh:Nat.beq n h with
    | false=>rfl
    | true=>
     have a:=Nat.eq_of_beq_eq_true hn
     have b:=Nat.eq_of_beq_eq_true hnh
     subst a;subst b
     rw [Nat.beq_refl] at hh;cases hh
  | false=>
   simp only [cond_false,find,kU (l:=l)]
   cases hnh:Nat.beq n h with
   | false=>rfl
   | true=>
    have b:=Nat.eq_of_beq_eq_true hnh
    subst b
    rw [hn];rfl
def B9 (hb:Nat) (st:St):St:=⟨st.tm,oD hb st.hp,fun _=>none,st.nx⟩
theorem Ol {hb:Nat} {st:St} {E:Env} (h0:st.H0=fun _=>none) (hH:E.H=st.H) :(qY hb E).H =(B9 hb st).H:=by
 funext h
 show (bif Nat.beq h hb then none else E.H h)=an (fun _=>none) (oD hb st.hp) h
 rw [hH]
 unfold St.H an
 rw [h0,kU]
 cases Nat.beq h hb <;> rfl
theorem zi {B:Base} {p N:Nat} (hB:B.pins p) {q:Pat} {st:St} {y:Den (tyP q)} (hr:cA p q st=some y) {E:Env} (hE:HRel B E) (hH:E.H=st.H) (hG:B.G E) (hU :∀ n,E.U n→n<st.nx)
  {a:Act} (hT:dt E (find st.tm) a) (hsz:a.tmps.size=N) :
  ∃ E4,HRel B E4∧E4.w=E.w∧E4.H =(put q y).H∧(B.G E4∧∀ n,E4.U n→n<q.nx)∧dt E4 (find (put q y).tm) a∧∀ b,¬ Nmd E b→¬ E.S b→¬ Nmd E4 b∧¬ E4.S b:=by
 obtain ⟨h3,h4⟩:=cJ hr
 have hs:eu (reb B E (cH hE) a.defers) N st a E.w:=⟨⟨E,C5 hE _,rfl,hH,⟨hG,hU⟩,hT⟩,hsz,rfl⟩
 obtain ⟨⟨E4,hE4,hw,hH4,hG4,hT4⟩,_,_⟩:=dG (A1 hB) h4 h3 hs
 refine ⟨E4,yd hE hE4,hw,hH4,hG4,hT4,fun b hn hs=>?_⟩
 by_cases hb:b<E.w.heap.size
 ·have:=yc hE hE4 hb hn
  exact ⟨this.2.1,this.2.2 hs⟩
 ·exact ⟨fun ⟨n,k,a1,a2⟩=>hb (hw▸hE4.lt' n k b a1 a2),fun h=>hb (hw▸hE4.stab b h)⟩
def Far (B:Base) (E:Env) (b:Nat):Prop:=¬ Nmd E b∧¬ E.S b∧(B.F b∨B.w0.heap.size≤b)
def RIn (B:Base) (a:Act) (bx D L:Nat) (q:Pat) (y:Den (tyP q)) (W:World):Prop:=
 ∃ E,HRel B E∧E.w=W∧E.H =(put q y).H∧(B.G E∧∀ n,E.U n→n<q.nx)∧dt E (find (put q y).tm) a∧Far B E bx∧Far B E D∧Far B E L
theorem ER {B:Base} {a:Act} {bx D L:Nat} {q:Pat} {y:Den (tyP q)} {W W':World} (h:RIn B a bx D L q y W) (hk:Keeps W (fun b=>b=bx∨b=D∨b=L) W'):RIn B a bx D L q y W':=by
 obtain ⟨E,hE,rfl,hH,⟨hG,hU⟩,hT,f1,f2,f3⟩:=h
 have key :∀ b,b<E.w.heap.size→(Far B E b→False)→W'.heap[b]?=E.w.heap[b]?:=fun b hb hf=>hk.block b hb fun e=>hf (by rcases e with rfl|rfl|rfl <;> assumption)
 obtain ⟨h1,X⟩:=QN hE W' hk.os hk.tape hk.output hk.size (fun b hS=>key b (hE.stab b hS) fun f=>f.2.1 hS)
  (fun b hN=>key b (by obtain ⟨n,k,a1,a2⟩:=hN;exact hE.lt' n k b a1 a2) fun f=>f.1 hN)
  (fun b hb hF=>key b (Nat.lt_of_lt_of_le hb hE.keeps.size) fun f=>by rcases f.2.2 with h|h;exact hF h;omega)
 have far :∀ {b},Far B E b→Far B { E with w:=W' } b:=fun f=>⟨fun ⟨n,k,a1,a2⟩=>f.1 ⟨n,k,a1,Tch.mv (E:=E) (E':={ E with w:=W' }) rfl (fun b hb=>key b (hE.lt n k b a1 hb) fun g=>g.1 ⟨n,k,a1,.inl hb⟩) a2⟩,f.2⟩
 exact ⟨_,h1,rfl,hH,⟨B.clo _ _ hG X,hU⟩,fun s v hv=>aH X _ _ (hT s v hv),far f1,far f2,far f3⟩
structure Rg where
 p:Nat
 N:Nat
 q:Pat
 qx:Pat
 sl:Nat
 sp:Nat
 body:Code
 nb:Nat
section
variable (L:Rg)
def Rg.st (x:ByteArray) (y:Den (tyP L.q)):St:=⟨(L.sl,.str x) ::(L.sp,.str x) ::(put L.q y).tm,(put L.q y).hp,fun _=>none,L.q.nx⟩
def Rg.okS (inv:Den (tyP L.q)→Prop) (r:Sum (Den (tyP L.qx)) (Den (tyP L.q))) (y:Den (tyP L.q)):Lf→Dl→Nat→Prop
 | .nrm,d,nx=>match cA L.p L.q ((put L.q y).app ⟨[],d.hp⟩ nx) with
  | some z=>r = .inr z∧inv z
  | none=>False
 | .ret,d,nx=>match cA L.p L.qx ((put L.q y).app ⟨[],d.hp⟩ nx) with
  | some z=>r = .inl z
  | none=>False
 | .ext _,_,_=>False
def Rg.stepS (C:Cfg) (Λ:Nat→Option LoopSum) (inv:Den (tyP L.q)→Prop) (x:ByteArray) (y:Den (tyP L.q)) (r:Sum (Den (tyP L.qx)) (Den (tyP L.q))):Prop:=(aR C Λ L.body (L.st x y)).sat (L.okS inv r y)
end
def np {α β:Type} (res:ByteArray→β→Sum α β) (l:List ByteArray) (y:β):Sum α β:=l.foldl (fun o x=>match o with | .inl z=> .inl z | .inr y=>res x y) (.inr y)
theorem po {α β:Type} {res:ByteArray→β→Sum α β} {z:α} :∀ l:List ByteArray,l.foldl (fun (o:Sum α β) x=>match o with | .inl z=> .inl z | .inr y=>res x y) (.inl z) = .inl z
 | []=>rfl
 | _::l=>po l
theorem vU {α β:Type} {res:ByteArray→β→Sum α β} {l:List ByteArray} {x:ByteArray} {y0 y:β} (h:np res l y0 = .inr y):np res (l++[x]) y0=res x y:=by
 unfold np at h ⊢
 rw [List.foldl_append,h]
 rfl
theorem J2 {α β:Type} {res:ByteArray→β→Sum α β} {l r:List ByteArray} {y0:β} {z:α} (h:np res l y0 = .inl z) (hp:l <+: r):np res r y0 = .inl z:=by
 obtain ⟨t,rfl⟩:=hp
 unfold np at h ⊢
 rw [List.foldl_append,h]
 exact po t
def iw:Code→List Code
 | .seq a b=>iw a++iw b
 | .cond _ a b=>iw a++iw b
 | .block _ b=>iw b
 | .loop b=>iw b
 | .rangeFunc _ _ _ b=> [b]
 | _=> []
def JR (fn:Func) (k:Nat):Code:=match (iw (iW fn))[k]? with|some c=>c|none=> .skip
def C9 (fn:Func) (k j:Nat):Code:=match (iQ (JR fn k))[j]? with|some c=>c|none=> .skip
def DJ:Code→Option Code
 | .seq (.seq _ (.block _ (.rangeFunc _ _ _ _))) y=>some y
 | .seq _ y=>DJ y
 | _=>none
def GY (fn:Func):Code:=match DJ (iW fn) with|some c=>c|none=> .skip
theorem G9 {B:Base} {E:Env} (hE:HRel B E) {hb:Nat} {s:ByteArray} (h:E.H hb=some (.cells [.str s])) :
  ∃ bx,E.ρ hb=some bx∧¬ E.S bx∧E.w.cell? ⟨bx,0,none⟩=some (.string s)∧E.w.frozen? ⟨bx,0,none⟩=false:=by
 obtain ⟨b,c,T,fr,h1,h2,h3,h4,h5⟩:=hE.blk hb _ h
 have hc:c=#[.string s]:=by
  obtain ⟨l⟩:=c
  match l,h5 with
  | [v],h5=>
   simp only [ab,aa] at h5
   rw [h5.1.1]
 subst hc
 refine ⟨b,h1,h4,?_,?_⟩
 ·simp [World.cell?,h2]
 ·have:=h3 0 (by simp)
  simp only [World.frozen?,h2]
  simp
  omega
theorem nM {t:Array Value} {i j:Nat} {v d:Value} :(t.setIfInBounds i v).getD j d=if i=j∧i<t.size then v else t.getD j d:=by
 simp only [Array.getD_eq_getD_getElem?,Array.getElem?_setIfInBounds]
 by_cases h:i=j
 ·subst h
  by_cases hl:i<t.size
  ·simp [hl]
  ·simp [hl]
 ·simp [h]
theorem JS (L:Rg) (hP:P.follows .mixedOrders=true) {gf:FuncId} (eg :∀ args w,(callFunc gf args).run P w = .ok (.enter gf args) w) {LB:ByteArray→List ByteArray} (hit :∀ bx s0,s0.size≤L.nb→wx P gf bx s0 (LB s0))
  (hnd:fk L.body=true) (hslots :(Nat.blt L.sl L.N&&Nat.blt L.sp L.N&&Nat.ble L.nb ai&&Nat.ble L.p L.q.nx)=true)
  {res:ByteArray→Den (tyP L.q)→Sum (Den (tyP L.qx)) (Den (tyP L.q))} {inv:Nat→Den (tyP L.q)→Prop} (hLB :∀ s,(LB s).length≤s.size)
  (step :∀ n x y,inv n y→x.size≤L.nb→n<L.nb→∃ (C:Cfg) (Λ:Nat→Option LoopSum),CfgOK P C∧C.N=L.N∧(∀ b∈aC Λ L.body,∃ S,Λ (rid b)=some S∧gH P L.q.nx C.N b S)∧L.stepS C Λ (inv (n+1)) x y (res x y))
  {B:Base} (hB:B.pins L.p) {st:St} (h0:st.H0=fun _=>none) {g:Operand} {hb:Nat} {s:ByteArray} (hg:AG st.tm g = .fn gf [.ptr hb 0]) (hh:st.H hb=some (.cells [.str s])) (hs:s.size≤L.nb)
  {y0:Den (tyP L.q)} (hr:cA L.p L.q (B9 hb st)=some y0) (hi:inv 0 y0) {id ty:Nat} {pos:String}
  {Q:Exit→Act→World→Prop} {a:Act} {w:World} (ha:eu B L.N st a w)
  (hdone :∀ y bx D Lp W,np res (LB s) y0 = .inr y→RIn B a bx D Lp L.q y W→W.heap[D]?=some (.deferred (some []))→D<W.heap.size→Q .normal { a with defers:={ target:= .collected D,args:=#[] }::a.defers } W)
  (hstop :∀ z bx D Lp W,np res (LB s) y0 = .inl z→RIn B a bx D Lp L.qx z W→W.heap[D]?=some (.deferred (some []))→D<W.heap.size→Q .ret { a with defers:={ target:= .collected D,args:=#[] }::a.defers } W) :
  (Code.rangeFunc g #[L.sp] (Code.region id #[⟨some L.sl,.assign (.tmp L.sp),ty,pos,#[],none⟩] false) L.body).wp P Q a w:=by
 simp only [Bool.and_eq_true,Nat.blt_eq] at hslots
 obtain ⟨⟨⟨hsl,hsp⟩,hnb⟩,hpq⟩:=hslots
 have hpq:=Nat.le_of_ble_eq_true hpq
 have hnb:=Nat.le_of_ble_eq_true hnb
 obtain ⟨⟨E0,hE0,rfl,hH,⟨hG,hU⟩,hT⟩,hsz,hdf⟩:=ha
 rw [←hH] at hh
 obtain ⟨bx,hρ,hSb,hcell,hfrz⟩:=G9 hE0 hh
 have hbx:bx<E0.w.heap.size:=hE0.lt _ _ _ hh hρ
 have hgv:a.eval g = .func (.func gf) #[] #[.pointer (some ⟨bx,0,none⟩)]:=by
  have:=iq hT g
  rw [hg] at this
  simp only [aa] at this
  obtain ⟨l,h1,h2⟩:=this
  obtain ⟨l⟩:=l
  match l,h2 with
  | [v],h2=>
   simp only [ab,aa] at h2
   obtain ⟨⟨_,_,h2⟩,_⟩:=h2
   obtain ⟨b,h3,rfl⟩:=h2 _ hh
   rw [hρ] at h3
   cases h3
   rw [h1]
   rfl
 have hX:=yZ hb E0
 have hEd:=HA hE0 hb
 obtain ⟨E4,hE4,hw4,hH4,hG4,hT4,hfar⟩:=zi hB hr hEd (Ol h0 hH) (B.clo _ _ hG hX) hU (fun s v hv=>aH hX _ _ (hT s v hv)) hsz
 have new :∀ b,E0.w.heap.size≤b→Far B E4 b:=fun b hb'=>by
  have h1 :¬ Nmd (qY hb E0) b:=fun ⟨n,k,a1,a2⟩=>Nat.not_lt.2 hb' (hEd.lt' n k b a1 a2)
  have h2 :¬(qY hb E0).S b:=fun h=>Nat.not_lt.2 hb' (hE0.stab b h)
  exact ⟨(hfar b h1 h2).1,(hfar b h1 h2).2,.inr (Nat.le_trans hE0.keeps.size hb')⟩
 have hfbx:Far B E4 bx:=⟨(hfar bx (y3 hE0 hh hρ) hSb).1,(hfar bx (y3 hE0 hh hρ) hSb).2,hE0.own _ _ _ hh hρ⟩
 refine KM (LB:=LB s) hgv eg rfl (hit bx s hs) hcell hfrz
  (fun pre W=>∃ y,np res pre y0 = .inr y∧inv pre.length y∧RIn B a bx E0.w.heap.size (E0.w.heap.size+1) L.q y W)
  (fun pre c W=>c = .ret∧∃ z,np res pre y0 = .inl z∧RIn B a bx E0.w.heap.size (E0.w.heap.size+1) L.qx z W)
  (fun pre W W' h hk=>?_) (fun pre c W W' h hk=>?_) ?_ ?_ ?_ ?_
 ·obtain ⟨y,h1,h2,h3⟩:=h
  exact ⟨y,h1,h2,ER h3 hk⟩
 ·obtain ⟨hc,z,h1,h3⟩:=h
  exact ⟨hc,z,h1,ER h3 hk⟩
 ·exact ⟨y0,rfl,hi,E4,hE4,hw4,hH4,hG4,hT4,hfbx,new _ (Nat.le_refl _),new _ (Nat.le_succ _)⟩
 ·intro pre x W hI hx hpx hlt
  refine Fk ⟨rfl,fun Wb hWb hIb=>?_⟩
  obtain ⟨y,hrun,hinv,E,hE,rfl,hHE,⟨hGE,hUE⟩,hTE,f1,f2,f3⟩:=hIb
  have hx':x.size≤L.nb:=Nat.le_trans hx hs
  obtain ⟨C,Λ,hC,hN,hΛ,hg1⟩:=step pre.length x y hinv hx' (by have:=hpx.length_le;rw [List.length_append] at this;have:=hLB s;simp at *;omega)
  have hE1:HRel (⟨E.w,Nmd E,E.S,fun E'=>B.G E'∧Ext E E',fun _ _ h k=>⟨B.clo _ _ h.1 k,h.2.trans k⟩,cH hE,[]⟩:Base) E:=have h:=C5 hE []
   ⟨h.used,h.stab,h.lt',h.inj',h.blk,h.keeps,h.own',h.s0,h.sb⟩
  have hst:eu (⟨E.w,Nmd E,E.S,fun E'=>B.G E'∧Ext E E',fun _ _ h k=>⟨B.clo _ _ h.1 k,h.2.trans k⟩,cH hE,[]⟩:Base) C.N (L.st x y)
    { tmps:=((#[L.sp].zip #[.string x]).foldl (fun t (p,v)=>t.setIfInBounds p v) a.tmps).setIfInBounds L.sl (((#[L.sp].zip #[.string x]).foldl (fun t (p,v)=>t.setIfInBounds p v) a.tmps).getD L.sp undef),defers:= [] } E.w:=by
   refine ⟨⟨E,hE1,rfl,hHE,⟨⟨hGE,Ext.refl E⟩,hUE⟩,fun i v hv=>?_⟩,?_,rfl⟩
   ·have hz :(#[L.sp].zip #[Value.string x]).foldl (fun t (p,v)=>t.setIfInBounds p v) a.tmps=a.tmps.setIfInBounds L.sp (.string x):=by simp
    show aa E v (Array.getD _ i undef)
    rw [hz]
    have hv1:aa E (.str x) (.string x):=by simp only [aa];exact ⟨trivial,by omega⟩
    simp only [Rg.st,find] at hv
    cases hb1:Nat.beq L.sl i with
    | true=>
     rw [hb1] at hv
     cases hv
     rw [nM,if_pos ⟨Nat.eq_of_beq_eq_true hb1,by simp;omega⟩,nM,if_pos ⟨rfl,by omega⟩]
     exact hv1
    | false=>
     rw [hb1] at hv
     rw [nM,if_neg (fun h=>by rw [h.1,Nat.beq_refl] at hb1;cases hb1),nM]
     cases hb2:Nat.beq L.sp i with
     | true=>
      rw [hb2] at hv
      cases hv
      rw [if_pos ⟨Nat.eq_of_beq_eq_true hb2,by omega⟩]
      exact hv1
     | false=>
      rw [hb2] at hv
      rw [if_neg (fun h=>by rw [h.1,Nat.beq_refl] at hb2;cases hb2)]
      exact hTE i v hv
   ·rw [hN,←hsz];simp
  have hpins:Base.pins L.q.nx (⟨E.w,Nmd E,E.S,fun E'=>B.G E'∧Ext E E',fun _ _ h k=>⟨B.clo _ _ h.1 k,h.2.trans k⟩,cH hE,[]⟩:Base):=fun M E' hp' hk hs' hG'=>⟨Mg hpq hB M E' hp' hk hs' hG'.1,Gm hUE hk hs' hG'.2⟩
  refine cg hC hP L.body (fun b hb=>let ⟨S,hS,h⟩:=hΛ b hb;⟨S,hS,h _ hpins _ _⟩) hnd (L.st x y) _ _ (fun ⟨_,_,z⟩=>z) hg1 (fun e d nx a3 W3 hok hat=>?_) _ _ hst
  obtain ⟨⟨E3,hE3,rfl,hH3,⟨⟨hG3,X3⟩,hU3⟩,_⟩,_,_⟩:=hat
  have hE3':HRel (reb B E (cH hE) []) E3:=⟨hE3.used,hE3.stab,hE3.lt',hE3.inj',hE3.blk,hE3.keeps,hE3.own',hE3.s0,hE3.sb⟩
  have hE3B:=yd hE hE3'
  have far3 :∀ b,b<E.w.heap.size→Far B E b→E3.w.heap[b]?=E.w.heap[b]?∧Far B E3 b:=fun b hb' f=>by
   obtain ⟨g1,g2,g3⟩:=yc hE hE3' hb' f.1
   exact ⟨g1,g2,g3 f.2.1,f.2.2⟩
  have hsize:E0.w.heap.size+1<E.w.heap.size:=by rw [hWb];exact hlt
  obtain ⟨k1,e1⟩:=far3 bx (by omega) f1
  obtain ⟨k2,e2⟩:=far3 _ (by omega) f2
  obtain ⟨k3,e3⟩:=far3 _ hsize f3
  have hH3':E3.H =((put L.q y).app ⟨[],d.hp⟩ nx).H:=by
   rw [hH3]
   unfold St.app St.H
   rw [bN]
   rfl
  have hT3:dt E3 (find ((put L.q y).app ⟨[],d.hp⟩ nx).tm) a:=fun s v hv=>aH X3 _ _ (hTE s v hv)
  have rd :∀ {q:Pat} {z:Den (tyP q)},cA L.p q ((put L.q y).app ⟨[],d.hp⟩ nx)=some z→RIn B a bx E0.w.heap.size (E0.w.heap.size+1) q z E3.w:=fun {q z} hz=>by
   obtain ⟨E5,g1,g2,g3,g4,g5,g6⟩:=zi hB hz hE3B hH3' hG3 hU3 hT3 hsz
   exact ⟨E5,g1,g2,g3,g4,g5,⟨(g6 _ e1.1 e1.2.1).1,(g6 _ e1.1 e1.2.1).2,e1.2.2⟩,⟨(g6 _ e2.1 e2.2.1).1,(g6 _ e2.1 e2.2.1).2,e2.2.2⟩,⟨(g6 _ e3.1 e3.2.1).1,(g6 _ e3.1 e3.2.1).2,e3.2.2⟩⟩
  cases e with
  | nrm=>
   simp only [Rg.okS] at hok
   cases hz:cA L.p L.q ((put L.q y).app ⟨[],d.hp⟩ nx) with
   | none=>rw [hz] at hok;exact hok.elim
   | some z=>
    rw [hz] at hok
    exact ⟨⟨k1,k2,k3⟩,z,(vU hrun).trans hok.1,by rw [List.length_append];exact hok.2,rd hz⟩
  | ret=>
   simp only [Rg.okS] at hok
   cases hz:cA L.p L.qx ((put L.q y).app ⟨[],d.hp⟩ nx) with
   | none=>rw [hz] at hok;exact hok.elim
   | some z=>
    rw [hz] at hok
    exact ⟨⟨k1,k2,k3⟩,rfl,z,(vU hrun).trans hok,rd hz⟩
  | ext id=>exact hok.elim
 ·rintro W ⟨y,h1,_,h2⟩ hD hlt
  exact hdone y _ _ _ W h1 h2 hD hlt
 ·rintro pre c W hpre ⟨rfl,z,h1,h2⟩ hD hlt
  exact wp_ret (hstop z _ _ _ W (J2 h1 hpre) h2 hD hlt)
theorem DY {B:Base} {E:Env} (hE:HRel B E) {D:Nat} (f:Far B E D) (o:Obj):HRel B { E with w:=E.w.putObj D o }∧Ext E { E with w:=E.w.putObj D o }:=
 have key :∀ b,(b=D→False)→(E.w.putObj D o).heap[b]?=E.w.heap[b]?:=fun _ h=>World.putObj_heap_other h
 QN hE _ rfl rfl rfl (by simp [World.putObj]) (fun b hS=>key b fun e=>f.2.1 (e▸hS)) (fun b hN=>key b fun e=>f.1 (e▸hN))
  (fun b hb hF=>key b fun e=>by subst e;rcases f.2.2 with h|h;exact hF h;omega)
def TrW (P:Program) (N p:Nat) (c:Code) (tr:St→Tr):Prop:=∀ st,TreeFor P N p c st (tr st)
def TrM (P:Program) (N p:Nat) (c:Code) (tr:St→Tr):Prop:=∀ st,qJ P N p c st (tr st)
def QA (P:Program) (N p:Nat) (x y:Code) (tr:St→Tr):Prop:=∀ st,∀ (B:Base),B.pins p→B.dfs=[]→∀ (Q:Lf→Dl→Nat→Prop) (K:Lf→Act→World→Prop),(tr st).sat Q→
 (∀ e d nx a w,Q e d nx→at_ B N st d nx a w→K e a w)→∀ a w,eu B N st a w→x.wp P (Exit.then (fun a w=>y.wp P (oW K) a w) (oW K)) a w
theorem yz {C:Cfg} (hC:CfgOK P C) (hP:P.follows .mixedOrders=true) {p:Nat} {c:Code} {Λ:Nat→Option LoopSum} (hΛ :∀ b∈aC Λ c,∀ S,Λ (rid b)=some S→LoopOKp P p C.N b S):TrW P C.N p c (aR C Λ c):=fun st B hB Q CQ hs hQ a w ha=>
 ca hC hP (B:=B) c (fun b hb S hS=>hΛ b hb S hS B hB) st Q CQ hs hQ a w ha
def Bq (t1 t2:St→Tr):St→Tr:=fun st=>GC st (t1 st) fun d nx=>t2 (st.app d nx)
theorem Fa {N p:Nat} {x y:Code} {t1 t2:St→Tr} (hx:TrW P N p x t1) (hy:TrM P N p y t2):TrM P N p (.seq x y) (Bq t1 t2):=fun st B hB hd Q K hs hK a w ha=>by
 have h2:=jK (B:=B) (N:=N) (Y:=fun a w=>y.wp P (oW K) a w) hs (fun d nx hk a w ha=>by
  rw [pre_sat] at hk
  exact hy (st.app d nx) B hB hd _ K hk (fun e d' nx' a w hq hat=>hK e _ _ a w hq (at_pre.1 hat)) a w (at_here.1 ha))
 refine wp_seq (hx st B hB _ _ h2 (fun e d nx a w hq hat=>?_) a w ha)
 have hd':a.defers=[]:=hat.defers.trans hd
 cases e with
 | nrm=>exact hq a w hat
 | ext id=>exact .inl ⟨hd',hK (.ext id) d nx a w hq hat⟩
 | ret=>exact .inl ⟨hd',hK .ret d nx a w hq hat⟩
theorem KC {N p:Nat} {z x y:Code} {t1 t2:St→Tr} (hz:TrW P N p z t1) (hx:QA P N p x y t2):TrM P N p (.seq (.seq z x) y) (Bq t1 t2):=fun st B hB hd Q K hs hK a w ha=>by
 have h2:=jK (B:=B) (N:=N) (Y:=fun a w=>x.wp P (Exit.then (fun a w=>y.wp P (oW K) a w) (oW K)) a w) hs (fun d nx hk a w ha=>by
  rw [pre_sat] at hk
  exact hx (st.app d nx) B hB hd _ K hk (fun e d' nx' a w hq hat=>hK e _ _ a w hq (at_pre.1 hat)) a w (at_here.1 ha))
 refine wp_seq (wp_seq (hz st B hB _ _ h2 (fun e d nx a w hq hat=>?_) a w ha))
 have hd':a.defers=[]:=hat.defers.trans hd
 cases e with
 | nrm=>exact hq a w hat
 | ext id=>exact .inl ⟨hd',hK (.ext id) d nx a w hq hat⟩
 | ret=>exact .inl ⟨hd',hK .ret d nx a w hq hat⟩
def RB (L:Rg) (trP:St→Tr) (st:St) (o:Sum (Den (tyP L.qx)) (Den (tyP L.q))):Tr:=
 .br (isL o) (mA st (.leaf .ret ⟨L.qx.tmOf (oQ (dflt _) o),L.qx.hpOf (oQ (dflt _) o)⟩ L.qx.nx))
  (mA st ((trP (put L.q (qk (dflt _) o))).pre ⟨L.q.tmOf (qk (dflt _) o),L.q.hpOf (qk (dflt _) o)⟩))
def G8 (gf:FuncId) (st:St):V→Option (Nat×ByteArray)
 | .fn f [.ptr hb off]=>bif Nat.beq f gf&&Nat.beq off 0 then (match st.H hb with|some (.cells [.str s])=>some (hb,s)|_=>none) else none
 | _=>none
def rgT (L:Rg) (gf:FuncId) (g:Operand) (all:ByteArray→Den (tyP L.q)→Sum (Den (tyP L.qx)) (Den (tyP L.q))) (inv:Nat→Den (tyP L.q)→Prop) (trP:St→Tr) (st:St):Tr:=
 match G8 gf st (AG st.tm g) with
 | some (hb,s)=>match cA L.p L.q (B9 hb st) with
  | some y0=> .need (ij st.H0∧ifB (vr st.nx st.hp) (s.size≤L.nb∧inv 0 y0)) (RB L trP st (all s y0))
  | none=> .bad
 | none=> .bad
theorem BW {gf:FuncId} {st:St} {v:V} {hb:Nat} {s:ByteArray} (h:G8 gf st v=some (hb,s)):v = .fn gf [.ptr hb 0]∧st.H hb=some (.cells [.str s]):=by
 unfold G8 at h
 split at h
 case h_2=>cases h
 rename_i f hb' off
 cases hc:Nat.beq f gf&&Nat.beq off 0 with
 | false=>rw [hc] at h;cases h
 | true=>
  rw [hc] at h
  simp only [Bool.and_eq_true,Nat.beq_eq] at hc
  obtain ⟨rfl,rfl⟩:=hc
  simp only [cond_true] at h
  split at h
  case h_2=>cases h
  rename_i s' hH
  cases h
  exact ⟨rfl,hH⟩
theorem Mv (L:Rg) (hP:P.follows .mixedOrders=true) {gf:FuncId} (eg :∀ args w,(callFunc gf args).run P w = .ok (.enter gf args) w) {LB:ByteArray→List ByteArray} (hit :∀ bx s0,s0.size≤L.nb→wx P gf bx s0 (LB s0))
  (hnd:fk L.body=true) (hslots :(Nat.blt L.sl L.N&&Nat.blt L.sp L.N&&Nat.ble L.nb ai&&Nat.ble L.p L.q.nx)=true)
  {res all:ByteArray→Den (tyP L.q)→Sum (Den (tyP L.qx)) (Den (tyP L.q))} {inv:Nat→Den (tyP L.q)→Prop} (hLB :∀ s,(LB s).length≤s.size) (hall :∀ s y,all s y=np res (LB s) y)
  (step :∀ n x y,inv n y→x.size≤L.nb→n<L.nb→∃ (C:Cfg) (Λ:Nat→Option LoopSum),CfgOK P C∧C.N=L.N∧(∀ b∈aC Λ L.body,∃ S,Λ (rid b)=some S∧gH P L.q.nx C.N b S)∧L.stepS C Λ (inv (n+1)) x y (res x y))
  {g:Operand} {k id ty:Nat} {pos:String} {post:Code} {trP:St→Tr} (hpost:TrW P L.N L.p post trP) :
  QA P L.N L.p (.block k (.rangeFunc g #[L.sp] (.region id #[⟨some L.sl,.assign (.tmp L.sp),ty,pos,#[],none⟩] false) L.body)) post (rgT L gf g all inv trP):=by
 intro st B hB hd Q K hs hK a w ha
 unfold rgT at hs
 split at hs
 case h_2=>exact hs.elim
 rename_i hb s hbox
 split at hs
 case h_2=>exact hs.elim
 rename_i y0 hr
 obtain ⟨⟨h0,hpre⟩,hs⟩:=hs
 obtain ⟨hl,hsz,hi⟩:=ifB_iff.1 hpre
 obtain ⟨hg,hh⟩:=BW hbox
 rw [hall] at hs
 have hda:a.defers=[]:=ha.defers.trans hd
 have hN:a.tmps.size=L.N:=ha.size
 refine wp_block (JS L hP eg hit hnd hslots hLB step hB h0 hg hh hsz hr hi ha ?_ ?_)
 ·intro y bx D Lp W hrun hW hD hlt
  rw [hrun] at hs
  obtain ⟨E,hE,rfl,hH,hG,hT,f1,f2,f3⟩:=hW
  have hs2:=pre_sat.1 (cQ (hs.2 rfl))
  have hB':Base.pins L.p (reb B E (cH hE) [{ target:= .collected D,args:=#[] }]):=A1 hB
  refine hpost (put L.q y) _ hB' _ _ hs2 (fun e d nx a3 w3 hq hat=>?_) _ _ ⟨⟨E,C5 hE _,rfl,hH,hG,hT⟩,hN,by rw [hda];rfl⟩
  have hat':=at_here.1 hat
  obtain ⟨⟨E3,hE3,rfl,hH3,hG3,hT3⟩,hsz3,hdf3⟩:=hat'
  obtain ⟨k1,k2,k3⟩:=yc hE hE3 hlt f2.1
  obtain ⟨hE4,X4⟩:=DY (yd hE hE3) (D:=D) ⟨k2,k3 f2.2.1,f2.2.2⟩ (.deferred none)
  have hfin:eu B L.N ⟨d.tm++L.q.tmOf y,d.hp++L.q.hpOf y,fun _=>none,nx⟩ { a3 with defers:= [] } (E3.w.putObj D (.deferred none)):=
   ⟨⟨_,hE4,rfl,hH3,⟨B.clo _ _ hG3.1 X4,hG3.2⟩,fun s v hv=>aH X4 _ _ (hT3 s v hv)⟩,hsz3,hd.symm⟩
  have fin:vu (K e) a3 E3.w:= .inr ⟨D,hdf3,k1.trans hD,hK e _ _ _ _ hq (qB h0 hl hfin)⟩
  cases e with
  | nrm=>exact fin
  | ext id=>exact fin
  | ret=>exact fin
 ·intro z bx D Lp W hrun hW hD hlt
  rw [hrun] at hs
  obtain ⟨E,hE,rfl,hH,hG,hT,f1,f2,f3⟩:=hW
  have hs2:=cQ (hs.1 rfl)
  obtain ⟨hE4,X4⟩:=DY hE f2 (.deferred none)
  have hfin:eu B L.N ⟨L.qx.tmOf z,L.qx.hpOf z,fun _=>none,L.qx.nx⟩ { a with defers:= [] } (E.w.putObj D (.deferred none)):=
   ⟨⟨_,hE4,rfl,hH,⟨B.clo _ _ hG.1 X4,hG.2⟩,fun s v hv=>aH X4 _ _ (hT s v hv)⟩,hN,hd.symm⟩
  exact .inr ⟨D,by rw [hda],hD,hK .ret _ _ _ _ hs2 (qB h0 hl hfin)⟩
end Go.Mir
namespace Go.Proofs.YtffdpnmioidloaaGreatDoor
open Go Go.Mir Go.RowKit Go.Shelf
attribute [local irreducible] Go.Mir.DT.sat Go.Mir.evPat Go.Mir.RT.sat Go.Mir.evFn
def zY:Go.Shelf.Ren:=⟨fun|102=>54|209=>113|207=>174|n=>n,fun|9=>9|4=>4|3=>3|n=>n,fun|n=>n⟩
theorem Ly:Go.Proofs.Lays.n102 Tryz.prog zY where
 mixed:=by kernel_rfl
 f102:=Tryz.func54.trans (congrArg some (by kernel_rfl))
 f207:=Tryz.func174.trans (congrArg some (by kernel_rfl))
 f209:=Tryz.func113.trans (congrArg some (by kernel_rfl))
 t3:=Tryz.underlying3
 a3:=Tryz.isAgg3
 z3:=Tryz.sizeOf3
 v3:=Tryz.zeroValue3
 t4:=Tryz.underlying4
 a4:=Tryz.isAgg4
 z4:=Tryz.sizeOf4
 v4:=Tryz.zeroValue4
 t9:=Tryz.underlying9
 a9:=Tryz.isAgg9
 z9:=Tryz.sizeOf9
 v9:=Tryz.zeroValue9
abbrev qLs:Pat:=cW [.str]
abbrev Mn:Pat:=⟨[(0,.c (.fn 107 [.ptr 0 0]))],[(0,.cells [.h .str])],1⟩
def sLs:Den (tyP qLs)→List Prop×Den (tyP Mn):=fun x=>([],(x.1,()))
theorem J3 (s:ByteArray) :(evPat (ax [] Tryz.f51) (fun _=>none) Tryz.f51 qLs Mn (s,())).sat fun z_=>z_ =(sLs (s,())).2:=by
 refine cast (by kernel_rfl) (?_ :(s,()) =(s,()))
 all_goals trivial
def OO:FuncId×Ctr:=(51,ae KE qLs Mn sLs)
theorem LV:CtrOK Tryz.prog KE 51 (ae KE qLs Mn sLs):=by
 refine aE (C:=ax [] Tryz.f51) (au (CtrsOK.nil) _) mixed (fn:=Tryz.f51) Tryz.func51 (by kernel_rfl) (by kernel_rfl) (by kernel_rfl) (by kernel_rfl) (by kernel_rfl) (by kernel_rfl) (Λ:=fun _ _=>none) ?_ ?_
 ·exact fun _ _ _ _ _ _ _ _ h=>by cases h
 ·rintro ⟨s,⟨⟩⟩ hw hn
  exact J3 s
def gk (s t:ByteArray):ByteArray:=toB (Lib.trimSuffix s.data.toList t.data.toList)
abbrev Pw:Ty:= .prod .str (.prod .str .unit)
def Kl:Den Pw→PRes:=fun x=>⟨[x.1.size≤1000000],.str (gk x.1 x.2.1),[]⟩
def pP:FuncId×Ctr:=(54,bC KE Pw Kl)
theorem nr (s t:ByteArray) :(gk s t).size≤s.size:=by
 unfold gk toB Lib.trimSuffix
 show (List.toArray _).size≤s.data.size
 rw [List.size_toArray,←Array.length_toList]
 split <;> simp
theorem xW:CtrOK Tryz.prog KE 54 (bC KE Pw Kl):=by
 refine oz Tryz.func54 (by kernel_rfl) (by kernel_rfl) (fun _=>⟨rfl,rfl⟩) (fun x av w E hw hn hg hav=>?_) (fun _ _=>rfl)
 obtain ⟨s,sep,⟨⟩⟩:=x
 have hs:s.size≤1000000:=hn _ List.mem_cons_self
 obtain ⟨a,r,rfl,⟨rfl,hs1⟩,h1⟩:=bp hav
 obtain ⟨a,r,rfl,⟨rfl,hs2⟩,h2⟩:=bp h1
 have h5:r=[]:=by cases r with|nil=>rfl|cons=>simp [iK,ab] at h2
 subst h5
 refine (Any.strings_TrimSuffix Ly s sep w (by omega)).mono fun e w' ⟨he,hw'⟩=>⟨_,he,by rw [hw'];exact Keeps.refl _ _,fun E'=>?_⟩
 refine ⟨rfl,?_⟩
 have:=nr s sep
 have hL :(1000000:Nat)≤ai:=by decide
 show (gk s sep).size≤ai
 omega
theorem FY :∀ bx s0,s0.size≤1000000→wx Tryz.prog 107 bx s0 (bh s0):=fun bx s0 hs n l J Jx h1 h2 h3 W hb hf h0=>
 IR n l bx s0 hs J Jx h1 h2 h3 W hb hf h0
end Go.Proofs.YtffdpnmioidloaaGreatDoor
namespace Go.Proofs.YtffdpnmioidloaaGreatDoor
open Go Go.Mir Go.RowKit
attribute [local irreducible] Go.Mir.DT.sat Go.Mir.evPat Go.Mir.RT.sat Go.Mir.evFn
def RM (b:Mir.Book):List Int:= [b.Total,b.Wickets,b.Extras.Wides,b.Extras.NoBalls,b.Extras.Byes,b.Extras.LegByes,b.Extras.Penalties]
abbrev nj:Pat:=cW [.bool]
def okI (v:Int):Bool:=!(decide (v<0)||decide (v>1000000))
end Go.Proofs.YtffdpnmioidloaaGreatDoor
namespace Go.Proofs.YtffdpnmioidloaaGreatDoor
open Go Go.Mir Go.RowKit
attribute [local irreducible] Go.Mir.DT.sat Go.Mir.evPat Go.Mir.RT.sat Go.Mir.evFn
def Sy (v:Int):Bool:=v==46 ||(!decide (v<48)&&!decide (v>57)) ||(!decide (v<65)&&!decide (v>90)) ||(!decide (v<97)&&!decide (v>122))
def okC (b:UInt8):Bool:=Sy (b.toNat:Int)
def JF (s:ByteArray):Bool:=s.data.toList.all okC&&(bif !s.toList ==(⟨#[]⟩:ByteArray).toList then decide ((s.size:Int)≤16) else false)
end Go.Proofs.YtffdpnmioidloaaGreatDoor
namespace Go.Proofs.YtffdpnmioidloaaGreatDoor
open Go Go.Mir
attribute [local irreducible] Go.Mir.DT.sat Go.Mir.evPat
def gY (p:Int→Bool):List Int→Int→Option Int
 | [],_=>none
 | x::r,i=>if p x then some i else gY p r (i+1)
def Rb:Option Int→Sum (Int×Unit) Unit
 | some k=> .inl (k,())
 | none=> .inr ()
def Jj (o:Option Int):Int:=o.getD (-1)
theorem rD {p:Int→Bool} :∀ {l:List Int} {i:Int},(gY p l i).isSome=l.any p
 | [],_=>rfl
 | x::r,i=>by
  simp only [gY,List.any_cons]
  cases hp:p x with
  | true=>simp
  | false=>simpa using rD
theorem zk {p:Int→Bool} :∀ {l:List Int} {i k:Int},gY p l i=some k→i≤k
 | [],_,_,h=>by simp [gY] at h
 | x::r,i,k,h=>by
  simp only [gY] at h
  split at h
  ·cases h;exact Int.le_refl _
  ·have:=zk h;omega
theorem fM {α:Type} {l:List α} {i:Int} (h0:0≤i) (h:i<l.length) (d:α):l.drop i.toNat=l.getD i.toNat d::l.drop (i+1).toNat:=by
 have h1:i.toNat<l.length:=by omega
 rw [List.drop_eq_getElem_cons h1,show (i+1).toNat=i.toNat+1 by omega,List.getD_eq_getElem?_getD,List.getElem?_eq_getElem h1]
 rfl
theorem dV {α:Type} {l:List α} {i:Int} (h :(l.length:Int)≤i):l.drop i.toNat=[]:=List.drop_of_length_le (by omega)
theorem qf {n:Int} (h1:-9223372036854775808≤n) (h2:n≤9223372036854775807):IntKind.i64.wrap n=n:=wrap64 h1 h2
end Go.Proofs.YtffdpnmioidloaaGreatDoor
namespace Go.Proofs.YtffdpnmioidloaaGreatDoor
open Go Go.Mir Go.RowKit
attribute [local irreducible] Go.Mir.DT.sat Go.Mir.evPat Go.Mir.RT.sat Go.Mir.evFn
def dH (v:Int):Bool:=bif decide (v<0) then true else decide (v>1000000)
abbrev qI1:Pat:=cW [I]
def PP:Den (tyP qI1)→List Prop×Den (tyP nj):=fun x=>([],(dH x.1,()))
abbrev qLo (f:Nat):Pat:=⟨[(0,.h (.slice I)),(1,.c (.fn f [])),(7,.h I),(8,.h I)],[],0⟩
abbrev xLo:List (Lf×Pat):= [(.ret,⟨[(4,.h I)],[],0⟩),(.ext 0,⟨[],[],0⟩)]
def uO (x:List Int×Int×Int×Unit):Prop:=x.2.1=x.1.length∧0≤x.2.2.1∧x.2.2.1≤x.2.1∧x.1.length≤ai
def F1 (x:List Int×Int×Int×Unit):Nat:=(x.2.1 - x.2.2.1).toNat
def jF (x:List Int×Int×Int×Unit):Sum (Int×Unit) Unit:=Rb (gY dH (x.1.drop x.2.2.1.toNat) x.2.2.1)
abbrev qFo (f:Nat):Pat:=⟨[(0,.h (.slice I)),(1,.c (.fn f []))],[],0⟩
abbrev Mm:Pat:=cW [I]
def PO (f:Nat):Den (tyP (qFo f))→List Prop×Den (tyP Mm):=fun x=>([],(Jj (gY dH x.1 0),()))
def PL (f:Nat):Den (tyP (qFo f))→List Prop×Den (tyP nj):=fun x=>([],(x.1.any dH,()))
theorem x5 (v:Int):dH v=!okI v:=by
 unfold dH okI
 rw [Bool.not_not]
 cases decide (v<0) <;> rfl
end Go.Proofs.YtffdpnmioidloaaGreatDoor
namespace Go.Proofs.YtffdpnmioidloaaGreatDoor
open Go Go.Mir Go.RowKit Go.Shelf
theorem KA (l:List UInt8) :(toB l).size=l.length:=by
 show l.toArray.size=_
 rw [List.size_toArray]
def lays156_ren:Go.Shelf.Ren:=⟨fun|156=>103|165=>167|166=>68|169=>70|240=>120|241=>209|276=>176|277=>253|n=>n,fun|31=>76|9=>9|3=>3|4=>4|0=>0|20=>20|72=>111|76=>119|70=>108|37=>109|75=>118|127=>193|164=>236|5=>5|80=>122|n=>n,fun|n=>n⟩
theorem lays156:Go.Proofs.Lays.n156 Tryz.prog lays156_ren where
 mixed:=by kernel_rfl
 f156:=Tryz.func103.trans (congrArg some (by kernel_rfl))
 f165:=Tryz.func167.trans (congrArg some (by kernel_rfl))
 f166:=Tryz.func68.trans (congrArg some (by kernel_rfl))
 f169:=Tryz.func70.trans (congrArg some (by kernel_rfl))
 f240:=Tryz.func120.trans (congrArg some (by kernel_rfl))
 f241:=Tryz.func209.trans (congrArg some (by kernel_rfl))
 f276:=Tryz.func176.trans (congrArg some (by kernel_rfl))
 f277:=Tryz.func253.trans (congrArg some (by kernel_rfl))
 t0:=Tryz.underlying0
 a0:=Tryz.isAgg0
 z0:=Tryz.sizeOf0
 v0:=Tryz.zeroValue0
 t3:=Tryz.underlying3
 a3:=Tryz.isAgg3
 z3:=Tryz.sizeOf3
 v3:=Tryz.zeroValue3
 t4:=Tryz.underlying4
 a4:=Tryz.isAgg4
 z4:=Tryz.sizeOf4
 v4:=Tryz.zeroValue4
 t9:=Tryz.underlying9
 a9:=Tryz.isAgg9
 z9:=Tryz.sizeOf9
 v9:=Tryz.zeroValue9
 t20:=Tryz.underlying20
 a20:=Tryz.isAgg20
 z20:=Tryz.sizeOf20
 v20:=Tryz.zeroValue20
 t31:=Tryz.underlying76
 a31:=Tryz.isAgg76
 z31:=Tryz.sizeOf76
 v31:=Tryz.zeroValue76
 t37:=Tryz.underlying109
 a37:=Tryz.isAgg109
 z37:=Tryz.sizeOf109
 v37:=Tryz.zeroValue109
 t70:=Tryz.underlying108
 a70:=Tryz.isAgg108
 z70:=Tryz.sizeOf108
 v70:=Tryz.zeroValue108
 t72:=Tryz.underlying111
 a72:=Tryz.isAgg111
 z72:=Tryz.sizeOf111
 v72:=Tryz.zeroValue111
 t75:=Tryz.underlying118
 a75:=Tryz.isAgg118
 z75:=Tryz.sizeOf118
 v75:=Tryz.zeroValue118
 t76:=Tryz.underlying119
 a76:=Tryz.isAgg119
 z76:=Tryz.sizeOf119
 v76:=Tryz.zeroValue119
 t127:=Tryz.underlying193
 a127:=Tryz.isAgg193
 z127:=Tryz.sizeOf193
 v127:=Tryz.zeroValue193
 t164:=Tryz.underlying236
 a164:=Tryz.isAgg236
 z164:=Tryz.sizeOf236
 v164:=Tryz.zeroValue236
theorem Ab:Builder.Extra Tryz.prog lays156_ren where
 sizeBuilder:=by kernel_rfl
 liesBuilder:=by kernel_rfl
 t5:=Tryz.underlying5
 a5:=Tryz.isAgg5
 z5:=Tryz.sizeOf5
 v5:=Tryz.zeroValue5
 infoByte:=by kernel_rfl
 cellsByte:=by kernel_rfl
 sizeByte:=by kernel_rfl
 neB5:=by decide
def fY (l:List ByteArray) (sep:ByteArray):ByteArray:=toB (Lib.join (l.map (·.data.toList)) sep.data.toList)
end Go.Proofs.YtffdpnmioidloaaGreatDoor
namespace Go.Proofs.YtffdpnmioidloaaGreatDoor
open Go Go.Mir Go.RowKit
attribute [local irreducible] Go.Mir.DT.sat Go.Mir.evPat Go.Mir.RT.sat Go.Mir.evFn
def spV:ByteArray:=⟨#[32]⟩
def nlV:ByteArray:=⟨#[10]⟩
end Go.Proofs.YtffdpnmioidloaaGreatDoor
namespace Go.Proofs.YtffdpnmioidloaaGreatDoor
open Go Go.Mir
attribute [local irreducible] Go.Mir.DT.sat Go.Mir.evPat Go.Mir.RT.sat Go.Mir.evFn
abbrev qNr:Pat:=cW [.str,I,I]
abbrev Mo:Pat:=cW [I,I]
abbrev qNl:Pat:=⟨[(1,.h I),(2,.h I),(8,.h .bool),(9,.h .str),(10,.h (.int .u64)),(11,.h .bool),(12,.h I)],[],0⟩
abbrev xNl:List (Lf×Pat):= [(.ret,⟨[(6,.h I),(7,.h I)],[],0⟩),(.ext 0,⟨[(1,.h I),(2,.h I),(8,.h .bool),(10,.h (.int .u64)),(11,.h .bool)],[],0⟩)]
abbrev TNl:Type:=Int×Int×Bool×ByteArray×Int×Bool×Int×Unit
def Ew (n:Int) (b:Int):Int:=IntKind.u64.wrap (IntKind.u64.wrap (n*10)+IntKind.u64.wrap (IntKind.u8.wrap (b - 48)))
def mo:List UInt8→Int→Bool→Option (Int×Bool)
 | [],n,b=>some (n,b)
 | x::r,n,b=>if decide ((x.toNat:Int)<48)||decide ((x.toNat:Int)>57) then none else mo r (Ew n x.toNat) (b||decide (n>1152921504606846976))
def uT (x:TNl):Prop:=0≤x.2.2.2.2.2.2.1∧x.2.2.2.2.2.2.1≤(x.2.2.2.1.size:Int)∧x.2.2.2.1.size≤ai
def I7 (x:TNl):Nat:=((x.2.2.2.1.size:Int) - x.2.2.2.2.2.2.1).toNat
def QT (lo hi:Int) (g:Bool):Option (Int×Bool)→Sum (Int×Int×Unit) (Int×Int×Bool×Int×Bool×Unit)
 | none=> .inl (0,4,())
 | some p=> .inr (lo,hi,g,p.1,p.2,())
def gj (x:TNl):Sum (Int×Int×Unit) (Int×Int×Bool×Int×Bool×Unit):=QT x.1 x.2.1 x.2.2.1 (mo (x.2.2.2.1.data.toList.drop x.2.2.2.2.2.2.1.toNat) x.2.2.2.2.1 x.2.2.2.2.2.1)
def fw (s:ByteArray):Bool:=!s.data.toList.isEmpty&&s.data.toList.headD 0==45
def ba (s:ByteArray):ByteArray:=if fw s then s.extract 1 s.size else s
def Cj (neg:Bool) (lo hi:Int):Option (Int×Bool)→Int×Int
 | none=>(0,4)
 | some p=>
  if p.2 ||(decide (p.1>9223372036854775808) ||(p.1==9223372036854775808&&!neg)) then (0,2)
  else
   let v:=if neg then IntKind.i64.wrap (0 - IntKind.i64.wrap p.1) else IntKind.i64.wrap p.1
   if decide (v<lo)||decide (v>hi) then (0,2) else (v,0)
def bK (s:ByteArray) (lo hi:Int):Int×Int:=
 let d:=ba s
 if d.data.toList.isEmpty ||(d.data.toList.headD 0==48&&(fw s||decide ((d.size:Int)>1))) then (0,4)
 else Cj (fw s) lo hi (mo d.data.toList 0 false)
def J9:Den (tyP qNr)→List Prop×Den (tyP Mo):=fun x=>([],((bK x.1 x.2.1 x.2.2.1).1,(bK x.1 x.2.1 x.2.2.1).2,()))
theorem R5 {s:ByteArray} (h:wfD .str s):s.size≤ai:=by
 obtain ⟨S,w,cs,h⟩:=h
 cases h with|str h=>exact h
theorem isE (s:ByteArray) :(s.toList ==(ByteArray.mk #[]).toList)=s.data.toList.isEmpty:=by
 rw [Lib.toList_data,Lib.toList_data]
 cases s.data.toList <;> rfl
theorem Nw {s:ByteArray} (h :(!s.data.toList.isEmpty)=true):0 <(s.size:Int):=by
 have:s.data.toList.length≠0:=by
  cases hs:s.data.toList with
  | nil=>rw [hs] at h;cases h
  | cons=>simp
 rw [Array.length_toList] at this
 show 0 <(s.data.size:Int)
 omega
theorem D9 (s:ByteArray):s.data.getD (Int.toNat 0) 0=s.data.toList.headD 0:=by
 cases s with|mk d=>cases d with|mk l=>cases l <;> rfl
theorem Sj (b:UInt8) :((b.toNat:Int)==45) =(b==45):=by
 apply Bool.eq_iff_iff.2
 rw [beq_iff_eq,beq_iff_eq,←UInt8.toNat_inj]
 show _↔b.toNat=45
 omega
theorem Sk (b:UInt8) :((b.toNat:Int)==48) =(b==48):=by
 apply Bool.eq_iff_iff.2
 rw [beq_iff_eq,beq_iff_eq,←UInt8.toNat_inj]
 show _↔b.toNat=48
 omega
theorem pb (x:UInt8) (r:List UInt8) (n:Int) (b:Bool):mo (x::r) n b=if decide ((x.toNat:Int)<48)||decide ((x.toNat:Int)>57) then none else mo r (Ew n x.toNat) (b||decide (n>1152921504606846976)):=rfl
noncomputable def lpNl:Lp:=(⟨0,ax [] Tryz.f74,(fun _=>none),(bf Tryz.f74 0),qNl,xNl⟩:Lp)
theorem P5 (lo:Int) (hi_:Int) (g:Bool) (d:ByteArray) (n:Int) (b:Bool) (i:Int) (hi:uT (lo,hi_,g,d,n,b,i,())) :(Go.Mir.stepG lpNl gj (fun y:Den (tyP lpNl.q)=>uT y∧I7 y<I7 (lo,hi_,g,d,n,b,i,())) (lo,hi_,g,d,n,b,i,())∧Go.Mir.stepE lpNl gj (lo,hi_,g,d,n,b,i,())=gj (lo,hi_,g,d,n,b,i,())):=by
 refine cast (by kernel_rfl) (?_:let r1:Int:=(↑(d.1.getD i.toNat (0:UInt8)).toNat:Int);let r2:Bool:=decide (i <(↑d.size:Int));let r3:Bool:=decide (r1 <(48:Int));let r4:Bool:=bif r3 then true else decide (r1 >(57:Int));((r2=true→(((0:Int)≤i∧i <(↑d.size:Int))∧(r3=true→True)∧(r3=false→((0:Int)≤i∧i <(↑d.size:Int))∧True))∧(true=true→(r4=true→True)∧(r4=false→((0:Int)≤i∧i <(↑d.size:Int))∧uT (lo,hi_,g,d,IntKind.u64.wrap (IntKind.u64.wrap (n *(10:Int))+IntKind.u64.wrap (IntKind.u8.wrap (r1 - (48:Int)))),bif decide (n >(1152921504606846976:Int)) then true else b,IntKind.i64.wrap (i +(1:Int)),())∧I7 (lo,hi_,g,d,IntKind.u64.wrap (IntKind.u64.wrap (n *(10:Int))+IntKind.u64.wrap (IntKind.u8.wrap (r1 - (48:Int)))),bif decide (n >(1152921504606846976:Int)) then true else b,IntKind.i64.wrap (i +(1:Int)),())<I7 (lo,hi_,g,d,n,b,i,()))))∧(r2=false→True))∧(bif r2 then bif true&&true then bif r4 then Sum.inl ((0:Int),(4:Int),()) else gj (lo,hi_,g,d,IntKind.u64.wrap (IntKind.u64.wrap (n *(10:Int))+IntKind.u64.wrap (IntKind.u8.wrap (r1 - (48:Int)))),bif decide (n >(1152921504606846976:Int)) then true else b,IntKind.i64.wrap (i +(1:Int)),()) else bif true then bif r4 then Sum.inl ((0:Int),(4:Int),()) else gj (lo,hi_,g,d,IntKind.u64.wrap (IntKind.u64.wrap (n *(10:Int))+IntKind.u64.wrap (IntKind.u8.wrap (r1 - (48:Int)))),bif decide (n >(1152921504606846976:Int)) then true else b,IntKind.i64.wrap (i +(1:Int)),()) else bif r3 then Sum.inl (dflt (I.prod (I.prod Ty.unit))) else Sum.inl (dflt (I.prod (I.prod Ty.unit))) else Sum.inr (lo,hi_,g,n,b,()))=gj (lo,hi_,g,d,n,b,i,()))
 intro r1 r2 r3 r4
 clear_value (hr1:r1=_) (hr2:r2=_) (hr3:r3=_) (hr4:r4=_)
 obtain ⟨h1,h2,h3⟩:=hi
 have h1:0≤i:=h1
 have h2:i≤(d.size:Int):=h2
 have h3:d.size≤ai:=h3
 have hL:ai<9223372036854775807:=by decide
 by_cases h:i <(d.size:Int)
 ·have er2:r2=true:=by rw [hr2];exact decide_eq_true h
  have ew:IntKind.i64.wrap (i+1)=i+1:=wrap64 (by omega) (by omega)
  have hn:i.toNat<d.data.toList.length:=by rw [Array.length_toList];show i.toNat<d.size;omega
  have hx:d.data.getD i.toNat 0=d.data.toList[i.toNat]:=by
   have:i.toNat<d.data.size:=by rw [Array.length_toList] at hn;exact hn
   exact dif_pos this
  have e1 :(i+1).toNat=i.toNat+1:=by omega
  have key:gj (lo,hi_,g,d,n,b,i,())=if r4 then .inl (0,4,()) else gj (lo,hi_,g,d,Ew n r1,(b||decide (n>1152921504606846976)),i+1,()):=by
   unfold gj
   simp only []
   rw [List.drop_eq_getElem_cons hn,←hx,e1,hr4,hr3,hr1,pb]
   cases decide (((d.data.getD i.toNat 0).toNat:Int)<48) <;> cases decide (((d.data.getD i.toNat 0).toNat:Int)>57) <;> rfl
  rw [er2,key,ew]
  refine ⟨⟨fun _=>⟨⟨⟨h1,h⟩,fun _=>trivial,fun _=>⟨⟨h1,h⟩,trivial⟩⟩,fun _=>⟨fun _=>trivial,fun _=>⟨⟨h1,h⟩,⟨?_,?_,h3⟩,?_⟩⟩⟩,fun z=>Bool.noConfusion z⟩,?_⟩
  ·show 0≤i+1;omega
  ·show i+1≤(d.size:Int);omega
  ·show ((d.size:Int) - (i+1)).toNat <((d.size:Int) - i).toNat;omega
  ·cases r4
   ·cases b <;> cases decide (n>1152921504606846976) <;> rfl
   ·rfl
 ·have er2:r2=false:=by rw [hr2];exact decide_eq_false h
  rw [er2]
  refine ⟨⟨fun z=>Bool.noConfusion z,fun _=>trivial⟩,?_⟩
  unfold gj
  simp only [cond_false]
  rw [List.drop_eq_nil_of_le (by rw [Array.length_toList];show d.size≤i.toNat;omega)]
  rfl
noncomputable def NL:LoopSum:=az lpNl gj uT
noncomputable def Np:Nat:=rid (bf Tryz.f74 0)
theorem O0:LoopOKp Tryz.prog 0 Tryz.f74.ntmps (bf Tryz.f74 0) (az lpNl gj uT):=
 aY lpNl (au (CtrsOK.nil) _) mixed (fun b hb S hS=>by cases hS) gj uT I7 (fun |⟨lo,hi_,g,d,n,b,i,⟨⟩⟩,hi=>P5 lo hi_ g d n b i hi)
theorem Bh (s:ByteArray) (lo:Int) (hi:Int) (hs:s.size≤ai) :(evPat (ax [] Tryz.f74) (find [(Np,NL)]) Tryz.f74 qNr Mo (s,lo,hi,())).sat fun z_=>z_ =(J9 (s,lo,hi,())).2:=by
 refine cast (by kernel_rfl) (?_:let r1:Bool:=!s.toList ==(ByteArray.mk #[]).toList;let r2:Bool:=bif r1 then (↑(s.1.getD (Int.toNat (0:Int)) (0:UInt8)).toNat:Int) ==(45:Int) else false;let r3:ByteArray:=bif r2 then s.extract (Int.toNat (1:Int)) (↑s.size:Int).toNat else s;let r4:Int:=(↑r3.size:Int);let r5:Bool:=r3.toList ==(ByteArray.mk #[]).toList;let r6:Bool:=(↑(r3.1.getD (Int.toNat (0:Int)) (0:UInt8)).toNat:Int) ==(48:Int);let r7:Bool:=bif r5 then true else bif r6 then bif r2 then true else decide (r4 >(1:Int)) else false;let r8:Bool:=isL (gj (lo,hi,r2,r3,(0:Int),false,(0:Int),()));let r9:Int×Int×Bool×Int×Bool×PUnit:=qk (dflt (I.prod (I.prod (Ty.bool.prod ((Ty.int IntKind.u64).prod (Ty.bool.prod Ty.unit)))))) (gj (lo,hi,r2,r3,(0:Int),false,(0:Int),()));let r10:Int:=IntKind.i64.wrap r9.2.2.2.1;let r11:Int:=bif r9.2.2.1 then IntKind.i64.wrap ((0:Int) - r10) else r10;let r12:Bool:=bif r9.2.2.2.2.1 then true else bif decide (r9.2.2.2.1 >(9223372036854775808:Int)) then true else bif r9.2.2.2.1 ==(9223372036854775808:Int) then !r9.2.2.1 else false;let r13:Bool:=bif decide (r11<r9.1) then true else decide (r11>r9.2.1);((r1=true→((0:Int)≤(0:Int)∧(0:Int) <(↑s.size:Int))∧True)∧(r1=false→True))∧(true=true→((r2=true→((0:Int)≤(1:Int)∧(1:Int)≤(↑s.size:Int)∧(↑s.size:Int)≤(↑s.size:Int))∧True)∧(r2=false→True))∧(true=true→((r5=true→True)∧(r5=false→((0:Int)≤(0:Int)∧(0:Int)<r4)∧(r6=true→(r2=true→True)∧(r2=false→True))∧(r6=false→True)))∧(true=true→(r7=true→((0:Int),(4:Int),()) =((bK s lo hi).1,(bK s lo hi).2,()))∧(r7=false→((ij fun x=>none)∧(0:Int)≤(0:Int)∧(0:Int)≤r4∧r3.size≤ai)∧(r8=true→oQ (dflt (I.prod (I.prod Ty.unit))) (gj (lo,hi,r2,r3,(0:Int),false,(0:Int),())) =((bK s lo hi).1,(bK s lo hi).2,()))∧(r8=false→(r12=true→((0:Int),(2:Int),()) =((bK s lo hi).1,(bK s lo hi).2,()))∧(r12=false→(r13=true→((0:Int),(2:Int),()) =((bK s lo hi).1,(bK s lo hi).2,()))∧(r13=false→(r11,(0:Int),()) =((bK s lo hi).1,(bK s lo hi).2,())))))))))
 intro r1 r2 r3 r4 r5 r6 r7 r8 r9 r10 r11 r12 r13
 clear_value (hr1:r1=_) (hr2:r2=_) (hr3:r3=_) (hr4:r4=_) (hr5:r5=_) (hr6:r6=_) (hr7:r7=_) (hr8:r8=_) (hr9:r9=_) (hr10:r10=_) (hr11:r11=_) (hr12:r12=_) (hr13:r13=_)
 have e1:r1=!s.data.toList.isEmpty:=by rw [hr1,isE]
 have hz:r1=true→0 <(s.size:Int):=fun h=>by rw [e1] at h;exact Nw h
 have e2:r2=fw s:=by
  rw [hr2,e1]
  unfold fw
  cases he:s.data.toList.isEmpty
  ·rw [D9,Sj]
   rfl
  ·rfl
 have h2:r2=true→0 <(s.size:Int):=fun h=>hz (by rw [hr2] at h;cases r1;exact h;rfl)
 have e3:r3=ba s:=by
  rw [hr3,e2]
  unfold ba
  cases fw s <;> rfl
 have hd :(ba s).size≤ai:=by
  unfold ba
  split
  ·rw [ByteArray.size_extract];omega
  ·exact hs
 have e5:r5 =(ba s).data.toList.isEmpty:=by rw [hr5,e3,isE]
 have e6:r6 =((ba s).data.toList.headD 0==48):=by rw [hr6,e3,D9,Sk]
 have e7:r7 =((ba s).data.toList.isEmpty ||((ba s).data.toList.headD 0==48&&(fw s||decide (((ba s).size:Int)>1)))):=by
  rw [hr7,e5,e6,e2,hr4,e3]
  cases (ba s).data.toList.isEmpty <;> cases ((ba s).data.toList.headD 0==48) <;> cases fw s <;> rfl
 have er:gj (lo,hi,r2,r3,0,false,0,())=QT lo hi (fw s) (mo (ba s).data.toList 0 false):=by
  rw [e2,e3];rfl
 have eN:r7=true→bK s lo hi =(0,4):=fun h=>by
  unfold bK;simp only [];rw [←e7,h];rfl
 have eF:r7=false→bK s lo hi=Cj (fw s) lo hi (mo (ba s).data.toList 0 false):=fun h=>by
  unfold bK;simp only [];rw [←e7,h];rfl
 refine ⟨⟨fun h=>⟨⟨Int.le_refl _,hz h⟩,trivial⟩,fun _=>trivial⟩,fun _=>⟨⟨fun h=>⟨⟨by decide,by have:=h2 h;omega,Int.le_refl _⟩,trivial⟩,fun _=>trivial⟩,fun _=>⟨⟨fun _=>trivial,fun h=>⟨⟨Int.le_refl _,?_⟩,fun _=>⟨fun _=>trivial,fun _=>trivial⟩,fun _=>trivial⟩⟩,fun _=>⟨fun h=>by rw [eN h],fun h7=>⟨⟨rfl,Int.le_refl _,by omega,by rw [e3];exact hd⟩,?_⟩⟩⟩⟩⟩
 ·rw [hr4,e3]
  exact Nw (by rw [←e5,h];rfl)
 ·rw [eF h7]
  rw [er] at hr8 hr9 ⊢
  cases hp:mo (ba s).data.toList 0 false with
  | none=>
   rw [hp] at hr8 hr9
   have:r8=true:=hr8
   exact ⟨fun _=>rfl,fun h=>absurd (this▸h) (by decide)⟩
  | some p=>
   rw [hp] at hr8 hr9
   have h8:r8=false:=hr8
   have h9:r9 =(lo,hi,fw s,p.1,p.2,()):=hr9
   rw [h9] at hr10 hr11 hr12 hr13
   simp only at hr10 hr11 hr12 hr13
   refine ⟨fun h=>absurd (h8▸h) (by decide),fun _=>?_⟩
   have c12:r12 =(p.2 ||(decide (p.1>9223372036854775808) ||(p.1==9223372036854775808&&!fw s))):=by
    rw [hr12]
    cases p.2 <;> cases decide (p.1>9223372036854775808) <;> cases (p.1==9223372036854775808) <;> rfl
   have c11:r11=if fw s then IntKind.i64.wrap (0 - IntKind.i64.wrap p.1) else IntKind.i64.wrap p.1:=by
    rw [hr11,hr10]
    cases fw s <;> rfl
   have c13:r13 =(decide (r11<lo)||decide (r11>hi)):=by
    rw [hr13]
    cases decide (r11<lo) <;> rfl
   unfold Cj
   simp only []
   rw [←c12,←c11,←c13]
   refine ⟨fun h=>by rw [h];rfl,fun h=>⟨fun h'=>by rw [h,h'];rfl,fun h'=>by rw [h,h'];rfl⟩⟩
def vj:FuncId×Ctr:=(74,ae KE qNr Mo J9)
theorem so:CtrOK Tryz.prog KE 74 (ae KE qNr Mo J9):=by
 refine aE (C:=ax [] Tryz.f74) (au (CtrsOK.nil) _) mixed (fn:=Tryz.f74) Tryz.func74 (by kernel_rfl) (by kernel_rfl) (by kernel_rfl) (by kernel_rfl) (by kernel_rfl) (by kernel_rfl) (Λ:=fun x=>find [(Np,NL)]) ?_ ?_
 ·rintro ⟨s,lo,hi,⟨⟩⟩ hw hn
  exact LoopsOKp.at (by kernel_rfl) (.cons (by kernel_rfl) (O0) .nil)
 ·rintro ⟨s,lo,hi,⟨⟩⟩ hw hn
  exact Bh s lo hi (R5 (nv hw))
end Go.Proofs.YtffdpnmioidloaaGreatDoor
namespace Go.Proofs.YtffdpnmioidloaaGreatDoor
open Go Go.Mir
def jc (c:UInt8):Bool:=decide (48≤c.toNat)&&decide (c.toNat≤57)
def lI:List UInt8→Nat→Nat
 | [],a=>a
 | c::r,a=>lI r (a*10 +(c.toNat - 48))
theorem Ff :∀ (l:List UInt8) (a:Nat),a≤lI l a
 | [],_=>Nat.le_refl _
 | c::r,a=>by
  have:=Ff r (a*10 +(c.toNat - 48))
  unfold lI
  omega
theorem FC (c:UInt8):digsB.data.toList.contains c=jc c:=by
 have key :∀ c:Fin 256,digsB.data.toList.contains (UInt8.ofNat c.val)=jc (UInt8.ofNat c.val):=by decide +kernel
 have:=key ⟨c.toNat,UInt8.toNat_lt c⟩
 simpa using this
theorem Ca (p:UInt8→Bool) :∀ l:List UInt8,l.dropWhile p=[]↔∀ x∈l,p x=true
 | []=>by simp
 | x::r=>by
  have ih:=Ca p r
  rw [List.dropWhile_cons]
  cases hp:p x
  ·simp [hp]
  ·simp [hp,ih]
theorem KD (p:UInt8→Bool) (l:List UInt8) :((l.reverse.dropWhile p).reverse.dropWhile p).isEmpty=l.all p:=by
 apply Bool.eq_iff_iff.2
 rw [List.isEmpty_iff,Ca,List.all_eq_true]
 constructor
 ·intro h
  by_cases he:l.reverse.dropWhile p=[]
  ·intro x hx
   exact ((Ca p _).1 he) x (List.mem_reverse.2 hx)
  ·have h1:=List.head_dropWhile_not p he
   have h2:=h _ (List.mem_reverse.2 (List.head_mem he))
   rw [h1] at h2;cases h2
 ·intro h x hx
  have hx:=List.mem_reverse.1 hx
  exact h x (List.mem_reverse.1 ((List.dropWhile_sublist p).mem hx))
theorem Sl (s:ByteArray) :(s.extract 1 s.size).data.toList=s.data.toList.drop 1:=by
 rw [←yy]
 show ((s.data.toList.take s.size).drop 1)=_
 rw [List.take_of_length_le (by rw [Array.length_toList];exact Nat.le_refl _)]
theorem lN (s:ByteArray) :(ba s).data.toList=if fw s then s.data.toList.drop 1 else s.data.toList:=by
 unfold ba
 split
 ·exact Sl s
 ·rfl
theorem DB (s:ByteArray):Lib.trimPrefix s.data.toList minusB.data.toList =(ba s).data.toList:=by
 rw [lN]
 unfold fw Lib.trimPrefix Lib.hasPrefix minusB
 cases s.data.toList with
 | nil=>rfl
 | cons b t=>
  have:List.isPrefixOf [45] (b::t) =(b==45):=by
   show ((45:UInt8)==b&&List.isPrefixOf [] t)=_
   rw [BEq.comm]
   simp [List.isPrefixOf]
  show (if List.isPrefixOf [45] (b::t) then _ else _)=_
  rw [this]
  simp
theorem Bs (s:ByteArray):s.size=s.data.toList.length:=by rw [Array.length_toList];rfl
theorem wY (s:ByteArray):mi s =(!(ba s).data.toList.isEmpty&&!((ba s).data.toList.headD 0==48&&(fw s||decide (((ba s).size:Int)>1)))&&(ba s).data.toList.all jc):=by
 unfold mi
 rw [DB,Lib.toList_data]
 have ht :(Lib.trimS (ba s).data.toList digsB.data.toList).isEmpty =(ba s).data.toList.all jc:=by
  unfold Lib.trimS Lib.trimLeftS Lib.trimRightS
  have :(fun x=>digsB.data.toList.contains x)=jc:=funext FC
  rw [this,KD]
 simp only [ht,Bs]
 rw [lN]
 cases hn:fw s with
 | true=>
  simp only [if_true,Bool.true_or,Bool.and_true]
  have :(s.data.toList==[48])=false:=by
   unfold fw at hn
   cases hs:s.data.toList with
   | nil=>rfl
   | cons b t=>
    rw [hs] at hn
    have hb:b=45:=by simpa using hn
    subst hb
    simp
  rw [this]
  cases (s.data.toList.drop 1).isEmpty <;> simp
 | false=>
  simp only [Bool.false_or,Bool.false_eq_true,if_false]
  cases hs:s.data.toList with
  | nil=>rfl
  | cons b t=>
   cases t with
   | nil=>simp
   | cons c r=>
    have h1:decide (((b::c::r).length:Int)>1)=true:=decide_eq_true (by simp only [List.length_cons];omega)
    have h2 :(b::c::r==[(48:UInt8)])=false:=by simp
    rw [h1,h2]
    simp
theorem vB :∀ (l:List UInt8) (n:Int) (b:Bool),l.all jc=false→mo l n b=none
 | [],_,_,h=>by cases h
 | c::r,n,b,h=>by
  rw [pb]
  by_cases hc:jc c=true
  ·have h':r.all jc=false:=by
    rw [List.all_cons,hc] at h;exact h
   unfold jc at hc
   rw [if_neg (by simp at hc ⊢;omega)]
   exact vB r _ _ h'
  ·unfold jc at hc
   rw [if_pos (by simp at hc ⊢;omega)]
def Qy (n:Int) (b:Bool) (a:Nat):Prop:=(b=false∧n=a∧a≤11529215046068469769)∨(b=true∧a>9223372036854775808)
theorem vC :∀ (l:List UInt8) (n:Int) (b:Bool) (a:Nat),l.all jc=true→Qy n b a→∃ n' b',mo l n b=some (n',b')∧Qy n' b' (lI l a)
 | [],n,b,a,_,h=>⟨n,b,rfl,h⟩
 | c::r,n,b,a,h,hi=>by
  rw [List.all_cons,Bool.and_eq_true] at h
  have hc:=h.1
  unfold jc at hc
  simp only [Bool.and_eq_true,decide_eq_true_eq] at hc
  rw [pb,if_neg (by simp;omega)]
  refine vC r _ _ (a*10 +(c.toNat - 48)) h.2 ?_
  rcases hi with ⟨rfl,rfl,h3⟩ |⟨rfl,h3⟩
  ·by_cases hb:a>1152921504606846976
   ·refine .inr ⟨by simp;omega,by omega⟩
   ·refine .inl ⟨by simp;omega,?_,by omega⟩
    unfold Ew
    have e1:IntKind.u8.wrap ((c.toNat:Int) - 48) =(c.toNat:Int) - 48:=by
     simp only [IntKind.wrap,IntKind.bits,IntKind.signed]
     simp
     omega
    have e2:IntKind.u64.wrap ((a:Int)*10) =(a:Int)*10:=wk (by omega) (by omega)
    have e3:IntKind.u64.wrap ((c.toNat:Int) - 48) =(c.toNat:Int) - 48:=wk (by omega) (by omega)
    rw [e1,e2,e3,wk (by omega) (by omega)]
    omega
  ·exact .inr ⟨by simp,by omega⟩
theorem BE :∀ (l:List UInt8) (a:Nat),l.all jc=true→a≤18446744073709551615→
  (Lib.parseUintM 18446744073709551615 a l = .ok (lI l a)∧lI l a≤18446744073709551615)∨(Lib.parseUintM 18446744073709551615 a l = .range∧lI l a>18446744073709551615)
 | [],a,_,h=> .inl ⟨rfl,h⟩
 | c::r,a,h,ha=>by
  rw [List.all_cons,Bool.and_eq_true] at h
  have hc:=h.1
  unfold jc at hc
  simp only [Bool.and_eq_true,decide_eq_true_eq] at hc
  unfold Lib.parseUintM
  rw [if_pos hc]
  have hv:=Ff r (a*10 +(c.toNat - 48))
  split
  ·exact .inr ⟨rfl,by unfold lI;omega⟩
  ·split
   ·exact .inr ⟨rfl,by unfold lI;omega⟩
   ·exact BE r _ h.2 (by omega)
theorem LR {s:ByteArray} {lo hi:Int} (h:mi s=false):bK s lo hi =(0,4):=by
 rw [wY] at h
 unfold bK
 simp only []
 split
 ·rfl
 ·rename_i h1
  have h1 :((ba s).data.toList.isEmpty ||((ba s).data.toList.headD 0==48&&(fw s||decide (((ba s).size:Int)>1))))=false:=by simpa using h1
  rw [Bool.or_eq_false_iff] at h1
  rw [h1.1,h1.2] at h
  rw [vB _ _ _ (by simpa using h)]
  rfl
theorem Jk {s:ByteArray} {lo hi:Int} (h:mi s=true) :(ba s).data.toList≠ []∧(ba s).data.toList.all jc=true∧bK s lo hi=Cj (fw s) lo hi (mo (ba s).data.toList 0 false):=by
 rw [wY,Bool.and_eq_true,Bool.and_eq_true] at h
 obtain ⟨⟨h1,h2⟩,h3⟩:=h
 refine ⟨fun e=>(by rw [e] at h1;cases h1),h3,?_⟩
 unfold bK
 simp only []
 rw [if_neg]
 have h1 :(ba s).data.toList.isEmpty=false:=by simpa using h1
 rw [Bool.not_eq_true'] at h2
 rw [h1,h2]
 decide
theorem vQ {s:ByteArray} (h1 :(ba s).data.toList≠ []) (h2 :(ba s).data.toList.all jc=true) :
  Lib.parseIntB 64 s.data.toList =(if (if fw s then lI (ba s).data.toList 0>9223372036854775808 else lI (ba s).data.toList 0≥9223372036854775808) then .range else .ok (if fw s then -(lI (ba s).data.toList 0:Int) else lI (ba s).data.toList 0)):=by
 have hl:=lN s
 generalize (ba s).data.toList=d at *
 unfold fw at *
 generalize s.data.toList=l at *
 cases l with
 | nil=>exact absurd hl h1
 | cons c r=>
  have hv:=BE d 0 h2 (by decide)
  have hd:Lib.parseUintB 64 (if c.toNat=43∨c.toNat=45 then r else c::r)=Lib.parseUintM 18446744073709551615 0 d:=by
   have :(if c.toNat=43∨c.toNat=45 then r else c::r)=d:=by
    rw [hl]
    by_cases h:c=45
    ·subst h;rfl
    ·have hb :(c==45)=false:=by simpa using h
     have hn :(!(c::r).isEmpty&&(c::r).headD 0==45)=false:=by simpa using hb
     rw [hn] at hl ⊢
     simp only [if_false,Bool.false_eq_true] at hl ⊢
     rw [if_neg]
     rw [hl,List.all_cons,Bool.and_eq_true] at h2
     have:=h2.1
     unfold jc at this
     simp only [Bool.and_eq_true,decide_eq_true_eq] at this
     omega
   rw [this]
   unfold Lib.parseUintB
   rw [if_neg h1]
  unfold Lib.parseIntB
  simp only []
  rw [hd]
  have hneg :(c.toNat=45)↔(!(c::r).isEmpty&&(c::r).headD 0==45)=true:=by
   simp only [List.isEmpty_cons,Bool.not_false,Bool.true_and,List.headD_cons,beq_iff_eq]
   rw [←UInt8.toNat_inj]
   exact Iff.rfl
  cases hb :(!(c::r).isEmpty&&(c::r).headD 0==45) with
  | true=>
   have hc:c.toNat=45:=hneg.2 hb
   rcases hv with ⟨e,hle⟩ |⟨e,hgt⟩
   ·rw [e]
    simp only [hc,not_true,false_and,if_false,true_and,if_true]
   ·rw [e]
    simp only [if_true]
    rw [if_pos (by omega)]
  | false=>
   have hc :¬ c.toNat=45:=fun h=>by rw [hneg.1 h] at hb;cases hb
   rcases hv with ⟨e,hle⟩ |⟨e,hgt⟩
   ·rw [e]
    simp only [hc,not_false_iff,true_and,false_and,if_false,Bool.false_eq_true]
   ·rw [e]
    simp only [Bool.false_eq_true,if_false]
    rw [if_pos (by omega)]
theorem cu (s:ByteArray) (lo hi:Int):bK s lo hi=jy s lo hi:=by
 unfold jy
 cases hb:mi s with
 | false=>exact LR hb
 | true=>
  obtain ⟨h1,h2,h3⟩:=Jk (lo:=lo) (hi:=hi) hb
  rw [h3,vQ h1 h2]
  obtain ⟨n,b,hn,hi'⟩:=vC (ba s).data.toList 0 false 0 h2 (.inl ⟨rfl,rfl,by omega⟩)
  rw [hn]
  generalize lI (ba s).data.toList 0=V at *
  unfold Cj
  simp only [if_true]
  rcases hi' with ⟨rfl,rfl,hV⟩ |⟨rfl,hV⟩
  ·cases fw s with
   | true=>
    by_cases hg:V>9223372036854775808
    ·rw [if_pos (by simp;omega)]
     simp [hg]
    ·rw [if_neg (by simp;omega)]
     simp only [if_true,hg,if_false]
     have e1:IntKind.i64.wrap (0 - IntKind.i64.wrap (V:Int)) = -(V:Int):=by
      by_cases h63:V=9223372036854775808
      ·subst h63;decide
      ·rw [wrap64 (n:=(V:Int)) (by omega) (by omega),wrap64 (by omega) (by omega)];omega
     rw [e1]
     by_cases hr:-(V:Int)<lo∨hi < -(V:Int)
     ·rw [if_pos (by simpa using hr),if_pos hr]
     ·rw [if_neg (by simpa using hr),if_neg hr]
   | false=>
    by_cases hg:V≥9223372036854775808
    ·rw [if_pos (by simp;omega)]
     simp [hg]
    ·rw [if_neg (by simp;omega)]
     simp only [Bool.false_eq_true,if_false,hg]
     have e1:IntKind.i64.wrap (V:Int) =(V:Int):=wrap64 (by omega) (by omega)
     rw [e1]
     by_cases hr :(V:Int)<lo∨hi <(V:Int)
     ·rw [if_pos (by simpa using hr),if_pos hr]
     ·rw [if_neg (by simpa using hr),if_neg hr]
  ·rw [if_pos (by simp)]
   cases fw s
   ·simp only [Bool.false_eq_true,if_false]
    rw [if_pos (by omega)]
   ·simp only [if_true]
    rw [if_pos (by omega)]
end Go.Proofs.YtffdpnmioidloaaGreatDoor
namespace Go.Mir
open Go.RowKit
variable {P:Program}
end Go.Mir
namespace Go.Proofs.YtffdpnmioidloaaGreatDoor
open Go Go.Mir
def lq (b:ByteArray):Int×Int:=jy b 0 1000000
theorem lM {n:Int} (h0:0≤n) (h1:n≤1000000) :(aZ n).size≤21:=by
 show (Lib.itoa n).toArray.size≤21
 rw [List.size_toArray]
 exact Lib.itoa_length_le n (by omega) (by omega)
end Go.Proofs.YtffdpnmioidloaaGreatDoor
namespace Go.Proofs.YtffdpnmioidloaaGreatDoor
open Go Go.Mir Go.RowKit
attribute [local irreducible] Go.Mir.DT.sat Go.Mir.evPat Go.Mir.RT.sat Go.Mir.evFn
end Go.Proofs.YtffdpnmioidloaaGreatDoor
namespace Go.Proofs.YtffdpnmioidloaaGreatDoor
open Go Go.Mir
theorem DS (c:UInt8) :∀ a:List UInt8,c∉a→dp c a=[a]
 | [],_=>rfl
 | b::l,h=>by
  have h1:b≠c:=fun e=>h (by rw [e];exact List.mem_cons_self)
  have ih:=DS c l (fun e=>h (List.mem_cons_of_mem _ e))
  unfold dp
  rw [if_neg (by simpa using h1),ih]
theorem oC (c:UInt8) :∀ a r:List UInt8,c∉a→dp c (a++c::r)=a::dp c r
 | [],r,_=>by
  show dp c (c::r)=_
  conv=>lhs;unfold dp
  rw [if_pos (by simp)]
 | b::l,r,h=>by
  have h1:b≠c:=fun e=>h (by rw [e];exact List.mem_cons_self)
  have ih:=oC c l r (fun e=>h (List.mem_cons_of_mem _ e))
  show dp c (b ::(l++c::r))=_
  conv=>lhs;unfold dp
  rw [if_neg (by simpa using h1),ih]
theorem BF (c:UInt8) :∀ (l:List UInt8) (a:Nat),lI (l++[c]) a=lI l a*10 +(c.toNat - 48)
 | [],a=>rfl
 | x::r,a=>BF c r _
theorem nA {d:Nat} (h:d<10) :(UInt8.ofNat (48+d)).toNat=48+d:=by
 rw [UInt8.toNat_ofNat']
 omega
theorem Hv {n:Nat} (h :¬ n<10):Lib.decDigits n=Lib.decDigits (n / 10)++[UInt8.ofNat (48+n % 10)]:=by
 conv=>lhs;rw [Lib.decDigits]
 rw [dif_neg h]
theorem Lc {n:Nat} (h:n<10):Lib.decDigits n=[UInt8.ofNat (48+n)]:=by
 rw [Lib.decDigits,dif_pos h]
theorem oo :∀ (k n:Nat),n<k→lI (Lib.decDigits n) 0=n∧(Lib.decDigits n).all jc=true∧Lib.decDigits n≠ []∧((Lib.decDigits n).headD 0=48→(Lib.decDigits n).length=1)
 | 0,n,h=>absurd h (Nat.not_lt_zero _)
 | k+1,n,h=>by
  by_cases h10:n<10
  ·rw [Lc h10]
   refine ⟨?_,?_,by simp,fun _=>rfl⟩
   ·show 0*10 +((UInt8.ofNat (48+n)).toNat - 48)=n
    rw [nA h10];omega
   ·simp [jc,nA h10];omega
  ·obtain ⟨i1,i2,i3,i4⟩:=oo k (n / 10) (by omega)
   have hm:n % 10<10:=by omega
   rw [Hv h10]
   refine ⟨?_,?_,by simp,fun hh=>?_⟩
   ·rw [BF,i1,nA hm];omega
   ·rw [List.all_append,i2]
    simp [jc,nA hm];omega
   ·exfalso
    cases hd:Lib.decDigits (n / 10) with
    | nil=>exact i3 hd
    | cons x t=>
     rw [hd] at hh i4 i1
     have hx:x=48:=hh
     have hl:=i4 hx
     cases t with
     | cons=>simp at hl
     | nil=>
      subst hx
      have :(0:Nat)=n / 10:=i1
      omega
theorem Ef {b:UInt8} (h:jc b=true):b≠45∧b≠32:=by
 constructor <;>(rintro rfl;exact absurd h (by decide))
theorem lL {n:Int} (h0:0≤n) :(aZ n).data.toList=Lib.decDigits n.toNat:=by
 show (Lib.itoa n).toArray.toList=_
 unfold Lib.itoa
 rw [if_neg (by omega)]
theorem Jg {n:Int} (h0:0≤n):fw (aZ n)=false:=by
 unfold fw
 rw [lL h0]
 obtain ⟨_,h2,h3,_⟩:=oo _ n.toNat (Nat.lt_succ_self _)
 cases hd:Lib.decDigits n.toNat with
 | nil=>exact absurd hd h3
 | cons x t=>
  rw [hd,List.all_cons,Bool.and_eq_true] at h2
  simpa using (Ef h2.1).1
theorem LS {n:Int} (h0:0≤n) (h1:n≤1000000):lq (aZ n) =(n,0):=by
 obtain ⟨v1,v2,v3,v4⟩:=oo _ n.toNat (Nat.lt_succ_self _)
 have hn:=Jg h0
 have hl :(ba (aZ n)).data.toList=Lib.decDigits n.toNat:=by
  rw [lN,hn,if_neg (by decide),lL h0]
 have hb:mi (aZ n)=true:=by
  rw [wY,hl,hn,v2,Bs,hl,Bool.false_or]
  have h1 :(Lib.decDigits n.toNat).isEmpty=false:=by simpa using v3
  rw [h1]
  cases h48 :((Lib.decDigits n.toNat).headD 0==48)
  ·rfl
  ·rw [v4 (eq_of_beq h48)];rfl
 unfold lq jy
 rw [if_pos hb,vQ (by rw [hl];exact v3) (by rw [hl];exact v2),hl,hn,v1]
 simp only [Bool.false_eq_true,if_false]
 rw [if_neg (by omega)]
 simp only []
 rw [if_neg (by omega)]
 have :((n.toNat:Nat):Int)=n:=by omega
 rw [this]
theorem Bz (a:ByteArray):toB a.data.toList=a:=wF rfl
theorem Rt {n:Int} (h0:0≤n) :(32:UInt8)∉(aZ n).data.toList:=by
 intro h
 rw [lL h0] at h
 obtain ⟨_,h2,_,_⟩:=oo _ n.toNat (Nat.lt_succ_self _)
 exact (Ef (List.all_eq_true.1 h2 _ h)).2 rfl
end Go.Proofs.YtffdpnmioidloaaGreatDoor
namespace Go.Proofs.YtffdpnmioidloaaGreatDoor
open Go Go.Mir
def wtab:List dismissal_way:=
 [{ how:=0,name:={ data:=#[78,79,84,79,85,84] },fair:=false,wide:=false,no:=false,fielder:=false,either:=false },
  { how:=1,name:={ data:=#[66,79,87,76,69,68] },fair:=true,wide:=false,no:=false,fielder:=false,either:=false },
  { how:=2,name:={ data:=#[67,65,85,71,72,84] },fair:=true,wide:=false,no:=false,fielder:=true,either:=false },
  { how:=3,name:={ data:=#[76,66,87] },fair:=true,wide:=false,no:=false,fielder:=false,either:=false },
  { how:=4,name:={ data:=#[83,84,85,77,80,69,68] },fair:=true,wide:=true,no:=false,fielder:=true,either:=false },
  { how:=5,name:={ data:=#[72,73,84,87,73,67,75,69,84] },fair:=true,wide:=true,no:=false,fielder:=false,either:=false },
  { how:=6,name:={ data:=#[82,85,78,79,85,84] },fair:=true,wide:=true,no:=true,fielder:=true,either:=true },
  { how:=7,name:={ data:=#[72,73,84,84,87,73,67,69] },fair:=true,wide:=false,no:=true,fielder:=false,either:=false },
  { how:=8,name:={ data:=#[79,66,83,84,82,85,67,84,73,78,71] },fair:=true,wide:=true,no:=true,fielder:=false,either:=true },
  { how:=9,name:={ data:=#[84,73,77,69,68,79,85,84] },fair:=false,wide:=false,no:=false,fielder:=false,either:=false },
  { how:=10,name:={ data:=#[82,69,84,73,82,69,68] },fair:=false,wide:=false,no:=false,fielder:=false,either:=false }]
def ofW (h:Int):dismissal_way:=(wtab.find? fun w=>w.how==h).getD dismissal_way.zero
end Go.Proofs.YtffdpnmioidloaaGreatDoor
namespace Go.Proofs.YtffdpnmioidloaaGreatDoor
open Go Go.Mir
attribute [local irreducible] Go.Mir.RT.sat Go.Mir.evFn Go.Mir.stepObl
end Go.Proofs.YtffdpnmioidloaaGreatDoor
namespace Go.Proofs.YtffdpnmioidloaaGreatDoor
open Go Go.Mir Go.RowKit
attribute [local irreducible] Go.Mir.DT.sat Go.Mir.evPat Go.Mir.RT.sat Go.Mir.evFn
abbrev qPn:Pat:=cW [.str]
def Rr (h:Int):ByteArray:=(ofW h).name
end Go.Proofs.YtffdpnmioidloaaGreatDoor
namespace Go.Proofs.YtffdpnmioidloaaGreatDoor
open Go Go.Mir
theorem uB :∀ (w:List UInt8) (ws:List (List UInt8)),(∀ x∈w::ws,(32:UInt8)∉x)→dp 32 (Lib.join (w::ws) [32])=w::ws
 | w,[],h=>by
  rw [Lib.join_one]
  exact DS _ _ (h w List.mem_cons_self)
 | w,v::ws,h=>by
  have ih:=uB v ws fun x hx=>h x (List.mem_cons_of_mem _ hx)
  have e:Lib.join (w::v::ws) [32]=w++32::Lib.join (v::ws) [32]:=by
   rw [Lib.join_cons,Lib.join_cons]
   simp [Lib.joinTail]
  rw [e,oC _ _ _ (h w List.mem_cons_self),ih]
theorem Lu {c:UInt8} (hc:c≠32) :∀ (ws:List (List UInt8)),(∀ x∈ws,c∉x)→c∉Lib.join ws [32]
 | [],_=>by simp [Lib.join_nil]
 | w::ws,h=>by
  rw [Lib.join_cons]
  intro hm
  rcases List.mem_append.1 hm with hm|hm
  ·exact h w List.mem_cons_self hm
  ·unfold Lib.joinTail at hm
   obtain ⟨l,hl,hm⟩:=List.mem_flatten.1 hm
   obtain ⟨x,hx,rfl⟩:=List.mem_map.1 hl
   rcases List.mem_append.1 hm with hm|hm
   ·exact hc (List.mem_singleton.1 hm)
   ·exact h x (List.mem_cons_of_mem _ hx) hm
theorem nP {c:UInt8} :∀ (a b:List UInt8),c∉a→Lib.indexByte (a++c::b) c=a.length
 | [],b,_=>by simp [Lib.indexByte]
 | x::a,b,h=>by
  have ih:=nP a b fun hm=>h (List.mem_cons_of_mem _ hm)
  have hx :(x==c)=false:=by
   apply beq_eq_false_iff_ne.2
   rintro rfl
   exact h List.mem_cons_self
  show (if (x==c)=true then (0:Int) else if (Lib.indexByte (a++c::b) c == -1)=true then -1 else Lib.indexByte (a++c::b) c+1)=_
  rw [ih,hx]
  have :((a.length:Int) == -1)=false:=by
   apply beq_eq_false_iff_ne.2;omega
  rw [this]
  simp
theorem IP {a b:List UInt8} (h :(10:UInt8)∉a):eK (a++10::b)=a.length+1:=by
 unfold eK
 rw [nP a b h,if_pos (by omega)]
 omega
theorem Ak :∀ (ls:List (List UInt8)) (k:Nat),(∀ x∈ls,(10:UInt8)∉x)→((ls.map (·++[10])).flatten).length<k→ie k (ls.map (·++[10])).flatten=ls.map (·++[10])
 | [],0,_,h=>absurd h (Nat.not_lt_zero _)
 | [],k+1,_,_=>rfl
 | l::ls,0,_,h=>absurd h (Nat.not_lt_zero _)
 | l::ls,k+1,h,hk=>by
  have e :((l::ls).map (·++[10])).flatten=l++10 ::(ls.map (·++[10])).flatten:=by simp
  rw [e] at hk ⊢
  have hl :(10:UInt8)∉l:=h l List.mem_cons_self
  have e1 :(l++10 ::(ls.map (·++[10])).flatten).isEmpty=false:=by simp
  have e2 :(l++10 ::(ls.map (·++[10])).flatten).take (l.length+1)=l++[10]:=by
   rw [show l++10 ::(ls.map (·++[10])).flatten =(l++[10]) ++(ls.map (·++[10])).flatten by simp]
   rw [List.take_left' (by simp)]
  have e3 :(l++10 ::(ls.map (·++[10])).flatten).drop (l.length+1) =(ls.map (·++[10])).flatten:=by
   rw [show l++10 ::(ls.map (·++[10])).flatten =(l++[10]) ++(ls.map (·++[10])).flatten by simp]
   rw [List.drop_left' (by simp)]
  unfold ie
  rw [e1,IP hl,e2,e3]
  rw [Ak ls k (fun x hx=>h x (List.mem_cons_of_mem _ hx)) (by rw [List.length_append,List.length_cons] at hk;omega)]
  rfl
theorem uA :∀ (ls:List (List UInt8)),(∀ x∈ls,(10:UInt8)∉x)→dp 10 (ls.map (·++[10])).flatten=ls++[[]]
 | [],_=>rfl
 | l::ls,h=>by
  have e :((l::ls).map (·++[10])).flatten=l++10 ::(ls.map (·++[10])).flatten:=by simp
  rw [e,oC _ _ _ (h l List.mem_cons_self),uA ls fun x hx=>h x (List.mem_cons_of_mem _ hx)]
  rfl
theorem MM (l:List UInt8):Lib.trimSuffix (l++[10]) [10]=l:=by
 unfold Lib.trimSuffix Lib.hasSuffix
 have:List.isSuffixOf [10] (l++[10])=true:=List.isSuffixOf_iff_suffix.2 (List.suffix_append _ _)
 rw [if_pos this]
 simp
def lnB (ws:List ByteArray):ByteArray:=fY ws spV++nlV
def OP (x:Mir.Strip):Bool:=!((Rr x.How).toList ==(⟨#[]⟩:ByteArray).toList)
theorem lT {α:Type} (f:α→ByteArray) :∀ (l:List α) (o:ByteArray),(l.foldl (fun o x=>o++f x) o).data.toList=o.data.toList ++(l.map fun x=>(f x).data.toList).flatten
 | [],o=>by simp
 | x::l,o=>by
  rw [List.foldl_cons,lT f l,ByteArray.data_append,Array.toList_append]
  simp
def jnL (ws:List ByteArray):List UInt8:=Lib.join (ws.map (·.data.toList)) [32]
def xX (s:ByteArray):Prop:=(32:UInt8)∉s.data.toList∧(10:UInt8)∉s.data.toList
theorem Hw {n:Int} (h0:0≤n):xX (aZ n):=by
 have h2:=(oo _ n.toNat (Nat.lt_succ_self _)).2.1
 rw [List.all_eq_true] at h2
 constructor
 ·exact Rt h0
 ·intro hm
  rw [lL h0] at hm
  exact absurd (h2 _ hm) (by decide)
theorem xV {n:Int} (h:okI n=true):0≤n∧n≤1000000:=by
 unfold okI at h
 simp only [Bool.not_eq_true',Bool.or_eq_false_iff,decide_eq_false_iff_not] at h
 omega
structure Wr (b:Mir.Book):Prop where
 hd :∀ n∈b.Side::RM b,0≤n∧n≤1000000
 bx :∀ x∈b.Boxes,(0≤x.Over∧x.Over≤1000000)∧(0≤x.Bowler∧x.Bowler≤1000000)∧∀ s∈x.Symbols,JF s=true
 st :∀ x∈b.Strips,(0≤x.Player∧x.Player≤1000000)∧(0≤x.Bowler∧x.Bowler≤1000000)∧OP x=true∧∀ s∈x.Symbols,JF s=true
theorem M9 {ws:List ByteArray} (h :∀ s∈ws,xX s) :(10:UInt8)∉jnL ws:=Lu (by decide) _ fun x hx=>by
 obtain ⟨s,hs,rfl⟩:=List.mem_map.1 hx
 exact (h s hs).2
theorem Hs {ws:List ByteArray} (hne:ws≠ []) (h :∀ s∈ws,xX s) :(dp 32 (jnL ws)).map toB=ws:=by
 cases ws with
 | nil=>exact absurd rfl hne
 | cons w ws=>
  unfold jnL
  rw [List.map_cons,uB _ _ fun x hx=>?_]
  ·rw [List.map_cons,List.map_map,Bz]
   congr 1
   have :(toB ∘ fun x:ByteArray=>x.data.toList)=id:=by funext x;exact Bz x
   rw [this,List.map_id]
  ·rw [←List.map_cons (f:=fun x:ByteArray=>x.data.toList)] at hx
   obtain ⟨s,hs,rfl⟩:=List.mem_map.1 hx
   exact (h s hs).1
theorem bytes_ne {a b:ByteArray} :(a.toList != b.toList)=false↔a=b:=by
 rw [ByteArray.toList_eq,ByteArray.toList_eq]
 constructor
 ·intro h
  have h:a.data.toList=b.data.toList:=by simpa using h
  exact wF h
 ·rintro rfl;simp
end Go.Proofs.YtffdpnmioidloaaGreatDoor
namespace Go.Proofs.YtffdpnmioidloaaGreatDoor
open Go Go.Mir Go.RowKit
attribute [local irreducible] Go.Mir.DT.sat Go.Mir.evPat Go.Mir.RT.sat Go.Mir.evFn
def nlB:ByteArray:=⟨#[10]⟩
abbrev qLr:Pat:=⟨[(0,.h .str),(2,.c (.ptr 0 0)),(3,.c (.ptr 1 0)),(4,.c (.ptr 2 0))],[(0,.cells [.c .any]),(1,.cells [.c .any]),(2,.cells [.c (.osl 3 4)]),(3,.row 4 (.nm .Row))],5⟩
abbrev qLx:Pat:=⟨[(2,.c (.ptr 0 0)),(3,.c (.ptr 1 0))],[(0,.cells [.c .nilsl]),(1,.cells [.h I])],2⟩
noncomputable def rgLp:Rg:=⟨0,Tryz.f23.ntmps,qLr,qLx,5,16,JR Tryz.f23 0,1000000⟩
def xd (b:ByteArray):Bool:=(lq b).2 != 0
def Jy (r:Option Mir.Row) (y:ByteArray×List Mir.Row×Unit):Sum (Int×Unit) (ByteArray×List Mir.Row×Unit):=match r with
 | some r=> .inr (y.1,y.2.1++[r],())
 | none=> .inl (4,())
def rM (n:Nat) (y:ByteArray×List Mir.Row×Unit):Prop:=y.2.1.length≤n
abbrev c9I:List PC0:= [.h I,.h I,.h I,.h I,.h I,.h I,.h I,.h I,.h I]
abbrev Q4:List (Nat×PB):= [(0,.cells [.c .any]),(1,.cells [.c .any]),(2,.cells [.c (.osl 3 4)]),(3,.row 4 (.nm .Row)),(5,.cells c9I),(6,.row 7 .str)]
abbrev qLi:Pat:=⟨[(2,.c (.ptr 0 0)),(3,.c (.ptr 1 0)),(4,.c (.ptr 2 0)),(6,.c (.osl 6 7)),(7,.c (.ptr 5 0)),(23,.c (.osl 6 7)),(24,.h I),(25,.h I)],Q4,8⟩
abbrev xLi:List (Lf×Pat):= [(.ext 2,⟨[(2,.c (.ptr 0 0)),(3,.c (.ptr 1 0)),(4,.c (.ptr 2 0)),(6,.c (.osl 6 7)),(7,.c (.ptr 5 0))],Q4,8⟩),(.ret,⟨[(2,.c (.ptr 0 0)),(3,.c (.ptr 1 0))],[(0,.cells [.c .nilsl]),(1,.cells [.h I])],8⟩)]
abbrev I9:Type:=Int×Int×Int×Int×Int×Int×Int×Int×Int
def PQ (a:I9) (i v:Int):I9:=
 if i==0 then (v,a.2.1,a.2.2.1,a.2.2.2.1,a.2.2.2.2.1,a.2.2.2.2.2.1,a.2.2.2.2.2.2.1,a.2.2.2.2.2.2.2.1,a.2.2.2.2.2.2.2.2)
 else if i==1 then (a.1,v,a.2.2.1,a.2.2.2.1,a.2.2.2.2.1,a.2.2.2.2.2.1,a.2.2.2.2.2.2.1,a.2.2.2.2.2.2.2.1,a.2.2.2.2.2.2.2.2)
 else if i==2 then (a.1,a.2.1,v,a.2.2.2.1,a.2.2.2.2.1,a.2.2.2.2.2.1,a.2.2.2.2.2.2.1,a.2.2.2.2.2.2.2.1,a.2.2.2.2.2.2.2.2)
 else if i==3 then (a.1,a.2.1,a.2.2.1,v,a.2.2.2.2.1,a.2.2.2.2.2.1,a.2.2.2.2.2.2.1,a.2.2.2.2.2.2.2.1,a.2.2.2.2.2.2.2.2)
 else if i==4 then (a.1,a.2.1,a.2.2.1,a.2.2.2.1,v,a.2.2.2.2.2.1,a.2.2.2.2.2.2.1,a.2.2.2.2.2.2.2.1,a.2.2.2.2.2.2.2.2)
 else if i==5 then (a.1,a.2.1,a.2.2.1,a.2.2.2.1,a.2.2.2.2.1,v,a.2.2.2.2.2.2.1,a.2.2.2.2.2.2.2.1,a.2.2.2.2.2.2.2.2)
 else if i==6 then (a.1,a.2.1,a.2.2.1,a.2.2.2.1,a.2.2.2.2.1,a.2.2.2.2.2.1,v,a.2.2.2.2.2.2.2.1,a.2.2.2.2.2.2.2.2)
 else if i==7 then (a.1,a.2.1,a.2.2.1,a.2.2.2.1,a.2.2.2.2.1,a.2.2.2.2.2.1,a.2.2.2.2.2.2.1,v,a.2.2.2.2.2.2.2.2)
 else (a.1,a.2.1,a.2.2.1,a.2.2.2.1,a.2.2.2.2.1,a.2.2.2.2.2.1,a.2.2.2.2.2.2.1,a.2.2.2.2.2.2.2.1,v)
def liF:List ByteArray→Int→I9→Option I9
 | [],_,a=>some a
 | w::l,i,a=>if i==6 then liF l (i+1) a else if xd w then none else liF l (i+1) (PQ a i (lq w).1)
abbrev TLi:Type:=Int×Int×List Mir.Row×Int×Int×Int×Int×Int×Int×Int×Int×Int×List ByteArray×Unit
abbrev OLi:Type:=Sum (List Mir.Row×Int×Int×Int×Int×Int×Int×Int×Int×Int×List ByteArray×Unit) (Int×Unit)
def liO (rows:List Mir.Row) (xs:List ByteArray):Option I9→OLi
 | some a=> .inl (rows,a.1,a.2.1,a.2.2.1,a.2.2.2.1,a.2.2.2.2.1,a.2.2.2.2.2.1,a.2.2.2.2.2.2.1,a.2.2.2.2.2.2.2.1,a.2.2.2.2.2.2.2.2,xs,())
 | none=> .inr (4,())
def liX (n i:Int) (rows:List Mir.Row) (a:I9) (xs:List ByteArray):OLi:=liO rows xs (liF (xs.drop i.toNat) i a)
def dA:TLi→OLi
 |(n,i,rows,a0,a1,a2,a3,a4,a5,a6,a7,a8,xs,_)=>liX n i rows (a0,a1,a2,a3,a4,a5,a6,a7,a8) xs
def gE:TLi→Prop
 |(n,i,_,_,_,_,_,_,_,_,_,_,xs,_)=>(n =(xs.length:Int)∧xs.length=9)∧0≤i∧i≤n
def gv:TLi→Nat
 |(n,i,_)=>(n - i).toNat
def z9:I9:=(0,0,0,0,0,0,0,0,0)
def SA (l:List ByteArray):Option I9→Option Mir.Row
 | some a=>some ⟨a.1,a.2.1,a.2.2.1,a.2.2.2.1,a.2.2.2.2.1,a.2.2.2.2.2.1,l.getD 6 ByteArray.empty,a.2.2.2.2.2.2.2.1,a.2.2.2.2.2.2.2.2⟩
 | none=>none
def fq (l:List ByteArray):Option Mir.Row:=if l.length=9 then SA l (liF l 0 z9) else none
noncomputable def lpLi:Lp:=(⟨5,ax [rW] Tryz.f23,(fun _=>none),(C9 Tryz.f23 0 0),qLi,xLi⟩:Lp)
theorem PZ (n:Int) (i:Int) (rows:List Mir.Row) (a0:Int) (a1:Int) (a2:Int) (a3:Int) (a4:Int) (a5:Int) (a6:Int) (a7:Int) (a8:Int) (xs:List ByteArray) (hi:gE (n,i,rows,a0,a1,a2,a3,a4,a5,a6,a7,a8,xs,())) :(Go.Mir.stepG lpLi dA (fun y:Den (tyP lpLi.q)=>gE y∧gv y<gv (n,i,rows,a0,a1,a2,a3,a4,a5,a6,a7,a8,xs,())) (n,i,rows,a0,a1,a2,a3,a4,a5,a6,a7,a8,xs,())∧Go.Mir.stepE lpLi dA (n,i,rows,a0,a1,a2,a3,a4,a5,a6,a7,a8,xs,())=dA (n,i,rows,a0,a1,a2,a3,a4,a5,a6,a7,a8,xs,())):=by
 refine cast (by kernel_rfl) (?_:let r1:Int:=IntKind.i64.wrap (i +(1:Int));let r2:Int×Int:=jy (xs.getD i.toNat (dflt Ty.str)) (0:Int) (1000000:Int);let r3:Bool:=r2.2 !=(0:Int);((decide (i<n)=true→((0:Int)≤i∧i <(↑xs.length:Int))∧((i ==(6:Int))=true→gE (n,r1,rows,a0,a1,a2,a3,a4,a5,a6,a7,a8,xs,())∧gv (n,r1,rows,a0,a1,a2,a3,a4,a5,a6,a7,a8,xs,())<gv (n,i,rows,a0,a1,a2,a3,a4,a5,a6,a7,a8,xs,()))∧((i ==(6:Int))=false→(r3=true→True)∧(r3=false→((i ==(0:Int))=true→((0:Int)≤(0:Int)∧(0:Int) <(↑(9:Nat):Int))∧gE (n,r1,rows,r2.1,a1,a2,a3,a4,a5,a6,a7,a8,xs,())∧gv (n,r1,rows,r2.1,a1,a2,a3,a4,a5,a6,a7,a8,xs,())<gv (n,i,rows,a0,a1,a2,a3,a4,a5,a6,a7,a8,xs,()))∧((i ==(0:Int))=false→((i ==(1:Int))=true→((0:Int)≤(1:Int)∧(1:Int) <(↑(9:Nat):Int))∧gE (n,r1,rows,a0,r2.1,a2,a3,a4,a5,a6,a7,a8,xs,())∧gv (n,r1,rows,a0,r2.1,a2,a3,a4,a5,a6,a7,a8,xs,())<gv (n,i,rows,a0,a1,a2,a3,a4,a5,a6,a7,a8,xs,()))∧((i ==(1:Int))=false→((i ==(2:Int))=true→((0:Int)≤(2:Int)∧(2:Int) <(↑(9:Nat):Int))∧gE (n,r1,rows,a0,a1,r2.1,a3,a4,a5,a6,a7,a8,xs,())∧gv (n,r1,rows,a0,a1,r2.1,a3,a4,a5,a6,a7,a8,xs,())<gv (n,i,rows,a0,a1,a2,a3,a4,a5,a6,a7,a8,xs,()))∧((i ==(2:Int))=false→((i ==(3:Int))=true→((0:Int)≤(3:Int)∧(3:Int) <(↑(9:Nat):Int))∧gE (n,r1,rows,a0,a1,a2,r2.1,a4,a5,a6,a7,a8,xs,())∧gv (n,r1,rows,a0,a1,a2,r2.1,a4,a5,a6,a7,a8,xs,())<gv (n,i,rows,a0,a1,a2,a3,a4,a5,a6,a7,a8,xs,()))∧((i ==(3:Int))=false→((i ==(4:Int))=true→((0:Int)≤(4:Int)∧(4:Int) <(↑(9:Nat):Int))∧gE (n,r1,rows,a0,a1,a2,a3,r2.1,a5,a6,a7,a8,xs,())∧gv (n,r1,rows,a0,a1,a2,a3,r2.1,a5,a6,a7,a8,xs,())<gv (n,i,rows,a0,a1,a2,a3,a4,a5,a6,a7,a8,xs,()))∧((i ==(4:Int))=false→((i ==(5:Int))=true→((0:Int)≤(5:Int)∧(5:Int) <(↑(9:Nat):Int))∧gE (n,r1,rows,a0,a1,a2,a3,a4,r2.1,a6,a7,a8,xs,())∧gv (n,r1,rows,a0,a1,a2,a3,a4,r2.1,a6,a7,a8,xs,())<gv (n,i,rows,a0,a1,a2,a3,a4,a5,a6,a7,a8,xs,()))∧((i ==(5:Int))=false→((i ==(6:Int))=true→((0:Int)≤(6:Int)∧(6:Int) <(↑(9:Nat):Int))∧gE (n,r1,rows,a0,a1,a2,a3,a4,a5,r2.1,a7,a8,xs,())∧gv (n,r1,rows,a0,a1,a2,a3,a4,a5,r2.1,a7,a8,xs,())<gv (n,i,rows,a0,a1,a2,a3,a4,a5,a6,a7,a8,xs,()))∧((i ==(6:Int))=false→((i ==(7:Int))=true→((0:Int)≤(7:Int)∧(7:Int) <(↑(9:Nat):Int))∧gE (n,r1,rows,a0,a1,a2,a3,a4,a5,a6,r2.1,a8,xs,())∧gv (n,r1,rows,a0,a1,a2,a3,a4,a5,a6,r2.1,a8,xs,())<gv (n,i,rows,a0,a1,a2,a3,a4,a5,a6,a7,a8,xs,()))∧((i ==(7:Int))=false→((i ==(8:Int))=true→((0:Int)≤(8:Int)∧(8:Int) <(↑(9:Nat):Int))∧gE (n,r1,rows,a0,a1,a2,a3,a4,a5,a6,a7,r2.1,xs,())∧gv (n,r1,rows,a0,a1,a2,a3,a4,a5,a6,a7,r2.1,xs,())<gv (n,i,rows,a0,a1,a2,a3,a4,a5,a6,a7,a8,xs,()))∧((i ==(8:Int))=false→False∧True))))))))))))∧(decide (i<n)=false→True))∧(bif decide (i<n) then bif i ==(6:Int) then dA (n,r1,rows,a0,a1,a2,a3,a4,a5,a6,a7,a8,xs,()) else bif r3 then Sum.inr ((4:Int),()) else bif i ==(0:Int) then dA (n,r1,rows,r2.1,a1,a2,a3,a4,a5,a6,a7,a8,xs,()) else bif i ==(1:Int) then dA (n,r1,rows,a0,r2.1,a2,a3,a4,a5,a6,a7,a8,xs,()) else bif i ==(2:Int) then dA (n,r1,rows,a0,a1,r2.1,a3,a4,a5,a6,a7,a8,xs,()) else bif i ==(3:Int) then dA (n,r1,rows,a0,a1,a2,r2.1,a4,a5,a6,a7,a8,xs,()) else bif i ==(4:Int) then dA (n,r1,rows,a0,a1,a2,a3,r2.1,a5,a6,a7,a8,xs,()) else bif i ==(5:Int) then dA (n,r1,rows,a0,a1,a2,a3,a4,r2.1,a6,a7,a8,xs,()) else bif i ==(6:Int) then dA (n,r1,rows,a0,a1,a2,a3,a4,a5,r2.1,a7,a8,xs,()) else bif i ==(7:Int) then dA (n,r1,rows,a0,a1,a2,a3,a4,a5,a6,r2.1,a8,xs,()) else bif i ==(8:Int) then dA (n,r1,rows,a0,a1,a2,a3,a4,a5,a6,a7,r2.1,xs,()) else Sum.inl (dflt ((Ty.nm Nm.Row).slice.prod (I.prod (I.prod (I.prod (I.prod (I.prod (I.prod (I.prod (I.prod (I.prod (Ty.str.slice.prod Ty.unit)))))))))))) else Sum.inl (rows,a0,a1,a2,a3,a4,a5,a6,a7,a8,xs,()))=dA (n,i,rows,a0,a1,a2,a3,a4,a5,a6,a7,a8,xs,()))
 intro r1 r2 r3
 clear_value (hr1:r1=_) (hr2:r2=_) (hr3:r3=_)
 obtain ⟨⟨h1,h1b⟩,h2,h3⟩:=hi
 have h1:n =(xs.length:Int):=h1
 have h1b:xs.length=9:=h1b
 have h2:0≤i:=h2
 have h3:i≤n:=h3
 by_cases h:i<n
 ·have e1:r1=i+1:=by rw [hr1];exact wrap64 (by omega) (by omega)
  have hd:xs.drop i.toNat=xs.getD i.toNat (dflt Ty.str)::xs.drop (i+1).toNat:=by
   have hn:i.toNat<xs.length:=by omega
   have e1 :(i+1).toNat=i.toNat+1:=by omega
   show _=List.getD xs i.toNat ByteArray.empty::_
   rw [List.drop_eq_getElem_cons hn,e1,List.getD_eq_getElem?_getD,List.getElem?_eq_getElem hn]
   rfl
  have hI :∀ c0 c1 c2 c3 c4 c5 c6 c7 c8:Int,gE (n,i+1,rows,c0,c1,c2,c3,c4,c5,c6,c7,c8,xs,())∧gv (n,i+1,rows,c0,c1,c2,c3,c4,c5,c6,c7,c8,xs,())<gv (n,i,rows,a0,a1,a2,a3,a4,a5,a6,a7,a8,xs,()):=fun c0 c1 c2 c3 c4 c5 c6 c7 c8=>by
   refine ⟨⟨⟨h1,h1b⟩,?_,?_⟩,?_⟩
   ·show 0≤i+1;omega
   ·show i+1≤n;omega
   ·show (n - (i+1)).toNat <(n - i).toNat;omega
  have key:dA (n,i,rows,a0,a1,a2,a3,a4,a5,a6,a7,a8,xs,())=bif i==6 then liX n (i+1) rows (a0,a1,a2,a3,a4,a5,a6,a7,a8) xs else bif r3 then .inr (4,()) else liX n (i+1) rows (PQ (a0,a1,a2,a3,a4,a5,a6,a7,a8) i r2.1) xs:=by
   have e2:lq (xs.getD i.toNat (dflt Ty.str))=r2:=hr2.symm
   have e3:xd (xs.getD i.toNat (dflt Ty.str))=r3:=by unfold xd;rw [e2,hr3]
   show liO rows xs (liF (xs.drop i.toNat) i _)=_
   rw [hd]
   show liO rows xs (if i==6 then _ else if xd _ then _ else liF _ _ (PQ _ i (lq _).1))=_
   rw [e2,e3]
   unfold liX
   cases i==6 <;> cases r3 <;> rfl
  have h9:i=0∨i=1∨i=2∨i=3∨i=4∨i=5∨i=6∨i=7∨i=8:=by omega
  rw [decide_eq_true h,e1,key]
  clear hr1 hr2 hr3 hd e1 key
  refine ⟨⟨fun _=>⟨⟨h2,by omega⟩,fun _=>hI _ _ _ _ _ _ _ _ _,fun q6=>⟨fun _=>trivial,fun _=>?_⟩⟩,fun z=>Bool.noConfusion z⟩,?_⟩
  ·rcases h9 with rfl|rfl|rfl|rfl|rfl|rfl|rfl|rfl|rfl
   all_goals repeat' (first|exact absurd q (by decide)|exact ⟨by decide,hI _ _ _ _ _ _ _ _ _⟩|refine ⟨fun _=>?_,fun q=>?_⟩)
  ·clear hI
   rcases h9 with rfl|rfl|rfl|rfl|rfl|rfl|rfl|rfl|rfl <;> cases r3 <;> rfl
 ·rw [decide_eq_false h]
  refine ⟨⟨fun z=>Bool.noConfusion z,fun _=>trivial⟩,?_⟩
  unfold dA liX
  simp only [cond_false]
  rw [List.drop_eq_nil_of_le (by omega)]
  rfl
noncomputable def NH:LoopSum:=az lpLi dA gE
noncomputable def Nk:Nat:=rid (C9 Tryz.f23 0 0)
theorem OU:gH Tryz.prog 5 Tryz.f23.ntmps (C9 Tryz.f23 0 0) (az lpLi dA gE):=
 BR lpLi (au (.consU vH rfl .nil) _) mixed (by kernel_rfl) (Ji (by kernel_rfl)) dA gE gv (fun |⟨n,i,rows,a0,a1,a2,a3,a4,a5,a6,a7,a8,xs,⟨⟩⟩,hi=>PZ n i rows a0 a1 a2 a3 a4 a5 a6 a7 a8 xs hi)
theorem RE (x s:ByteArray) (rows:List Mir.Row) (n:Nat) (hx:x.size≤1000000) (hn:n<1000000) (hr:rows.length≤n):rgLp.stepS (ax [pP,Iy,rW] Tryz.f23) (find [(Nk,NH)]) (rM (n+1)) x (s,rows,()) (Jy (fq (bj (gk x nlB) 32)) (s,rows,())):=by
 refine cast (by kernel_rfl) (?_:let r1:ByteArray:=gk x (ByteArray.mk #[10]);let r2:List ByteArray:=QQ (r1,ByteArray.mk #[32],());let r3:Int:=(↑r2.length:Int);let r4:Bool:=r3 !=(9:Int);let r5:Bool:=isL (dA (r3,(0:Int),rows,(0:Int),(0:Int),(0:Int),(0:Int),(0:Int),(0:Int),(0:Int),(0:Int),(0:Int),r2,()));let r6:List Mir.Row×Int×Int×Int×Int×Int×Int×Int×Int×Int×List ByteArray×PUnit:=oQ (dflt ((Ty.nm Nm.Row).slice.prod (I.prod (I.prod (I.prod (I.prod (I.prod (I.prod (I.prod (I.prod (I.prod (Ty.str.slice.prod Ty.unit)))))))))))) (dA (r3,(0:Int),rows,(0:Int),(0:Int),(0:Int),(0:Int),(0:Int),(0:Int),(0:Int),(0:Int),(0:Int),r2,()));let r7:List Mir.Row:= [Mir.Row.mk r6.2.1 r6.2.2.1 r6.2.2.2.1 r6.2.2.2.2.1 r6.2.2.2.2.2.1 r6.2.2.2.2.2.2.1 (r6.2.2.2.2.2.2.2.2.2.2.1.getD (Int.toNat (6:Int)) (dflt Ty.str)) r6.2.2.2.2.2.2.2.2.1 r6.2.2.2.2.2.2.2.2.2.1];x.size.le (1000000:Nat)∧(r1.size≤(1000000:Nat)∧nat_lit 1=nat_lit 1)∧(r4=true→Jy (fq (bj (gk x nlB) (32:UInt8))) (s,rows,())=Sum.inl ((4:Int),()))∧(r4=false→((ij fun x=>none)∧(r3 =(↑r2.length:Int)∧r2.length=nat_lit 9)∧(0:Int)≤(0:Int)∧(0:Int)≤r3)∧(r5=true→((0:Int)≤(0:Int)∧(0:Int) <(↑(9:Nat):Int))∧((0:Int)≤(1:Int)∧(1:Int) <(↑(9:Nat):Int))∧((0:Int)≤(2:Int)∧(2:Int) <(↑(9:Nat):Int))∧((0:Int)≤(3:Int)∧(3:Int) <(↑(9:Nat):Int))∧((0:Int)≤(4:Int)∧(4:Int) <(↑(9:Nat):Int))∧((0:Int)≤(5:Int)∧(5:Int) <(↑(9:Nat):Int))∧((0:Int)≤(6:Int)∧(6:Int) <(↑r6.2.2.2.2.2.2.2.2.2.2.1.length:Int))∧((0:Int)≤(7:Int)∧(7:Int) <(↑(9:Nat):Int))∧((0:Int)≤(8:Int)∧(8:Int) <(↑(9:Nat):Int))∧((r6.1.length+r7.length) *(80:Nat)).le (70368744177664:Nat)∧Jy (fq (bj (gk x nlB) (32:UInt8))) (s,rows,())=Sum.inr (s,r6.1++r7,())∧rM (n +(1:Nat)) (s,r6.1++r7,()))∧(r5=false→Jy (fq (bj (gk x nlB) (32:UInt8))) (s,rows,())=Sum.inl (qk (dflt (I.prod Ty.unit)) (dA (r3,(0:Int),rows,(0:Int),(0:Int),(0:Int),(0:Int),(0:Int),(0:Int),(0:Int),(0:Int),(0:Int),r2,()))))))
 intro r1 r2 r3 r4 r5 r6 r7
 clear_value (hr1:r1=_) (hr2:r2=_) (hr3:r3=_) (hr4:r4=_) (hr5:r5=_) (hr6:r6=_) (hr7:r7=_)
 have e1:r1=gk x nlB:=hr1
 have e2:r2=bj (gk x nlB) 32:=by rw [hr2,e1];rfl
 have hs1:r1.size≤1000000:=by rw [e1];exact Nat.le_trans (nr _ _) hx
 have key:dA (r3,0,rows,0,0,0,0,0,0,0,0,0,r2,())=liO rows r2 (liF r2 0 z9):=rfl
 rw [key] at hr5 hr6 ⊢
 rw [←e2]
 clear hr1 hr2 e2 key
 have hl:r4=false→r2.length=9:=fun h4=>by
  have h :((r2.length:Int) != 9)=false:=by rw [←hr3,←hr4];exact h4
  have h :(r2.length:Int)=9:=by simpa using h
  omega
 refine ⟨hx,⟨hs1,rfl⟩,fun h4=>?_,fun h4=>⟨⟨rfl,⟨hr3,hl h4⟩,Int.le_refl _,by omega⟩,fun h5=>?_,fun h5=>?_⟩⟩
 ·have hl:r2.length≠9:=fun e=>by rw [hr4,hr3,e] at h4;exact Bool.noConfusion h4
  unfold fq
  rw [if_neg hl]
  rfl
 ·have hl:=hl h4
  cases hf:liF r2 0 z9 with
  | none=>rw [hr5,hf] at h5;exact Bool.noConfusion h5
  | some a=>
   rw [hf] at hr6
   subst hr6
   subst hr7
   refine ⟨by decide,by decide,by decide,by decide,by decide,by decide,⟨by decide,?_⟩,by decide,by decide,?_,?_,?_⟩
   ·show (6:Int) <(r2.length:Int);omega
   ·show (rows.length+1)*80≤70368744177664;omega
   ·unfold fq
    rw [if_pos hl,hf]
    rfl
   ·show (rows++[_]).length≤n+1
    rw [List.length_append]
    simp
    omega
 ·have hl:=hl h4
  cases hf:liF r2 0 z9 with
  | some a=>rw [hr5,hf] at h5;exact Bool.noConfusion h5
  | none=>
   unfold fq
   rw [if_pos hl,hf]
   rfl
end Go.Proofs.YtffdpnmioidloaaGreatDoor
namespace Go.Proofs.YtffdpnmioidloaaGreatDoor
open Go Go.Mir Go.RowKit Go.Shelf
attribute [local irreducible] Go.Mir.DT.sat Go.Mir.evPat Go.Mir.RT.sat Go.Mir.evFn
def laysG115_ren:Go.Shelf.Ren:=⟨fun|4=>115|n=>n,fun|22=>85|25=>3|3=>3|4=>4|9=>9|20=>20|0=>0|n=>n,fun|n=>n⟩
theorem IJ:Go.Proofs.Lays8.n4 Tryz.prog laysG115_ren where
 mixed:=by kernel_rfl
 f4:=⟨"slices.Grow[[]int,int]",by decide,Tryz.func115.trans (congrArg some (by kernel_rfl))⟩
 t0:=Tryz.underlying0
 a0:=Tryz.isAgg0
 z0:=Tryz.sizeOf0
 v0:=Tryz.zeroValue0
 t3:=Tryz.underlying3
 a3:=Tryz.isAgg3
 z3:=Tryz.sizeOf3
 v3:=Tryz.zeroValue3
 t4:=Tryz.underlying4
 a4:=Tryz.isAgg4
 z4:=Tryz.sizeOf4
 v4:=Tryz.zeroValue4
 t9:=Tryz.underlying9
 a9:=Tryz.isAgg9
 z9:=Tryz.sizeOf9
 v9:=Tryz.zeroValue9
 t20:=Tryz.underlying20
 a20:=Tryz.isAgg20
 z20:=Tryz.sizeOf20
 v20:=Tryz.zeroValue20
 t22:=Tryz.underlying85
 a22:=Tryz.isAgg85
 z22:=Tryz.sizeOf85
 v22:=Tryz.zeroValue85
def H9 (n:Int):Prop:=0<n∧n≤1000000
def HZ:Ctr:=fun args _ m=>match args with
 | [.nilsl,.int .i64 n]=>some ([H9 n],.osl m m,[(m,.row m true (.int .i64) [])])
 | _=>none
def zL:FuncId×Ctr:=(115,HZ)
abbrev qCc:Pat:=cW [.slice (.slice I)]
abbrev Mi:Pat:=⟨[(0,.c (.osl 0 1))],[(0,.row 1 I)],2⟩
def xR (l:List (List Int)):Prop:=(l.length≤1000∧0<l.flatten.length)∧l.flatten.length≤1000000
def sCc:Den (tyP qCc)→List Prop×Den (tyP Mi):=fun x=>([xR x.1],(List.flatten x.1,()))
abbrev qG0:Pat:=⟨[(0,.h (.slice (.slice I))),(3,.h I),(9,.h (.slice (.slice I))),(10,.h I),(11,.h I)],[],0⟩
abbrev xG0:List (Lf×Pat):= [(.ext 0,⟨[(0,.h (.slice (.slice I))),(3,.h I)],[],0⟩)]
abbrev TG0:Type:=List (List Int)×Int×List (List Int)×Int×Int×Unit
def je (l:List (List Int)):Int:=(l.flatten.length:Int)
def mE:TG0→List (List Int)×Int×Unit
 |(a,k,l,_,i,_)=>(a,k+je (l.drop i.toNat),())
def FO (l:List (List Int)):Prop:=l.length≤1000∧l.flatten.length≤1000000
def uM:TG0→Prop
 |(_,k,l,n,i,_)=>(n =(l.length:Int)∧FO l)∧(0≤i∧i≤n)∧0≤k∧k+je (l.drop i.toNat)≤1000000
def I1:TG0→Nat
 |(_,_,_,n,i,_)=>(n - i).toNat
abbrev qG1:Pat:=⟨[(6,.c (.osl 0 1)),(25,.h (.slice (.slice I))),(26,.h I),(27,.h I)],[(0,.row 1 I)],2⟩
abbrev xG1:List (Lf×Pat):= [(.ext 2,⟨[(6,.c (.osl 0 1))],[(0,.row 1 I)],2⟩)]
abbrev TG1:Type:=List (List Int)×Int×Int×List Int×Unit
def mF:TG1→List Int×Unit
 |(l,_,i,o,_)=>(o++List.flatten (l.drop i.toNat),())
def uN:TG1→Prop
 |(l,n,i,o,_)=>(n =(l.length:Int)∧FO l)∧(0≤i∧i≤n)∧(o.length:Int)+je (l.drop i.toNat)≤1000000
def I2:TG1→Nat
 |(_,n,i,_)=>(n - i).toNat
theorem F8:CtrOK Tryz.prog KE 115 HZ:=by
 refine ⟨⟨_,Tryz.func115,by kernel_rfl,by kernel_rfl⟩,fun B E hE args av hav m hm ps' v dh hct hps=>?_⟩
 unfold HZ at hct
 split at hct
 case h_2=>cases hct
 rename_i n
 cases hct
 obtain ⟨h0,h1⟩:H9 n:=hps _ List.mem_cons_self
 match av,hav with
 | [a,b],hav=>
  simp only [ab,aa] at hav
  obtain ⟨rfl,⟨rfl,hb⟩,_⟩:=hav
  obtain ⟨k,rfl⟩ :∃ k:Nat,n =(k:Int):=⟨n.toNat,by omega⟩
  have hk:0<k:=by omega
  have hk1:k≤1000000:=by omega
  obtain ⟨i0,hi0,hz0,hs0,hb0⟩ :∃ i0,Tryz.prog.info? (laysG115_ren.t 25)=some i0∧i0.zero=some (Value.int .i64 0)∧i0.size=1∧i0.bytes=8:=
   ⟨(Tryz.prog.info? 3).get (by kernel_rfl),by kernel_rfl,by kernel_rfl,by kernel_rfl,by kernel_rfl⟩
  refine (Any8.slices_Grow_grow IJ i0 (Value.int .i64 0) hi0 hz0 (by omega) none 0 0 k [] E.w (Nat.le_refl _) (by omega) (by rw [hb0];omega) (by omega) (by simp) (fun _=>rfl) (fun a ha=>by cases ha)).mono fun e w' ⟨h2,h3⟩=>?_
  obtain ⟨R0,X0⟩:=ta hE E.w.drew rfl rfl rfl rfl
  have hg:=grownCap_ge E.w (0+k) 0 (laysG115_ren.t 25)
  obtain ⟨E',G,hv⟩:=xS R0 m (hm m (Nat.le_refl _) (by unfold KE;omega)) (.int .i64) [] (([]:List Value).toArray++Builtin.zeroCells (Value.int .i64 0).cells (0+k - 0)++Builtin.zeroCells (Value.int .i64 0).cells (grownCap E.w (0+k) 0 (laysG115_ren.t 25) - (0+k))) (laysG115_ren.t 25) (grownCap E.w (0+k) 0 (laysG115_ren.t 25))
   (by
    have h1 :(Value.int .i64 0).cells.size=1:=rfl
    have h4:sz (.int .i64)=1:=rfl
    simp only [Array.size_append,Builtin.zeroCells,Array.size_map,Array.size_range,h1,h4]
    show 0+_+_=_
    omega) (Nat.zero_le _) (Nat.zero_le _) (fun i h=>absurd h (Nat.not_lt_zero _))
  have G2:=eo X0 G
  rw [h3]
  exact ⟨E',_,h2,G2.toK (by decide),hv⟩
noncomputable def lpG0:Lp:=(⟨0,ax [] Tryz.f65,(fun _=>none),(bf Tryz.f65 0),qG0,xG0⟩:Lp)
theorem PX (a:List (List Int)) (k:Int) (l:List (List Int)) (n:Int) (i:Int) (hi:uM (a,k,l,n,i,())) :(Go.Mir.stepG lpG0 mE (fun y:Den (tyP lpG0.q)=>uM y∧I1 y<I1 (a,k,l,n,i,())) (a,k,l,n,i,())∧Go.Mir.stepE lpG0 mE (a,k,l,n,i,())=mE (a,k,l,n,i,())):=by
 refine cast (by kernel_rfl) (?_:let r1:Int:=IntKind.i64.wrap (k +(↑(List.length (l.getD i.toNat (dflt (Ty.int IntKind.i64).slice))):Int));let r2:Bool:=decide (r1 <(0:Int));((decide (i<n)=true→((0:Int)≤i∧i <(↑l.length:Int))∧(r2=true→False)∧(r2=false→uM (a,r1,l,n,IntKind.i64.wrap (i +(1:Int)),())∧I1 (a,r1,l,n,IntKind.i64.wrap (i +(1:Int)),())<I1 (a,k,l,n,i,())))∧(decide (i<n)=false→True))∧(bif decide (i<n) then bif r2 then dflt (I.slice.slice.prod (I.prod Ty.unit)) else mE (a,r1,l,n,IntKind.i64.wrap (i +(1:Int)),()) else (a,k,()))=mE (a,k,l,n,i,()))
 intro r1 r2
 clear_value (hr1:r1=_) (hr2:r2=_)
 obtain ⟨⟨h1,h1b⟩,⟨h2,h3⟩,h4,h5⟩:=hi
 have h1:n =(l.length:Int):=h1
 have h1b:FO l:=h1b
 have h2:0≤i:=h2
 have h3:i≤n:=h3
 have h4:0≤k:=h4
 have h5:k+je (l.drop i.toNat)≤1000000:=h5
 have hf:=h1b.1
 by_cases h:i<n
 ·have e1:IntKind.i64.wrap (i+1)=i+1:=wrap64 (by omega) (by omega)
  have hd:l.drop i.toNat=l.getD i.toNat (dflt (Ty.int IntKind.i64).slice)::l.drop (i+1).toNat:=fM h2 (by omega) _
  generalize l.getD i.toNat (dflt (Ty.int IntKind.i64).slice)=x at *
  have hF:je (l.drop i.toNat) =(List.length x:Int)+je (l.drop (i+1).toNat):=by
   rw [hd]
   unfold je
   rw [List.flatten_cons,List.length_append]
   exact Int.natCast_add _ _
  have hp:0≤je (l.drop (i+1).toNat):=Int.natCast_nonneg _
  have er:r1=k +(List.length x:Int):=by rw [hr1];exact wrap64 (by omega) (by omega)
  have e2:r2=false:=by rw [hr2];exact decide_eq_false (by omega)
  have key:mE (a,k,l,n,i,())=mE (a,r1,l,n,i+1,()):=by
   show (a,k+je (l.drop i.toNat),()) =(a,r1+je (l.drop (i+1).toNat),())
   rw [hF,er,Int.add_assoc]
  rw [decide_eq_true h,e1,key,e2]
  refine ⟨⟨fun _=>⟨⟨h2,by omega⟩,fun z=>Bool.noConfusion z,fun _=>⟨⟨⟨h1,h1b⟩,⟨?_,?_⟩,?_,?_⟩,?_⟩⟩,fun z=>Bool.noConfusion z⟩,rfl⟩
  ·show 0≤i+1;omega
  ·show i+1≤n;omega
  ·show 0≤r1;omega
  ·show r1+je (l.drop (i+1).toNat)≤1000000;omega
  ·show (n - (i+1)).toNat <(n - i).toNat;omega
 ·rw [decide_eq_false h]
  refine ⟨⟨fun z=>Bool.noConfusion z,fun _=>trivial⟩,?_⟩
  show _ =(a,k+je (l.drop i.toNat),())
  rw [dV (l:=l) (by omega)]
  show (a,k,()) =(a,k+0,())
  rw [Int.add_zero]
noncomputable def NF:LoopSum:=az lpG0 mE uM
noncomputable def Ni:Nat:=rid (bf Tryz.f65 0)
theorem OS:LoopOKp Tryz.prog 0 Tryz.f65.ntmps (bf Tryz.f65 0) (az lpG0 mE uM):=
 aY lpG0 (au (CtrsOK.nil) _) mixed (fun b hb S hS=>by cases hS) mE uM I1 (fun |⟨a,k,l,n,i,⟨⟩⟩,hi=>PX a k l n i hi)
noncomputable def lpG1:Lp:=(⟨0,ax [] Tryz.f65,(fun _=>none),(bf Tryz.f65 1),qG1,xG1⟩:Lp)
theorem PY (l:List (List Int)) (n:Int) (i:Int) (o:List Int) (hi:uN (l,n,i,o,())) :(Go.Mir.stepG lpG1 mF (fun y:Den (tyP lpG1.q)=>uN y∧I2 y<I2 (l,n,i,o,())) (l,n,i,o,())∧Go.Mir.stepE lpG1 mF (l,n,i,o,())=mF (l,n,i,o,())):=by
 refine cast (by kernel_rfl) (?_ :((decide (i<n)=true→((0:Int)≤i∧i <(↑l.length:Int))∧(o.length+List.length (l.getD i.toNat (dflt (Ty.int IntKind.i64).slice))) *(8:Nat)≤(70368744177664:Nat)∧uN (l,n,IntKind.i64.wrap (i +(1:Int)),o++l.getD i.toNat (dflt (Ty.int IntKind.i64).slice),())∧I2 (l,n,IntKind.i64.wrap (i +(1:Int)),o++l.getD i.toNat (dflt (Ty.int IntKind.i64).slice),())<I2 (l,n,i,o,()))∧(decide (i<n)=false→True))∧(bif decide (i<n) then mF (l,n,IntKind.i64.wrap (i +(1:Int)),o++l.getD i.toNat (dflt (Ty.int IntKind.i64).slice),()) else (o,()))=mF (l,n,i,o,()))
 obtain ⟨⟨h1,h1b⟩,⟨h2,h3⟩,h4⟩:=hi
 have h1:n =(l.length:Int):=h1
 have h1b:FO l:=h1b
 have h2:0≤i:=h2
 have h3:i≤n:=h3
 have h4 :(o.length:Int)+je (l.drop i.toNat)≤1000000:=h4
 have hf:=h1b.1
 by_cases h:i<n
 ·have e1:IntKind.i64.wrap (i+1)=i+1:=wrap64 (by omega) (by omega)
  have hd:l.drop i.toNat=l.getD i.toNat (dflt (Ty.int IntKind.i64).slice)::l.drop (i+1).toNat:=fM h2 (by omega) _
  generalize l.getD i.toNat (dflt (Ty.int IntKind.i64).slice)=x at *
  have hF:je (l.drop i.toNat) =(List.length x:Int)+je (l.drop (i+1).toNat):=by
   rw [hd]
   unfold je
   rw [List.flatten_cons,List.length_append]
   exact Int.natCast_add _ _
  have hp:0≤je (l.drop (i+1).toNat):=Int.natCast_nonneg _
  have hl :((o++x).length:Int) =(o.length:Int) +(List.length x:Int):=by
   rw [List.length_append]
   exact Int.natCast_add _ _
  have key:mF (l,n,i,o,())=mF (l,n,i+1,o++x,()):=by
   show (o++List.flatten (l.drop i.toNat),()) =((o++x)++List.flatten (l.drop (i+1).toNat),())
   rw [hd,List.flatten_cons,List.append_assoc]
  rw [decide_eq_true h,e1,key]
  refine ⟨⟨fun _=>⟨⟨h2,by omega⟩,?_,⟨⟨h1,h1b⟩,⟨?_,?_⟩,?_⟩,?_⟩,fun z=>Bool.noConfusion z⟩,rfl⟩
  ·show (o.length+List.length x)*8≤70368744177664;omega
  ·show 0≤i+1;omega
  ·show i+1≤n;omega
  ·show ((o++x).length:Int)+je (l.drop (i+1).toNat)≤1000000;omega
  ·show (n - (i+1)).toNat <(n - i).toNat;omega
 ·rw [decide_eq_false h]
  refine ⟨⟨fun z=>Bool.noConfusion z,fun _=>trivial⟩,?_⟩
  show _ =(o++List.flatten (l.drop i.toNat),())
  rw [dV (l:=l) (by omega)]
  show (o,()) =(o++[],())
  rw [List.append_nil]
noncomputable def NG:LoopSum:=az lpG1 mF uN
noncomputable def Nj:Nat:=rid (bf Tryz.f65 1)
theorem OT:LoopOKp Tryz.prog 0 Tryz.f65.ntmps (bf Tryz.f65 1) (az lpG1 mF uN):=
 aY lpG1 (au (CtrsOK.nil) _) mixed (fun b hb S hS=>by cases hS) mF uN I2 (fun |⟨l,n,i,o,⟨⟩⟩,hi=>PY l n i o hi)
theorem yg (l:List (List Int)) (hl:xR l) :(evPat (ax [zL] Tryz.f65) (find [(Ni,NF),(Nj,NG)]) Tryz.f65 qCc Mi (l,())).sat fun z_=>z_ =(sCc (l,())).2:=by
 refine cast (by kernel_rfl) (?_:let r1:Int:=(0:Int)+je (List.drop (Int.toNat (0:Int)) l);((ij fun x=>none)∧((↑l.length:Int) =(↑l.length:Int)∧FO l)∧((0:Int)≤(0:Int)∧(0:Int)≤(↑l.length:Int))∧(0:Int)≤(0:Int)∧r1≤(1000000:Int))∧H9 r1∧((ij fun x=>none)∧((↑l.length:Int) =(↑l.length:Int)∧FO l)∧((0:Int)≤(0:Int)∧(0:Int)≤(↑l.length:Int))∧(↑(0:Nat):Int)+je (List.drop (Int.toNat (0:Int)) l)≤(1000000:Int))∧([] ++(List.drop (Int.toNat (0:Int)) l).flatten,()) =(l.flatten,()))
 intro r1
 clear_value (hr1:r1=_)
 obtain ⟨⟨h1,h2⟩,h3⟩:=hl
 have e1:r1 =(List.length l.flatten:Int):=by rw [hr1];exact Int.zero_add _
 have e2:je (List.drop (Int.toNat 0) l) =(List.length l.flatten:Int):=rfl
 rw [e2]
 refine ⟨⟨rfl,⟨rfl,h1,h3⟩,⟨Int.le_refl _,by omega⟩,Int.le_refl _,by omega⟩,⟨by omega,by omega⟩,⟨rfl,⟨rfl,h1,h3⟩,⟨Int.le_refl _,by omega⟩,?_⟩,rfl⟩
 show (0:Int)+_≤1000000
 omega
def Cu:FuncId×Ctr:=(65,ae KE qCc Mi sCc)
theorem Ax:CtrOK Tryz.prog KE 65 (ae KE qCc Mi sCc):=by
 refine aE (C:=ax [zL] Tryz.f65) (au (.consU F8 rfl .nil) _) mixed (fn:=Tryz.f65) Tryz.func65 (by kernel_rfl) (by kernel_rfl) (by kernel_rfl) (by kernel_rfl) (by kernel_rfl) (by kernel_rfl) (Λ:=fun x=>find [(Ni,NF),(Nj,NG)]) ?_ ?_
 ·rintro ⟨l,⟨⟩⟩ hw hn
  exact LoopsOKp.at (by kernel_rfl) (.cons (by kernel_rfl) (OS) (.cons (by kernel_rfl) (OT) .nil))
 ·rintro ⟨l,⟨⟩⟩ hw hn
  exact yg l (hn _ List.mem_cons_self)
end Go.Proofs.YtffdpnmioidloaaGreatDoor
namespace Go.Proofs.YtffdpnmioidloaaGreatDoor
open Go Go.Mir
def fv (r:Mir.Row):List Int:= [r.Innings,r.Over,r.Ball,r.Bowler,r.Striker,r.Partner]
def fT (r:Mir.Row):List Int:= [r.Total,r.Wickets]
def aN (r:Mir.Row):List ByteArray:=(fv r).map aZ ++(r.Symbol ::(fT r).map aZ)
def jU (l:List Mir.Row) (o:ByteArray):ByteArray:=l.foldl (fun o r=>o++lnB (aN r)) o
def lnG (y:ByteArray):List Int→Int→ByteArray→Option ByteArray
 | [],_,s=>some s
 | x::l,i,s=>if dH x then none else lnG y l (i+1) ((bif i==6 then s ++(y++spV) else s) ++(aZ x++spV))
def mh (l:List ByteArray) (o:ByteArray):ByteArray:=l.foldl (fun o x=>o ++(x++spV)) o
theorem BZ {a b:ByteArray} (h:a.data.toList=b.data.toList):a=b:=by
 cases a;cases b
 congr 1
 exact Array.toList_inj.1 h
theorem DZ :∀ l:List (List UInt8),(l.map fun x=>x++[32]).flatten ++([]:List UInt8) =(match l with | []=> []|w::r=>w ++((r.map ([32]++·)).flatten++[32]))
 | []=>rfl
 | [w]=>by simp
 | w::v::l=>by
  have ih:=DZ (v::l)
  simp only [List.append_nil,List.map_cons,List.flatten_cons] at ih ⊢
  rw [ih]
  simp
theorem ud (w:ByteArray) (l:List ByteArray):mh (w::l) ⟨#[]⟩=fY (w::l) spV++spV:=by
 apply BZ
 unfold mh
 rw [lT,ByteArray.data_append,Array.toList_append]
 show ([]:List UInt8)++_=Lib.join ((w::l).map fun s=>s.data.toList) [32]++[32]
 rw [List.nil_append,List.map_cons,List.map_cons,Lib.join_cons]
 have h:=DZ ((w::l).map fun s=>s.data.toList)
 rw [List.append_nil,List.map_map] at h
 have e :((fun x=>x++[32]) ∘ fun s:ByteArray=>s.data.toList)=fun s=>(s++spV).data.toList:=by
  funext s
  show s.data.toList++[32]=_
  rw [ByteArray.data_append,Array.toList_append]
  rfl
 rw [e] at h
 rw [List.map_cons] at h
 rw [h]
 show _ ++(_++[32]) =(_++Lib.joinTail [32] _)++[32]
 unfold Lib.joinTail
 rw [List.append_assoc]
theorem Ht (a:ByteArray) :(a++spV).extract 0 ((a++spV).size - 1)=a:=by
 apply BZ
 have hs:spV.size=1:=rfl
 rw [ByteArray.size_append,hs,Lib.extract_data,Nat.add_sub_cancel,List.drop_zero,ByteArray.data_append,Array.toList_append,Nat.sub_zero]
 exact List.take_left' (by rw [Array.length_toList];rfl)
theorem LH {r:Mir.Row} (h :(fv r++fT r).any dH=false):lnG r.Symbol (fv r++fT r) 0 ⟨#[]⟩=some (fY (aN r) spV++spV):=by
 have h' :∀ x∈fv r++fT r,dH x=false:=fun x hx=>by
  have:=List.any_eq_false.1 h x hx
  simpa using this
 unfold fv fT at h'
 have e:lnG r.Symbol (fv r++fT r) 0 ⟨#[]⟩=some (mh (aN r) ⟨#[]⟩):=by
  unfold fv fT
  simp only [List.cons_append,List.nil_append,lnG]
  rw [h' r.Innings (by simp),h' r.Over (by simp),h' r.Ball (by simp),h' r.Bowler (by simp),h' r.Striker (by simp),h' r.Partner (by simp),h' r.Total (by simp),h' r.Wickets (by simp)]
  rfl
 rw [e]
 congr 1
 exact ud _ _
theorem Eu (y:ByteArray) :∀ (l:List Int) (i:Int) (s:ByteArray),l.any dH=true→lnG y l i s=none
 | [],_,_,h=>by cases h
 | x::l,i,s,h=>by
  unfold lnG
  cases hx:dH x with
  | true=>rfl
  | false=>
   rw [List.any_cons,hx,Bool.false_or] at h
   exact Eu y l _ _ h
end Go.Proofs.YtffdpnmioidloaaGreatDoor
