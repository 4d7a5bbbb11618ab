/- Texts of the mirror and contracts, put together. -/
import Derived.Test.YthaeofeigglbhaaGreatDoorPU3
import Derived.Shelf.Strings.Cut
import Derived.Shelf.Strings.OnBuilder
import Derived.Test.YthaeofeigglbhaaGreatDoorPU2
import Derived.LoopN
namespace Go.Proofs.YthaeofeigglbhaaGreatDoor
open Go Go.Mir Go.RowKit Go.Shelf
def uD:Go.Shelf.Ren:=⟨fun|145=>122|220=>190|219=>272|217=>257|225=>323|224=>324|267=>325|266=>318|314=>354|n=>n,fun|9=>9|4=>4|59=>206|3=>3|5=>5|46=>416|146=>444|51=>434|n=>n,fun|1=>0|n=>n⟩
theorem CU:Go.Proofs.Lays.n145 Tryz.prog uD where
 mixed:=by kernel_rfl
 f145:=Tryz.func122.trans (congrArg some (by kernel_rfl))
 f217:=Tryz.func257.trans (congrArg some (by kernel_rfl))
 f219:=Tryz.func272.trans (congrArg some (by kernel_rfl))
 f220:=Tryz.func190.trans (congrArg some (by kernel_rfl))
 f224:=Tryz.func324.trans (congrArg some (by kernel_rfl))
 f225:=Tryz.func323.trans (congrArg some (by kernel_rfl))
 f266:=Tryz.func318.trans (congrArg some (by kernel_rfl))
 f267:=Tryz.func325.trans (congrArg some (by kernel_rfl))
 f314:=Tryz.func354.trans (congrArg some (by kernel_rfl))
 t3:=Tryz.underlying3
 a3:=Tryz.isAgg3
 z3:=Tryz.sizeOf3
 v3:=Tryz.zeroValue3
 t4:=Tryz.underlying4
 a4:=Tryz.isAgg4
 z4:=Tryz.sizeOf4
 v4:=Tryz.zeroValue4
 t5:=Tryz.underlying5
 a5:=Tryz.isAgg5
 z5:=Tryz.sizeOf5
 v5:=Tryz.zeroValue5
 t9:=Tryz.underlying9
 a9:=Tryz.isAgg9
 z9:=Tryz.sizeOf9
 v9:=Tryz.zeroValue9
 t46:=Tryz.underlying416
 a46:=Tryz.isAgg416
 z46:=Tryz.sizeOf416
 v46:=Tryz.zeroValue416
 t51:=Tryz.underlying434
 a51:=Tryz.isAgg434
 z51:=Tryz.sizeOf434
 v51:=Tryz.zeroValue434
 t59:=Tryz.underlying206
 a59:=Tryz.isAgg206
 z59:=Tryz.sizeOf206
 v59:=Tryz.zeroValue206
 t146:=Tryz.underlying444
 a146:=Tryz.isAgg444
 z146:=Tryz.sizeOf444
 v146:=Tryz.zeroValue444
 g1:=by kernel_rfl
def mY:Go.Shelf.Ren:=⟨fun|156=>85|165=>157|166=>95|169=>97|240=>170|241=>242|276=>249|277=>316|n=>n,fun|31=>136|9=>9|3=>3|4=>4|0=>0|20=>20|72=>164|76=>172|70=>161|37=>162|75=>171|127=>291|164=>361|5=>5|80=>51|n=>n,fun|n=>n⟩
theorem x4:Go.Proofs.Lays.n156 Tryz.prog mY where
 mixed:=by kernel_rfl
 f156:=Tryz.func85.trans (congrArg some (by kernel_rfl))
 f165:=Tryz.func157.trans (congrArg some (by kernel_rfl))
 f166:=Tryz.func95.trans (congrArg some (by kernel_rfl))
 f169:=Tryz.func97.trans (congrArg some (by kernel_rfl))
 f240:=Tryz.func170.trans (congrArg some (by kernel_rfl))
 f241:=Tryz.func242.trans (congrArg some (by kernel_rfl))
 f276:=Tryz.func249.trans (congrArg some (by kernel_rfl))
 f277:=Tryz.func316.trans (congrArg some (by kernel_rfl))
 t0:=Tryz.underlying0
 a0:=Tryz.isAgg0
 z0:=Tryz.sizeOf0
 v0:=Tryz.zeroValue0
 t3:=Tryz.underlying3
 a3:=Tryz.isAgg3
 z3:=Tryz.sizeOf3
 v3:=Tryz.zeroValue3
 t4:=Tryz.underlying4
 a4:=Tryz.isAgg4
 z4:=Tryz.sizeOf4
 v4:=Tryz.zeroValue4
 t9:=Tryz.underlying9
 a9:=Tryz.isAgg9
 z9:=Tryz.sizeOf9
 v9:=Tryz.zeroValue9
 t20:=Tryz.underlying20
 a20:=Tryz.isAgg20
 z20:=Tryz.sizeOf20
 v20:=Tryz.zeroValue20
 t31:=Tryz.underlying136
 a31:=Tryz.isAgg136
 z31:=Tryz.sizeOf136
 v31:=Tryz.zeroValue136
 t37:=Tryz.underlying162
 a37:=Tryz.isAgg162
 z37:=Tryz.sizeOf162
 v37:=Tryz.zeroValue162
 t70:=Tryz.underlying161
 a70:=Tryz.isAgg161
 z70:=Tryz.sizeOf161
 v70:=Tryz.zeroValue161
 t72:=Tryz.underlying164
 a72:=Tryz.isAgg164
 z72:=Tryz.sizeOf164
 v72:=Tryz.zeroValue164
 t75:=Tryz.underlying171
 a75:=Tryz.isAgg171
 z75:=Tryz.sizeOf171
 v75:=Tryz.zeroValue171
 t76:=Tryz.underlying172
 a76:=Tryz.isAgg172
 z76:=Tryz.sizeOf172
 v76:=Tryz.zeroValue172
 t127:=Tryz.underlying291
 a127:=Tryz.isAgg291
 z127:=Tryz.sizeOf291
 v127:=Tryz.zeroValue291
 t164:=Tryz.underlying361
 a164:=Tryz.isAgg361
 z164:=Tryz.sizeOf361
 v164:=Tryz.zeroValue361
theorem uF:Builder.Extra Tryz.prog mY where
 sizeBuilder:=by kernel_rfl
 liesBuilder:=by kernel_rfl
 t5:=Tryz.underlying5
 a5:=Tryz.isAgg5
 z5:=Tryz.sizeOf5
 v5:=Tryz.zeroValue5
 infoByte:=by kernel_rfl
 cellsByte:=by kernel_rfl
 sizeByte:=by kernel_rfl
 neB5:=by decide
def iZ (s sep:ByteArray):List UInt8×List UInt8×Bool:=Lib.cut s.data.toList sep.data.toList
abbrev FO:Ty:= .prod .str (.prod .str .unit)
def BT:Den FO→PRes:=fun x=>⟨[x.1.size≤1000000],.tup [.str (toB (iZ x.1 x.2.1).1),.str (toB (iZ x.1 x.2.1).2.1),.bool (iZ x.1 x.2.1).2.2],[]⟩
def GO:FuncId×Ctr:=(122,bb KE FO BT)
theorem rT (s t:List UInt8) :(Lib.cut s t).1.length≤s.length∧(Lib.cut s t).2.1.length≤s.length:=by
 unfold Lib.cut
 split
 ·refine ⟨?_,?_⟩
  ·show (List.take _ _).length≤_
   rw [List.length_take];omega
  ·show (List.drop _ _).length≤_
   rw [List.length_drop];omega
 ·exact ⟨Nat.le_refl _,Nat.zero_le _⟩
theorem eS (l:List UInt8) :(toB l).size=l.length:=by
 show l.toArray.size=_
 rw [List.size_toArray]
theorem wL (w:World) (k:Nat):Keeps w (fun _=>False) (w.drewN k):=
 ⟨rfl,rfl,rfl,Nat.le_refl _,fun _ _ _=>rfl⟩
set_option maxHeartbeats 1600000 in
theorem GX:CtrOK Tryz.prog KE 122 (bb KE FO BT):=by
 refine l7 Tryz.func122 (by kernel_rfl) (by kernel_rfl) (fun _=>⟨rfl,rfl⟩) (fun x av w E hw hn hg hav=>?_) (fun _ _=>rfl)
 obtain ⟨s,sep,⟨⟩⟩:=x
 have hs:s.size≤1000000:=hn _ List.mem_cons_self
 obtain ⟨a,r,rfl,⟨rfl,hs1⟩,h1⟩:=aY hav
 obtain ⟨a,r,rfl,⟨rfl,hs2⟩,h2⟩:=aY h1
 have h5:r=[]:=by cases r with|nil=>rfl|cons=>simp [fW,ab] at h2
 subst h5
 have hm :∃ m,w.cell? ⟨0,0,none⟩=some (.int .i64 m):=by
  obtain ⟨⟨o,h1,m,T,fr,rfl⟩,_⟩:=hg (0,wK) (by unfold GL;simp)
  exact ⟨m,by simp [World.cell?,h1]⟩
 obtain ⟨m,hm⟩:=hm
 have hL :(1000000:Nat)≤aB:=by decide
 obtain ⟨c1,c2⟩:=rT s.data.toList sep.data.toList
 have hsl:s.data.toList.length=s.size:=by rw [Array.length_toList];rfl
 refine (Any.strings_Cut CU s sep m w (by omega) hm).mono fun e w' ⟨he,n,hw'⟩=>⟨_,he,by rw [hw'];exact wL _ _,fun E'=>?_⟩
 refine ⟨_,rfl,⟨rfl,?_⟩,⟨rfl,?_⟩,rfl,trivial⟩
 ·show (toB _).size≤aB
  rw [eS];unfold iZ;show (Lib.cut s.data.toList sep.data.toList).1.length≤aB;omega
 ·show (toB _).size≤aB
  rw [eS];unfold iZ;show (Lib.cut s.data.toList sep.data.toList).2.1.length≤aB;omega
theorem yN {P:Program} {K:Nat} {f:FuncId} {fn:Func} (hf:P.funcs[f]?=some fn) (hbody:fn.body.isSome=true) (hname :(fn.name == "runtime.NumGoroutine")=false) {ps:Ty} {spec:Den ps→PRes} (hfl :∀ x,(spec x).rows=[]∧(spec x).v.noF=true)
  (h :∀ (x:Den ps) (av:List Value) (E:Env),wfD ps x→(∀ p∈(spec x).needs,p)→iU E.w (fun _=>False)→(∀ b,E.S b→b<E.w.heap.size)→ab E (fW ps x) av→Calls P f av.toArray E.w fun e w'=>∃ v',e = .returned v'∧Keeps E.w (fun _=>False) w'∧∀ E':Env,aa E' ((spec x).v.shift 0) v') (hsh :∀ x m,(spec x).v.shift m =(spec x).v.shift 0):CtrOK P K f (bb K ps spec):=by
 refine ⟨⟨fn,hf,hbody,hname⟩,fun B E hE args av hav m hm ps' v dh hct hps=>?_⟩
 unfold bb at hct
 simp only at hct
 split at hct
 case h_2=>cases hct
 rename_i x hx
 obtain ⟨hr,hn⟩:=hfl x
 have hflat :(spec x).flat=true:=by unfold PRes.flat;rw [hn,hr];rfl
 rw [hr,hflat] at hct
 simp only [List.length_nil,fa,cond_true,List.append_nil] at hct
 cases hle:Nat.ble 0 K with
 | false=>rw [hle] at hct;cases hct
 | true=>
  rw [hle] at hct
  simp only [cond_true,Option.some.injEq,Prod.mk.injEq] at hct
  obtain ⟨rfl,rfl,rfl⟩:=hct
  obtain ⟨hSE,XS⟩:=bn hE (hss args)
  obtain ⟨hav0,cs,hrd⟩:=dI hSE (Ec:=aP E (hss args)) rfl rfl (aC XS _ _ hav) hx
  refine (h x av (aP E (hss args)) ⟨_,_,_,hrd⟩ hps hE.glob0 hSE.stab hav0).mono fun e w' ⟨v',h1,h2,h3⟩=>?_
  obtain ⟨hE',X⟩:=DY hE w' h2
  refine ⟨{ E with w:=w' },v',h1,⟨hE',X,rfl,by funext z;simp [aj,find],fun n hn=> .inl hn⟩,?_⟩
  rw [hsh x m]
  exact h3 _
def iK (l:List ByteArray) (sep:ByteArray):ByteArray:=toB (Lib.join (l.map (·.data.toList)) sep.data.toList)
abbrev FQ:Ty:= .prod (.slice .str) (.prod .str .unit)
def xr:Den FQ→PRes:=fun x=>⟨[(iK x.1 x.2.1).size≤1000000],.str (iK x.1 x.2.1),[]⟩
def D0:FuncId×Ctr:=(85,bb KE FQ xr)
theorem tN {w:World} {b o i:Nat} {c:Array Value} {T:TypeId} {fr:Nat×Nat} {x:Value} (hb:w.heap[b]?=some (.cells c T fr)) (h:seg c (o+i*1) 1=[x]):w.cell? ⟨b,o+i,none⟩=some x:=by
 rw [Nat.mul_one] at h
 unfold seg at h
 have hx:c.toList[o+i]?=some x:=by
  have:=congrArg (·[0]?) h
  simpa [List.getElem?_take,List.getElem?_drop] using this
 simp only [World.cell?,hb]
 simpa using hx
set_option maxHeartbeats 1600000 in
theorem FF:CtrOK Tryz.prog KE 85 (bb KE FQ xr):=by
 refine yN Tryz.func85 (by kernel_rfl) (by kernel_rfl) (fun _=>⟨rfl,rfl⟩) (fun x av E hw hn hg hS hav=>?_) (fun _ _=>rfl)
 obtain ⟨l,sep,⟨⟩⟩:=x
 have hs :(iK l sep).size≤1000000:=hn _ List.mem_cons_self
 have hj :(Lib.join (l.map (·.data.toList)) sep.data.toList).length≤1000000:=by rw [←eS];exact hs
 have hL :(1000000:Nat)≤aB:=by decide
 obtain ⟨a,r,rfl,h0,h1⟩:=aY hav
 obtain ⟨a',r,rfl,⟨rfl,hs2⟩,h2⟩:=aY h1
 have h5:r=[]:=by cases r with|nil=>rfl|cons=>simp [fW,ab] at h2
 subst h5
 have h0:Rd E.S E.w (.slice .str) l [a]:=h0
 have fin :∀ {e:Ending} {w':World},(e = .returned (.string (iK l sep))∧Below E.w.heap.size E.w w')→∃ v',e = .returned v'∧Keeps E.w (fun _=>False) w'∧∀ E':Env,aa E' ((xr (l,sep,())).v.shift 0) v':=
  fun ⟨he,hB⟩=>⟨_,he,mX hB,fun E'=>⟨rfl,Nat.le_trans hs hL⟩⟩
 cases h0 with
 | nil=>exact (Any.strings_Join_none x4 uF _ _ sep _).mono fun e w' ⟨he,hw⟩=>fin ⟨he,hw▸Below.refl _ _⟩
 | @slice _ _ b o cap c T fr hSb hb hsz hcap hlen hcl=>
  refine (Any.strings_Join x4 uF b o cap l sep E.w (fun j x hjx=>?_) (hS b hSb) (Nat.le_trans hlen (by decide)) hcap (Nat.le_trans hj (by decide))).mono fun e w' h=>fin h
  obtain ⟨hjl,rfl⟩:=List.getElem?_eq_some_iff.1 hjx
  have h:=hcl j hjl
  generalize hg:seg c (o+j*sz .str) (sz .str)=z at h
  cases h with
  | str h=>exact tN hb hg
def cb (s sep:ByteArray):List ByteArray:=Lib.splitB sep 0 (Lib.countB s sep) s
def FA:Den BB→List Prop:=fun x=> [x.1.size≤1000000∧1≤x.2.1.size]
def DQ:Den BB→List (Den .str):=fun x=>cb x.1 x.2.1
def BU:Den BB→PRes:=fun x=>⟨FA x,.osl 0 0,[⟨.str,DQ x⟩]⟩
def xY:FuncId×Ctr:=(78,bb KE BB BU)
theorem pg (sep:List UInt8) :∀ (k:Nat) (l:List UInt8),∀ p∈Lib.splitK sep 0 k l,p.length≤l.length
 | 0,l,p,h=>by
  have:=List.mem_singleton.1 h
  subst this
  exact Nat.le_refl _
 | k+1,l,p,h=>by
  unfold Lib.splitK at h
  split at h
  ·have:=List.mem_singleton.1 h
   subst this
   exact Nat.le_refl _
  ·rcases List.mem_cons.1 h with rfl|h
   ·rw [List.length_take];omega
   ·have:=pg sep k _ p h
    rw [List.length_drop] at this
    omega
theorem ni (s sep:ByteArray) :∀ p∈cb s sep,p.size≤s.size:=fun p hp=>by
 have h:=Lib.splitB_data sep 0 (Lib.countB s sep) s
 have hm:p.data.toList∈Lib.splitK sep.data.toList 0 (Lib.countB s sep) s.data.toList:=by
  rw [←h]
  exact List.mem_map_of_mem hp
 have:=pg _ _ _ _ hm
 rw [Array.length_toList,Array.length_toList] at this
 exact this
theorem Bm:CtrOK Tryz.prog KE 78 (bb KE BB BU):=by
 refine tM (by decide) Tryz.func78 (by kernel_rfl) (by kernel_rfl) (by decide) (fun x av w E hw hn hg hav=>?_)
 obtain ⟨s,sep,⟨⟩⟩:=x
 obtain ⟨hs,hsep⟩:=hn _ List.mem_cons_self
 obtain ⟨a,r,rfl,⟨rfl,hs1⟩,h1⟩:=aY hav
 obtain ⟨a,r,rfl,⟨rfl,hs2⟩,h2⟩:=aY h1
 have h5:r=[]:=by cases r with|nil=>rfl|cons=>simp [fW,ab] at h2
 subst h5
 have hm :∃ m,w.cell? ⟨0,0,none⟩=some (.int .i64 m):=by
  obtain ⟨⟨o,h1,m,T,fr,rfl⟩,_⟩:=hg (0,wK) (by unfold GL;simp)
  exact ⟨m,by simp [World.cell?,h1]⟩
 obtain ⟨m,hm⟩:=hm
 have hs:s.size≤1000000:=hs
 have hsep:1≤sep.size:=hsep
 have hlen :(cb s sep).length=Lib.countB s sep+1:=Lib.splitB_all sep hsep 0 _ s rfl
 have hle:=Lib.countB_le sep hsep s.size s (Nat.le_refl _)
 have hL :(2000000:Nat)≤aB:=by decide
 refine (Any.strings_Split { lays146 with } lays146.i9 s sep m w (by omega) hm hsep).mono fun e w' ⟨he,hw'⟩=>?_
 rw [←hlen] at he
 refine ⟨_,_,_,he,hw',?_,Nat.le_refl _,?_,fun S i hi=>?_⟩
 ·show ((cb s sep).map Value.string).toArray.size =(cb s sep).length*1
  simp
 ·show (cb s sep).length≤aB
  omega
 ·have hi:i <(cb s sep).length:=hi
  have hseg:seg ((cb s sep).map Value.string).toArray (i*sz .str) (sz .str)=[.string (cb s sep)[i]]:=by
   show (((cb s sep).map Value.string).drop (i*1)).take 1=_
   rw [Nat.mul_one,List.drop_eq_getElem_cons (by simpa using hi)]
   simp
  show Rd S w .str ((cb s sep)[i]) (seg ((cb s sep).map Value.string).toArray (i*sz .str) (sz .str))
  rw [hseg]
  have:=ni s sep _ (List.getElem_mem hi)
  exact Rd.str (by omega)
end Go.Proofs.YthaeofeigglbhaaGreatDoor
namespace Go.Proofs.YthaeofeigglbhaaGreatDoor
open Go Go.Mir
attribute [local irreducible] Go.Mir.DT.sat Go.Mir.evPat Go.Mir.RT.sat Go.Mir.evFn
theorem yB (s:ByteArray) (a i:Nat):toB ((s.data.toList.take i).drop a)=s.extract a i:=by
 apply ByteArray.ext
 apply Array.ext'
 show ((s.data.toList.take i).drop a)=_
 rw [Lib.extract_data]
 simp [Array.toList_extract,List.extract_eq_take_drop,List.drop_take]
theorem eqC {c:Int} (b:UInt8) (h0:0≤c) (h1:c<256) :((b.toNat:Int)==c) =(b==UInt8.ofNat c.toNat):=by
 apply Bool.eq_iff_iff.2
 simp only [beq_iff_eq]
 constructor
 ·intro h
  have:c.toNat=b.toNat:=by omega
  rw [this];simp
 ·rintro rfl
  have:c.toNat<256:=by omega
  simp [UInt8.toNat_ofNat']
  omega
end Go.Proofs.YthaeofeigglbhaaGreatDoor
namespace Go.Proofs.YthaeofeigglbhaaGreatDoor
open Go Go.Mir
attribute [local irreducible] Go.Mir.DT.sat Go.Mir.evPat Go.Mir.RT.sat Go.Mir.evFn
theorem l6 {a b:ByteArray} (h:a.data.toList=b.data.toList):a=b:=ByteArray.ext (Array.toList_inj.1 h)
theorem Cg {n:Int} (h0:0≤n) (h1:n<18446744073709551616):IntKind.u64.wrap n=n:=by
 simp only [IntKind.wrap,IntKind.bits,IntKind.signed]
 simp
 omega
end Go.Proofs.YthaeofeigglbhaaGreatDoor
namespace Go.Proofs.YthaeofeigglbhaaGreatDoor
open Go Go.Mir
attribute [local irreducible] Go.Mir.DT.sat Go.Mir.evPat Go.Mir.RT.sat Go.Mir.evFn
abbrev qNr:Pat:=iQ [.str,I,I]
abbrev Dm:Pat:=iQ [I,I]
abbrev qNl:Pat:=⟨[(1,.h I),(2,.h I),(8,.h .bool),(9,.h .str),(10,.h (.int .u64)),(11,.h .bool),(12,.h I)],[],0⟩
abbrev xNl:List (Lf×Pat):= [(.ret,⟨[(6,.h I),(7,.h I)],[],0⟩),(.ext 0,⟨[(1,.h I),(2,.h I),(8,.h .bool),(10,.h (.int .u64)),(11,.h .bool)],[],0⟩)]
abbrev TNl:Type:=Int×Int×Bool×ByteArray×Int×Bool×Int×Unit
def x9 (n:Int) (b:Int):Int:=IntKind.u64.wrap (IntKind.u64.wrap (n*10)+IntKind.u64.wrap (IntKind.u8.wrap (b - 48)))
def kc:List UInt8→Int→Bool→Option (Int×Bool)
 | [],n,b=>some (n,b)
 | x::r,n,b=>if decide ((x.toNat:Int)<48)||decide ((x.toNat:Int)>57) then none else kc r (x9 n x.toNat) (b||decide (n>1152921504606846976))
def qw (x:TNl):Prop:=0≤x.2.2.2.2.2.2.1∧x.2.2.2.2.2.2.1≤(x.2.2.2.1.size:Int)∧x.2.2.2.1.size≤aB
def Bc (x:TNl):Nat:=((x.2.2.2.1.size:Int) - x.2.2.2.2.2.2.1).toNat
def Gv (lo hi:Int) (g:Bool):Option (Int×Bool)→Sum (Int×Int×Unit) (Int×Int×Bool×Int×Bool×Unit)
 | none=> .inl (0,4,())
 | some p=> .inr (lo,hi,g,p.1,p.2,())
def eQ (x:TNl):Sum (Int×Int×Unit) (Int×Int×Bool×Int×Bool×Unit):=Gv x.1 x.2.1 x.2.2.1 (kc (x.2.2.2.1.data.toList.drop x.2.2.2.2.2.2.1.toNat) x.2.2.2.2.1 x.2.2.2.2.2.1)
def dH (s:ByteArray):Bool:=!s.data.toList.isEmpty&&s.data.toList.headD 0==45
def aN (s:ByteArray):ByteArray:=if dH s then s.extract 1 s.size else s
def wC (neg:Bool) (lo hi:Int):Option (Int×Bool)→Int×Int
 | none=>(0,4)
 | some p=>
  if p.2 ||(decide (p.1>9223372036854775808) ||(p.1==9223372036854775808&&!neg)) then (0,2)
  else
   let v:=if neg then IntKind.i64.wrap (0 - IntKind.i64.wrap p.1) else IntKind.i64.wrap p.1
   if decide (v<lo)||decide (v>hi) then (0,2) else (v,0)
def bk (s:ByteArray) (lo hi:Int):Int×Int:=
 let d:=aN s
 if d.data.toList.isEmpty ||(d.data.toList.headD 0==48&&(dH s||decide ((d.size:Int)>1))) then (0,4)
 else wC (dH s) lo hi (kc d.data.toList 0 false)
def BP:Den (tyP qNr)→List Prop×Den (tyP Dm):=fun x=>([],((bk x.1 x.2.1 x.2.2.1).1,(bk x.1 x.2.1 x.2.2.1).2,()))
theorem He {s:ByteArray} (h:wfD .str s):s.size≤aB:=by
 obtain ⟨S,w,cs,h⟩:=h
 cases h with|str h=>exact h
theorem isE (s:ByteArray) :(s.toList ==(ByteArray.mk #[]).toList)=s.data.toList.isEmpty:=by
 rw [Lib.toList_data,Lib.toList_data]
 cases s.data.toList <;> rfl
theorem Ef {s:ByteArray} (h :(!s.data.toList.isEmpty)=true):0 <(s.size:Int):=by
 have:s.data.toList.length≠0:=by
  cases hs:s.data.toList with
  | nil=>rw [hs] at h;cases h
  | cons=>simp
 rw [Array.length_toList] at this
 show 0 <(s.data.size:Int)
 omega
theorem xT (s:ByteArray):s.data.getD (Int.toNat 0) 0=s.data.toList.headD 0:=by
 cases s with|mk d=>cases d with|mk l=>cases l <;> rfl
theorem Ho (b:UInt8) :((b.toNat:Int)==45) =(b==45):=by
 apply Bool.eq_iff_iff.2
 rw [beq_iff_eq,beq_iff_eq,←UInt8.toNat_inj]
 show _↔b.toNat=45
 omega
theorem Hp (b:UInt8) :((b.toNat:Int)==48) =(b==48):=by
 apply Bool.eq_iff_iff.2
 rw [beq_iff_eq,beq_iff_eq,←UInt8.toNat_inj]
 show _↔b.toNat=48
 omega
theorem mB (x:UInt8) (r:List UInt8) (n:Int) (b:Bool):kc (x::r) n b=if decide ((x.toNat:Int)<48)||decide ((x.toNat:Int)>57) then none else kc r (x9 n x.toNat) (b||decide (n>1152921504606846976)):=rfl
noncomputable def lpNl:Lp:=(⟨0,dy [] Tryz.f81,(fun _=>none),(cL Tryz.f81 0),qNl,xNl⟩:Lp)
theorem F1 (lo:Int) (hi_:Int) (g:Bool) (d:ByteArray) (n:Int) (b:Bool) (i:Int) (hi:qw (lo,hi_,g,d,n,b,i,())) :(Go.Mir.stepG lpNl eQ (fun y:Den (tyP lpNl.q)=>qw y∧Bc y<Bc (lo,hi_,g,d,n,b,i,())) (lo,hi_,g,d,n,b,i,())∧Go.Mir.stepE lpNl eQ (lo,hi_,g,d,n,b,i,())=eQ (lo,hi_,g,d,n,b,i,())):=by
 refine cast (by kernel_rfl) (?_:let r1:Int:=(↑(d.1.getD i.toNat (0:UInt8)).toNat:Int);let r2:Bool:=decide (i <(↑d.size:Int));let r3:Bool:=decide (r1 <(48:Int));let r4:Bool:=bif r3 then true else decide (r1 >(57:Int));((r2=true→(((0:Int)≤i∧i <(↑d.size:Int))∧(r3=true→True)∧(r3=false→((0:Int)≤i∧i <(↑d.size:Int))∧True))∧(true=true→(r4=true→True)∧(r4=false→((0:Int)≤i∧i <(↑d.size:Int))∧qw (lo,hi_,g,d,IntKind.u64.wrap (IntKind.u64.wrap (n *(10:Int))+IntKind.u64.wrap (IntKind.u8.wrap (r1 - (48:Int)))),bif decide (n >(1152921504606846976:Int)) then true else b,IntKind.i64.wrap (i +(1:Int)),())∧Bc (lo,hi_,g,d,IntKind.u64.wrap (IntKind.u64.wrap (n *(10:Int))+IntKind.u64.wrap (IntKind.u8.wrap (r1 - (48:Int)))),bif decide (n >(1152921504606846976:Int)) then true else b,IntKind.i64.wrap (i +(1:Int)),())<Bc (lo,hi_,g,d,n,b,i,()))))∧(r2=false→True))∧(bif r2 then bif true&&true then bif r4 then Sum.inl ((0:Int),(4:Int),()) else eQ (lo,hi_,g,d,IntKind.u64.wrap (IntKind.u64.wrap (n *(10:Int))+IntKind.u64.wrap (IntKind.u8.wrap (r1 - (48:Int)))),bif decide (n >(1152921504606846976:Int)) then true else b,IntKind.i64.wrap (i +(1:Int)),()) else bif true then bif r4 then Sum.inl ((0:Int),(4:Int),()) else eQ (lo,hi_,g,d,IntKind.u64.wrap (IntKind.u64.wrap (n *(10:Int))+IntKind.u64.wrap (IntKind.u8.wrap (r1 - (48:Int)))),bif decide (n >(1152921504606846976:Int)) then true else b,IntKind.i64.wrap (i +(1:Int)),()) else bif r3 then Sum.inl (dflt (I.prod (I.prod Ty.unit))) else Sum.inl (dflt (I.prod (I.prod Ty.unit))) else Sum.inr (lo,hi_,g,n,b,()))=eQ (lo,hi_,g,d,n,b,i,()))
 intro r1 r2 r3 r4
 clear_value (hr1:r1=_) (hr2:r2=_) (hr3:r3=_) (hr4:r4=_)
 obtain ⟨h1,h2,h3⟩:=hi
 have h1:0≤i:=h1
 have h2:i≤(d.size:Int):=h2
 have h3:d.size≤aB:=h3
 have hL:aB<9223372036854775807:=by decide
 by_cases h:i <(d.size:Int)
 ·have er2:r2=true:=by rw [hr2];exact decide_eq_true h
  have ew:IntKind.i64.wrap (i+1)=i+1:=iG (by omega) (by omega)
  have hn:i.toNat<d.data.toList.length:=by rw [Array.length_toList];show i.toNat<d.size;omega
  have hx:d.data.getD i.toNat 0=d.data.toList[i.toNat]:=by
   have:i.toNat<d.data.size:=by rw [Array.length_toList] at hn;exact hn
   exact dif_pos this
  have e1 :(i+1).toNat=i.toNat+1:=by omega
  have key:eQ (lo,hi_,g,d,n,b,i,())=if r4 then .inl (0,4,()) else eQ (lo,hi_,g,d,x9 n r1,(b||decide (n>1152921504606846976)),i+1,()):=by
   unfold eQ
   simp only []
   rw [List.drop_eq_getElem_cons hn,←hx,e1,hr4,hr3,hr1,mB]
   cases decide (((d.data.getD i.toNat 0).toNat:Int)<48) <;> cases decide (((d.data.getD i.toNat 0).toNat:Int)>57) <;> rfl
  rw [er2,key,ew]
  refine ⟨⟨fun _=>⟨⟨⟨h1,h⟩,fun _=>trivial,fun _=>⟨⟨h1,h⟩,trivial⟩⟩,fun _=>⟨fun _=>trivial,fun _=>⟨⟨h1,h⟩,⟨?_,?_,h3⟩,?_⟩⟩⟩,fun z=>Bool.noConfusion z⟩,?_⟩
  ·show 0≤i+1;omega
  ·show i+1≤(d.size:Int);omega
  ·show ((d.size:Int) - (i+1)).toNat <((d.size:Int) - i).toNat;omega
  ·cases r4
   ·cases b <;> cases decide (n>1152921504606846976) <;> rfl
   ·rfl
 ·have er2:r2=false:=by rw [hr2];exact decide_eq_false h
  rw [er2]
  refine ⟨⟨fun z=>Bool.noConfusion z,fun _=>trivial⟩,?_⟩
  unfold eQ
  simp only [cond_false]
  rw [List.drop_eq_nil_of_le (by rw [Array.length_toList];show d.size≤i.toNat;omega)]
  rfl
noncomputable def Eo:LoopSum:=bO lpNl eQ qw
noncomputable def D7:Nat:=rid (cL Tryz.f81 0)
theorem Fs:LoopOKp Tryz.prog 0 Tryz.f81.ntmps (cL Tryz.f81 0) (bO lpNl eQ qw):=
 dQ lpNl (cm (CtrsOK.nil) _) mixed (fun b hb S hS=>by cases hS) eQ qw Bc (fun |⟨lo,hi_,g,d,n,b,i,⟨⟩⟩,hi=>F1 lo hi_ g d n b i hi)
theorem vD (s:ByteArray) (lo:Int) (hi:Int) (hs:s.size≤aB) :(evPat (dy [] Tryz.f81) (find [(D7,Eo)]) Tryz.f81 qNr Dm (s,lo,hi,())).sat fun z_=>z_ =(BP (s,lo,hi,())).2:=by
 refine cast (by kernel_rfl) (?_:let r1:Bool:=!s.toList ==(ByteArray.mk #[]).toList;let r2:Bool:=bif r1 then (↑(s.1.getD (Int.toNat (0:Int)) (0:UInt8)).toNat:Int) ==(45:Int) else false;let r3:ByteArray:=bif r2 then s.extract (Int.toNat (1:Int)) (↑s.size:Int).toNat else s;let r4:Int:=(↑r3.size:Int);let r5:Bool:=r3.toList ==(ByteArray.mk #[]).toList;let r6:Bool:=(↑(r3.1.getD (Int.toNat (0:Int)) (0:UInt8)).toNat:Int) ==(48:Int);let r7:Bool:=bif r5 then true else bif r6 then bif r2 then true else decide (r4 >(1:Int)) else false;let r8:Bool:=isL (eQ (lo,hi,r2,r3,(0:Int),false,(0:Int),()));let r9:Int×Int×Bool×Int×Bool×PUnit:=AM (dflt (I.prod (I.prod (Ty.bool.prod ((Ty.int IntKind.u64).prod (Ty.bool.prod Ty.unit)))))) (eQ (lo,hi,r2,r3,(0:Int),false,(0:Int),()));let r10:Int:=IntKind.i64.wrap r9.2.2.2.1;let r11:Int:=bif r9.2.2.1 then IntKind.i64.wrap ((0:Int) - r10) else r10;let r12:Bool:=bif r9.2.2.2.2.1 then true else bif decide (r9.2.2.2.1 >(9223372036854775808:Int)) then true else bif r9.2.2.2.1 ==(9223372036854775808:Int) then !r9.2.2.1 else false;let r13:Bool:=bif decide (r11<r9.1) then true else decide (r11>r9.2.1);((r1=true→((0:Int)≤(0:Int)∧(0:Int) <(↑s.size:Int))∧True)∧(r1=false→True))∧(true=true→((r2=true→((0:Int)≤(1:Int)∧(1:Int)≤(↑s.size:Int)∧(↑s.size:Int)≤(↑s.size:Int))∧True)∧(r2=false→True))∧(true=true→((r5=true→True)∧(r5=false→((0:Int)≤(0:Int)∧(0:Int)<r4)∧(r6=true→(r2=true→True)∧(r2=false→True))∧(r6=false→True)))∧(true=true→(r7=true→((0:Int),(4:Int),()) =((bk s lo hi).1,(bk s lo hi).2,()))∧(r7=false→((uU fun x=>none)∧(0:Int)≤(0:Int)∧(0:Int)≤r4∧r3.size≤aB)∧(r8=true→zb (dflt (I.prod (I.prod Ty.unit))) (eQ (lo,hi,r2,r3,(0:Int),false,(0:Int),())) =((bk s lo hi).1,(bk s lo hi).2,()))∧(r8=false→(r12=true→((0:Int),(2:Int),()) =((bk s lo hi).1,(bk s lo hi).2,()))∧(r12=false→(r13=true→((0:Int),(2:Int),()) =((bk s lo hi).1,(bk s lo hi).2,()))∧(r13=false→(r11,(0:Int),()) =((bk s lo hi).1,(bk s lo hi).2,())))))))))
 intro r1 r2 r3 r4 r5 r6 r7 r8 r9 r10 r11 r12 r13
 clear_value (hr1:r1=_) (hr2:r2=_) (hr3:r3=_) (hr4:r4=_) (hr5:r5=_) (hr6:r6=_) (hr7:r7=_) (hr8:r8=_) (hr9:r9=_) (hr10:r10=_) (hr11:r11=_) (hr12:r12=_) (hr13:r13=_)
 have e1:r1=!s.data.toList.isEmpty:=by rw [hr1,isE]
 have hz:r1=true→0 <(s.size:Int):=fun h=>by rw [e1] at h;exact Ef h
 have e2:r2=dH s:=by
  rw [hr2,e1]
  unfold dH
  cases he:s.data.toList.isEmpty
  ·rw [xT,Ho]
   rfl
  ·rfl
 have h2:r2=true→0 <(s.size:Int):=fun h=>hz (by rw [hr2] at h;cases r1;exact h;rfl)
 have e3:r3=aN s:=by
  rw [hr3,e2]
  unfold aN
  cases dH s <;> rfl
 have hd :(aN s).size≤aB:=by
  unfold aN
  split
  ·rw [ByteArray.size_extract];omega
  ·exact hs
 have e5:r5 =(aN s).data.toList.isEmpty:=by rw [hr5,e3,isE]
 have e6:r6 =((aN s).data.toList.headD 0==48):=by rw [hr6,e3,xT,Hp]
 have e7:r7 =((aN s).data.toList.isEmpty ||((aN s).data.toList.headD 0==48&&(dH s||decide (((aN s).size:Int)>1)))):=by
  rw [hr7,e5,e6,e2,hr4,e3]
  cases (aN s).data.toList.isEmpty <;> cases ((aN s).data.toList.headD 0==48) <;> cases dH s <;> rfl
 have er:eQ (lo,hi,r2,r3,0,false,0,())=Gv lo hi (dH s) (kc (aN s).data.toList 0 false):=by
  rw [e2,e3];rfl
 have eN:r7=true→bk s lo hi =(0,4):=fun h=>by
  unfold bk;simp only [];rw [←e7,h];rfl
 have eF:r7=false→bk s lo hi=wC (dH s) lo hi (kc (aN s).data.toList 0 false):=fun h=>by
  unfold bk;simp only [];rw [←e7,h];rfl
 refine ⟨⟨fun h=>⟨⟨Int.le_refl _,hz h⟩,trivial⟩,fun _=>trivial⟩,fun _=>⟨⟨fun h=>⟨⟨by decide,by have:=h2 h;omega,Int.le_refl _⟩,trivial⟩,fun _=>trivial⟩,fun _=>⟨⟨fun _=>trivial,fun h=>⟨⟨Int.le_refl _,?_⟩,fun _=>⟨fun _=>trivial,fun _=>trivial⟩,fun _=>trivial⟩⟩,fun _=>⟨fun h=>by rw [eN h],fun h7=>⟨⟨rfl,Int.le_refl _,by omega,by rw [e3];exact hd⟩,?_⟩⟩⟩⟩⟩
 ·rw [hr4,e3]
  exact Ef (by rw [←e5,h];rfl)
 ·rw [eF h7]
  rw [er] at hr8 hr9 ⊢
  cases hp:kc (aN s).data.toList 0 false with
  | none=>
   rw [hp] at hr8 hr9
   have:r8=true:=hr8
   exact ⟨fun _=>rfl,fun h=>absurd (this▸h) (by decide)⟩
  | some p=>
   rw [hp] at hr8 hr9
   have h8:r8=false:=hr8
   have h9:r9 =(lo,hi,dH s,p.1,p.2,()):=hr9
   rw [h9] at hr10 hr11 hr12 hr13
   simp only at hr10 hr11 hr12 hr13
   refine ⟨fun h=>absurd (h8▸h) (by decide),fun _=>?_⟩
   have c12:r12 =(p.2 ||(decide (p.1>9223372036854775808) ||(p.1==9223372036854775808&&!dH s))):=by
    rw [hr12]
    cases p.2 <;> cases decide (p.1>9223372036854775808) <;> cases (p.1==9223372036854775808) <;> rfl
   have c11:r11=if dH s then IntKind.i64.wrap (0 - IntKind.i64.wrap p.1) else IntKind.i64.wrap p.1:=by
    rw [hr11,hr10]
    cases dH s <;> rfl
   have c13:r13 =(decide (r11<lo)||decide (r11>hi)):=by
    rw [hr13]
    cases decide (r11<lo) <;> rfl
   unfold wC
   simp only []
   rw [←c12,←c11,←c13]
   refine ⟨fun h=>by rw [h];rfl,fun h=>⟨fun h'=>by rw [h,h'];rfl,fun h'=>by rw [h,h'];rfl⟩⟩
def qE:FuncId×Ctr:=(81,aE KE qNr Dm BP)
theorem wT:CtrOK Tryz.prog KE 81 (aE KE qNr Dm BP):=by
 refine gu (C:=dy [] Tryz.f81) (cm (CtrsOK.nil) _) mixed (fn:=Tryz.f81) Tryz.func81 (by kernel_rfl) (by kernel_rfl) (by kernel_rfl) (by kernel_rfl) (by kernel_rfl) (by kernel_rfl) (Λ:=fun x=>find [(D7,Eo)]) ?_ ?_
 ·rintro ⟨s,lo,hi,⟨⟩⟩ hw hn
  exact LoopsOKp.at (by kernel_rfl) (.cons (by kernel_rfl) (Fs) .nil)
 ·rintro ⟨s,lo,hi,⟨⟩⟩ hw hn
  exact vD s lo hi (He (Cc hw))
end Go.Proofs.YthaeofeigglbhaaGreatDoor
namespace Go.Proofs.YthaeofeigglbhaaGreatDoor
open Go Go.Mir
def ak (c:UInt8):Bool:=decide (48≤c.toNat)&&decide (c.toNat≤57)
def eT:List UInt8→Nat→Nat
 | [],a=>a
 | c::r,a=>eT r (a*10 +(c.toNat - 48))
theorem tB :∀ (l:List UInt8) (a:Nat),a≤eT l a
 | [],_=>Nat.le_refl _
 | c::r,a=>by
  have:=tB r (a*10 +(c.toNat - 48))
  unfold eT
  omega
theorem yU (c:UInt8):digsB.data.toList.contains c=ak c:=by
 have key :∀ c:Fin 256,digsB.data.toList.contains (UInt8.ofNat c.val)=ak (UInt8.ofNat c.val):=by decide +kernel
 have:=key ⟨c.toNat,UInt8.toNat_lt c⟩
 simpa using this
theorem wm (p:UInt8→Bool) :∀ l:List UInt8,l.dropWhile p=[]↔∀ x∈l,p x=true
 | []=>by simp
 | x::r=>by
  have ih:=wm p r
  rw [List.dropWhile_cons]
  cases hp:p x
  ·simp [hp]
  ·simp [hp,ih]
theorem B7 (p:UInt8→Bool) (l:List UInt8) :((l.reverse.dropWhile p).reverse.dropWhile p).isEmpty=l.all p:=by
 apply Bool.eq_iff_iff.2
 rw [List.isEmpty_iff,wm,List.all_eq_true]
 constructor
 ·intro h
  by_cases he:l.reverse.dropWhile p=[]
  ·intro x hx
   exact ((wm p _).1 he) x (List.mem_reverse.2 hx)
  ·have h1:=List.head_dropWhile_not p he
   have h2:=h _ (List.mem_reverse.2 (List.head_mem he))
   rw [h1] at h2;cases h2
 ·intro h x hx
  have hx:=List.mem_reverse.1 hx
  exact h x (List.mem_reverse.1 ((List.dropWhile_sublist p).mem hx))
theorem Hq (s:ByteArray) :(s.extract 1 s.size).data.toList=s.data.toList.drop 1:=by
 rw [←yB]
 show ((s.data.toList.take s.size).drop 1)=_
 rw [List.take_of_length_le (by rw [Array.length_toList];exact Nat.le_refl _)]
theorem gE (s:ByteArray) :(aN s).data.toList=if dH s then s.data.toList.drop 1 else s.data.toList:=by
 unfold aN
 split
 ·exact Hq s
 ·rfl
theorem xA (s:ByteArray):Lib.trimPrefix s.data.toList minusB.data.toList =(aN s).data.toList:=by
 rw [gE]
 unfold dH Lib.trimPrefix Lib.hasPrefix minusB
 cases s.data.toList with
 | nil=>rfl
 | cons b t=>
  have:List.isPrefixOf [45] (b::t) =(b==45):=by
   show ((45:UInt8)==b&&List.isPrefixOf [] t)=_
   rw [BEq.comm]
   simp [List.isPrefixOf]
  show (if List.isPrefixOf [45] (b::t) then _ else _)=_
  rw [this]
  simp
theorem pb (s:ByteArray):s.size=s.data.toList.length:=by rw [Array.length_toList];rfl
theorem nt (s:ByteArray):ja s =(!(aN s).data.toList.isEmpty&&!((aN s).data.toList.headD 0==48&&(dH s||decide (((aN s).size:Int)>1)))&&(aN s).data.toList.all ak):=by
 unfold ja
 rw [xA,Lib.toList_data]
 have ht :(Lib.trimS (aN s).data.toList digsB.data.toList).isEmpty =(aN s).data.toList.all ak:=by
  unfold Lib.trimS Lib.trimLeftS Lib.trimRightS
  have :(fun x=>digsB.data.toList.contains x)=ak:=funext yU
  rw [this,B7]
 simp only [ht,pb]
 rw [gE]
 cases hn:dH s with
 | true=>
  simp only [if_true,Bool.true_or,Bool.and_true]
  have :(s.data.toList==[48])=false:=by
   unfold dH at hn
   cases hs:s.data.toList with
   | nil=>rfl
   | cons b t=>
    rw [hs] at hn
    have hb:b=45:=by simpa using hn
    subst hb
    simp
  rw [this]
  cases (s.data.toList.drop 1).isEmpty <;> simp
 | false=>
  simp only [Bool.false_or,Bool.false_eq_true,if_false]
  cases hs:s.data.toList with
  | nil=>rfl
  | cons b t=>
   cases t with
   | nil=>simp
   | cons c r=>
    have h1:decide (((b::c::r).length:Int)>1)=true:=decide_eq_true (by simp only [List.length_cons];omega)
    have h2 :(b::c::r==[(48:UInt8)])=false:=by simp
    rw [h1,h2]
    simp
theorem qM :∀ (l:List UInt8) (n:Int) (b:Bool),l.all ak=false→kc l n b=none
 | [],_,_,h=>by cases h
 | c::r,n,b,h=>by
  rw [mB]
  by_cases hc:ak c=true
  ·have h':r.all ak=false:=by
    rw [List.all_cons,hc] at h;exact h
   unfold ak at hc
   rw [if_neg (by simp at hc ⊢;omega)]
   exact qM r _ _ h'
  ·unfold ak at hc
   rw [if_pos (by simp at hc ⊢;omega)]
def Gd (n:Int) (b:Bool) (a:Nat):Prop:=(b=false∧n=a∧a≤11529215046068469769)∨(b=true∧a>9223372036854775808)
theorem qN :∀ (l:List UInt8) (n:Int) (b:Bool) (a:Nat),l.all ak=true→Gd n b a→∃ n' b',kc l n b=some (n',b')∧Gd n' b' (eT l a)
 | [],n,b,a,_,h=>⟨n,b,rfl,h⟩
 | c::r,n,b,a,h,hi=>by
  rw [List.all_cons,Bool.and_eq_true] at h
  have hc:=h.1
  unfold ak at hc
  simp only [Bool.and_eq_true,decide_eq_true_eq] at hc
  rw [mB,if_neg (by simp;omega)]
  refine qN r _ _ (a*10 +(c.toNat - 48)) h.2 ?_
  rcases hi with ⟨rfl,rfl,h3⟩ |⟨rfl,h3⟩
  ·by_cases hb:a>1152921504606846976
   ·refine .inr ⟨by simp;omega,by omega⟩
   ·refine .inl ⟨by simp;omega,?_,by omega⟩
    unfold x9
    have e1:IntKind.u8.wrap ((c.toNat:Int) - 48) =(c.toNat:Int) - 48:=by
     simp only [IntKind.wrap,IntKind.bits,IntKind.signed]
     simp
     omega
    have e2:IntKind.u64.wrap ((a:Int)*10) =(a:Int)*10:=Cg (by omega) (by omega)
    have e3:IntKind.u64.wrap ((c.toNat:Int) - 48) =(c.toNat:Int) - 48:=Cg (by omega) (by omega)
    rw [e1,e2,e3,Cg (by omega) (by omega)]
    omega
  ·exact .inr ⟨by simp,by omega⟩
theorem vN :∀ (l:List UInt8) (a:Nat),l.all ak=true→a≤18446744073709551615→
  (Lib.parseUintM 18446744073709551615 a l = .ok (eT l a)∧eT l a≤18446744073709551615)∨(Lib.parseUintM 18446744073709551615 a l = .range∧eT l a>18446744073709551615)
 | [],a,_,h=> .inl ⟨rfl,h⟩
 | c::r,a,h,ha=>by
  rw [List.all_cons,Bool.and_eq_true] at h
  have hc:=h.1
  unfold ak at hc
  simp only [Bool.and_eq_true,decide_eq_true_eq] at hc
  unfold Lib.parseUintM
  rw [if_pos hc]
  have hv:=tB r (a*10 +(c.toNat - 48))
  split
  ·exact .inr ⟨rfl,by unfold eT;omega⟩
  ·split
   ·exact .inr ⟨rfl,by unfold eT;omega⟩
   ·exact vN r _ h.2 (by omega)
theorem C7 {s:ByteArray} {lo hi:Int} (h:ja s=false):bk s lo hi =(0,4):=by
 rw [nt] at h
 unfold bk
 simp only []
 split
 ·rfl
 ·rename_i h1
  have h1 :((aN s).data.toList.isEmpty ||((aN s).data.toList.headD 0==48&&(dH s||decide (((aN s).size:Int)>1))))=false:=by simpa using h1
  rw [Bool.or_eq_false_iff] at h1
  rw [h1.1,h1.2] at h
  rw [qM _ _ _ (by simpa using h)]
  rfl
theorem uV {s:ByteArray} {lo hi:Int} (h:ja s=true) :(aN s).data.toList≠ []∧(aN s).data.toList.all ak=true∧bk s lo hi=wC (dH s) lo hi (kc (aN s).data.toList 0 false):=by
 rw [nt,Bool.and_eq_true,Bool.and_eq_true] at h
 obtain ⟨⟨h1,h2⟩,h3⟩:=h
 refine ⟨fun e=>(by rw [e] at h1;cases h1),h3,?_⟩
 unfold bk
 simp only []
 rw [if_neg]
 have h1 :(aN s).data.toList.isEmpty=false:=by simpa using h1
 rw [Bool.not_eq_true'] at h2
 rw [h1,h2]
 decide
theorem mG {s:ByteArray} (h1 :(aN s).data.toList≠ []) (h2 :(aN s).data.toList.all ak=true) :
  Lib.parseIntB 64 s.data.toList =(if (if dH s then eT (aN s).data.toList 0>9223372036854775808 else eT (aN s).data.toList 0≥9223372036854775808) then .range else .ok (if dH s then -(eT (aN s).data.toList 0:Int) else eT (aN s).data.toList 0)):=by
 have hl:=gE s
 generalize (aN s).data.toList=d at *
 unfold dH at *
 generalize s.data.toList=l at *
 cases l with
 | nil=>exact absurd hl h1
 | cons c r=>
  have hv:=vN d 0 h2 (by decide)
  have hd:Lib.parseUintB 64 (if c.toNat=43∨c.toNat=45 then r else c::r)=Lib.parseUintM 18446744073709551615 0 d:=by
   have :(if c.toNat=43∨c.toNat=45 then r else c::r)=d:=by
    rw [hl]
    by_cases h:c=45
    ·subst h;rfl
    ·have hb :(c==45)=false:=by simpa using h
     have hn :(!(c::r).isEmpty&&(c::r).headD 0==45)=false:=by simpa using hb
     rw [hn] at hl ⊢
     simp only [if_false,Bool.false_eq_true] at hl ⊢
     rw [if_neg]
     rw [hl,List.all_cons,Bool.and_eq_true] at h2
     have:=h2.1
     unfold ak at this
     simp only [Bool.and_eq_true,decide_eq_true_eq] at this
     omega
   rw [this]
   unfold Lib.parseUintB
   rw [if_neg h1]
  unfold Lib.parseIntB
  simp only []
  rw [hd]
  have hneg :(c.toNat=45)↔(!(c::r).isEmpty&&(c::r).headD 0==45)=true:=by
   simp only [List.isEmpty_cons,Bool.not_false,Bool.true_and,List.headD_cons,beq_iff_eq]
   rw [←UInt8.toNat_inj]
   exact Iff.rfl
  cases hb :(!(c::r).isEmpty&&(c::r).headD 0==45) with
  | true=>
   have hc:c.toNat=45:=hneg.2 hb
   rcases hv with ⟨e,hle⟩ |⟨e,hgt⟩
   ·rw [e]
    simp only [hc,not_true,false_and,if_false,true_and,if_true]
   ·rw [e]
    simp only [if_true]
    rw [if_pos (by omega)]
  | false=>
   have hc :¬ c.toNat=45:=fun h=>by rw [hneg.1 h] at hb;cases hb
   rcases hv with ⟨e,hle⟩ |⟨e,hgt⟩
   ·rw [e]
    simp only [hc,not_false_iff,true_and,false_and,if_false,Bool.false_eq_true]
   ·rw [e]
    simp only [Bool.false_eq_true,if_false]
    rw [if_pos (by omega)]
theorem bP (s:ByteArray) (lo hi:Int):bk s lo hi=gr s lo hi:=by
 unfold gr
 cases hb:ja s with
 | false=>exact C7 hb
 | true=>
  obtain ⟨h1,h2,h3⟩:=uV (lo:=lo) (hi:=hi) hb
  rw [h3,mG h1 h2]
  obtain ⟨n,b,hn,hi'⟩:=qN (aN s).data.toList 0 false 0 h2 (.inl ⟨rfl,rfl,by omega⟩)
  rw [hn]
  generalize eT (aN s).data.toList 0=V at *
  unfold wC
  simp only [if_true]
  rcases hi' with ⟨rfl,rfl,hV⟩ |⟨rfl,hV⟩
  ·cases dH s with
   | true=>
    by_cases hg:V>9223372036854775808
    ·rw [if_pos (by simp;omega)]
     simp [hg]
    ·rw [if_neg (by simp;omega)]
     simp only [if_true,hg,if_false]
     have e1:IntKind.i64.wrap (0 - IntKind.i64.wrap (V:Int)) = -(V:Int):=by
      by_cases h63:V=9223372036854775808
      ·subst h63;decide
      ·rw [iG (n:=(V:Int)) (by omega) (by omega),iG (by omega) (by omega)];omega
     rw [e1]
     by_cases hr:-(V:Int)<lo∨hi < -(V:Int)
     ·rw [if_pos (by simpa using hr),if_pos hr]
     ·rw [if_neg (by simpa using hr),if_neg hr]
   | false=>
    by_cases hg:V≥9223372036854775808
    ·rw [if_pos (by simp;omega)]
     simp [hg]
    ·rw [if_neg (by simp;omega)]
     simp only [Bool.false_eq_true,if_false,hg]
     have e1:IntKind.i64.wrap (V:Int) =(V:Int):=iG (by omega) (by omega)
     rw [e1]
     by_cases hr :(V:Int)<lo∨hi <(V:Int)
     ·rw [if_pos (by simpa using hr),if_pos hr]
     ·rw [if_neg (by simpa using hr),if_neg hr]
  ·rw [if_pos (by simp)]
   cases dH s
   ·simp only [Bool.false_eq_true,if_false]
    rw [if_pos (by omega)]
   ·simp only [if_true]
    rw [if_pos (by omega)]
end Go.Proofs.YthaeofeigglbhaaGreatDoor
namespace Go.Proofs.YthaeofeigglbhaaGreatDoor
open Go Go.Mir
attribute [local irreducible] Go.Mir.DT.sat Go.Mir.evPat Go.Mir.RT.sat Go.Mir.evFn
theorem qi {n:Int} (h0:0≤n) (h1:n≤1000000) :(eW n).size≤21:=by
 show (Lib.itoa n).toArray.size≤21
 rw [List.size_toArray]
 exact Lib.itoa_length_le n (by omega) (by omega)
end Go.Proofs.YthaeofeigglbhaaGreatDoor
namespace Go.Mir
open Go.RowKit
variable {P:Program}
end Go.Mir
namespace Go.Proofs.YthaeofeigglbhaaGreatDoor
open Go Go.Mir
attribute [local irreducible] Go.Mir.DT.sat Go.Mir.evPat Go.Mir.RT.sat Go.Mir.evFn
def ay (b:ByteArray):Int×Int:=gr b 0 1000000
end Go.Proofs.YthaeofeigglbhaaGreatDoor
namespace Go.Proofs.YthaeofeigglbhaaGreatDoor
open Go Go.Mir
attribute [local irreducible] Go.Mir.DT.sat Go.Mir.evPat Go.Mir.RT.sat Go.Mir.evFn
end Go.Proofs.YthaeofeigglbhaaGreatDoor
namespace Go.Proofs.YthaeofeigglbhaaGreatDoor
open Go Go.Mir
attribute [local irreducible] Go.Mir.DT.sat Go.Mir.evPat Go.Mir.RT.sat Go.Mir.evFn
end Go.Proofs.YthaeofeigglbhaaGreatDoor
namespace Go.Proofs.YthaeofeigglbhaaGreatDoor
open Go Go.Mir
theorem pz (c:UInt8) :∀ (l:List UInt8) (a:Nat),eT (l++[c]) a=eT l a*10 +(c.toNat - 48)
 | [],a=>rfl
 | x::r,a=>pz c r _
theorem jb {d:Nat} (h:d<10) :(UInt8.ofNat (48+d)).toNat=48+d:=by
 rw [UInt8.toNat_ofNat']
 omega
theorem tP {n:Nat} (h :¬ n<10):Lib.decDigits n=Lib.decDigits (n / 10)++[UInt8.ofNat (48+n % 10)]:=by
 conv=>lhs;rw [Lib.decDigits]
 rw [dif_neg h]
theorem xL {n:Nat} (h:n<10):Lib.decDigits n=[UInt8.ofNat (48+n)]:=by
 rw [Lib.decDigits,dif_pos h]
theorem nF :∀ (k n:Nat),n<k→eT (Lib.decDigits n) 0=n∧(Lib.decDigits n).all ak=true∧Lib.decDigits n≠ []∧((Lib.decDigits n).headD 0=48→(Lib.decDigits n).length=1)
 | 0,n,h=>absurd h (Nat.not_lt_zero _)
 | k+1,n,h=>by
  by_cases h10:n<10
  ·rw [xL h10]
   refine ⟨?_,?_,by simp,fun _=>rfl⟩
   ·show 0*10 +((UInt8.ofNat (48+n)).toNat - 48)=n
    rw [jb h10];omega
   ·simp [ak,jb h10];omega
  ·obtain ⟨i1,i2,i3,i4⟩:=nF k (n / 10) (by omega)
   have hm:n % 10<10:=by omega
   rw [tP h10]
   refine ⟨?_,?_,by simp,fun hh=>?_⟩
   ·rw [pz,i1,jb hm];omega
   ·rw [List.all_append,i2]
    simp [ak,jb hm];omega
   ·exfalso
    cases hd:Lib.decDigits (n / 10) with
    | nil=>exact i3 hd
    | cons x t=>
     rw [hd] at hh i4 i1
     have hx:x=48:=hh
     have hl:=i4 hx
     cases t with
     | cons=>simp at hl
     | nil=>
      subst hx
      have :(0:Nat)=n / 10:=i1
      omega
theorem vP {c:UInt8} {r:List UInt8} (h:ak c=true) (h0:c≠48):1≤eT (c::r) 0:=by
 unfold ak at h
 simp only [Bool.and_eq_true,decide_eq_true_eq] at h
 have:c.toNat≠48:=fun e=>h0 (UInt8.toNat_inj.1 e)
 have:=tB r (0*10 +(c.toNat - 48))
 unfold eT
 omega
theorem xM :∀ (k:Nat) (l:List UInt8),l.length≤k→l≠ []→l.all ak=true→(l.headD 0=48→l.length=1)→Lib.decDigits (eT l 0)=l
 | 0,l,hk,h1,_,_=>absurd (List.length_eq_zero_iff.1 (Nat.le_zero.1 hk)) h1
 | k+1,l,hk,h1,h2,h3=>by
  obtain ⟨l',c,rfl⟩ :∃ l' c,l=l'++[c]:=⟨l.dropLast,l.getLast h1,(List.dropLast_concat_getLast h1).symm⟩
  rw [List.all_append,Bool.and_eq_true] at h2
  have hc:=h2.2
  simp only [List.all_cons,List.all_nil,Bool.and_true] at hc
  have hc':=hc
  unfold ak at hc'
  simp only [Bool.and_eq_true,decide_eq_true_eq] at hc'
  have hcc:UInt8.ofNat (48 +(c.toNat - 48))=c:=by
   apply UInt8.toNat_inj.1
   rw [jb (by omega)];omega
  cases l' with
  | nil=>
   show Lib.decDigits (0*10 +(c.toNat - 48))=[c]
   rw [Nat.zero_mul,Nat.zero_add,xL (by omega),hcc]
  | cons x t=>
   have hx:x≠48:=fun e=>by
    have:=h3 (by rw [e];rfl)
    simp at this
   have hx2:=h2.1
   rw [List.all_cons,Bool.and_eq_true] at hx2
   have hp:=vP (r:=t) hx2.1 hx
   rw [pz]
   have ih:=xM k (x::t) (by simp at hk ⊢;omega) (by simp) h2.1 (fun e=>absurd e hx)
   rw [tP (by omega)]
   have e1 :(eT (x::t) 0*10 +(c.toNat - 48)) / 10=eT (x::t) 0:=by omega
   have e2 :(eT (x::t) 0*10 +(c.toNat - 48)) % 10=c.toNat - 48:=by omega
   rw [e1,e2,ih,hcc]
theorem CP {b:UInt8} (h:ak b=true):b≠45∧b≠32:=by
 constructor <;>(rintro rfl;exact absurd h (by decide))
theorem jD {n:Int} (h0:0≤n) :(eW n).data.toList=Lib.decDigits n.toNat:=by
 show (Lib.itoa n).toArray.toList=_
 unfold Lib.itoa
 rw [if_neg (by omega)]
theorem Bg {n:Int} (h0:0≤n):dH (eW n)=false:=by
 unfold dH
 rw [jD h0]
 obtain ⟨_,h2,h3,_⟩:=nF _ n.toNat (Nat.lt_succ_self _)
 cases hd:Lib.decDigits n.toNat with
 | nil=>exact absurd hd h3
 | cons x t=>
  rw [hd,List.all_cons,Bool.and_eq_true] at h2
  simpa using (CP h2.1).1
theorem C8 {n:Int} (h0:0≤n) (h1:n≤1000000):ay (eW n) =(n,0):=by
 obtain ⟨v1,v2,v3,v4⟩:=nF _ n.toNat (Nat.lt_succ_self _)
 have hn:=Bg h0
 have hl :(aN (eW n)).data.toList=Lib.decDigits n.toNat:=by
  rw [gE,hn,if_neg (by decide),jD h0]
 have hb:ja (eW n)=true:=by
  rw [nt,hl,hn,v2,pb,hl,Bool.false_or]
  have h1 :(Lib.decDigits n.toNat).isEmpty=false:=by simpa using v3
  rw [h1]
  cases h48 :((Lib.decDigits n.toNat).headD 0==48)
  ·rfl
  ·rw [v4 (eq_of_beq h48)];rfl
 unfold ay gr
 rw [if_pos hb,mG (by rw [hl];exact v3) (by rw [hl];exact v2),hl,hn,v1]
 simp only [Bool.false_eq_true,if_false]
 rw [if_neg (by omega)]
 simp only []
 rw [if_neg (by omega)]
 have :((n.toNat:Nat):Int)=n:=by omega
 rw [this]
theorem Bi {b:ByteArray} (h :(ay b).2=0):b=eW (ay b).1∧0≤(ay b).1∧(ay b).1≤1000000:=by
 unfold ay gr at *
 cases hb:ja b with
 | false=>rw [hb] at h;exact absurd h (by simp)
 | true=>
  rw [hb] at h
  obtain ⟨k1,k2,_⟩:=uV (lo:=0) (hi:=0) hb
  rw [mG k1 k2] at h ⊢
  rw [nt,Bool.and_eq_true,Bool.and_eq_true] at hb
  have hz:=hb.1.2
  generalize hd :(aN b).data.toList=d at *
  simp only [if_true] at h ⊢
  split at h
  ·rename_i v hv
   split at h
   ·exact absurd h (by simp)
   ·rename_i hr
    rw [if_neg hr]
    show b=eW v∧0≤v∧v≤1000000
    have hr1:0≤v∧v≤1000000:=by omega
    cases hn:dH b with
    | true=>
     exfalso
     rw [hn] at hv hz
     simp only [if_true] at hv
     by_cases hV:eT d 0>9223372036854775808
     ·rw [if_pos hV] at hv;cases hv
     ·rw [if_neg hV] at hv
      injection hv with hv
      cases d with
      | nil=>exact k1 rfl
      | cons x t=>
       rw [List.all_cons,Bool.and_eq_true] at k2
       have hx:x≠48:=by
        rintro rfl
        simp at hz
       have:=vP (r:=t) k2.1 hx
       omega
    | false=>
     rw [hn] at hv hz
     simp only [Bool.false_eq_true,if_false] at hv
     by_cases hV:eT d 0≥9223372036854775808
     ·rw [if_pos hV] at hv;cases hv
     ·rw [if_neg hV] at hv
      injection hv with hv
      refine ⟨?_,hr1⟩
      apply l6
      have hbl:b.data.toList=d:=by rw [←hd,gE,hn];rfl
      rw [jD hr1.1,hbl]
      have hv2:v.toNat=eT d 0:=by omega
      rw [hv2,xM d.length d (Nat.le_refl _) k1 k2]
      intro h48
      have hsz :((aN b).size:Int)=d.length:=by rw [pb,hd]
      rw [h48,hsz] at hz
      cases d with
      | nil=>exact absurd rfl k1
      | cons x t=>
       cases t with
       | nil=>rfl
       | cons y t=>simp at hz;omega
  ·exact absurd h (by simp)
end Go.Proofs.YthaeofeigglbhaaGreatDoor
namespace Go.Proofs.YthaeofeigglbhaaGreatDoor
open Go Go.Mir
def sepD:ByteArray:=⟨#[44,32]⟩
theorem lg {l c:List UInt8} (h :(Lib.cut l c).2.2=true):l =(Lib.cut l c).1 ++(c ++(Lib.cut l c).2.1):=by
 unfold Lib.cut at h ⊢
 split at h
 ·rename_i h0
  rw [if_pos h0]
  rcases Lib.index_spec l c with ⟨h1,_⟩ |⟨i,h1,h2,h3,_⟩
  ·omega
  ·rw [h1]
   simp only [Int.toNat_natCast]
   unfold Lib.occAt at h3
   obtain ⟨t,ht⟩:=List.isPrefixOf_iff_prefix.1 h3
   have:l.drop (i+c.length)=t:=by
    rw [←List.drop_drop,←ht]
    simp
   rw [this,ht,List.take_append_drop]
 ·cases h
theorem Bj {a r:List UInt8} {c:UInt8} {t:List UInt8} (ha:c∉a) {j:Nat} (hj:j<a.length):Lib.occAt (a++r) (c::t) j=false:=by
 unfold Lib.occAt
 rw [List.drop_append_of_le_length (by omega)]
 have :(c==a[j])=false:=by
  apply beq_eq_false_iff_ne.2
  rintro rfl
  exact ha (List.getElem_mem hj)
 rw [List.drop_eq_getElem_cons hj]
 show (c==a[j]&&_)=false
 rw [this]
 rfl
theorem uu {a b:List UInt8} {c:UInt8} {t:List UInt8} (ha:c∉a):Lib.index (a ++((c::t)++b)) (c::t)=a.length:=by
 refine Lib.index_first (by simp) ?_ fun j hj=>Bj ha hj
 unfold Lib.occAt
 rw [List.drop_left]
 exact List.isPrefixOf_iff_prefix.2 (List.prefix_append _ _)
theorem zf {a:List UInt8} {c:UInt8} {t:List UInt8} (ha:c∉a):Lib.index a (c::t) = -1:=by
 refine Lib.index_none fun j hj=>?_
 rcases Nat.lt_or_ge j a.length with h|h
 ·have:=Bj (r:= []) (t:=t) ha h
  rwa [List.append_nil] at this
 ·unfold Lib.occAt
  rw [List.drop_eq_nil_of_le h]
  rfl
theorem wg {a b:List UInt8} {c:UInt8} {t:List UInt8} (ha:c∉a):Lib.cut (a ++((c::t)++b)) (c::t) =(a,b,true):=by
 unfold Lib.cut
 rw [uu ha,if_pos (by omega)]
 simp only [Int.toNat_natCast]
 rw [List.take_left]
 have :(a ++((c::t)++b)).drop (a.length +(c::t).length)=b:=by
  rw [←List.drop_drop,List.drop_left,List.drop_left]
 rw [this]
def dl (n:Int):List UInt8:=(eW n).data.toList
theorem F7 (n:Int):toB (dl n)=eW n:=l6 rfl
def inF (n:Int):Prop:=0≤n∧n≤1000000
def sS (x:Mir.Fall):Prop:=inF x.Wicket∧inF x.Runs∧inF x.Player
theorem Aj {n:Int} (h:inF n) :∀ b∈dl n,ak b=true:=by
 have h2:=(nF _ n.toNat (Nat.lt_succ_self _)).2.1
 rw [List.all_eq_true] at h2
 unfold dl
 rw [jD h.1]
 exact h2
theorem ql {n:Int} (h:inF n) {c:UInt8} (hc:ak c=false):c∉dl n:=fun hm=>by rw [Aj h c hm] at hc;cases hc
theorem sP {n:Int} (h:inF n):ay (toB (dl n)) =(n,0):=by rw [F7];exact C8 h.1 h.2
theorem sQ {l:List UInt8} (h :(ay (toB l)).2=0):l=dl (ay (toB l)).1∧inF (ay (toB l)).1:=by
 obtain ⟨h1,h2,h3⟩:=Bi h
 refine ⟨?_,h2,h3⟩
 unfold dl
 rw [←h1]
 rfl
def aA (x:Mir.Fall):List UInt8:=dl x.Wicket ++(45 ::(dl x.Runs ++(32::40 ::(dl x.Player++[41]))))
def fj (x:Mir.Fall):Mir.Fall:={ x with Balls:=0 }
def c1A (l:List UInt8):=Lib.cut l [45]
def c2A (l:List UInt8):=Lib.cut (c1A l).2.1 [32,40]
def c3A (l:List UInt8):=Lib.cut (c2A l).2.1 [41]
def cy (l:List UInt8):Mir.Fall×Bool:=
 (⟨(ay (toB (c1A l).1)).1,(ay (toB (c2A l).1)).1,(ay (toB (c3A l).1)).1,0⟩,
  (c1A l).2.2&&((c2A l).2.2&&((c3A l).2.2&&((c3A l).2.1.isEmpty&&((ay (toB (c1A l).1)).2==0&&((ay (toB (c2A l).1)).2==0&&(ay (toB (c3A l).1)).2==0))))))
theorem wA {l:List UInt8} (h :(cy l).2=true):l=aA (cy l).1∧sS (cy l).1:=by
 unfold cy at h
 simp only [Bool.and_eq_true,beq_iff_eq,List.isEmpty_iff] at h
 obtain ⟨h1,h2,h3,h4,n1,n2,n3⟩:=h
 have e1:l =(c1A l).1 ++([45] ++(c1A l).2.1):=lg h1
 have e2 :(c1A l).2.1 =(c2A l).1 ++([32,40] ++(c2A l).2.1):=lg h2
 have e3 :(c2A l).2.1 =(c3A l).1 ++([41] ++(c3A l).2.1):=lg h3
 obtain ⟨m1,k1⟩:=sQ n1
 obtain ⟨m2,k2⟩:=sQ n2
 obtain ⟨m3,k3⟩:=sQ n3
 refine ⟨?_,k1,k2,k3⟩
 show l=dl (ay (toB (c1A l).1)).1 ++(45 ::(dl (ay (toB (c2A l).1)).1 ++(32::40 ::(dl (ay (toB (c3A l).1)).1++[41]))))
 rw [←m1,←m2,←m3]
 conv=>lhs;rw [e1,e2,e3,h4]
 simp
theorem Aw {x:Mir.Fall} (h:sS x):cy (aA x) =(fj x,true):=by
 obtain ⟨h1,h2,h3⟩:=h
 have e1:c1A (aA x) =(dl x.Wicket,dl x.Runs ++(32::40 ::(dl x.Player++[41])),true):=wg (c:=45) (t:= []) (ql h1 (by decide))
 have e2:c2A (aA x) =(dl x.Runs,dl x.Player++[41],true):=by
  unfold c2A
  rw [e1]
  exact wg (c:=32) (t:= [40]) (ql h2 (by decide))
 have e3:c3A (aA x) =(dl x.Player,[],true):=by
  unfold c3A
  rw [e2]
  exact wg (c:=41) (t:= []) (b:= []) (ql h3 (by decide))
 unfold cy
 rw [e1,e2,e3]
 simp only [sP h1,sP h2,sP h3]
 rfl
def mC (l:List UInt8):Int×List UInt8×Bool:=((ay (toB (l.takeWhile ak))).1,l.dropWhile ak,(ay (toB (l.takeWhile ak))).2==0)
def ao (h l:List UInt8):List UInt8×Bool:=if h.isPrefixOf l then (l.drop h.length,true) else (l,false)
def f1R (l:List UInt8):=mC l
def f2R (l:List UInt8):=ao [45] (f1R l).2.1
def f3R (l:List UInt8):=mC (f2R l).1
def f4R (l:List UInt8):=ao [32,40] (f3R l).2.1
def f5R (l:List UInt8):=mC (f4R l).1
def f6R (l:List UInt8):=ao [41] (f5R l).2.1
def aX (l:List UInt8):Mir.Fall×List UInt8×Bool:=
 (⟨(f1R l).1,(f3R l).1,(f5R l).1,0⟩,(f6R l).1,(f1R l).2.2&&((f2R l).2&&((f3R l).2.2&&((f4R l).2&&((f5R l).2.2&&(f6R l).2)))))
theorem sO {n:Int} (h:inF n) {c:UInt8} {r:List UInt8} (hc:ak c=false):mC (dl n++c::r) =(n,c::r,true):=by
 have e1 :(dl n++c::r).takeWhile ak=dl n:=by
  rw [List.takeWhile_append_of_pos (Aj h),List.takeWhile_cons,hc]
  simp
 have e2 :(dl n++c::r).dropWhile ak=c::r:=by
  rw [List.dropWhile_append_of_pos (Aj h),List.dropWhile_cons,hc]
  simp
 unfold mC
 rw [e1,e2,sP h]
 rfl
theorem mD {l:List UInt8} (h :(mC l).2.2=true):l=dl (mC l).1 ++(mC l).2.1∧inF (mC l).1:=by
 have h0 :(ay (toB (l.takeWhile ak))).2=0:=eq_of_beq h
 obtain ⟨h1,h2⟩:=sQ h0
 refine ⟨?_,h2⟩
 show l=dl (ay (toB (l.takeWhile ak))).1++l.dropWhile ak
 rw [←h1,List.takeWhile_append_dropWhile]
theorem lS (h r:List UInt8):ao h (h++r) =(r,true):=by
 unfold ao
 rw [if_pos (List.isPrefixOf_iff_prefix.2 (List.prefix_append _ _)),List.drop_left]
theorem fP {h l:List UInt8} (hb :(ao h l).2=true):l=h ++(ao h l).1:=by
 unfold ao at hb ⊢
 split at hb
 ·rename_i hp
  rw [if_pos hp]
  obtain ⟨t,ht⟩:=List.isPrefixOf_iff_prefix.1 hp
  rw [←ht,List.drop_left]
 ·cases hb
theorem ud {x:Mir.Fall} (h:sS x) (r:List UInt8):aX (aA x++r) =(fj x,r,true):=by
 obtain ⟨h1,h2,h3⟩:=h
 have e0:aA x++r=dl x.Wicket ++(45 ::(dl x.Runs ++(32 ::(40 ::(dl x.Player ++(41::r)))))):=by unfold aA;simp
 rw [e0]
 have e1:f1R (dl x.Wicket ++(45 ::(dl x.Runs ++(32 ::(40 ::(dl x.Player ++(41::r))))))) =(x.Wicket,_,true):=sO h1 (by decide)
 generalize dl x.Wicket ++(45 ::(dl x.Runs ++(32 ::(40 ::(dl x.Player ++(41::r))))))=l at e1
 have e2:f2R l =(dl x.Runs ++(32 ::(40 ::(dl x.Player ++(41::r)))),true):=by unfold f2R;rw [e1];exact lS [45] _
 have e3:f3R l =(x.Runs,32 ::(40 ::(dl x.Player ++(41::r))),true):=by unfold f3R;rw [e2];exact sO h2 (by decide)
 have e4:f4R l =(dl x.Player ++(41::r),true):=by unfold f4R;rw [e3];exact lS [32,40] _
 have e5:f5R l =(x.Player,41::r,true):=by unfold f5R;rw [e4];exact sO h3 (by decide)
 have e6:f6R l =(r,true):=by unfold f6R;rw [e5];exact lS [41] _
 unfold aX
 rw [e1,e2,e3,e4,e5,e6]
 rfl
theorem kG {l:List UInt8} (h :(aX l).2.2=true):l=aA (aX l).1 ++(aX l).2.1∧sS (aX l).1∧(aX l).1.Balls=0:=by
 unfold aX at h
 simp only [Bool.and_eq_true] at h
 obtain ⟨h1,h2,h3,h4,h5,h6⟩:=h
 obtain ⟨e1,k1⟩:=mD h1
 have e2:=fP h2
 obtain ⟨e3,k3⟩:=mD h3
 have e4:=fP h4
 obtain ⟨e5,k5⟩:=mD h5
 have e6:=fP h6
 refine ⟨?_,⟨k1,k3,k5⟩,rfl⟩
 show l =(dl (f1R l).1 ++(45 ::(dl (f3R l).1 ++(32::40 ::(dl (f5R l).1++[41]))))) ++(f6R l).1
 have a1:l=dl (f1R l).1 ++(f1R l).2.1:=e1
 have a2 :(f1R l).2.1=[45] ++(f2R l).1:=e2
 have a3 :(f2R l).1=dl (f3R l).1 ++(f3R l).2.1:=e3
 have a4 :(f3R l).2.1=[32,40] ++(f4R l).1:=e4
 have a5 :(f4R l).1=dl (f5R l).1 ++(f5R l).2.1:=e5
 have a6 :(f5R l).2.1=[41] ++(f6R l).1:=e6
 conv=>lhs;rw [a1,a2,a3,a4,a5,a6]
 simp
def bg:List Mir.Fall→List UInt8
 | []=> []
 | x::r=>44::32 ::(aA x++bg r)
def cC:List Mir.Fall→List UInt8
 | []=> []
 | x::r=>aA x++bg r
def kN (l:List Mir.Fall):Prop:=∀ x∈l,sS x
def prR:Nat→List UInt8→Bool→List Mir.Fall→Option (List Mir.Fall)
 | 0,_,_,_=>none
 | k+1,l,first,out=>if l.isEmpty then some out else
   if !first&&!(ao [44,32] l).2 then none else
    let f:=aX (if first then l else (ao [44,32] l).1)
    if f.2.2 then prR k f.2.1 false (out++[f.1]) else none
theorem vp :∀ (xs:List Mir.Fall) (k:Nat) (out:List Mir.Fall),kN xs→xs.length<k→prR k (bg xs) false out=some (out++xs.map fj)
 | [],k+1,out,_,_=>by simp [prR,bg]
 | x::r,k+1,out,h,hk=>by
  have e:ao [44,32] (bg (x::r)) =(aA x++bg r,true):=lS [44,32] _
  unfold prR
  rw [if_neg (by simp [bg]),e]
  simp only [Bool.not_true,Bool.and_false,Bool.false_eq_true,if_false]
  rw [ud (h x List.mem_cons_self)]
  simp only [if_true]
  rw [vp r k _ (fun y hy=>h y (List.mem_cons_of_mem _ hy)) (by simpa using hk)]
  simp
theorem ob (x:Mir.Fall):aA x≠ []:=by unfold aA;simp
theorem Bz {xs:List Mir.Fall} {k:Nat} (h:kN xs) (hk:xs.length<k):prR k (cC xs) true []=some (xs.map fj):=by
 cases xs with
 | nil=>cases k with
  | zero=>cases hk
  | succ k=>simp [prR,cC]
 | cons x r=>cases k with
  | zero=>cases hk
  | succ k=>
   unfold prR
   rw [if_neg (by simp [cC,ob])]
   simp only [Bool.not_true,Bool.false_and,Bool.false_eq_true,if_false,if_true]
   show (if (aX (aA x++bg r)).2.2=true then _ else _)=_
   rw [show cC (x::r)=aA x++bg r from rfl,ud (h x List.mem_cons_self)]
   simp only [if_true]
   rw [vp r k _ (fun y hy=>h y (List.mem_cons_of_mem _ hy)) (by simpa using hk)]
   simp
def pC (l:List Mir.Fall):Prop:=∀ x∈l,x.Balls=0
theorem vn :∀ (k:Nat) (l:List UInt8) (out o:List Mir.Fall),prR k l false out=some o→∃ xs,o=out++xs∧l=bg xs∧kN xs∧pC xs
 | 0,_,_,_,h=>by cases h
 | k+1,l,out,o,h=>by
  unfold prR at h
  split at h
  ·rename_i he
   cases h
   exact ⟨[],by simp,by simpa [bg] using he,fun _ h=>(by cases h),fun _ h=>(by cases h)⟩
  ·split at h
   ·cases h
   ·rename_i hne ht
    have ht :(ao [44,32] l).2=true:=by simpa using ht
    simp only [Bool.false_eq_true,if_false] at h
    split at h
    ·rename_i hf
     obtain ⟨e1,k1,z1⟩:=kG hf
     obtain ⟨xs,h1,h2,h3,h4⟩:=vn k _ _ _ h
     refine ⟨(aX (ao [44,32] l).1).1::xs,by rw [h1];simp,?_,?_,?_⟩
     ·rw [fP ht]
      conv=>lhs;rw [e1,h2]
      rw [←fP ht]
      rfl
     ·intro y hy
      rcases List.mem_cons.1 hy with rfl|hy
      ·exact k1
      ·exact h3 y hy
     ·intro y hy
      rcases List.mem_cons.1 hy with rfl|hy
      ·exact z1
      ·exact h4 y hy
    ·cases h
theorem FN {k:Nat} {l:List UInt8} {o:List Mir.Fall} (h:prR k l true []=some o):l=cC o∧kN o∧pC o:=by
 cases k with
 | zero=>cases h
 | succ k=>
  unfold prR at h
  split at h
  ·rename_i he
   cases h
   exact ⟨by simpa [cC] using he,fun _ h=>(by cases h),fun _ h=>(by cases h)⟩
  ·simp only [Bool.not_true,Bool.false_and,Bool.false_eq_true,if_false,if_true] at h
   split at h
   ·rename_i hf
    obtain ⟨e1,k1,z1⟩:=kG hf
    obtain ⟨xs,h1,h2,h3,h4⟩:=vn k _ _ _ h
    have h1:o =(aX l).1::xs:=by rw [h1];rfl
    subst h1
    refine ⟨?_,?_,?_⟩
    ·conv=>lhs;rw [e1,h2]
     rfl
    ·intro y hy
     rcases List.mem_cons.1 hy with rfl|hy
     ·exact k1
     ·exact h3 y hy
    ·intro y hy
     rcases List.mem_cons.1 hy with rfl|hy
     ·exact z1
     ·exact h4 y hy
   ·cases h
def lN (l:List UInt8):List (List UInt8):=Lib.splitK [44,32] 0 (Lib.count l [44,32]) l
def uy:List (List UInt8)→List UInt8
 | []=> []
 | x::r=>x ++(r.map fun y=>44::32::y).flatten
theorem ph :∀ (k:Nat) (l:List UInt8),uy (Lib.splitK [44,32] 0 k l)=l
 | 0,l=>by simp [Lib.splitK,uy]
 | k+1,l=>by
  unfold Lib.splitK
  split
  ·simp [uy]
  ·rename_i hm
   have hb :(Lib.cut l [44,32]).2.2=true:=by
    unfold Lib.cut
    have:=Lib.index_ge l [44,32]
    have :¬ Lib.index l [44,32] = -1:=fun e=>hm (beq_iff_eq.2 e)
    rw [if_pos (by omega)]
   have e:=lg hb
   have e1 :(Lib.cut l [44,32]).1=l.take ((Lib.index l [44,32]).toNat+0):=by
    unfold Lib.cut at hb ⊢
    split at hb
    ·rename_i h0;rw [if_pos h0];rfl
    ·cases hb
   have e2 :(Lib.cut l [44,32]).2.1=l.drop ((Lib.index l [44,32]).toNat+[44,32].length):=by
    unfold Lib.cut at hb ⊢
    split at hb
    ·rename_i h0;rw [if_pos h0];rfl
    ·cases hb
   have ih:=ph k (l.drop ((Lib.index l [44,32]).toNat+[44,32].length))
   conv=>rhs;rw [e,e1,e2,←ih]
   cases hs:Lib.splitK [44,32] 0 k (l.drop ((Lib.index l [44,32]).toNat+[44,32].length)) with
   | nil=>cases k with
    | zero=>simp [Lib.splitK] at hs
    | succ k=>unfold Lib.splitK at hs;split at hs <;> cases hs
   | cons y r=>simp [uy]
theorem uc {x:Mir.Fall} (h:sS x) :(44:UInt8)∉aA x:=by
 obtain ⟨h1,h2,h3⟩:=h
 unfold aA
 simp only [List.mem_append,List.mem_cons,List.not_mem_nil,or_false,not_or]
 exact ⟨ql h1 (by decide),by decide,ql h2 (by decide),by decide,by decide,ql h3 (by decide),by decide⟩
theorem nO :∀ (r:List Mir.Fall) (x:Mir.Fall),kN (x::r)→Lib.count (aA x++bg r) [44,32]=r.length∧∀ k,r.length≤k→Lib.splitK [44,32] 0 k (aA x++bg r) =(x::r).map aA
 | [],x,h=>by
  have hn:=uc (h x List.mem_cons_self)
  have e:Lib.index (aA x++bg []) [44,32] = -1:=by
   rw [show aA x++bg []=aA x from List.append_nil _]
   exact zf hn
  refine ⟨Lib.count_miss e,fun k _=>?_⟩
  cases k with
  | zero=>simp [Lib.splitK,bg]
  | succ k=>unfold Lib.splitK;rw [if_pos (beq_iff_eq.2 e)];simp [bg]
 | y::r,x,h=>by
  have hn:=uc (h x List.mem_cons_self)
  have e0:aA x++bg (y::r)=aA x ++((44::[32]) ++(aA y++bg r)):=rfl
  have e:Lib.index (aA x++bg (y::r)) [44,32] =(aA x).length:=uu (t:= [32]) (b:=aA y++bg r) hn
  have ed :(aA x++bg (y::r)).drop ((aA x).length +([44,32]:List UInt8).length)=aA y++bg r:=by
   rw [e0,←List.drop_drop,List.drop_left]
   rfl
  obtain ⟨i1,i2⟩:=nO r y (fun z hz=>h z (List.mem_cons_of_mem _ hz))
  refine ⟨?_,fun k hk=>?_⟩
  ·rw [Lib.count_hit (by simp) e,ed,i1]
   simp [Nat.add_comm]
  ·cases k with
   | zero=>simp at hk
   | succ k=>
    unfold Lib.splitK
    rw [if_neg (by rw [e];simp),e]
    simp only [Int.toNat_natCast,Nat.add_zero]
    rw [ed,i2 k (by simpa using hk),List.take_left]
    rfl
theorem vg {x:Mir.Fall} {r:List Mir.Fall} (h:kN (x::r)):lN (cC (x::r)) =(x::r).map aA:=by
 obtain ⟨h1,h2⟩:=nO r x h
 show Lib.splitK [44,32] 0 (Lib.count (aA x++bg r) [44,32]) (aA x++bg r)=_
 rw [h1]
 exact h2 _ (Nat.le_refl _)
def prA:List (List UInt8)→List Mir.Fall→Option (List Mir.Fall)
 | [],out=>some out
 | p::r,out=>if (cy p).2 then prA r (out++[(cy p).1]) else none
theorem Bw :∀ (xs out:List Mir.Fall),kN xs→prA (xs.map aA) out=some (out++xs.map fj)
 | [],out,_=>by simp [prA]
 | x::r,out,h=>by
  show (if (cy (aA x)).2=true then _ else _)=_
  rw [Aw (h x List.mem_cons_self)]
  simp only [if_true]
  rw [Bw r _ fun y hy=>h y (List.mem_cons_of_mem _ hy)]
  simp
theorem vm :∀ (ps:List (List UInt8)) (out o:List Mir.Fall),prA ps out=some o→∃ xs,o=out++xs∧ps=xs.map aA∧kN xs∧pC xs
 | [],out,o,h=>by cases h;exact ⟨[],by simp,rfl,fun _ h=>(by cases h),fun _ h=>(by cases h)⟩
 | p::r,out,o,h=>by
  unfold prA at h
  split at h
  ·rename_i hf
   obtain ⟨e1,k1⟩:=wA hf
   obtain ⟨xs,h1,h2,h3,h4⟩:=vm r _ _ h
   refine ⟨(cy p).1::xs,by rw [h1];simp,by rw [List.map_cons,←e1,h2],?_,?_⟩
   ·intro y hy
    rcases List.mem_cons.1 hy with rfl|hy
    ·exact k1
    ·exact h3 y hy
   ·intro y hy
    rcases List.mem_cons.1 hy with rfl|hy
    ·rfl
    ·exact h4 y hy
  ·cases h
def cr (l:List UInt8):Option (List Mir.Fall):=if l.isEmpty then some [] else prA (lN l) []
def dJ (l:List UInt8):Option (List Mir.Fall):=prR (l.length+1) l true []
theorem qC :∀ (r:List Mir.Fall),((r.map aA).map fun y=>44::32::y).flatten=bg r
 | []=>rfl
 | y::r=>by
  show (44::32::aA y) ++((r.map aA).map fun y=>44::32::y).flatten=_
  rw [qC r]
  rfl
theorem zh (xs:List Mir.Fall):uy (xs.map aA)=cC xs:=by
 cases xs with
 | nil=>rfl
 | cons x r=>
  show aA x++_=aA x++_
  rw [qC]
theorem qW {l:List UInt8} {o:List Mir.Fall} (h:cr l=some o):l=cC o∧kN o∧pC o:=by
 unfold cr at h
 split at h
 ·rename_i he
  cases h
  exact ⟨by simpa [cC] using he,fun _ h=>(by cases h),fun _ h=>(by cases h)⟩
 ·obtain ⟨xs,h1,h2,h3,h4⟩:=vm _ _ _ h
  have h1:o=xs:=by rw [h1];rfl
  subst h1
  refine ⟨?_,h3,h4⟩
  rw [←zh,←h2]
  exact (ph _ _).symm
theorem vd {xs:List Mir.Fall} (h:kN xs):cr (cC xs)=some (xs.map fj):=by
 cases xs with
 | nil=>rfl
 | cons x r=>
  unfold cr
  rw [if_neg (by simp [cC,ob]),vg h,Bw _ _ h]
  rfl
theorem qp (x:Mir.Fall):1≤(aA x).length:=by
 have:=List.length_pos_iff.2 (ob x)
 omega
theorem rh :∀ xs:List Mir.Fall,xs.length≤(bg xs).length
 | []=>Nat.le_refl _
 | x::r=>by
  have:=rh r
  show r.length+1≤(44::32 ::(aA x++bg r)).length
  simp only [List.length_cons,List.length_append]
  omega
theorem po (xs:List Mir.Fall):xs.length≤(cC xs).length:=by
 cases xs with
 | nil=>exact Nat.le_refl _
 | cons x r=>
  have:=rh r
  have:=qp x
  show r.length+1≤(aA x++bg r).length
  rw [List.length_append]
  omega
theorem ve {xs:List Mir.Fall} (h:kN xs):dJ (cC xs)=some (xs.map fj):=Bz h (Nat.lt_succ_of_le (po xs))
theorem uP :∀ {xs:List Mir.Fall},pC xs→xs.map fj=xs
 | [],_=>rfl
 | x::r,h=>by
  rw [List.map_cons,uP fun y hy=>h y (List.mem_cons_of_mem _ hy)]
  have:=h x List.mem_cons_self
  congr 1
  cases x
  simp only [fj] at *
  rw [this]
theorem wZ (l:List UInt8):cr l=dJ l:=by
 cases h:cr l with
 | some o=>
  obtain ⟨rfl,h2,h3⟩:=qW h
  rw [ve h2,uP h3]
 | none=>
  cases h':dJ l with
  | none=>rfl
  | some o=>
   obtain ⟨rfl,h2,_⟩:=FN h'
   rw [vd h2] at h
   cases h
end Go.Proofs.YthaeofeigglbhaaGreatDoor
namespace Go.Proofs.YthaeofeigglbhaaGreatDoor
open Go Go.Mir
attribute [local irreducible] Go.Mir.DT.sat Go.Mir.evPat Go.Mir.RT.sat Go.Mir.evFn
abbrev Fls:Ty:= .slice (.nm .Fall)
abbrev qFl:Pat:=iQ [Fls]
abbrev Dj:Pat:=iQ [.str,I]
def lX (n:Int):Bool:=decide (n<0)||decide (n>1000000)
def pE (x:Mir.Fall):Bool:=lX x.Wicket ||(lX x.Runs||lX x.Player)
def fX (x:Mir.Fall):ByteArray:=((((eW x.Wicket++ByteArray.mk #[45])++eW x.Runs)++ByteArray.mk #[32,40])++eW x.Player)++ByteArray.mk #[41]
abbrev OFt:Type:=Sum (ByteArray×Int×Unit) (List ByteArray×Unit)
def txA:List Mir.Fall→List ByteArray→OFt
 | [],o=> .inr (o,())
 | x::r,o=>if pE x then .inl (⟨#[]⟩,2,()) else txA r (o++[fX x])
abbrev GF:List (Nat×PB):= [(0,.row 1 .str)]
abbrev qFt:Pat:=⟨[(4,.c (.osl 0 1)),(9,.h Fls),(10,.h I),(11,.h I)],GF,2⟩
abbrev xFt:List (Lf×Pat):= [(.ret,⟨[(2,.h .str),(3,.h I)],[],0⟩),(.ext 0,⟨[(4,.c (.osl 0 1))],GF,2⟩)]
abbrev TFt:Type:=List Mir.Fall×Int×Int×List ByteArray×Unit
def qv (x:TFt):Prop:=(x.2.1 =(x.1.length:Int)∧x.1.length≤1000)∧0≤x.2.2.1∧x.2.2.1≤x.2.1∧(x.2.2.2.1.length:Int)≤x.2.2.1
def Bb (x:TFt):Nat:=(x.2.1 - x.2.2.1).toNat
def fe (x:TFt):OFt:=txA (x.1.drop x.2.2.1.toNat) x.2.2.2.1
def DR:OFt→ByteArray×Int
 | .inl p=>(p.1,p.2.1)
 | .inr p=>(iK p.1 sepD,0)
def gv (l:List Mir.Fall):ByteArray×Int:=DR (txA l [])
def E5 (l:List Mir.Fall):Prop:=l.length≤1000
def tj:Den (tyP qFl)→List Prop×Den (tyP Dj):=fun x=>([E5 x.1],((gv x.1).1,(gv x.1).2,()))
theorem Gu (xs:List Mir.Fall) {i:Int} (h0:0≤i) (h1:i<xs.length):xs.drop i.toNat=xs.getD i.toNat (dflt (Ty.nm Nm.Fall))::xs.drop (i+1).toNat:=by
 have hn:i.toNat<xs.length:=by omega
 have e1 :(i+1).toNat=i.toNat+1:=by omega
 show _=List.getD xs i.toNat Mir.Fall.zero::_
 rw [List.drop_eq_getElem_cons hn,e1,List.getD_eq_getElem?_getD,List.getElem?_eq_getElem hn]
 rfl
theorem xG {n:Int} (h:lX n=false):0≤n∧n≤1000000:=by
 simp only [lX,Bool.or_eq_false_iff,decide_eq_false_iff_not] at h
 omega
theorem rC {n:Int}:lX n=false↔inF n:=by
 simp only [lX,Bool.or_eq_false_iff,decide_eq_false_iff_not,inF]
 omega
theorem rD (n:Int) :(bif decide (n<0) then true else decide (n>1000000))=lX n:=by
 unfold lX;cases decide (n<0) <;> rfl
theorem wi {n:Int} (h:lX n=false) :(eW n).size≤21:=qi (xG h).1 (xG h).2
noncomputable def lpFt:Lp:=(⟨0,dy [jL] Tryz.f33,(find [(rid (wQ Tryz.f33 0 0),rj 4 (dy [jL] Tryz.f33) (fun _=>none) (wQ Tryz.f33 0 0))]),(cL Tryz.f33 0),qFt,xFt⟩:Lp)
theorem FZ (xs:List Mir.Fall) (n:Int) (i:Int) (o:List ByteArray) (hi:qv (xs,n,i,o,())) :(Go.Mir.stepG lpFt fe (fun y:Den (tyP lpFt.q)=>qv y∧Bb y<Bb (xs,n,i,o,())) (xs,n,i,o,())∧Go.Mir.stepE lpFt fe (xs,n,i,o,())=fe (xs,n,i,o,())):=by
 refine cast (by kernel_rfl) (?_:let r1:Int:=IntKind.i64.wrap ((0:Int) +(1:Int));let r2:ByteArray:=ByteArray.mk #[32,40];let r3:ByteArray:=eW (xs.getD i.toNat (dflt (Ty.nm Nm.Fall))).1++ByteArray.mk #[45];let r4:Int:=IntKind.i64.wrap (r1 +(1:Int));let r5:List Int:= [(xs.getD i.toNat (dflt (Ty.nm Nm.Fall))).1,(xs.getD i.toNat (dflt (Ty.nm Nm.Fall))).2,(xs.getD i.toNat (dflt (Ty.nm Nm.Fall))).3];let r6:ByteArray:=r3++eW (xs.getD i.toNat (dflt (Ty.nm Nm.Fall))).2;let r7:Int:=(↑r5.length:Int);let r8:Int:=r5.getD (Int.toNat (0:Int)) (dflt (Ty.int IntKind.i64));let r9:Int:=r5.getD r1.toNat (dflt (Ty.int IntKind.i64));let r10:ByteArray:=r6++r2;let r11:Int:=r5.getD r4.toNat (dflt (Ty.int IntKind.i64));let r12:ByteArray:=r10++eW (xs.getD i.toNat (dflt (Ty.nm Nm.Fall))).3;let r13:List ByteArray:= [r12++ByteArray.mk #[41]];let r14:Bool:=bif decide (r8 <(0:Int)) then true else decide (r8 >(1000000:Int));let r15:Bool:=bif decide (r9 <(0:Int)) then true else decide (r9 >(1000000:Int));let r16:Bool:=bif decide (r11 <(0:Int)) then true else decide (r11 >(1000000:Int));((decide (i<n)=true→((0:Int)≤i∧i <(↑xs.length:Int))∧True∧((0:Int)≤(0:Int)∧(0:Int)<r7)∧(r14=true→True)∧(r14=false→((0:Int)≤r1∧r1<r7)∧(r15=true→True)∧(r15=false→((0:Int)≤r4∧r4<r7)∧(r16=true→True)∧(r16=false→(eW (xs.getD i.toNat (dflt (Ty.nm Nm.Fall))).1).size +(ByteArray.mk #[45]).size≤aB∧r3.size +(eW (xs.getD i.toNat (dflt (Ty.nm Nm.Fall))).2).size≤aB∧r6.size+r2.size≤aB∧r10.size +(eW (xs.getD i.toNat (dflt (Ty.nm Nm.Fall))).3).size≤aB∧r12.size +(ByteArray.mk #[41]).size≤aB∧(o.length+r13.length) *(16:Nat)≤(70368744177664:Nat)∧qv (xs,n,IntKind.i64.wrap (i +(1:Int)),o++r13,())∧Bb (xs,n,IntKind.i64.wrap (i +(1:Int)),o++r13,())<Bb (xs,n,i,o,())))))∧(decide (i<n)=false→True))∧(bif decide (i<n) then bif r14 then Sum.inl (ByteArray.mk #[],(2:Int),()) else bif r15 then Sum.inl (ByteArray.mk #[],(2:Int),()) else bif r16 then Sum.inl (ByteArray.mk #[],(2:Int),()) else fe (xs,n,IntKind.i64.wrap (i +(1:Int)),o++r13,()) else Sum.inr (o,()))=fe (xs,n,i,o,()))
 intro r1 r2 r3 r4 r5 r6 r7 r8 r9 r10 r11 r12 r13 r14 r15 r16
 clear_value (hr1:r1=_) (hr2:r2=_) (hr3:r3=_) (hr4:r4=_) (hr5:r5=_) (hr6:r6=_) (hr7:r7=_) (hr8:r8=_) (hr9:r9=_) (hr10:r10=_) (hr11:r11=_) (hr12:r12=_) (hr13:r13=_) (hr14:r14=_) (hr15:r15=_) (hr16:r16=_)
 obtain ⟨⟨h1,h1b⟩,h2,h3,h4⟩:=hi
 have h1:n =(xs.length:Int):=h1
 have h1b:xs.length≤1000:=h1b
 have h2:0≤i:=h2
 have h3:i≤n:=h3
 have h4 :(o.length:Int)≤i:=h4
 have hL :(10000:Nat)≤aB:=by decide
 by_cases h:i<n
 ·have ew:IntKind.i64.wrap (i+1)=i+1:=iG (by omega) (by omega)
  have hd:=Gu xs h2 (by omega)
  have e1:r1=1:=hr1.trans (by decide)
  have e4:r4=2:=by rw [hr4,e1];decide
  have e7:r7=3:=by rw [hr7,hr5];rfl
  have e14:r14=lX (xs.getD i.toNat (dflt (Ty.nm Nm.Fall))).Wicket:=by rw [hr14,hr8,hr5];exact rD _
  have e15:r15=lX (xs.getD i.toNat (dflt (Ty.nm Nm.Fall))).Runs:=by rw [hr15,hr9,hr5,e1];exact rD _
  have e16:r16=lX (xs.getD i.toNat (dflt (Ty.nm Nm.Fall))).Player:=by rw [hr16,hr11,hr5,e4];exact rD _
  have e13:r13=[fX (xs.getD i.toNat (dflt (Ty.nm Nm.Fall)))]:=by rw [hr13,hr12,hr10,hr6,hr3,hr2];rfl
  have z2:r2.size=2:=by rw [hr2];rfl
  have z45 :(ByteArray.mk #[45]).size=1:=rfl
  have z41 :(ByteArray.mk #[41]).size=1:=rfl
  have z3:r3.size =(eW (xs.getD i.toNat (dflt (Ty.nm Nm.Fall))).Wicket).size+1:=by rw [hr3,ByteArray.size_append,z45]
  have z6:r6.size=r3.size +(eW (xs.getD i.toNat (dflt (Ty.nm Nm.Fall))).Runs).size:=by rw [hr6,ByteArray.size_append]
  have z10:r10.size=r6.size+r2.size:=by rw [hr10,ByteArray.size_append]
  have z12:r12.size=r10.size +(eW (xs.getD i.toNat (dflt (Ty.nm Nm.Fall))).Player).size:=by rw [hr12,ByteArray.size_append]
  clear hr1 hr2 hr3 hr4 hr5 hr6 hr7 hr8 hr9 hr10 hr11 hr12 hr13 hr14 hr15 hr16
  have key:fe (xs,n,i,o,())=if pE (xs.getD i.toNat (dflt (Ty.nm Nm.Fall))) then .inl (⟨#[]⟩,2,()) else fe (xs,n,i+1,o++[fX (xs.getD i.toNat (dflt (Ty.nm Nm.Fall)))],()):=by
   unfold fe
   simp only []
   rw [hd]
   rfl
  rw [ew,key,decide_eq_true h,e13]
  generalize xs.getD i.toNat (dflt (Ty.nm Nm.Fall))=x at *
  refine ⟨⟨fun _=>⟨⟨h2,by omega⟩,trivial,⟨by omega,by omega⟩,fun _=>trivial,fun b1=>⟨⟨by omega,by omega⟩,fun _=>trivial,fun b2=>⟨⟨by omega,by omega⟩,fun _=>trivial,fun b3=>?_⟩⟩⟩,fun z=>Bool.noConfusion z⟩,?_⟩
  ·have y1:=wi (e14▸b1)
   have y2:=wi (e15▸b2)
   have y3:=wi (e16▸b3)
   refine ⟨by omega,by omega,by omega,by omega,by omega,by simp only [List.length_cons,List.length_nil];omega,⟨⟨h1,h1b⟩,?_,?_,?_⟩,?_⟩
   ·show 0≤i+1;omega
   ·show i+1≤n;omega
   ·show ((o++[fX x]).length:Int)≤i+1
    rw [List.length_append];simp only [List.length_cons,List.length_nil];omega
   ·show (n - (i+1)).toNat <(n - i).toNat;omega
  ·unfold pE
   rw [←e14,←e15,←e16]
   cases r14 <;> cases r15 <;> cases r16 <;> rfl
 ·rw [decide_eq_false h]
  refine ⟨⟨fun z=>Bool.noConfusion z,fun _=>trivial⟩,?_⟩
  unfold fe
  simp only [cond_false]
  rw [List.drop_eq_nil_of_le (by omega)]
  rfl
noncomputable def El:LoopSum:=bO lpFt fe qv
noncomputable def D5:Nat:=rid (cL Tryz.f33 0)
theorem Fp:LoopOKp Tryz.prog 0 Tryz.f33.ntmps (cL Tryz.f33 0) (bO lpFt fe qv):=
 dQ lpFt (cm (.consU kU rfl .nil) _) mixed (LoopsOKp.cons (by kernel_rfl) (zJ 4 (cm (.consU kU rfl .nil) _) mixed (Λ:=fun _=>none) (b:=wQ Tryz.f33 0 0) rfl (fun _ _ _ h=>by cases h)) .nil) fe qv Bb (fun |⟨xs,n,i,o,⟨⟩⟩,hi=>FZ xs n i o hi)
theorem xB :∀ (l:List Mir.Fall) (o:List ByteArray),txA l o=if l.any pE then .inl (⟨#[]⟩,2,()) else .inr (o++l.map fX,())
 | [],o=>by simp [txA]
 | x::r,o=>by
  unfold txA
  rw [xB r]
  cases h:pE x <;> simp [h]
theorem bad_ok {x:Mir.Fall}:pE x=false↔sS x:=by
 unfold pE sS
 rw [Bool.or_eq_false_iff,Bool.or_eq_false_iff,rC,rC,rC]
theorem any_ok {l:List Mir.Fall}:l.any pE=false↔kN l:=by
 rw [List.any_eq_false]
 constructor
 ·intro h x hx
  exact bad_ok.1 (by simpa using h x hx)
 ·intro h x hx
  simpa using bad_ok.2 (h x hx)
theorem wB (x:Mir.Fall) :(fX x).data.toList=aA x:=by
 unfold fX aA dl
 simp [ByteArray.data_append]
theorem ow (l:List Mir.Fall) :(iK (l.map fX) sepD).data.toList=cC l:=by
 unfold iK
 show Lib.join ((l.map fX).map (·.data.toList)) sepD.data.toList=_
 rw [List.map_map]
 have :((fun x:ByteArray=>x.data.toList) ∘ fX)=aA:=by funext x;exact wB x
 rw [this]
 cases l with
 | nil=>rfl
 | cons x r=>
  rw [List.map_cons,Lib.join_cons]
  show aA x++Lib.joinTail [44,32] (r.map aA)=aA x++bg r
  congr 1
  induction r with
  | nil=>rfl
  | cons y r ih=>
   show ([44,32]++aA y)++Lib.joinTail [44,32] (r.map aA)=_
   rw [ih]
   rfl
def xx (l:List Mir.Fall):ByteArray×Int:=if l.any pE then (⟨#[]⟩,2) else (toB (cC l),0)
theorem zH (l:List Mir.Fall):gv l=xx l:=by
 unfold gv xx
 rw [xB]
 split
 ·rfl
 ·show (iK ([]++l.map fX) sepD,(0:Int))=_
  rw [List.nil_append]
  exact congrArg (fun z=>(z,(0:Int))) (l6 (ow l))
theorem wj {n:Int} (h:inF n) :(dl n).length≤21:=by
 have:=qi h.1 h.2
 unfold dl
 rw [Array.length_toList]
 exact this
theorem qo {x:Mir.Fall} (h:sS x) :(aA x).length≤70:=by
 obtain ⟨h1,h2,h3⟩:=h
 have:=wj h1
 have:=wj h2
 have:=wj h3
 unfold aA
 simp only [List.length_append,List.length_cons,List.length_nil]
 omega
theorem vH :∀ {l:List Mir.Fall},kN l→(bg l).length≤72*l.length
 | [],_=>Nat.zero_le _
 | x::r,h=>by
  have:=vH fun y hy=>h y (List.mem_cons_of_mem _ hy)
  have:=qo (h x List.mem_cons_self)
  show (44::32 ::(aA x++bg r)).length≤72 *(r.length+1)
  simp only [List.length_cons,List.length_append]
  omega
theorem zG {l:List Mir.Fall} (h:kN l) :(cC l).length≤72*l.length:=by
 cases l with
 | nil=>exact Nat.zero_le _
 | cons x r=>
  have:=vH fun y hy=>h y (List.mem_cons_of_mem _ hy)
  have:=qo (h x List.mem_cons_self)
  show (aA x++bg r).length≤72 *(r.length+1)
  rw [List.length_append]
  omega
theorem zz (l:List Mir.Fall) (hl:E5 l) :(evPat (dy [jL,D0] Tryz.f33) (find [(D5,El)]) Tryz.f33 qFl Dj (l,())).sat fun z_=>z_ =(tj (l,())).2:=by
 refine cast (by kernel_rfl) (?_:let r1:Bool:=isL (fe (l,(↑l.length:Int),(0:Int),[],()));let r2:ByteArray:=iK (AM (dflt (Ty.str.slice.prod Ty.unit)) (fe (l,(↑l.length:Int),(0:Int),[],()))).1 (ByteArray.mk #[44,32]);((uU fun x=>none)∧((↑l.length:Int) =(↑l.length:Int)∧l.length≤(1000:Nat))∧(0:Int)≤(0:Int)∧(0:Int)≤(↑l.length:Int)∧(↑(0:Nat):Int)≤(0:Int))∧(r1=true→zb (dflt (Ty.str.prod (I.prod Ty.unit))) (fe (l,(↑l.length:Int),(0:Int),[],())) =((gv l).1,(gv l).2,()))∧(r1=false→r2.size≤(1000000:Nat)∧(r2,(0:Int),()) =((gv l).1,(gv l).2,())))
 intro r1 r2
 clear_value (hr1:r1=_) (hr2:r2=_)
 have hl:l.length≤1000:=hl
 have e0:fe (l,(l.length:Int),0,[],())=txA l []:=rfl
 rw [e0] at hr1 hr2 ⊢
 have ht:gv l=DR (txA l []):=rfl
 refine ⟨⟨rfl,⟨rfl,hl⟩,Int.le_refl _,by omega,Int.le_refl _⟩,?_⟩
 rw [ht]
 have hs:kN l→(iK (l.map fX) sepD).size≤1000000:=fun ho=>by
  have h1:=zG ho
  rw [←ow l,Array.length_toList] at h1
  have h1 :(iK (l.map fX) sepD).size≤72*l.length:=h1
  omega
 rw [xB] at hr1 hr2 ⊢
 cases hb:l.any pE with
 | true=>
  rw [hb] at hr1
  have e1:r1=true:=hr1
  exact ⟨fun _=>rfl,fun z=>absurd (e1▸z) (by decide)⟩
 | false=>
  rw [hb] at hr1 hr2
  have e1:r1=false:=hr1
  have e2:r2=iK (l.map fX) sepD:=hr2
  refine ⟨fun z=>absurd (e1▸z) (by decide),fun _=>⟨?_,?_⟩⟩
  ·rw [e2];exact hs (any_ok.1 hb)
  ·rw [e2];rfl
def x3:FuncId×Ctr:=(33,aE KE qFl Dj tj)
theorem Bp:CtrOK Tryz.prog KE 33 (aE KE qFl Dj tj):=by
 refine gu (C:=dy [jL,D0] Tryz.f33) (cm (.consU kU rfl (.consU FF rfl .nil)) _) mixed (fn:=Tryz.f33) Tryz.func33 (by kernel_rfl) (by kernel_rfl) (by kernel_rfl) (by kernel_rfl) (by kernel_rfl) (by kernel_rfl) (Λ:=fun x=>find [(D5,El)]) ?_ ?_
 ·rintro ⟨l,⟨⟩⟩ hw hn
  exact LoopsOKp.at (by kernel_rfl) (.cons (by kernel_rfl) (Fp) .nil)
 ·rintro ⟨l,⟨⟩⟩ hw hn
  exact zz l (hn _ List.mem_cons_self)
end Go.Proofs.YthaeofeigglbhaaGreatDoor
namespace Go.Proofs.YthaeofeigglbhaaGreatDoor
open Go Go.Mir Go.RowKit
attribute [local irreducible] Go.Mir.DT.sat Go.Mir.evPat Go.Mir.RT.sat Go.Mir.evFn
abbrev qSt:Pat:=iQ [.str]
abbrev Dh:Pat:=iQ [.nm .Fall,.bool]
def aF (s:ByteArray):Prop:=s.size≤1000000
def xk:Den (tyP qSt)→List Prop×Den (tyP Dh):=fun x=>([aF x.1],((cy x.1.data.toList).1,(cy x.1.data.toList).2,()))
abbrev c3F:List PC0:= [.h I,.h I,.h I]
abbrev qLf:Pat:=⟨[(2,.c (.ptr 0 0)),(12,.c (.ptr 1 0)),(13,.h .bool),(50,.c (.osl 2 3)),(51,.h I),(52,.h I)],[(0,.dat (.nm .Fall)),(1,.cells c3F),(2,.row 3 .str)],4⟩
abbrev xLf:List (Lf×Pat):= [(.ext 0,⟨[(2,.c (.ptr 0 0)),(12,.c (.ptr 1 0)),(13,.h .bool)],[(0,.dat (.nm .Fall)),(1,.cells c3F)],2⟩)]
abbrev TLf:Type:=Bool×Int×Int×Mir.Fall×Int×Int×Int×List ByteArray×Unit
def Du (a:Int×Int×Int) (i v:Int):Int×Int×Int:=if i==0 then (v,a.2.1,a.2.2) else if i==1 then (a.1,v,a.2.2) else (a.1,a.2.1,v)
def lfF:List ByteArray→Int→Bool→Int×Int×Int→Bool×(Int×Int×Int)
 | [],_,ok,a=>(ok,a)
 | x::r,i,ok,a=>lfF r (i+1) (ok&&((ay x).2==0)) (Du a i (ay x).1)
def iJ (x:TLf):Prop:=(x.2.1 =(x.2.2.2.2.2.2.2.1.length:Int)∧x.2.2.2.2.2.2.2.1.length=3)∧0≤x.2.2.1∧x.2.2.1≤x.2.1
def jo (x:TLf):Nat:=(x.2.1 - x.2.2.1).toNat
def lfX (x:TLf):Bool×(Int×Int×Int):=lfF (x.2.2.2.2.2.2.2.1.drop x.2.2.1.toNat) x.2.2.1 x.1 (x.2.2.2.2.1,x.2.2.2.2.2.1,x.2.2.2.2.2.2.1)
def eP (x:TLf):Bool×Mir.Fall×Int×Int×Int×Unit:=((lfX x).1,x.2.2.2.1,(lfX x).2.1,(lfX x).2.2.1,(lfX x).2.2.2,())
abbrev vt:Pat:=iQ [Fls,I]
abbrev CM:List (Nat×PB):= [(0,.row 1 (.nm .Fall))]
abbrev qPf:Pat:=⟨[(4,.c (.osl 0 1)),(12,.h (.slice .str)),(13,.h I),(14,.h I)],CM,2⟩
abbrev xPf:List (Lf×Pat):= [(.ret,⟨[(2,.c .nilsl),(3,.h I)],[],0⟩),(.ext 0,⟨[(4,.c (.osl 0 1))],CM,2⟩)]
abbrev TPf:Type:=List ByteArray×Int×Int×List Mir.Fall×Unit
abbrev OPf:Type:=Sum (Int×Unit) (List Mir.Fall×Unit)
def prB:List ByteArray→List Mir.Fall→OPf
 | [],o=> .inr (o,())
 | p::r,o=>if (cy p.data.toList).2 then prB r (o++[(cy p.data.toList).1]) else .inl (4,())
def qy (x:TPf):Prop:=(x.2.1 =(x.1.length:Int)∧x.1.length≤2000000)∧(0≤x.2.2.1∧x.2.2.1≤x.2.1)∧(x.2.2.2.1.length:Int)≤x.2.2.1∧x.1.all (fun p=>decide (p.size≤1000000))=true
def Be (x:TPf):Nat:=(x.2.1 - x.2.2.1).toNat
def ff (x:TPf):OPf:=prB (x.1.drop x.2.2.1.toNat) x.2.2.2.1
def dP:Option (List Mir.Fall)→List Mir.Fall×Int
 | none=>([],4)
 | some l=>(l,0)
def tg:Den (tyP qSt)→List Prop×Den (tyP vt):=fun x=>([aF x.1],((dP (cr x.1.data.toList)).1,(dP (cr x.1.data.toList)).2,()))
abbrev Dk:Pat:=iQ [I,.str,.bool]
def BO:Den (tyP qSt)→List Prop×Den (tyP Dk):=fun x=>([aF x.1],((mC x.1.data.toList).1,toB (mC x.1.data.toList).2.1,(mC x.1.data.toList).2.2,()))
abbrev qNu:Pat:=⟨[(0,.h .str),(5,.h I)],[],0⟩
abbrev xNu:List (Lf×Pat):= [(.ext 0,⟨[(0,.h .str),(5,.h I)],[],0⟩)]
abbrev TNu:Type:=ByteArray×Int×Unit
def qx (x:TNu):Prop:=0≤x.2.1∧x.2.1≤(x.1.size:Int)∧x.1.size≤1000000
def Bd (x:TNu):Nat:=((x.1.size:Int) - x.2.1).toNat
def iM (x:TNu):ByteArray×Int×Unit:=(x.1,x.2.1 +(((x.1.data.toList.drop x.2.1.toNat).takeWhile ak).length:Int),())
abbrev qTk:Pat:=iQ [.str,.str]
abbrev Dn:Pat:=iQ [.str,.bool]
def xp:Den (tyP qTk)→List Prop×Den (tyP Dn):=fun x=>([aF x.1,aF x.2.1],(toB (ao x.2.1.data.toList x.1.data.toList).1,(ao x.2.1.data.toList x.1.data.toList).2,()))
abbrev Di:Pat:=iQ [.nm .Fall,.str,.bool]
def xm:Den (tyP qSt)→List Prop×Den (tyP Di):=fun x=>([aF x.1],((aX x.1.data.toList).1,toB (aX x.1.data.toList).2.1,(aX x.1.data.toList).2.2,()))
abbrev qPr:Pat:=⟨[(0,.h .str),(4,.c (.osl 0 1)),(5,.h .bool)],CM,2⟩
abbrev xPr:List (Lf×Pat):= [(.ret,⟨[(2,.c .nilsl),(3,.h I)],[],0⟩),(.ext 0,⟨[(4,.c (.osl 0 1))],CM,2⟩)]
abbrev TPr:Type:=ByteArray×Bool×List Mir.Fall×Unit
def qz (x:TPr):Prop:=x.1.size≤1000000∧x.2.2.1.length+x.1.size≤1000000
def Bf (x:TPr):Nat:=x.1.size
def oJ:Option (List Mir.Fall)→OPf
 | none=> .inl (4,())
 | some l=> .inr (l,())
def eR (x:TPr):OPf:=oJ (prR (x.1.size+1) x.1.data.toList x.2.1 x.2.2.1)
def th:Den (tyP qSt)→List Prop×Den (tyP vt):=fun x=>([aF x.1],((dP (dJ x.1.data.toList)).1,(dP (dJ x.1.data.toList)).2,()))
theorem lr (s:ByteArray) (a i:Nat) :(s.extract a i).data.toList =(s.data.toList.take i).drop a:=by
 rw [←yB];rfl
theorem wo (s:ByteArray) :(s.toList ==(ByteArray.mk #[]).toList)=s.data.toList.isEmpty:=by
 rw [ByteArray.toList_eq,ByteArray.toList_eq]
 cases s.data.toList <;> rfl
theorem w6 :∀ h l:List UInt8,h.isPrefixOf l =(decide (h.length≤l.length)&&(l.take h.length==h))
 | [],l=>by simp
 | a::h,[]=>by simp
 | a::h,b::l=>by
  rw [List.isPrefixOf_cons_cons,w6 h l]
  simp only [List.length_cons,List.take_succ_cons]
  have e1:decide (h.length+1≤l.length+1)=decide (h.length≤l.length):=by simp
  have e2 :(b::List.take h.length l==a::h) =(b==a&&List.take h.length l==h):=rfl
  rw [e1,e2,BEq.comm (a:=a)]
  cases b==a <;> cases decide (h.length≤l.length) <;> rfl
theorem jU (h l:List UInt8) :(ao h l).1.length≤l.length:=by
 unfold ao
 split
 ·show (List.drop _ _).length≤_
  rw [List.length_drop];omega
 ·exact Nat.le_refl _
theorem oD (l:List UInt8) :(mC l).2.1.length≤l.length:=by
 show (l.dropWhile ak).length≤_
 exact (List.dropWhile_sublist _).length_le
theorem mm {l:List UInt8} (h :(aX l).2.2=true) :(aX l).2.1.length+1≤l.length:=by
 obtain ⟨h1,_⟩:=kG h
 have:=qp (aX l).1
 have h2:=congrArg List.length h1
 rw [List.length_append] at h2
 omega
theorem vo :∀ (k k':Nat) (l:List UInt8) (b:Bool) (o:List Mir.Fall),l.length<k→l.length<k'→prR k l b o=prR k' l b o
 | 0,_,_,_,_,h,_=>absurd h (Nat.not_lt_zero _)
 | _+1,0,_,_,_,_,h=>absurd h (Nat.not_lt_zero _)
 | k+1,k'+1,l,b,o,h1,h2=>by
  unfold prR
  split
  ·rfl
  ·split
   ·rfl
   ·generalize hm :(if b=true then l else (ao [44,32] l).1)=m
    have hml:m.length≤l.length:=by
     rw [←hm]
     split
     ·exact Nat.le_refl _
     ·exact jU _ _
    simp only []
    by_cases hf :(aX m).2.2=true
    ·rw [if_pos hf,if_pos hf]
     have:=mm hf
     exact vo k k' _ _ _ (by omega) (by omega)
    ·rw [if_neg hf,if_neg hf]
theorem dK (s:ByteArray):s.data.toList.length=s.size:=by rw [Array.length_toList];rfl
theorem fO {l:List UInt8} {s:ByteArray} (hs:s.size≤1000000) (h:l.length≤s.data.toList.length) :(toB l).size≤1000000:=by
 rw [eS]
 rw [dK] at h
 omega
noncomputable def lpLf:Lp:=(⟨0,dy [oz] Tryz.f86,(fun _=>none),(cL Tryz.f86 0),qLf,xLf⟩:Lp)
theorem F0 (ok:Bool) (n:Int) (i:Int) (z:Mir.Fall) (a0:Int) (a1:Int) (a2:Int) (xs:List ByteArray) (hi:iJ (ok,n,i,z,a0,a1,a2,xs,())) :(Go.Mir.stepG lpLf eP (fun y:Den (tyP lpLf.q)=>iJ y∧jo y<jo (ok,n,i,z,a0,a1,a2,xs,())) (ok,n,i,z,a0,a1,a2,xs,())∧Go.Mir.stepE lpLf eP (ok,n,i,z,a0,a1,a2,xs,())=eP (ok,n,i,z,a0,a1,a2,xs,())):=by
 refine cast (by kernel_rfl) (?_:let r1:Int:=IntKind.i64.wrap (i +(1:Int));let r2:Int×Int:=gr (xs.getD i.toNat (dflt Ty.str)) (0:Int) (1000000:Int);let r3:Bool:=r2.2 ==(0:Int);((decide (i<n)=true→((0:Int)≤i∧i <(↑xs.length:Int))∧((i ==(0:Int))=true→((0:Int)≤(0:Int)∧(0:Int) <(↑(3:Nat):Int))∧(ok=true→iJ (r3,n,r1,z,r2.1,a1,a2,xs,())∧jo (r3,n,r1,z,r2.1,a1,a2,xs,())<jo (ok,n,i,z,a0,a1,a2,xs,()))∧(ok=false→iJ (false,n,r1,z,r2.1,a1,a2,xs,())∧jo (false,n,r1,z,r2.1,a1,a2,xs,())<jo (ok,n,i,z,a0,a1,a2,xs,())))∧((i ==(0:Int))=false→((i ==(1:Int))=true→((0:Int)≤(1:Int)∧(1:Int) <(↑(3:Nat):Int))∧(ok=true→iJ (r3,n,r1,z,a0,r2.1,a2,xs,())∧jo (r3,n,r1,z,a0,r2.1,a2,xs,())<jo (ok,n,i,z,a0,a1,a2,xs,()))∧(ok=false→iJ (false,n,r1,z,a0,r2.1,a2,xs,())∧jo (false,n,r1,z,a0,r2.1,a2,xs,())<jo (ok,n,i,z,a0,a1,a2,xs,())))∧((i ==(1:Int))=false→((i ==(2:Int))=true→((0:Int)≤(2:Int)∧(2:Int) <(↑(3:Nat):Int))∧(ok=true→iJ (r3,n,r1,z,a0,a1,r2.1,xs,())∧jo (r3,n,r1,z,a0,a1,r2.1,xs,())<jo (ok,n,i,z,a0,a1,a2,xs,()))∧(ok=false→iJ (false,n,r1,z,a0,a1,r2.1,xs,())∧jo (false,n,r1,z,a0,a1,r2.1,xs,())<jo (ok,n,i,z,a0,a1,a2,xs,())))∧((i ==(2:Int))=false→False∧True))))∧(decide (i<n)=false→True))∧(bif decide (i<n) then bif i ==(0:Int) then bif ok then eP (r3,n,r1,z,r2.1,a1,a2,xs,()) else eP (false,n,r1,z,r2.1,a1,a2,xs,()) else bif i ==(1:Int) then bif ok then eP (r3,n,r1,z,a0,r2.1,a2,xs,()) else eP (false,n,r1,z,a0,r2.1,a2,xs,()) else bif i ==(2:Int) then bif ok then eP (r3,n,r1,z,a0,a1,r2.1,xs,()) else eP (false,n,r1,z,a0,a1,r2.1,xs,()) else dflt (Ty.bool.prod ((Ty.nm Nm.Fall).prod (I.prod (I.prod (I.prod Ty.unit))))) else (ok,z,a0,a1,a2,()))=eP (ok,n,i,z,a0,a1,a2,xs,()))
 intro r1 r2 r3
 clear_value (hr1:r1=_) (hr2:r2=_) (hr3:r3=_)
 obtain ⟨⟨h1,h1b⟩,h2,h3⟩:=hi
 have h1:n =(xs.length:Int):=h1
 have h1b:xs.length=3:=h1b
 have h2:0≤i:=h2
 have h3:i≤n:=h3
 by_cases h:i<n
 ·have e1:r1=i+1:=by rw [hr1];exact iG (by omega) (by omega)
  have hd:xs.drop i.toNat=xs.getD i.toNat (dflt Ty.str)::xs.drop (i+1).toNat:=by
   have hn:i.toNat<xs.length:=by omega
   have e1 :(i+1).toNat=i.toNat+1:=by omega
   show _=List.getD xs i.toNat ByteArray.empty::_
   rw [List.drop_eq_getElem_cons hn,e1,List.getD_eq_getElem?_getD,List.getElem?_eq_getElem hn]
   rfl
  have hI :∀ (b:Bool) (c0 c1 c2:Int),iJ (b,n,i+1,z,c0,c1,c2,xs,())∧jo (b,n,i+1,z,c0,c1,c2,xs,())<jo (ok,n,i,z,a0,a1,a2,xs,()):=fun b c0 c1 c2=>by
   refine ⟨⟨⟨h1,h1b⟩,?_,?_⟩,?_⟩
   ·show 0≤i+1;omega
   ·show i+1≤n;omega
   ·show (n - (i+1)).toNat <(n - i).toNat;omega
  rw [decide_eq_true h,e1]
  refine ⟨⟨fun _=>⟨⟨h2,by omega⟩,fun _=>⟨by decide,fun _=>hI _ _ _ _,fun _=>hI _ _ _ _⟩,fun q0=>⟨fun _=>⟨by decide,fun _=>hI _ _ _ _,fun _=>hI _ _ _ _⟩,fun q1=>⟨fun _=>⟨by decide,fun _=>hI _ _ _ _,fun _=>hI _ _ _ _⟩,fun q2=>?_⟩⟩⟩,fun z=>Bool.noConfusion z⟩,?_⟩
  ·have q0 :¬ i=0:=by simpa using q0
   have q1 :¬ i=1:=by simpa using q1
   have q2 :¬ i=2:=by simpa using q2
   omega
  ·have key:eP (ok,n,i,z,a0,a1,a2,xs,())=eP (ok&&r3,n,i+1,z,(Du (a0,a1,a2) i r2.1).1,(Du (a0,a1,a2) i r2.1).2.1,(Du (a0,a1,a2) i r2.1).2.2,xs,()):=by
    unfold eP lfX
    simp only []
    rw [hd,hr3,hr2]
    rfl
   rw [key]
   have hc:i=0∨i=1∨i=2:=by omega
   clear key hI hd hr1 hr2 hr3 e1
   rcases hc with rfl|rfl|rfl <;> cases ok <;> rfl
 ·rw [decide_eq_false h]
  refine ⟨⟨fun z=>Bool.noConfusion z,fun _=>trivial⟩,?_⟩
  unfold eP lfX
  simp only [cond_false]
  rw [List.drop_eq_nil_of_le (by omega)]
  rfl
noncomputable def Em:LoopSum:=bO lpLf eP iJ
noncomputable def D6:Nat:=rid (cL Tryz.f86 0)
theorem Fq:LoopOKp Tryz.prog 0 Tryz.f86.ntmps (cL Tryz.f86 0) (bO lpLf eP iJ):=
 dQ lpLf (cm (.consU qQ rfl .nil) _) mixed (fun b hb S hS=>by cases hS) eP iJ jo (fun |⟨ok,n,i,z,a0,a1,a2,xs,⟨⟩⟩,hi=>F0 ok n i z a0 a1 a2 xs hi)
theorem zy (s:ByteArray) (hs:aF s) :(evPat (dy [GO,oz] Tryz.f86) (find [(D6,Em)]) Tryz.f86 qSt Dh (s,())).sat fun z_=>z_ =(xk (s,())).2:=by
 refine cast (by kernel_rfl) (?_:let r1:ByteArray:=toB (iZ s (ByteArray.mk #[45])).1;let r2:ByteArray:=toB (iZ s (ByteArray.mk #[45])).2.1;let r3:Int×Int:=ay r1;let r4:ByteArray:=toB (iZ r2 (ByteArray.mk #[32,40])).1;let r5:ByteArray:=toB (iZ r2 (ByteArray.mk #[32,40])).2.1;let r6:Int×Int:=ay r4;let r7:ByteArray:=toB (iZ r5 (ByteArray.mk #[41])).1;let r8:Int×Int:=ay r7;let r9:List ByteArray:= [r1,r4,r7];let r10:Int:=(↑r9.length:Int);s.size≤(1000000:Nat)∧r2.size≤(1000000:Nat)∧r5.size≤(1000000:Nat)∧((uU fun x=>none)∧(r10 =(↑r9.length:Int)∧nat_lit 3=nat_lit 3)∧(0:Int)≤(0:Int)∧(0:Int)≤r10)∧((0:Int)≤(0:Int)∧(0:Int) <(↑(3:Nat):Int))∧((0:Int)≤(1:Int)∧(1:Int) <(↑(3:Nat):Int))∧((0:Int)≤(2:Int)∧(2:Int) <(↑(3:Nat):Int))∧(Mir.Fall.mk r3.1 r6.1 r8.1 (0:Int),(bif (iZ s (ByteArray.mk #[45])).2.2 then bif (iZ r2 (ByteArray.mk #[32,40])).2.2 then bif (iZ r5 (ByteArray.mk #[41])).2.2 then (toB (iZ r5 (ByteArray.mk #[41])).2.1).toList ==(ByteArray.mk #[]).toList else false else false else false)&&r3.2 ==(0:Int)&&r6.2 ==(0:Int)&&r8.2 ==(0:Int),()) =(Mir.Fall.mk (ay (toB (c1A s.1.1).1)).1 (ay (toB (c2A s.1.1).1)).1 (ay (toB (c3A s.1.1).1)).1 (0:Int),(c1A s.1.1).2.2&&((c2A s.1.1).2.2&&((c3A s.1.1).2.2&&((c3A s.1.1).2.1.isEmpty&&((ay (toB (c1A s.1.1).1)).2 ==(0:Int)&&((ay (toB (c2A s.1.1).1)).2 ==(0:Int)&&(ay (toB (c3A s.1.1).1)).2 ==(0:Int)))))),()))
 intro r1 r2 r3 r4 r5 r6 r7 r8 r9 r10
 clear_value (hr1:r1=_) (hr2:r2=_) (hr3:r3=_) (hr4:r4=_) (hr5:r5=_) (hr6:r6=_) (hr7:r7=_) (hr8:r8=_) (hr9:r9=_) (hr10:r10=_)
 have hs:s.size≤1000000:=hs
 have d1:r1=toB (c1A s.data.toList).1:=hr1
 have d2:r2=toB (c1A s.data.toList).2.1:=hr2
 subst d2
 have d4:r4=toB (c2A s.data.toList).1:=hr4
 have d5:r5=toB (c2A s.data.toList).2.1:=hr5
 subst d5
 have d7:r7=toB (c3A s.data.toList).1:=hr7
 have l1 :(c1A s.data.toList).2.1.length≤s.data.toList.length:=(rT _ _).2
 have l2 :(c2A s.data.toList).2.1.length≤s.data.toList.length:=Nat.le_trans (rT _ _).2 l1
 have h9:r9.length=3:=by rw [hr9];rfl
 refine ⟨hs,fO hs l1,fO hs l2,⟨rfl,⟨hr10,rfl⟩,by decide,by omega⟩,by decide,by decide,by decide,?_⟩
 rw [hr3,hr6,hr8,d1,d4,d7,wo]
 generalize ((ay (toB (c1A s.data.toList).1)).2==0)=b1
 generalize ((ay (toB (c2A s.data.toList).1)).2==0)=b2
 generalize ((ay (toB (c3A s.data.toList).1)).2==0)=b3
 have q1 :(iZ s (ByteArray.mk #[45])).2.2 =(c1A s.data.toList).2.2:=rfl
 have q2 :(iZ (toB (c1A s.data.toList).2.1) (ByteArray.mk #[32,40])).2.2 =(c2A s.data.toList).2.2:=rfl
 have q3:iZ (toB (c2A s.data.toList).2.1) (ByteArray.mk #[41])=c3A s.data.toList:=rfl
 have q4 :(toB (c3A s.data.toList).2.1).data.toList =(c3A s.data.toList).2.1:=rfl
 rw [q1,q2,q3,q4]
 cases (c1A s.data.toList).2.2 <;> cases (c2A s.data.toList).2.2 <;> cases (c3A s.data.toList).2.2 <;> cases (c3A s.data.toList).2.1.isEmpty <;> cases b1 <;> cases b2 <;> cases b3 <;> rfl
def sG:FuncId×Ctr:=(86,aE KE qSt Dh xk)
theorem uZ:CtrOK Tryz.prog KE 86 (aE KE qSt Dh xk):=by
 refine gu (C:=dy [GO,oz] Tryz.f86) (cm (.consU GX rfl (.consU qQ rfl .nil)) _) mixed (fn:=Tryz.f86) Tryz.func86 (by kernel_rfl) (by kernel_rfl) (by kernel_rfl) (by kernel_rfl) (by kernel_rfl) (by kernel_rfl) (Λ:=fun x=>find [(D6,Em)]) ?_ ?_
 ·rintro ⟨s,⟨⟩⟩ hw hn
  exact LoopsOKp.at (by kernel_rfl) (.cons (by kernel_rfl) (Fq) .nil)
 ·rintro ⟨s,⟨⟩⟩ hw hn
  exact zy s (hn _ List.mem_cons_self)
noncomputable def lpPf:Lp:=(⟨0,dy [sG] Tryz.f35,(fun _=>none),(cL Tryz.f35 0),qPf,xPf⟩:Lp)
theorem F3 (xs:List ByteArray) (n:Int) (i:Int) (o:List Mir.Fall) (hi:qy (xs,n,i,o,())) :(Go.Mir.stepG lpPf ff (fun y:Den (tyP lpPf.q)=>qy y∧Be y<Be (xs,n,i,o,())) (xs,n,i,o,())∧Go.Mir.stepE lpPf ff (xs,n,i,o,())=ff (xs,n,i,o,())):=by
 refine cast (by kernel_rfl) (?_:let r1:Int×Int:=ay (toB (c1A (xs.getD i.toNat (dflt Ty.str)).1.1).1);let r2:Int×Int:=ay (toB (c2A (xs.getD i.toNat (dflt Ty.str)).1.1).1);let r3:Int×Int:=ay (toB (c3A (xs.getD i.toNat (dflt Ty.str)).1.1).1);let r4:List Mir.Fall:= [Mir.Fall.mk r1.1 r2.1 r3.1 (0:Int)];let r5:Bool:=!((c1A (xs.getD i.toNat (dflt Ty.str)).1.1).2.2&&((c2A (xs.getD i.toNat (dflt Ty.str)).1.1).2.2&&((c3A (xs.getD i.toNat (dflt Ty.str)).1.1).2.2&&((c3A (xs.getD i.toNat (dflt Ty.str)).1.1).2.1.isEmpty&&(r1.2 ==(0:Int)&&(r2.2 ==(0:Int)&&r3.2 ==(0:Int)))))));((decide (i<n)=true→((0:Int)≤i∧i <(↑xs.length:Int))∧aF (xs.getD i.toNat (dflt Ty.str))∧(r5=true→True)∧(r5=false→(o.length+r4.length) *(32:Nat)≤(70368744177664:Nat)∧qy (xs,n,IntKind.i64.wrap (i +(1:Int)),o++r4,())∧Be (xs,n,IntKind.i64.wrap (i +(1:Int)),o++r4,())<Be (xs,n,i,o,())))∧(decide (i<n)=false→True))∧(bif decide (i<n) then bif r5 then Sum.inl ((4:Int),()) else ff (xs,n,IntKind.i64.wrap (i +(1:Int)),o++r4,()) else Sum.inr (o,()))=ff (xs,n,i,o,()))
 intro r1 r2 r3 r4 r5
 clear_value (hr1:r1=_) (hr2:r2=_) (hr3:r3=_) (hr4:r4=_) (hr5:r5=_)
 obtain ⟨⟨h1,h1b⟩,⟨h2,h3⟩,h4,h5⟩:=hi
 have h1:n =(xs.length:Int):=h1
 have h1b:xs.length≤2000000:=h1b
 have h2:0≤i:=h2
 have h3:i≤n:=h3
 have h4 :(o.length:Int)≤i:=h4
 have h5:xs.all (fun p=>decide (p.size≤1000000))=true:=h5
 by_cases h:i<n
 ·have ew:IntKind.i64.wrap (i+1)=i+1:=iG (by omega) (by omega)
  have hd:xs.drop i.toNat=xs.getD i.toNat (dflt Ty.str)::xs.drop (i+1).toNat:=by
   have hn:i.toNat<xs.length:=by omega
   have e1 :(i+1).toNat=i.toNat+1:=by omega
   show _=List.getD xs i.toNat ByteArray.empty::_
   rw [List.drop_eq_getElem_cons hn,e1,List.getD_eq_getElem?_getD,List.getElem?_eq_getElem hn]
   rfl
  have hsz :(xs.getD i.toNat (dflt Ty.str)).size≤1000000:=by
   have hn:i.toNat<xs.length:=by omega
   show (List.getD xs i.toNat ByteArray.empty).size≤1000000
   rw [List.getD_eq_getElem?_getD,List.getElem?_eq_getElem hn]
   have:=List.all_eq_true.1 h5 _ (List.getElem_mem hn)
   simpa using this
  have e4:r4=[(cy (xs.getD i.toNat (dflt Ty.str)).data.toList).1]:=by rw [hr4,hr1,hr2,hr3];rfl
  have e5:r5=!(cy (xs.getD i.toNat (dflt Ty.str)).data.toList).2:=by rw [hr5,hr1,hr2,hr3];rfl
  have l4:r4.length=1:=by rw [e4];rfl
  have key:ff (xs,n,i,o,())=if (cy (xs.getD i.toNat (dflt Ty.str)).data.toList).2 then ff (xs,n,i+1,o++[(cy (xs.getD i.toNat (dflt Ty.str)).data.toList).1],()) else .inl (4,()):=by
   unfold ff
   simp only []
   rw [hd]
   rfl
  rw [ew,key,decide_eq_true h,←e4]
  clear hr1 hr2 hr3 hr4 hr5 key e4
  refine ⟨⟨fun _=>⟨⟨h2,by omega⟩,hsz,fun _=>trivial,fun _=>⟨by omega,⟨⟨h1,h1b⟩,⟨?_,?_⟩,?_,h5⟩,?_⟩⟩,fun z=>Bool.noConfusion z⟩,?_⟩
  ·show 0≤i+1;omega
  ·show i+1≤n;omega
  ·show ((o++r4).length:Int)≤i+1
   rw [List.length_append];omega
  ·show (n - (i+1)).toNat <(n - i).toNat;omega
  ·rw [e5]
   cases (cy (xs.getD i.toNat (dflt Ty.str)).data.toList).2 <;> rfl
 ·rw [decide_eq_false h]
  refine ⟨⟨fun z=>Bool.noConfusion z,fun _=>trivial⟩,?_⟩
  unfold ff
  simp only [cond_false]
  rw [List.drop_eq_nil_of_le (by omega)]
  rfl
noncomputable def Er:LoopSum:=bO lpPf ff qy
noncomputable def D9:Nat:=rid (cL Tryz.f35 0)
theorem Fu:LoopOKp Tryz.prog 0 Tryz.f35.ntmps (cL Tryz.f35 0) (bO lpPf ff qy):=
 dQ lpPf (cm (.consU uZ rfl .nil) _) mixed (fun b hb S hS=>by cases hS) ff qy Be (fun |⟨xs,n,i,o,⟨⟩⟩,hi=>F3 xs n i o hi)
theorem Bx :∀ (l:List ByteArray) (o:List Mir.Fall),prB l o=oJ (prA (l.map (·.data.toList)) o)
 | [],_=>rfl
 | p::r,o=>by
  show (if (cy p.data.toList).2=true then prB r (o++[(cy p.data.toList).1]) else _)=oJ (if (cy p.data.toList).2=true then prA (r.map (·.data.toList)) (o++[(cy p.data.toList).1]) else none)
  rw [Bx r]
  split <;> rfl
theorem vf (s:ByteArray) :(cb s (ByteArray.mk #[44,32])).map (·.data.toList)=lN s.data.toList:=Lib.splitB_data _ _ _ _
theorem xi (s:ByteArray) (hs:aF s) :(evPat (dy [xY,sG] Tryz.f35) (find [(D9,Er)]) Tryz.f35 qSt vt (s,())).sat fun z_=>z_ =(tg (s,())).2:=by
 refine cast (by kernel_rfl) (?_:let r1:Bool:=s.toList ==(ByteArray.mk #[]).toList;let r2:ByteArray:=ByteArray.mk #[44,32];let r3:List ByteArray:=DQ (s,r2,());let r4:Int:=(↑r3.length:Int);let r5:Bool:=isL (ff (r3,r4,(0:Int),[],()));(r1=true→([],(0:Int),()) =((dP (cr s.1.1)).1,(dP (cr s.1.1)).2,()))∧(r1=false→(s.size≤(1000000:Nat)∧(1:Nat)≤r2.size)∧((uU fun x=>none)∧(r4 =(↑r3.length:Int)∧r3.length≤(2000000:Nat))∧((0:Int)≤(0:Int)∧(0:Int)≤r4)∧(↑(0:Nat):Int)≤(0:Int)∧(r3.all fun p=>decide (p.size≤(1000000:Nat)))=true)∧(r5=true→([],zb (dflt (I.prod Ty.unit)) (ff (r3,r4,(0:Int),[],()))) =((dP (cr s.1.1)).1,(dP (cr s.1.1)).2,()))∧(r5=false→((AM (dflt ((Ty.nm Nm.Fall).slice.prod Ty.unit)) (ff (r3,r4,(0:Int),[],()))).1,(0:Int),()) =((dP (cr s.1.1)).1,(dP (cr s.1.1)).2,()))))
 intro r1 r2 r3 r4 r5
 clear_value (hr1:r1=_) (hr2:r2=_) (hr3:r3=_) (hr4:r4=_) (hr5:r5=_)
 have hs:s.size≤1000000:=hs
 have e1:r1=s.data.toList.isEmpty:=by rw [hr1];exact wo s
 have e3:r3=cb s (ByteArray.mk #[44,32]):=by rw [hr3,hr2];rfl
 have z2:1≤r2.size:=by rw [hr2];decide
 have hlen :(cb s (ByteArray.mk #[44,32])).length=Lib.countB s (ByteArray.mk #[44,32])+1:=Lib.splitB_all (ByteArray.mk #[44,32]) (by decide) 0 _ s rfl
 have hle:=Lib.countB_le (ByteArray.mk #[44,32]) (by decide) s.size s (Nat.le_refl _)
 have e0:ff (r3,r4,0,[],())=prB r3 []:=rfl
 rw [e0] at hr5 ⊢
 have hA:cr s.data.toList=if s.data.toList.isEmpty=true then some [] else prA (lN s.data.toList) []:=rfl
 refine ⟨fun h=>?_,fun h=>⟨⟨hs,z2⟩,⟨rfl,⟨hr4,by rw [e3,hlen];omega⟩,⟨Int.le_refl _,by omega⟩,Int.le_refl _,?_⟩,?_⟩⟩
 ·rw [hA,←e1,h];rfl
 ·rw [e3]
  refine List.all_eq_true.2 fun p hp=>decide_eq_true ?_
  exact Nat.le_trans (ni s _ p hp) hs
 ·rw [hA,←e1,h]
  rw [Bx,e3,vf] at hr5 ⊢
  simp only [Bool.false_eq_true,if_false]
  cases hx:prA (lN s.data.toList) [] with
  | none=>
   rw [hx] at hr5
   have e5:r5=true:=hr5
   exact ⟨fun _=>rfl,fun z=>absurd (e5▸z) (by decide)⟩
  | some l=>
   rw [hx] at hr5
   have e5:r5=false:=hr5
   exact ⟨fun z=>absurd (e5▸z) (by decide),fun _=>rfl⟩
def uA:FuncId×Ctr:=(35,aE KE qSt vt tg)
theorem zp:CtrOK Tryz.prog KE 35 (aE KE qSt vt tg):=by
 refine gu (C:=dy [xY,sG] Tryz.f35) (cm (.consU Bm rfl (.consU uZ rfl .nil)) _) mixed (fn:=Tryz.f35) Tryz.func35 (by kernel_rfl) (by kernel_rfl) (by kernel_rfl) (by kernel_rfl) (by kernel_rfl) (by kernel_rfl) (Λ:=fun x=>find [(D9,Er)]) ?_ ?_
 ·rintro ⟨s,⟨⟩⟩ hw hn
  exact LoopsOKp.at (by kernel_rfl) (.cons (by kernel_rfl) (Fu) .nil)
 ·rintro ⟨s,⟨⟩⟩ hw hn
  exact xi s (hn _ List.mem_cons_self)
noncomputable def lpNu:Lp:=(⟨0,dy [] Tryz.f158,(fun _=>none),(cL Tryz.f158 0),qNu,xNu⟩:Lp)
theorem F2 (s:ByteArray) (n:Int) (hi:qx (s,n,())) :(Go.Mir.stepG lpNu iM (fun y:Den (tyP lpNu.q)=>qx y∧Bd y<Bd (s,n,())) (s,n,())∧Go.Mir.stepE lpNu iM (s,n,())=iM (s,n,())):=by
 refine cast (by kernel_rfl) (?_:let r1:Int:=(↑(s.1.getD n.toNat (0:UInt8)).toNat:Int);let r2:Bool:=decide (n <(↑s.size:Int));let r3:Bool:=decide (r1≥(48:Int));let r4:Bool:=bif r2 then bif r3 then decide (r1≤(57:Int)) else false else false;let r5:ByteArray×Int×PUnit:=bif r4 then iM (s,IntKind.i64.wrap (n +(1:Int)),()) else (s,n,());(((r2=true→((0:Int)≤n∧n <(↑s.size:Int))∧(r3=true→((0:Int)≤n∧n <(↑s.size:Int))∧True)∧(r3=false→True))∧(r2=false→True))∧(true=true→(r4=true→qx (s,IntKind.i64.wrap (n +(1:Int)),())∧Bd (s,IntKind.i64.wrap (n +(1:Int)),())<Bd (s,n,()))∧(r4=false→True)))∧(bif true&&true&&true then r5 else bif true then r5 else bif r2 then bif r3 then dflt (Ty.str.prod (I.prod Ty.unit)) else dflt (Ty.str.prod (I.prod Ty.unit)) else dflt (Ty.str.prod (I.prod Ty.unit)))=iM (s,n,()))
 intro r1 r2 r3 r4 r5
 clear_value (hr1:r1=_) (hr2:r2=_) (hr3:r3=_) (hr4:r4=_) (hr5:r5=_)
 obtain ⟨h1,h2,h3⟩:=hi
 have h1:0≤n:=h1
 have h2:n≤(s.size:Int):=h2
 have h3:s.size≤1000000:=h3
 have hsz:=dK s
 by_cases h:n <(s.size:Int)
 ·have ew:IntKind.i64.wrap (n+1)=n+1:=iG (by omega) (by omega)
  have hn:n.toNat<s.data.toList.length:=by omega
  have e2:r2=true:=by rw [hr2];exact decide_eq_true h
  have e1n :(n+1).toNat=n.toNat+1:=by omega
  have hd:s.data.toList.drop n.toNat=s.1.getD n.toNat 0::s.data.toList.drop (n+1).toNat:=by
   rw [List.drop_eq_getElem_cons hn,e1n]
   congr 1
   have hn2:n.toNat<s.data.size:=by rw [Array.length_toList] at hn;exact hn
   have hg:s.1.getD n.toNat 0=s.data[n.toNat]:=dif_pos hn2
   rw [hg]
   rfl
  have e4:r4=ak (s.1.getD n.toNat 0):=by
   rw [hr4,hr3,e2,hr1]
   unfold ak
   generalize (s.1.getD n.toNat 0).toNat=m
   have a1:decide ((m:Int)≥48)=decide (48≤m):=by
    apply decide_eq_decide.2;omega
   have a2:decide ((m:Int)≤57)=decide (m≤57):=by
    apply decide_eq_decide.2;omega
   rw [a1,a2]
   cases decide (48≤m) <;> rfl
  have key:iM (s,n,())=if r4 then iM (s,n+1,()) else (s,n,()):=by
   unfold iM
   simp only []
   rw [hd,List.takeWhile_cons,←e4]
   cases r4
   ·simp
   ·simp only [if_true,List.length_cons]
    congr 2
    omega
  rw [ew] at hr5
  rw [key,ew]
  refine ⟨⟨⟨fun _=>⟨⟨h1,h⟩,fun _=>⟨⟨h1,h⟩,trivial⟩,fun _=>trivial⟩,fun _=>trivial⟩,fun _=>⟨fun _=>⟨⟨?_,?_,h3⟩,?_⟩,fun _=>trivial⟩⟩,?_⟩
  ·show 0≤n+1;omega
  ·show n+1≤(s.size:Int);omega
  ·show ((s.size:Int) - (n+1)).toNat <((s.size:Int) - n).toNat;omega
  ·show r5=_
   rw [hr5]
   cases r4 <;> rfl
 ·have e2:r2=false:=by rw [hr2];exact decide_eq_false h
  have e4:r4=false:=by rw [hr4,e2];rfl
  rw [e2,e4]
  refine ⟨⟨⟨fun z=>Bool.noConfusion z,fun _=>trivial⟩,fun _=>⟨fun z=>Bool.noConfusion z,fun _=>trivial⟩⟩,?_⟩
  show r5=_
  rw [hr5,e4]
  unfold iM
  simp only [cond_false]
  rw [List.drop_eq_nil_of_le (by omega)]
  simp
noncomputable def Ep:LoopSum:=bO lpNu iM qx
noncomputable def D8:Nat:=rid (cL Tryz.f158 0)
theorem Ft:LoopOKp Tryz.prog 0 Tryz.f158.ntmps (cL Tryz.f158 0) (bO lpNu iM qx):=
 dQ lpNu (cm (CtrsOK.nil) _) mixed (fun b hb S hS=>by cases hS) iM qx Bd (fun |⟨s,n,⟨⟩⟩,hi=>F2 s n hi)
theorem ta (s:ByteArray) (hs:aF s) :(evPat (dy [qE] Tryz.f158) (find [(D8,Ep)]) Tryz.f158 qSt Dk (s,())).sat fun z_=>z_ =(BO (s,())).2:=by
 refine cast (by kernel_rfl) (?_:let r1:Int:=(0:Int) +(↑(List.takeWhile ak (List.drop (Int.toNat (0:Int)) s.1.1)).length:Int);let r2:Int×Int:=bk (s.extract (Int.toNat (0:Int)) r1.toNat) (0:Int) (1000000:Int);((uU fun x=>none)∧(0:Int)≤(0:Int)∧(0:Int)≤(↑s.size:Int)∧s.size≤(1000000:Nat))∧((0:Int)≤(0:Int)∧(0:Int)≤r1∧r1≤(↑s.size:Int))∧((0:Int)≤r1∧r1≤(↑s.size:Int)∧(↑s.size:Int)≤(↑s.size:Int))∧(r2.1,s.extract r1.toNat (↑s.size:Int).toNat,r2.2 ==(0:Int),()) =((ay (toB (List.takeWhile ak s.1.1))).1,toB (List.dropWhile ak s.1.1),(ay (toB (List.takeWhile ak s.1.1))).2 ==(0:Int),()))
 intro r1 r2
 clear_value (hr1:r1=_) (hr2:r2=_)
 have hs:s.size≤1000000:=hs
 have l0:s.data.toList.takeWhile ak++s.data.toList.dropWhile ak=s.data.toList:=List.takeWhile_append_dropWhile
 have e1:r1 =((s.data.toList.takeWhile ak).length:Int):=by rw [hr1,Int.zero_add];rfl
 have hk:r1.toNat =(s.data.toList.takeWhile ak).length:=by rw [e1];rfl
 have hle :(s.data.toList.takeWhile ak).length≤s.size:=by
  have:=congrArg List.length l0
  rw [List.length_append,dK] at this
  omega
 have a1:s.extract (Int.toNat 0) r1.toNat=toB (s.data.toList.takeWhile ak):=l6 (by
  rw [lr,hk]
  show (s.data.toList.take _).drop 0=s.data.toList.takeWhile ak
  rw [List.drop_zero]
  have:=List.take_left (l₁:=s.data.toList.takeWhile ak) (l₂:=s.data.toList.dropWhile ak)
  rwa [l0] at this)
 have a2:s.extract r1.toNat (s.size:Int).toNat=toB (s.data.toList.dropWhile ak):=l6 (by
  rw [lr,hk,Int.toNat_natCast,List.take_of_length_le (by rw [dK];exact Nat.le_refl _)]
  show _=s.data.toList.dropWhile ak
  have:=List.drop_left (l₁:=s.data.toList.takeWhile ak) (l₂:=s.data.toList.dropWhile ak)
  rwa [l0] at this)
 refine ⟨⟨rfl,Int.le_refl _,by omega,hs⟩,⟨Int.le_refl _,by omega,by omega⟩,⟨by omega,by omega,Int.le_refl _⟩,?_⟩
 rw [hr2,bP,a1,a2]
 rfl
def oy:FuncId×Ctr:=(158,aE KE qSt Dk BO)
theorem u3:CtrOK Tryz.prog KE 158 (aE KE qSt Dk BO):=by
 refine gu (C:=dy [qE] Tryz.f158) (cm (.consU wT rfl .nil) _) mixed (fn:=Tryz.f158) Tryz.func158 (by kernel_rfl) (by kernel_rfl) (by kernel_rfl) (by kernel_rfl) (by kernel_rfl) (by kernel_rfl) (Λ:=fun x=>find [(D8,Ep)]) ?_ ?_
 ·rintro ⟨s,⟨⟩⟩ hw hn
  exact LoopsOKp.at (by kernel_rfl) (.cons (by kernel_rfl) (Ft) .nil)
 ·rintro ⟨s,⟨⟩⟩ hw hn
  exact ta s (hn _ List.mem_cons_self)
theorem vC (s:ByteArray) (h:ByteArray) (hs:aF s) (hh:aF h) :(evPat (dy [] Tryz.f87) (fun _=>none) Tryz.f87 qTk Dn (s,h,())).sat fun z_=>z_ =(xp (s,h,())).2:=by
 refine cast (by kernel_rfl) (?_:let r1:Bool:=decide ((↑s.size:Int) <(↑h.size:Int));let r2:Bool:=bif r1 then true else !(s.extract (Int.toNat (0:Int)) (↑h.size:Int).toNat).toList==h.toList;((r1=true→True)∧(r1=false→((0:Int)≤(0:Int)∧(0:Int)≤(↑h.size:Int)∧(↑h.size:Int)≤(↑s.size:Int))∧True))∧(true=true→(r2=true→(s,false,()) =(toB (ao h.1.1 s.1.1).1,(ao h.1.1 s.1.1).2,()))∧(r2=false→((0:Int)≤(↑h.size:Int)∧(↑h.size:Int)≤(↑s.size:Int)∧(↑s.size:Int)≤(↑s.size:Int))∧(s.extract (↑h.size:Int).toNat (↑s.size:Int).toNat,true,()) =(toB (ao h.1.1 s.1.1).1,(ao h.1.1 s.1.1).2,()))))
 intro r1 r2
 clear_value (hr1:r1=_) (hr2:r2=_)
 have hs:s.size≤1000000:=hs
 have hh:h.size≤1000000:=hh
 have s1:=dK s
 have s2:=dK h
 have e1:r1=!decide (h.data.toList.length≤s.data.toList.length):=by
  rw [hr1,s1,s2]
  by_cases hc :(s.size:Int) <(h.size:Int)
  ·rw [decide_eq_true hc,decide_eq_false (by omega)];rfl
  ·rw [decide_eq_false hc,decide_eq_true (by omega)];rfl
 have e2:r2=!h.data.toList.isPrefixOf s.data.toList:=by
  rw [hr2,e1,w6,ByteArray.toList_eq,ByteArray.toList_eq,lr]
  have :((h.size:Int)).toNat=h.data.toList.length:=by omega
  rw [this]
  have :(Int.toNat 0)=0:=rfl
  rw [this,List.drop_zero]
  cases decide (h.data.toList.length≤s.data.toList.length) <;> rfl
 refine ⟨⟨fun _=>trivial,fun h1=>⟨⟨Int.le_refl _,by omega,?_⟩,trivial⟩⟩,fun _=>⟨fun h2=>?_,fun h2=>⟨⟨by omega,?_,Int.le_refl _⟩,?_⟩⟩⟩
 ·rw [hr1] at h1
  have:=of_decide_eq_false h1
  omega
 ·have hp :¬ h.data.toList.isPrefixOf s.data.toList=true:=by rw [e2] at h2;simpa using h2
  unfold ao
  rw [if_neg hp]
  rfl
 ·have hp:h.data.toList.isPrefixOf s.data.toList=true:=by rw [e2] at h2;simpa using h2
  rw [w6,Bool.and_eq_true] at hp
  have:=of_decide_eq_true hp.1
  omega
 ·have hp:h.data.toList.isPrefixOf s.data.toList=true:=by rw [e2] at h2;simpa using h2
  unfold ao
  rw [if_pos hp]
  refine congrArg (fun z=>(z,true,())) (l6 ?_)
  rw [lr]
  show _=s.data.toList.drop h.data.toList.length
  have :((h.size:Int)).toNat=h.data.toList.length:=by omega
  rw [this,List.take_of_length_le (by rw [s1];omega)]
def gK:FuncId×Ctr:=(87,aE KE qTk Dn xp)
theorem kT:CtrOK Tryz.prog KE 87 (aE KE qTk Dn xp):=by
 refine gu (C:=dy [] Tryz.f87) (cm (CtrsOK.nil) _) mixed (fn:=Tryz.f87) Tryz.func87 (by kernel_rfl) (by kernel_rfl) (by kernel_rfl) (by kernel_rfl) (by kernel_rfl) (by kernel_rfl) (Λ:=fun _ _=>none) ?_ ?_
 ·exact fun _ _ _ _ _ _ _ _ h=>by cases h
 ·rintro ⟨s,h,⟨⟩⟩ hw hn
  exact vC s h (hn _ List.mem_cons_self) (hn _ (List.mem_cons_of_mem _ List.mem_cons_self))
theorem xj (s:ByteArray) (hs:aF s) :(evPat (dy [oy,gK] Tryz.f88) (fun _=>none) Tryz.f88 qSt Di (s,())).sat fun z_=>z_ =(xm (s,())).2:=by
 refine cast (by kernel_rfl) (?_:let r1:Bool:=(ay (toB (List.takeWhile ak s.1.1))).2 ==(0:Int);let r2:Int×Int:=ay (toB (List.takeWhile ak (ao [(45:UInt8)] (List.dropWhile ak s.1.1)).1));let r3:Bool:=r2.2 ==(0:Int);let r4:Int×Int:=ay (toB (List.takeWhile ak (ao [(32:UInt8),(40:UInt8)] (List.dropWhile ak (ao [(45:UInt8)] (List.dropWhile ak s.1.1)).1)).1));let r5:ByteArray:=toB (ao [(41:UInt8)] (List.dropWhile ak (ao [(32:UInt8),(40:UInt8)] (List.dropWhile ak (ao [(45:UInt8)] (List.dropWhile ak s.1.1)).1)).1)).1;let r6:Bool:=r4.2 ==(0:Int);aF s∧aF (toB (List.dropWhile ak s.1.1))∧aF (ByteArray.mk #[45])∧aF (toB (ao [(45:UInt8)] (List.dropWhile ak s.1.1)).1)∧aF (toB (List.dropWhile ak (ao [(45:UInt8)] (List.dropWhile ak s.1.1)).1))∧aF (ByteArray.mk #[32,40])∧aF (toB (ao [(32:UInt8),(40:UInt8)] (List.dropWhile ak (ao [(45:UInt8)] (List.dropWhile ak s.1.1)).1)).1)∧aF (toB (List.dropWhile ak (ao [(32:UInt8),(40:UInt8)] (List.dropWhile ak (ao [(45:UInt8)] (List.dropWhile ak s.1.1)).1)).1))∧aF (ByteArray.mk #[41])∧(Mir.Fall.mk (bif r1 then bif (ao [(45:UInt8)] (List.dropWhile ak s.1.1)).2 then bif r3 then bif (ao [(32:UInt8),(40:UInt8)] (List.dropWhile ak (ao [(45:UInt8)] (List.dropWhile ak s.1.1)).1)).2 then bif r6 then (ay (toB (List.takeWhile ak s.1.1))).1 else (ay (toB (List.takeWhile ak s.1.1))).1 else (ay (toB (List.takeWhile ak s.1.1))).1 else (ay (toB (List.takeWhile ak s.1.1))).1 else (ay (toB (List.takeWhile ak s.1.1))).1 else (ay (toB (List.takeWhile ak s.1.1))).1) (bif r1 then bif (ao [(45:UInt8)] (List.dropWhile ak s.1.1)).2 then bif r3 then bif (ao [(32:UInt8),(40:UInt8)] (List.dropWhile ak (ao [(45:UInt8)] (List.dropWhile ak s.1.1)).1)).2 then bif r6 then r2.1 else r2.1 else r2.1 else r2.1 else r2.1 else r2.1) (bif r1 then bif (ao [(45:UInt8)] (List.dropWhile ak s.1.1)).2 then bif r3 then bif (ao [(32:UInt8),(40:UInt8)] (List.dropWhile ak (ao [(45:UInt8)] (List.dropWhile ak s.1.1)).1)).2 then bif r6 then r4.1 else r4.1 else r4.1 else r4.1 else r4.1 else r4.1) (bif r1 then bif (ao [(45:UInt8)] (List.dropWhile ak s.1.1)).2 then bif r3 then bif (ao [(32:UInt8),(40:UInt8)] (List.dropWhile ak (ao [(45:UInt8)] (List.dropWhile ak s.1.1)).1)).2 then bif r6 then (0:Int) else (0:Int) else (0:Int) else (0:Int) else (0:Int) else (0:Int)),bif r1 then bif (ao [(45:UInt8)] (List.dropWhile ak s.1.1)).2 then bif r3 then bif (ao [(32:UInt8),(40:UInt8)] (List.dropWhile ak (ao [(45:UInt8)] (List.dropWhile ak s.1.1)).1)).2 then bif r6 then r5 else r5 else r5 else r5 else r5 else r5,bif r1 then bif (ao [(45:UInt8)] (List.dropWhile ak s.1.1)).2 then bif r3 then bif (ao [(32:UInt8),(40:UInt8)] (List.dropWhile ak (ao [(45:UInt8)] (List.dropWhile ak s.1.1)).1)).2 then bif r6 then (ao [(41:UInt8)] (List.dropWhile ak (ao [(32:UInt8),(40:UInt8)] (List.dropWhile ak (ao [(45:UInt8)] (List.dropWhile ak s.1.1)).1)).1)).2 else false else false else false else false else false,()) =(Mir.Fall.mk (ay (toB (List.takeWhile ak s.1.1))).1 (ay (toB (List.takeWhile ak (f2R s.1.1).1))).1 (ay (toB (List.takeWhile ak (f4R s.1.1).1))).1 (0:Int),toB (f6R s.1.1).1,r1&&((f2R s.1.1).2&&((ay (toB (List.takeWhile ak (f2R s.1.1).1))).2 ==(0:Int)&&((f4R s.1.1).2&&((ay (toB (List.takeWhile ak (f4R s.1.1).1))).2 ==(0:Int)&&(f6R s.1.1).2)))),()))
 intro r1 r2 r3 r4 r5 r6
 clear_value (hr1:r1=_) (hr2:r2=_) (hr3:r3=_) (hr4:r4=_) (hr5:r5=_) (hr6:r6=_)
 have hs:s.size≤1000000:=hs
 have l1 :(f1R s.data.toList).2.1.length≤s.data.toList.length:=oD _
 have l2 :(f2R s.data.toList).1.length≤s.data.toList.length:=Nat.le_trans (jU _ _) l1
 have l3 :(f3R s.data.toList).2.1.length≤s.data.toList.length:=Nat.le_trans (oD _) l2
 have l4 :(f4R s.data.toList).1.length≤s.data.toList.length:=Nat.le_trans (jU _ _) l3
 have l5 :(f5R s.data.toList).2.1.length≤s.data.toList.length:=Nat.le_trans (oD _) l4
 refine ⟨hs,fO hs l1,(by unfold aF;decide),fO hs l2,fO hs l3,(by unfold aF;decide),fO hs l4,fO hs l5,(by unfold aF;decide),?_⟩
 have q2 :(ao [45] (List.dropWhile ak s.data.toList)).2 =(f2R s.data.toList).2:=rfl
 have q4 :(ao [32,40] (List.dropWhile ak (ao [45] (List.dropWhile ak s.data.toList)).1)).2 =(f4R s.data.toList).2:=rfl
 have q6 :(ao [41] (List.dropWhile ak (ao [32,40] (List.dropWhile ak (ao [45] (List.dropWhile ak s.data.toList)).1)).1)).2 =(f6R s.data.toList).2:=rfl
 have d2:r2=ay (toB (List.takeWhile ak (f2R s.data.toList).1)):=hr2
 have d4:r4=ay (toB (List.takeWhile ak (f4R s.data.toList).1)):=hr4
 have d5:r5=toB (f6R s.data.toList).1:=hr5
 rw [q2,q4,q6,←d2,←d4,←d5,←hr3,←hr6]
 simp only [Bool.cond_self]
 cases r1 <;> cases (f2R s.data.toList).2 <;> cases r3 <;> cases (f4R s.data.toList).2 <;> cases r6 <;> cases (f6R s.data.toList).2 <;> rfl
def ox:FuncId×Ctr:=(88,aE KE qSt Di xm)
theorem qP:CtrOK Tryz.prog KE 88 (aE KE qSt Di xm):=by
 refine gu (C:=dy [oy,gK] Tryz.f88) (cm (.consU u3 rfl (.consU kT rfl .nil)) _) mixed (fn:=Tryz.f88) Tryz.func88 (by kernel_rfl) (by kernel_rfl) (by kernel_rfl) (by kernel_rfl) (by kernel_rfl) (by kernel_rfl) (Λ:=fun _ _=>none) ?_ ?_
 ·exact fun _ _ _ _ _ _ _ _ h=>by cases h
 ·rintro ⟨s,⟨⟩⟩ hw hn
  exact xj s (hn _ List.mem_cons_self)
noncomputable def lpPr:Lp:=(⟨0,dy [gK,ox] Tryz.f37,(fun _=>none),(cL Tryz.f37 0),qPr,xPr⟩:Lp)
theorem F4 (s:ByteArray) (first:Bool) (o:List Mir.Fall) (hi:qz (s,first,o,())) :(Go.Mir.stepG lpPr eR (fun y:Den (tyP lpPr.q)=>qz y∧Bf y<Bf (s,first,o,())) (s,first,o,())∧Go.Mir.stepE lpPr eR (s,first,o,())=eR (s,first,o,())):=by
 refine cast (by kernel_rfl) (?_:let r1:Bool:=!s.toList ==(ByteArray.mk #[]).toList;let r2:Bool:=!(ao [(44:UInt8),(32:UInt8)] s.1.1).2;let r3:ByteArray:=bif !first then toB (ao [(44:UInt8),(32:UInt8)] s.1.1).1 else s;let r4:Bool:=bif !first then !r2 else true;let r5:Int×Int:=ay (toB (List.takeWhile ak r3.1.1));let r6:Int×Int:=ay (toB (List.takeWhile ak (f2R r3.1.1).1));let r7:Int×Int:=ay (toB (List.takeWhile ak (f4R r3.1.1).1));let r8:List Mir.Fall:= [Mir.Fall.mk r5.1 r6.1 r7.1 (0:Int)];let r9:Bool:=!(r5.2 ==(0:Int)&&((f2R r3.1.1).2&&(r6.2 ==(0:Int)&&((f4R r3.1.1).2&&(r7.2 ==(0:Int)&&(f6R r3.1.1).2)))));((r1=true→(r4=true→(((!first)=true→aF s∧aF (ByteArray.mk #[44,32])∧(r2=true→False)∧(r2=false→True))∧((!first)=false→True))∧aF r3∧(r9=true→True)∧(r9=false→(o.length+r8.length) *(32:Nat)≤(70368744177664:Nat)∧qz (toB (f6R r3.1.1).1,false,o++r8,())∧Bf (toB (f6R r3.1.1).1,false,o++r8,())<Bf (s,first,o,())))∧(r4=false→((!first)=true→aF s∧aF (ByteArray.mk #[44,32])∧(r2=true→True)∧(r2=false→True))∧((!first)=false→True)))∧(r1=false→True))∧(bif r1 then bif false&&true&&true then bif r9 then Sum.inl ((4:Int),()) else eR (toB (f6R r3.1.1).1,false,o++r8,()) else bif r4 then bif r9 then Sum.inl ((4:Int),()) else eR (toB (f6R r3.1.1).1,false,o++r8,()) else bif !first then bif r2 then Sum.inl ((4:Int),()) else Sum.inl (dflt (I.prod Ty.unit)) else Sum.inl (dflt (I.prod Ty.unit)) else Sum.inr (o,()))=eR (s,first,o,()))
 intro r1 r2 r3 r4 r5 r6 r7 r8 r9
 clear_value (hr1:r1=_) (hr2:r2=_) (hr3:r3=_) (hr4:r4=_) (hr5:r5=_) (hr6:r6=_) (hr7:r7=_) (hr8:r8=_) (hr9:r9=_)
 obtain ⟨h1,h2⟩:=hi
 have h1:s.size≤1000000:=h1
 have h2:o.length+s.size≤1000000:=h2
 have hsz:=dK s
 have e1:r1=!s.data.toList.isEmpty:=by rw [hr1,wo]
 have e8:r8=[(aX r3.data.toList).1]:=by rw [hr8,hr5,hr6,hr7];rfl
 have e9:r9=!(aX r3.data.toList).2.2:=by rw [hr9,hr5,hr6,hr7];rfl
 have e3:r3.data.toList=if first then s.data.toList else (ao [44,32] s.data.toList).1:=by
  rw [hr3];cases first <;> rfl
 have e4:r4=!(!first&&!(ao [44,32] s.data.toList).2):=by
  rw [hr4,hr2];cases first <;> cases (ao [44,32] s.data.toList).2 <;> rfl
 have l3:r3.data.toList.length≤s.data.toList.length:=by
  rw [e3]
  split
  ·exact Nat.le_refl _
  ·exact jU _ _
 have s3:r3.size≤s.size:=by rw [←dK,←dK];exact l3
 have l8:r8.length=1:=by rw [e8];rfl
 have e6:toB (f6R r3.data.toList).1=toB (aX r3.data.toList).2.1:=rfl
 have hrest:r9=false→(aX r3.data.toList).2.1.length+1≤s.size:=fun h=>by
  rw [e9] at h
  have:=mm (l:=r3.data.toList) (by simpa using h)
  omega
 have key:eR (s,first,o,())=if s.data.toList.isEmpty then .inr (o,()) else if !first&&!(ao [44,32] s.data.toList).2 then .inl (4,()) else if (aX r3.data.toList).2.2 then eR (toB (aX r3.data.toList).2.1,false,o++[(aX r3.data.toList).1],()) else .inl (4,()):=by
  unfold eR
  show oJ (prR (s.size+1) s.data.toList first o)=_
  unfold prR
  rw [←e3]
  split
  ·rfl
  ·split
   ·rfl
   ·simp only []
    by_cases hf :(aX r3.data.toList).2.2=true
    ·rw [if_pos hf,if_pos hf]
     have:=mm hf
     show oJ (prR s.size (aX r3.data.toList).2.1 false (o++[(aX r3.data.toList).1]))=oJ (prR ((toB (aX r3.data.toList).2.1).size+1) (aX r3.data.toList).2.1 false (o++[(aX r3.data.toList).1]))
     rw [vo s.size ((toB (aX r3.data.toList).2.1).size+1) _ _ _ (by omega) (by rw [eS];omega)]
    ·rw [if_neg hf,if_neg hf];rfl
 have hS :∀ z:ByteArray,z.size≤1000000→aF z:=fun _ h=>h
 have h44:aF (ByteArray.mk #[44,32]):=by unfold aF;decide
 have e4f :(!first)=true→r2=true→r4=false:=fun a b=>by rw [hr4,a,b];rfl
 have e4t :(!first)=true→r2=false→r4=true:=fun a b=>by rw [hr4,a,b];rfl
 have e2:r2=!(ao [44,32] s.data.toList).2:=hr2
 rw [key,e6,←e8]
 clear key hr1 hr2 hr3 hr4 hr5 hr6 hr7 hr8 hr9
 refine ⟨⟨fun _=>⟨fun q4=>⟨⟨fun q=>⟨hS _ h1,h44,fun q2=>?_,fun _=>trivial⟩,fun _=>trivial⟩,hS _ (by omega),fun _=>trivial,fun q9=>⟨by omega,⟨?_,?_⟩,?_⟩⟩,fun q4=>⟨fun q=>⟨hS _ h1,h44,fun _=>trivial,fun _=>trivial⟩,fun _=>trivial⟩⟩,fun _=>trivial⟩,?_⟩
 ·have:=e4f q q2
  rw [this] at q4
  cases q4
 ·have:=hrest q9
  show (toB (aX r3.data.toList).2.1).size≤1000000
  rw [eS];omega
 ·have:=hrest q9
  show (o++r8).length +(toB (aX r3.data.toList).2.1).size≤1000000
  rw [eS,List.length_append];omega
 ·have:=hrest q9
  show (toB (aX r3.data.toList).2.1).size<s.size
  rw [eS];omega
 ·rw [e1,e4,e9,e2]
  clear e1 e3 e4 e9 e2 e4f e4t hrest e8 e6 l3 s3
  cases s.data.toList.isEmpty <;> cases first <;> cases (ao [44,32] s.data.toList).2 <;> cases (aX r3.data.toList).2.2 <;> rfl
noncomputable def Et:LoopSum:=bO lpPr eR qz
noncomputable def Ea:Nat:=rid (cL Tryz.f37 0)
theorem Fv:LoopOKp Tryz.prog 0 Tryz.f37.ntmps (cL Tryz.f37 0) (bO lpPr eR qz):=
 dQ lpPr (cm (.consU kT rfl (.consU qP rfl .nil)) _) mixed (fun b hb S hS=>by cases hS) eR qz Bf (fun |⟨s,first,o,⟨⟩⟩,hi=>F4 s first o hi)
theorem vB (s:ByteArray) (hs:aF s) :(evPat (dy [gK,ox] Tryz.f37) (find [(Ea,Et)]) Tryz.f37 qSt vt (s,())).sat fun z_=>z_ =(th (s,())).2:=by
 refine cast (by kernel_rfl) (?_:let r1:Bool:=isL (eR (s,true,[],()));((uU fun x=>none)∧s.size≤(1000000:Nat)∧(0:Nat)+s.size≤(1000000:Nat))∧(r1=true→([],zb (dflt (I.prod Ty.unit)) (eR (s,true,[],()))) =((dP (dJ s.1.1)).1,(dP (dJ s.1.1)).2,()))∧(r1=false→((AM (dflt ((Ty.nm Nm.Fall).slice.prod Ty.unit)) (eR (s,true,[],()))).1,(0:Int),()) =((dP (dJ s.1.1)).1,(dP (dJ s.1.1)).2,())))
 intro r1
 clear_value (hr1:r1=_)
 have hs:s.size≤1000000:=hs
 have e0:eR (s,true,[],())=oJ (dJ s.data.toList):=by
  unfold eR dJ
  rw [dK]
 rw [e0] at hr1 ⊢
 refine ⟨⟨rfl,hs,by omega⟩,?_⟩
 cases hx:dJ s.data.toList with
 | none=>
  rw [hx] at hr1
  have e5:r1=true:=hr1
  exact ⟨fun _=>rfl,fun z=>absurd (e5▸z) (by decide)⟩
 | some l=>
  rw [hx] at hr1
  have e5:r1=false:=hr1
  exact ⟨fun z=>absurd (e5▸z) (by decide),fun _=>rfl⟩
def qD:FuncId×Ctr:=(37,aE KE qSt vt th)
theorem wS:CtrOK Tryz.prog KE 37 (aE KE qSt vt th):=by
 refine gu (C:=dy [gK,ox] Tryz.f37) (cm (.consU kT rfl (.consU qP rfl .nil)) _) mixed (fn:=Tryz.f37) Tryz.func37 (by kernel_rfl) (by kernel_rfl) (by kernel_rfl) (by kernel_rfl) (by kernel_rfl) (by kernel_rfl) (Λ:=fun x=>find [(Ea,Et)]) ?_ ?_
 ·rintro ⟨s,⟨⟩⟩ hw hn
  exact LoopsOKp.at (by kernel_rfl) (.cons (by kernel_rfl) (Fv) .nil)
 ·rintro ⟨s,⟨⟩⟩ hw hn
  exact vB s (hn _ List.mem_cons_self)
end Go.Proofs.YthaeofeigglbhaaGreatDoor
namespace Go.Mir
open Go.RowKit
inductive Rn (γ:Type) where
 | ok (r:γ)
 | no (w:List Nat)
inductive Tri (α:Type) where
 | lf
 | nd (l:Tri α) (v:Option α) (r:Tri α)
def Tri.get {α:Type} (t:Tri α):Nat→Option α:=
 match t with
 | .lf=>fun _=>none
 | .nd l v r=>fun k=>Nat.casesOn (motive:=fun _=>Option α) k v fun k=>Bool.casesOn (motive:=fun _=>Option α) (Nat.beq (Nat.mod k 2) 0) (r.get (Nat.div k 2)) (l.get (Nat.div k 2))
def IntKind.eqb (a b:IntKind):Bool:=decide (a=b)
mutual
def V.eqb:V→V→Bool
 | .any,.any=>true
 | .int k n,.int k' n'=>decide (k=k')&&decide (n=n')
 | .bool a,.bool b=>decide (a=b)
 | .kb a,.kb b=>decide (a=b)
 | .str s,.str t=>decide (s.data.toList=t.data.toList)
 | .nilptr,.nilptr=>true
 | .ptr h o,.ptr h' o'=>Nat.beq h h'&&Nat.beq o o'
 | .nilsl,.nilsl=>true
 | .esl,.esl=>true
 | .gsl h v e o l,.gsl h' v' e' o' l'=>Nat.beq h h'&&Nat.beq v v'&&Nat.beq e e'&&Nat.beq o o'&&Nat.beq l l'
 | .gp h v o,.gp h' v' o'=>Nat.beq h h'&&Nat.beq v v'&&Nat.beq o o'
 | .mpv h,.mpv h'=>Nat.beq h h'
 | .nilfn,.nilfn=>true
 | .nilmap,.nilmap=>true
 | .fn f cs,.fn f' cs'=>Nat.beq f f'&&tV cs cs'
 | .agg cs,.agg cs'=>tV cs cs'
 | .tup cs,.tup cs'=>tV cs cs'
 | _,_=>false
def tV:List V→List V→Bool
 | [],[]=>true
 | x::xs,y::ys=>V.eqb x y&&tV xs ys
 | _,_=>false
end
mutual
theorem V.eqb_eq :∀ (x y:V),V.eqb x y=true→x=y
 | .any,y,h=>by cases y <;> simp_all [V.eqb]
 | .int k n,y,h=>by cases y <;> simp_all [V.eqb]
 | .bool _,y,h=>by cases y <;> simp_all [V.eqb]
 | .kb _,y,h=>by cases y <;> simp_all [V.eqb]
 | .hint _ _,y,h=>by cases y <;> simp [V.eqb] at h
 | .str s,y,h=>by
  cases y <;> simp only [V.eqb,Bool.false_eq_true,decide_eq_true_eq] at h
  rename_i t
  have:s=t:=ByteArray.ext (Array.toList_inj.1 h)
  rw [this]
 | .nilptr,y,h=>by cases y <;> simp_all [V.eqb]
 | .ptr _ _,y,h=>by cases y <;> simp_all [V.eqb]
 | .fp _ _ _ _,y,h=>by cases y <;> simp [V.eqb] at h
 | .rp _ _ _ _,y,h=>by cases y <;> simp [V.eqb] at h
 | .nilsl,y,h=>by cases y <;> simp_all [V.eqb]
 | .esl,y,h=>by cases y <;> simp_all [V.eqb]
 | .osl _ _,y,h=>by cases y <;> simp [V.eqb] at h
 | .fsl _ _,y,h=>by cases y <;> simp [V.eqb] at h
 | .gsl _ _ _ _ _,y,h=>by cases y <;> simp_all [V.eqb]
 | .gp _ _ _,y,h=>by cases y <;> simp_all [V.eqb]
 | .mpv _,y,h=>by cases y <;> simp_all [V.eqb]
 | .nilfn,y,h=>by cases y <;> simp_all [V.eqb]
 | .nilmap,y,h=>by cases y <;> simp_all [V.eqb]
 | .fn f cs,y,h=>by
  cases y <;> simp only [V.eqb,Bool.false_eq_true,Bool.and_eq_true,Nat.beq_eq] at h
  rw [h.1,nv _ _ h.2]
 | .agg cs,y,h=>by
  cases y <;> simp only [V.eqb,Bool.false_eq_true] at h
  rw [nv _ _ h]
 | .tup cs,y,h=>by
  cases y <;> simp only [V.eqb,Bool.false_eq_true] at h
  rw [nv _ _ h]
theorem nv :∀ (xs ys:List V),tV xs ys=true→xs=ys
 | [],[],_=>rfl
 | [],_::_,h=>by simp [tV] at h
 | _::_,[],h=>by simp [tV] at h
 | x::xs,y::ys,h=>by
  simp only [tV,Bool.and_eq_true] at h
  rw [V.eqb_eq _ _ h.1,nv _ _ h.2]
end
def y5:List (V×V)→List (V×V)→Bool
 | [],[]=>true
 |(a,b)::xs,(c,d)::ys=>V.eqb a c&&V.eqb b d&&y5 xs ys
 | _,_=>false
theorem xN :∀ (xs ys:List (V×V)),y5 xs ys=true→xs=ys
 | [],[],_=>rfl
 | [],_::_,h=>by simp [y5] at h
 | _::_,[],h=>by simp [y5] at h
 |(a,b)::xs,(c,d)::ys,h=>by
  simp only [y5,Bool.and_eq_true] at h
  rw [V.eqb_eq _ _ h.1.1,V.eqb_eq _ _ h.1.2,xN _ _ h.2]
end Go.Mir
namespace Go.Mir
open Go.RowKit
variable {P:Program}
def Ob.chk:Ob→Bool
 | .rng n len=>decide (0≤n)&&decide (n <(len:Int))
 | .sub l h len=>decide (0≤l)&&decide (l≤h)&&decide (h≤(len:Int))
 | .mk n c=>decide (0≤n)&&decide (c=n)&&decide (n≤17179869184)
 | .mkc n c=>decide (0≤n)&&decide (n≤c)&&decide (c≤17179869184)
 | .ne0 n=>!decide (n=0)
 | .leN a b=>Nat.ble a b
 | .prop _=>false
theorem Ob.chk_holds :∀ {p:Ob},p.chk=true→p.holds
 | .rng n len,h=>by simpa [Ob.chk,Ob.holds] using h
 | .sub l h len,hh=>by simp only [Ob.chk,Bool.and_eq_true,decide_eq_true_eq] at hh;exact ⟨hh.1.1,hh.1.2,hh.2⟩
 | .mk n c,h=>by simp only [Ob.chk,Bool.and_eq_true,decide_eq_true_eq] at h;exact ⟨h.1.1,h.1.2,h.2⟩
 | .mkc n c,h=>by simp only [Ob.chk,Bool.and_eq_true,decide_eq_true_eq] at h;exact ⟨h.1.1,h.1.2,h.2⟩
 | .ne0 n,h=>by simpa [Ob.chk,Ob.holds] using h
 | .leN a b,h=>Nat.le_of_ble_eq_true h
def gz:V→V
 | .bool b=> .kb b
 | v=>v
structure RS where
 tm:Tri V
 hp:Tri Blk
 nx:Nat
abbrev zM:=FuncId→List V→Tri Blk→Nat→Rn (V×Tri Blk×Nat)
def jx (r:Res):Option (List Ob×V×List (Nat×Blk)):=match r with
 | .val ps v dh=>some (ps,v,dh)
 | _=>none
abbrev R1:=Option (List Ob×V×List (Nat×Blk))
def xd (tb:Tbl) (H:ai) (ev:Operand→V) (t:TypeId) (a x:Operand):R1:=match tb t with
 | some td=>match cd td H (ev a) (ev x) with
  | .skip ps dh=>some (ps,.tup [],dh)
  | _=>none
 | none=>none
def qY (ev:Operand→V) (x:Operand):R1:=some ([],ev x,[])
def D4 (ev:Operand→V) (c a b:Operand):R1:=jx (ml (ev c) (ev a) (ev b))
def w8 (tb:Tbl) (m:Nat) (t:TypeId):R1:=match tb t with|some td=>some ([],.ptr m 0,[(m,.cells td.zero)])|none=>none
def FT (m:Nat) (ev:Operand→V) (x:Operand):R1:=match cellsOf (ev x) with|some cs=>some ([],.ptr m 0,[(m,.cells cs)])|none=>none
def w9 (tb:Tbl) (ev:Operand→V) (t:TypeId) (parts:Array (Nat×Operand)):R1:=match tb t with|some td=>jx (jG tb td (parts.toList.map fun p=>(p.1,ev p.2)))|none=>none
def jw (tb:Tbl) (m:Nat) (H:ai) (ev:Operand→V) (t:TypeId) (n:Nat) (parts:Array (Nat×Operand)):R1:=match tb t with|some td=>jx (cf tb td H m n (parts.toList.map fun p=>(p.1,ev p.2)))|none=>none
def BG (tb:Tbl) (H:ai) (ev:Operand→V) (t:TypeId) (a:Operand):R1:=match tb t with|some td=>jx (dA td H (ev a))|none=>none
def G1 (ev:Operand→V) (x:Operand):R1:=jx (ub (ev x))
def FS (tb:Tbl) (ev:Operand→V) (op:BinOp) (t:TypeId) (x y:Operand):R1:=match tb t with|some td=>jx (dN td op (ev x) (ev y))|none=>none
def rUn (ev:Operand→V) (op:UnOp) (x:Operand):R1:=jx (Ar op (ev x))
def BD (tb:Tbl) (m:Nat) (ev:Operand→V) (s d:TypeId) (x:Operand):R1:=match tb s,tb d with|some ts,some td=>jx (nw tb ts td m (ev x))|_,_=>none
def bp:List V→Bool
 | []=>true
 | .ptr _ _::_=>true
 | _=>false
theorem w4 {asz caps:List V} (h:bp caps=true):mn asz caps=some (asz++caps):=by
 cases caps with
 | nil=>simp [mn]
 | cons c cs=>cases c <;> simp only [bp,Bool.false_eq_true] at h;rfl
theorem w5 {f:FuncId} {caps:List V} (h:bp caps=true):mi f [] caps = .val [] (.fn f caps) []:=by
 cases caps with
 | nil=>rfl
 | cons c cs=>cases c <;> simp only [bp,Bool.false_eq_true] at h;rfl
theorem Bu {E:Env} {f:FuncId} {caps:List V} {l:Array Value} (h:bp caps=true) (hl:ab E caps l.toList):fnV f l = .func (.func f) #[] l:=by
 obtain ⟨l⟩:=l
 cases caps with
 | nil=>cases l with
  | nil=>rfl
  | cons=>simp [ab] at hl
 | cons c cs=>
  cases c <;> simp only [bp,Bool.false_eq_true] at h
  cases l with
  | nil=>simp [ab] at hl
  | cons v vs=>
   simp only [ab,aa] at hl
   obtain ⟨⟨_,⟨a,rfl⟩,_⟩,_⟩:=hl
   rfl
def BE (ev:Operand→V) (fn:Fn) (first caps:Array Operand):R1:=match fn with
 | .func f=>jx (mi f (first.toList.map ev) (caps.toList.map ev))
 | _=>none
def BH (tb:Tbl) (m:Nat) (H:ai) (ev:Operand→V) (t:TypeId) (l c:Operand):R1:=match tb t with|some td=>jx (fh tb td H m (ev l) (ev c))|none=>none
def xc (tb:Tbl) (H:ai) (ev:Operand→V) (t:TypeId) (x:Operand) (lo hi mx:Option Operand):R1:=match tb t with|some td=>jx (dB tb td H (ev x) (lo.map ev) (hi.map ev) (mx.map ev))|none=>none
def xa (tb:Tbl) (ev:Operand→V) (t:TypeId) (x:Operand) (f:Nat):R1:=match tb t with|some td=>jx (gH tb td (ev x) f)|none=>none
def s7 (tb:Tbl) (ev:Operand→V) (t:TypeId) (x:Operand) (f:Nat):R1:=match tb t with|some td=>jx (fB tb td (ev x) f)|none=>none
def xb (tb:Tbl) (H:ai) (ev:Operand→V) (t:TypeId) (x i:Operand):R1:=match tb t with|some td=>jx (cx tb td H (ev x) (ev i))|none=>none
def BF (tb:Tbl) (ev:Operand→V) (t:TypeId) (x i:Operand):R1:=match tb t with|some td=>jx (jd tb td (ev x) (ev i))|none=>none
def vu (ev:Operand→V) (t:Operand) (i:Nat):R1:=jx (jH (ev t) i)
theorem zC {td:TD} {H:ai} {a x:V} {ps:List Ob} {dh:List (Nat×Blk)} (h:cd td H a x = .skip ps dh):dC td H a x = .skip ps dh:=by
 unfold dC
 split
 ·rw [h]
 ·exact h
def nS (tb:Tbl) (N m:Nat) (H:ai) (ev:Operand→V) (op:Op):R1:=match op with
 | .store t a x=>xd tb H ev t a x
 | .move x=>qY ev x
 | .assign x=>qY ev x
 | .pick c a b=>D4 ev c a b
 | .alloc t=>w8 tb m t
 | .box _ x=>FT m ev x
 | .build t parts=>w9 tb ev t parts
 | .buildSlice t n parts=>jw tb m H ev t n parts
 | .load t a=>BG tb H ev t a
 | .nilCheck x=>G1 ev x
 | .binOp op t x y _=>FS tb ev op t x y
 | .unOp op _ x=>rUn ev op x
 | .convert s d x=>BD tb m ev s d x
 | .makeFunc fn first caps=>BE ev fn first caps
 | .makeSlice t l c=>BH tb m H ev t l c
 | .slice t x lo hi mx=>xc tb H ev t x lo hi mx
 | .fieldAddr t x f=>xa tb ev t x f
 | .field t x f=>s7 tb ev t x f
 | .indexAddr t x i=>xb tb H ev t x i
 | .index t x i=>BF tb ev t x i
 | .extract t i=>vu ev t i
 | op=>aq ⟨tb,fun _=>none,1,N⟩ m H ev op
theorem mg (tb:Tbl) (N m:Nat) (H:ai) (ev:Operand→V) (op:Op) {q:List Ob×V×List (Nat×Blk)} (h:nS tb N m H ev op=some q):aq ⟨tb,fun _=>none,1,N⟩ m H ev op=some q:=by
 have key :∀ {r:Res},jx r=some q→(match r with | .val ps v dh=>some (ps,v,dh)|_=>none:R1)=some q:=fun {r} h=>by cases r <;> first|exact h|cases h
 cases op <;> simp only [nS] at h <;> simp only [aq,bq,bj]
 case store t a x=>simp only [xd] at h;cases ht:tb t <;> rw [ht] at h <;> simp only [reduceCtorEq] at h ⊢;cases hs:cd _ H (ev a) (ev x) <;> rw [hs] at h <;> simp only [reduceCtorEq] at h ⊢;rw [zC hs];exact h
 case move=>simpa [qY] using h
 case assign=>simpa [qY] using h
 case pick=>exact key h
 case alloc t=>simp only [w8] at h;cases ht:tb t <;> rw [ht] at h <;> simp only [reduceCtorEq] at h ⊢;exact h
 case box t x=>simp only [FT] at h;cases ht:cellsOf (ev x) <;> rw [ht] at h <;> simp only [reduceCtorEq] at h ⊢;exact h
 case build t parts=>simp only [w9] at h;cases ht:tb t <;> rw [ht] at h <;> simp only [reduceCtorEq] at h ⊢;exact key h
 case buildSlice t n parts=>simp only [jw] at h;cases ht:tb t <;> rw [ht] at h <;> simp only [reduceCtorEq] at h ⊢;exact key h
 case load t a=>simp only [BG] at h;cases ht:tb t <;> rw [ht] at h <;> simp only [reduceCtorEq] at h ⊢;exact key h
 case nilCheck=>exact key h
 case binOp o t x y t2=>simp only [FS] at h;cases ht:tb t <;> rw [ht] at h <;> simp only [reduceCtorEq] at h ⊢;exact key h
 case unOp=>exact key h
 case convert s d x=>
  simp only [BD] at h
  cases ht:tb s with
  | none=>rw [ht] at h;cases h
  | some ts=>
   rw [ht] at h
   cases ht2:tb d with
   | none=>rw [ht2] at h;cases h
   | some td=>rw [ht2] at h;exact key h
 case makeFunc fn first caps=>
  cases fn <;> simp only [BE,reduceCtorEq] at h
  exact key h
 case makeSlice t l c=>simp only [BH] at h;cases ht:tb t <;> rw [ht] at h <;> simp only [reduceCtorEq] at h ⊢;exact key h
 case slice t x lo hi mx=>simp only [xc] at h;cases ht:tb t <;> rw [ht] at h <;> simp only [reduceCtorEq] at h ⊢;exact key h
 case fieldAddr t x f=>simp only [xa] at h;cases ht:tb t <;> rw [ht] at h <;> simp only [reduceCtorEq] at h ⊢;exact key h
 case field t x f=>simp only [s7] at h;cases ht:tb t <;> rw [ht] at h <;> simp only [reduceCtorEq] at h ⊢;exact key h
 case indexAddr t x i=>simp only [xb] at h;cases ht:tb t <;> rw [ht] at h <;> simp only [reduceCtorEq] at h ⊢;exact key h
 case index t x i=>simp only [BF] at h;cases ht:tb t <;> rw [ht] at h <;> simp only [reduceCtorEq] at h ⊢;exact key h
 case extract=>exact key h
 all_goals (simp only [aq,bq,bj] at h;exact h)
inductive Act1 where
 | plain (r:R1)
 | call (g:FuncId) (args:List V)
def Af (tb:Tbl) (N m:Nat) (H:ai) (ev:Operand→V) (c:Call):Act1:=match c.callee with
 | .value f=>match ev f with
  | .fn g caps=>bif bp caps then .call g (c.args.toList.map ev++caps) else .plain none
  | _=> .plain none
 | _=> .plain (aq ⟨tb,fun _=>none,1,N⟩ m H ev (.call c))
def evA (tb:Tbl) (N m:Nat) (H:ai) (ev:Operand→V) (op:Op):Act1:=match op with
 | .call c=>Af tb N m H ev c
 | .store t a x=> .plain (xd tb H ev t a x)
 | .move x=> .plain (qY ev x)
 | .assign x=> .plain (qY ev x)
 | .pick c a b=> .plain (D4 ev c a b)
 | .alloc t=> .plain (w8 tb m t)
 | .box _ x=> .plain (FT m ev x)
 | .build t parts=> .plain (w9 tb ev t parts)
 | .buildSlice t n parts=> .plain (jw tb m H ev t n parts)
 | .load t a=> .plain (BG tb H ev t a)
 | .nilCheck x=> .plain (G1 ev x)
 | .binOp op t x y _=> .plain (FS tb ev op t x y)
 | .unOp op _ x=> .plain (rUn ev op x)
 | .convert s d x=> .plain (BD tb m ev s d x)
 | .makeFunc fn first caps=> .plain (BE ev fn first caps)
 | .makeSlice t l c=> .plain (BH tb m H ev t l c)
 | .slice t x lo hi mx=> .plain (xc tb H ev t x lo hi mx)
 | .fieldAddr t x f=> .plain (xa tb ev t x f)
 | .field t x f=> .plain (s7 tb ev t x f)
 | .indexAddr t x i=> .plain (xb tb H ev t x i)
 | .index t x i=> .plain (BF tb ev t x i)
 | .extract t i=> .plain (vu ev t i)
 | op=> .plain (aq ⟨tb,fun _=>none,1,N⟩ m H ev op)
theorem y6 (tb:Tbl) (N m:Nat) (H:ai) (ev:Operand→V) (op:Op) {q:List Ob×V×List (Nat×Blk)} (h:evA tb N m H ev op = .plain (some q)):aq ⟨tb,fun _=>none,1,N⟩ m H ev op=some q:=by
 cases op
 case call c=>
  simp only [evA,Af] at h
  split at h
  ·split at h
   ·rename_i caps _
    cases hb:bp caps with
    | true=>rw [hb] at h;cases h
    | false=>rw [hb] at h;cases h
   ·cases h
  ·exact Act1.plain.inj h
 all_goals (exact mg tb N m H ev _ (Act1.plain.inj h))
theorem Aq (tb:Tbl) (N m:Nat) (H:ai) (ev:Operand→V) (op:Op) {g:FuncId} {args:List V} (h:evA tb N m H ev op = .call g args) :∃ c f caps,op = .call c∧c.callee = .value f∧ev f = .fn g caps∧args=c.args.toList.map ev++caps∧bp caps=true:=by
 cases op
 case call c=>
  simp only [evA,Af] at h
  split at h
  ·rename_i f hf
   split at h
   ·rename_i g' caps he
    cases hb:bp caps with
    | false=>rw [hb] at h;cases h
    | true=>
     rw [hb] at h
     cases h
     exact ⟨c,f,caps,rfl,hf,he,rfl,hb⟩
   ·cases h
  ·cases h
 all_goals (cases h)
def D2 (ps:List Ob):Bool:=List.casesOn (motive:=fun _=>Bool) ps true fun _ _=>ps.all Ob.chk
def Am (N:Nat) (ops:List Oper):Bool:=ops.all fun o=>dstIn N o.dst
end Go.Mir
namespace Go.Mir
open Go.RowKit
variable {P:Program}
inductive DoesV (C:Cfg) (alt:Option (Nat×(Blk→Bool))) (all:List Oper) (tm:List (Nat×V)) (H:ai) (m:Nat) (o:Oper):Rec→Prop
 | old {r:Rec}:Does C true all tm H m o r→DoesV C alt all tm H m o r
 | dir {ps:List Ob} {v v':V} {dh:List (Nat×Blk)} {R:List Nat}:dstIn C.N o.dst=true→dE all tm o=some true→aq C m H (aJ (ae all o) tm) o.op=some (ps,v,dh)→
   (∀ H2:ai,(∀ h∈R,H2 h=H h)→(∀ h0 okB,alt=some (h0,okB)→H2 h0=H h0∨∃ b,H2 h0=some b∧okB b=true)→aq C m H2 (aJ (ae all o) tm) o.op=aq C m H (aJ (ae all o) tm) o.op)→(∀ p∈ps,p.holds)→
   (v'=v∨∃ b,v = .bool b∧v' = .kb b)→DoesV C alt all tm H m o ⟨o.dst,v',dh,R,ae all o⟩
theorem DoesV.dstIn {C:Cfg} {alt:Option (Nat×(Blk→Bool))} {all:List Oper} {tm:List (Nat×V)} {H:ai} {m:Nat} {o:Oper} {r:Rec} (h:DoesV C alt all tm H m o r):dstIn C.N o.dst=true∧r.dst=o.dst∧r.rs=ae all o:=by
 cases h with
 | old h=>exact h.dstIn
 | dir h _ _ _ _ _=>exact ⟨h,rfl,rfl⟩
inductive RunV (Cf:Nat→Cfg) (lo:Nat→Nat) (al:Nat→Option (Nat×(Blk→Bool))) (all:List Oper) (st:St):Nat→List Oper→Dl→List Rec→Dl→List Rec→Prop
 | nil {i:Nat} {d:Dl} {recs:List Rec}:RunV Cf lo al all st i [] d recs d recs
 | cons {i:Nat} {o:Oper} {rest:List Oper} {d:Dl} {recs:List Rec} {r:Rec} {df:Dl} {rf:List Rec}:DoesV (Cf i) (al i) all (d.tm++st.tm) (aj st.H d.hp) (lo i) o r→
   RunV Cf lo al all st (i+1) rest ⟨bB r.dst r.v++d.tm,r.dh++d.hp⟩ (recs++[r]) df rf→RunV Cf lo al all st i (o::rest) d recs df rf
theorem q7 {Cf:Nat→Cfg} {lo:Nat→Nat} {al:Nat→Option (Nat×(Blk→Bool))} {all:List Oper} {st:St} :∀ (rest:List Oper) (i:Nat) (d:Dl) (recs:List Rec) (df:Dl) (rf:List Rec),RunV Cf lo al all st i rest d recs df rf→recs.length=i→
  find (d.tm++st.tm) =(recs.map cX).foldl cp (find st.tm)→aj st.H d.hp =(recs.map Rec.dh).foldl cp st.H→
  (∃ more,rf=recs++more∧more.length=rest.length)∧find (df.tm++st.tm) =(rf.map cX).foldl cp (find st.tm)∧aj st.H df.hp =(rf.map Rec.dh).foldl cp st.H∧
  ∀ j o,rest[j]?=some o→∃ r tm H,rf[i+j]?=some r∧DoesV (Cf (i+j)) (al (i+j)) all tm H (lo (i+j)) o r∧find tm =((rf.take (i+j)).map cX).foldl cp (find st.tm)∧H =((rf.take (i+j)).map Rec.dh).foldl cp st.H
 | [],i,d,recs,df,rf,hr,hl,h1,h2=>by
  cases hr
  exact ⟨⟨[],by simp,rfl⟩,h1,h2,fun j o h=>by simp at h⟩
 | o::rest,i,d,recs,df,rf,hr,hl,h1,h2=>by
  cases hr with
  | @cons _ _ _ _ _ r _ _ hdo hrun=>
   obtain ⟨⟨more,e1,e2⟩,g1,g2,g3⟩:=q7 rest (i+1) _ _ _ _ hrun (by simp [hl])
    (by rw [List.append_assoc,qq,h1];simp [cX]) (by rw [bF,h2];simp [jK])
   refine ⟨⟨r::more,by rw [e1];simp,by simp [e2]⟩,g1,g2,fun j o' hj=>?_⟩
   cases j with
   | zero=>
    simp only [List.getElem?_cons_zero,Option.some.injEq] at hj
    subst hj
    have et:rf.take i=recs:=by rw [e1,List.append_assoc,List.take_append_of_le_length (by omega),List.take_of_length_le (by omega)]
    refine ⟨r,_,_,?_,hdo,?_,?_⟩
    ·rw [e1,Nat.add_zero,List.append_assoc,List.getElem?_append_right (by omega)]
     simp [hl]
    ·rw [Nat.add_zero,et];exact h1
    ·rw [Nat.add_zero,et];exact h2
   | succ j=>
    obtain ⟨r',tm,H,k1,k2,k3,k4⟩:=g3 j o' (by simpa using hj)
    rw [show i+1+j=i +(j+1) by omega] at k1 k2 k3 k4
    exact ⟨r',tm,H,k1,k2,k3,k4⟩
structure InvV (Cf:Nat→Cfg) (lo:Nat→Nat) (N:Nat) (B:Base) (E0:Env) (st:St) (rf:List Rec) (L:Nat→Bool) (a:Act) (w:World):Prop where
 ex :∃ E,HRel B E∧E.w=w∧Ext E0 E∧E.H=ba L st.H 0 (rf.map Rec.dh)∧(∀ n,E.U n→E0.U n∨∃ i,i<rf.length∧L i=true∧lo i≤n∧n<lo i +(Cf i).K)∧cW E (ba L (find st.tm) 0 (rf.map cX)) a
 size:a.tmps.size=N
 defers:a.defers=[]
theorem vF {L L':Nat→Bool} {k:Nat} {okB:Blk→Bool} :∀ (us:List (List (Nat×Blk))) (i:Nat) (f f':Nat→Option Blk),(f k=f' k∨∃ b,f k=some b∧okB b=true)→
  (∀ j u,us[j]?=some u→find u k≠none→L (i+j)=L' (i+j)∨(L' (i+j)=false∧∀ b,find u k=some b→okB b=true))→ba L f i us k=ba L' f' i us k∨∃ b,ba L f i us k=some b∧okB b=true
 | [],_,_,_,h,_=>h
 | u::us,i,f,f',h,hu=>by
  unfold ba
  refine vF us (i+1) _ _ ?_ (fun j u' hj hf=>by
   have:=hu (j+1) u' (by simpa using hj) hf
   rwa [show i +(j+1)=i+1+j by omega] at this)
  cases hf:find u k with
  | none=>
   have e1 :(if L i=true then cp f u else f) k=f k:=by split <;> simp [fy hf]
   have e2 :(if L' i=true then cp f' u else f') k=f' k:=by split <;> simp [fy hf]
   rw [e1,e2]
   exact h
  | some v=>
   rcases hu 0 u (by simp) (by rw [hf];simp) with h1 |⟨h1,h2⟩
   ·simp only [Nat.add_zero] at h1
    rw [h1]
    split
    ·left;rw [dW hf,dW hf]
    ·exact h
   ·simp only [Nat.add_zero] at h1
    rw [h1]
    simp only [Bool.false_eq_true,if_false]
    split
    ·right;exact ⟨v,dW hf,h2 v hf⟩
    ·exact h
theorem zg {Cf:Nat→Cfg} {lo:Nat→Nat} {al:Nat→Option (Nat×(Blk→Bool))} {N:Nat} (hC :∀ i,CfgOK P (Cf i)) (hN :∀ i,(Cf i).N=N) {B:Base} {E0:Env} {all:List Oper} {st:St} {rf:List Rec} (hfr0 :∀ i,i<rf.length→∀ n,lo i≤n→n<lo i +(Cf i).K→¬ E0.U n) (hlo :∀ i j,i<j→j<rf.length→lo i +(Cf i).K≤lo j) {L L':Nat→Bool} {i:Nat} {o:Oper} {r:Rec} (ho:all[i]?=some o) (hr:rf[i]?=some r) (hLi:L i=false) (hL' :∀ j,L' j=if j=i then true else L j)
  {tm:List (Nat×V)} {H:ai} (hdo:DoesV (Cf i) (al i) all tm H (lo i) o r) (htm:find tm=ba (fun j=>Nat.blt j i) (find st.tm) 0 (rf.map cX)) (hH:H=ba (fun j=>Nat.blt j i) st.H 0 (rf.map Rec.dh))
  (hcomm :∀ j s,rf[j]?=some s→(j<i∧L j=false)∨(i<j∧L j=true)→Comm r s) (halt :∀ h0 okB,al i=some (h0,okB)→∀ j s b,rf[j]?=some s→find s.dh h0=some b→(j<i→L j=true)∧(i<j→L j=true→okB b=true)) {Q:Exit→Act→World→Prop} {a:Act} {w:World} (hI:InvV Cf lo N B E0 st rf L a w) {K:Act→World→Prop} (hK :∀ a w,InvV Cf lo N B E0 st rf L' a w→K a w) :
  wpOp P all.toArray Q i K a w:=by
 obtain ⟨⟨E,hE,rfl,hX,hEH,hU,hT⟩,hsz,hdf⟩:=hI
 obtain ⟨hd,he,hrs⟩:=hdo.dstIn
 have hiL:i<rf.length:=(List.getElem?_eq_some_iff.1 hr).1
 have hLsel :∀ {α:Type} (us:List (List (Nat×α))) (f:Nat→Option α) (k:Nat) (g:Rec→List (Nat×α)),us=rf.map g→(∀ j s,rf[j]?=some s→find (g s) k≠none→j≠i→Comm r s→False)→ba L f 0 us k=ba (fun j=>Nat.blt j i) f 0 us k:=by
  intro α us f k g hus hno
  refine eb us 0 f f rfl (fun j u hj hu=>?_)
  rw [Nat.zero_add]
  subst hus
  rw [List.getElem?_map] at hj
  cases hs:rf[j]? with
  | none=>rw [hs] at hj;simp at hj
  | some s=>
   rw [hs] at hj
   simp only [Option.map_some,Option.some.injEq] at hj
   subst hj
   by_cases hji:j=i
   ·subst hji
    rw [hLi]
    cases hb:Nat.blt j j with
    | false=>rfl
    | true=>rw [Nat.blt_eq] at hb;omega
   ·rcases Nat.lt_or_gt_of_ne hji with hlt|hgt
    ·have hb:Nat.blt j i=true:=by rw [Nat.blt_eq];exact hlt
     rw [hb]
     cases hLj:L j with
     | true=>rfl
     | false=>exact (hno j s hs hu hji (hcomm j s hs (.inl ⟨hlt,hLj⟩))).elim
    ·have hb:Nat.blt j i=false:=by cases hb:Nat.blt j i with|false=>rfl|true=>rw [Nat.blt_eq] at hb;omega
     rw [hb]
     cases hLj:L j with
     | false=>rfl
     | true=>exact (hno j s hs hu hji (hcomm j s hs (.inr ⟨hgt,hLj⟩))).elim
 have hslot :∀ s∈ae all o,ba L (find st.tm) 0 (rf.map cX) s=find tm s:=fun s hs=>by
  rw [htm]
  refine hLsel _ _ s cX rfl (fun j s' hs' hne hji hc=>?_)
  exact hc.sd s (gX hne) (by rw [hrs];exact hs)
 have hlook :∀ s∈ae all o,aa E (bT tm s) (a.tmps.getD s undef):=fun s hs=>by
  unfold bT
  cases hf:find tm s with
  | none=>simp [aa]
  | some v=>exact hT s v (by rw [hslot s hs];exact hf)
 have hL0 :∀ {α:Type} (us:List (List (Nat×α))) (f:Nat→Option α) (g:Rec→List (Nat×α)),us=rf.map g→(∀ j s,i<j→rf[j]?=some s→Comm r s→∀ k,find (g r) k≠none→find (g s) k=none)→ba L' f 0 us=cp (ba L f 0 us) (g r):=by
  intro α us f g hus hno
  subst hus
  refine vE (rf.map g) f i (g r) (by rw [List.getElem?_map,hr];rfl) hL' (fun j u hj hu hLj k hk=>?_)
  rw [List.getElem?_map] at hu
  cases hs:rf[j]? with
  | none=>rw [hs] at hu;simp at hu
  | some s=>
   rw [hs] at hu
   simp only [Option.map_some,Option.some.injEq] at hu
   subst hu
   exact hno j s hj hs (hcomm j s hs (.inr ⟨hj,hLj⟩)) k hk
 have none_of :∀ {α:Type} {l:List (Nat×α)} {k:Nat},(k∈l.map (·.1)→False)→find l k=none:=fun {α l k} h=>by
  cases hf:find l k with
  | none=>rfl
  | some v=>exact (h (cS (by rw [hf];simp))).elim
 have hT':ba L' (find st.tm) 0 (rf.map cX)=cp (ba L (find st.tm) 0 (rf.map cX)) (cX r):=hL0 _ _ cX rfl (fun j s _ _ hc k hk=>by
  cases hf:find (cX s) k with
  | none=>rfl
  | some v=>exact (hc.d k (gX hk) (gX (by rw [hf];simp))).elim)
 have hH':ba L' st.H 0 (rf.map Rec.dh)=cp (ba L st.H 0 (rf.map Rec.dh)) r.dh:=hL0 _ _ Rec.dh rfl (fun j s _ _ hc k hk=>none_of fun hm=>hc.k k (cS hk) hm)
 have after :∀ (E':Env) (v':Value),GoodK B E (lo i) (Cf i).K r.dh E'.w E'→aa E' r.v v'→InvV Cf lo N B E0 st rf L' (a.put o.dst v') E'.w:=fun E' v' G hv=>by
  refine ⟨⟨E',G.rel,rfl,hX.trans G.ext,by rw [G.h,hH',hEH,jK],fun n hn=>?_,?_⟩,by rw [jv];exact hsz,by rw [fL];exact hdf⟩
  ·rcases G.u n hn with h|h
   ·rcases hU n h with h1 |⟨j,h1,h2,h3⟩
    ·exact .inl h1
    ·refine .inr ⟨j,h1,?_,h3⟩
     rw [hL']
     split
     ·rfl
     ·exact h2
   ·exact .inr ⟨i,hiL,by rw [hL',if_pos rfl],h.1,h.2⟩
  ·rw [hT']
   exact sY G.ext hT hsz (by rw [←hN i];exact hd) (v:=r.v) hv (fun s u hu=>by
    unfold cp cX at hu
    rw [he] at hu
    cases hf:find (bB o.dst r.v) s with
    | some x=>rw [hf] at hu;exact .inl hu
    | none=>rw [hf] at hu;exact .inr ⟨rfl,hu⟩)
 unfold wpOp
 simp only [List.getElem?_toArray,ho]
 have hfresh :∀ n,lo i≤n→n<lo i +(Cf i).K→¬ E.U n:=fun n h1 h2 hu=>by
  rcases hU n hu with h3 |⟨j,h3,h4,h5,h6⟩
  ·exact hfr0 i hiL n h1 h2 h3
  ·have hji:j≠i:=fun e=>by subst e;rw [hLi] at h4;cases h4
   rcases Nat.lt_or_gt_of_ne hji with hlt|hgt
   ·have:=hlo j i hlt hiL;omega
   ·have:=hlo i j hgt h3;omega
 cases hdo with
 | @dir ps v v' dh R _ hg hev hcg hps hv=>
  rw [bt hlook hg]
  simp only [if_true]
  left
  have hHR :∀ h∈R,E.H h=H h:=fun h hh=>by
   rw [hEH,hH]
   refine hLsel _ _ h Rec.dh rfl (fun j s hs hne hji hc=>?_)
   exact hc.sk h (cS hne) hh
  have hev2:=hcg E.H hHR (fun h0 okB hal=>by
   have hal:=halt h0 okB hal
   rw [hEH,hH]
   refine vF (rf.map Rec.dh) 0 st.H st.H (.inl rfl) (fun j u hj hu=>?_)
   rw [Nat.zero_add]
   rw [List.getElem?_map] at hj
   cases hs:rf[j]? with
   | none=>rw [hs] at hj;simp at hj
   | some s=>
    rw [hs] at hj
    simp only [Option.map_some,Option.some.injEq] at hj
    subst hj
    rcases Nat.lt_trichotomy j i with hlt|heq|hgt
    ·left
     obtain ⟨b,hb⟩ :∃ b,find s.dh h0=some b:=by
      cases hf:find s.dh h0 with
      | none=>exact absurd hf hu
      | some b=>exact ⟨b,rfl⟩
     rw [(hal j s b hs hb).1 hlt]
     exact (by rw [Nat.blt_eq];exact hlt:Nat.blt j i=true).symm
    ·left
     subst heq
     rw [hLi]
     cases hb:Nat.blt j j with
     | false=>rfl
     | true=>rw [Nat.blt_eq] at hb;omega
    ·have hbf:Nat.blt j i=false:=by cases hb:Nat.blt j i with|false=>rfl|true=>rw [Nat.blt_eq] at hb;omega
     cases hLj:L j with
     | false=>exact .inl hbf.symm
     | true=>exact .inr ⟨hbf,fun b hb=>(hal j s b hs hb).2 hgt hLj⟩)
  rw [hev] at hev2
  have hevm :∀ x,aa E (aJ (ae all o) tm x) (a.eval x):=fun x=>by
   cases x with
   | tmp t=>
    simp only [aJ]
    cases hm:memN (ae all o) t with
    | false=>simp [aa]
    | true=>exact hlook t (memN_iff.1 hm)
   | const v=>exact eC v
   | func f=>simp only [aJ,aa,Act.eval];exact ⟨#[],rfl,by simp [ab]⟩
   | _=>simp [aJ,aa]
  exact cw hE (hC i).tb (hC i).K (hC i).Γ hfresh hevm hev2 hps fun v'' E' G hv'=>by
   have hw:E'.w=E'.w:=rfl
   exact hK _ _ (after E' _ G (zK hv hv'))
 | old hdo=>
 cases hdo with
 | skip _ hg=>
  rw [bt hlook hg]
  simp only [Bool.false_eq_true,if_false]
  exact hK _ _ (after E undef ⟨hE,Ext.refl E,rfl,rfl,fun n h=> .inl h⟩ (by simp [aa,undef,ab]))
 | @dir ps v v' dh _ _ hg hdr hev hps hv=>
  rw [bt hlook hg]
  simp only [if_true]
  left
  have hev2:=qk (C:=Cf i) (m:=lo i) (H1:=E.H) (H2:=H) hdr fun k hk=>by
   rw [hEH,hH]
   refine hLsel _ _ k Rec.dh rfl (fun j s hs hne hji hc=>?_)
   exact hc.sk k (cS hne) hk
  rw [hev] at hev2
  have hevm :∀ x,aa E (aJ (ae all o) tm x) (a.eval x):=fun x=>by
   cases x with
   | tmp t=>
    simp only [aJ]
    cases hm:memN (ae all o) t with
    | false=>simp [aa]
    | true=>exact hlook t (memN_iff.1 hm)
   | const v=>exact eC v
   | func f=>simp only [aJ,aa,Act.eval];exact ⟨#[],rfl,by simp [ab]⟩
   | _=>simp [aJ,aa]
  exact cw hE (hC i).tb (hC i).K (hC i).Γ hfresh hevm hev2 hps fun v'' E' G hv'=>hK _ _ (after E' _ G (zK hv hv'))
 | @run ps v v' dh R _ hg hst hps hv=>
  rw [bt hlook hg]
  simp only [if_true]
  left
  simp only [jC] at hst
  split at hst
  case h_2=>cases hst
  rename_i ps' v2 dh' hev
  cases hfr:fi H (ko H 8 (o.op.operands.toList.flatMap fun x=>(aJ (ae all o) tm x).hs) []) (lo i) (Cf i).K v2 dh' with
  | false=>rw [hfr] at hst;cases hst
  | true=>
   rw [hfr] at hst
   simp only [cond_true,Option.some.injEq,Prod.mk.injEq] at hst
   obtain ⟨rfl,rfl,rfl,hR⟩:=hst
   rw [hR] at hfr hev
   have hHR :∀ h∈R,E.H h=H h:=fun h hh=>by
    rw [hEH,hH]
    refine hLsel _ _ h Rec.dh rfl (fun j s hs hne hji hc=>?_)
    exact hc.sk h (cS hne) hh
   have hrest:restr H R=restr E.H R:=by
    funext h
    unfold restr
    cases hm:memN R h with
    | false=>rfl
    | true=>simp only [cond_true];exact (hHR h (memN_iff.1 hm)).symm
   simp only [fi,Bool.and_eq_true] at hfr
   obtain ⟨⟨f1,f2⟩,f3⟩:=hfr
   have fR :∀ h∈R,∃ b,H h=some b∧ka R (lo i) (Cf i).K b.hs=true:=fun h hh=>by
    have:=List.all_eq_true.1 f1 h hh
    split at this
    ·rename_i b hb;exact ⟨b,hb,this⟩
    ·cases this
   have hfresh :∀ n,lo i≤n→n<lo i +(Cf i).K→¬ E.U n:=fun n h1 h2 hu=>by
    rcases hU n hu with h3 |⟨j,h3,h4,h5,h6⟩
    ·exact hfr0 i hiL n h1 h2 h3
    ·have hji:j≠i:=fun e=>by subst e;rw [hLi] at h4;cases h4
     rcases Nat.lt_or_gt_of_ne hji with hlt|hgt
     ·have:=hlo j i hlt hiL;omega
     ·have:=hlo i j hgt h3;omega
   have hEs:=hE.restr R
   have Xs:=Ext.restr E R
   rw [hrest] at hev
   have hevm :∀ x,aa { E with H:=Mir.restr E.H R } (aJ (ae all o) tm x) (a.eval x):=fun x=>by
    cases x with
    | tmp t=>
     simp only [aJ]
     cases hm:memN (ae all o) t with
     | false=>simp [aa]
     | true=>exact aU Xs _ _ (hlook t (memN_iff.1 hm))
    | const v=>exact eC v
    | func f=>simp only [aJ,aa,Act.eval];exact ⟨#[],rfl,by simp [ab]⟩
    | _=>simp [aJ,aa]
   exact cw (E:={ E with H:=Mir.restr E.H R }) hEs (hC i).tb (hC i).K (hC i).Γ hfresh hevm hev hps fun v'' Es G hv'=>by
    obtain ⟨E',G',tr⟩:=DS hE hfresh G (fun h hh=>by obtain ⟨b,hb,_⟩:=fR h hh;exact ⟨b,by rw [hHR h hh];exact hb⟩)
     (fun h hh k hk x hx=>by
      obtain ⟨b,hb,hb2⟩:=fR h hh
      rw [hHR h hh,hb] at hk
      cases hk
      exact dq hb2 x hx)
     (fun h k hk=>by
      have hq:=af hk
      have:=List.all_eq_true.1 f2 _ hq
      simp only [Bool.and_eq_true] at this
      exact ⟨dq this.1 h (by simp),dq this.2⟩)
    have hw:E'.w=Es.w:=G'.w
    have hv2:aa E' v2 v'':=tr _ _ (dq f3) hv'
    have:=hK _ _ (after E' _ (by rw [hw];exact G') (zK hv hv2))
    rw [hw] at this
    exact this
def AltOK (al:Nat→Option (Nat×(Blk→Bool))) (ms:List Nat) (rf:List Rec):Prop:=∀ i h0 okB,al i=some (h0,okB)→∀ j s b,rf[j]?=some s→find s.dh h0=some b→j≠i→
 (j<i→((ms[i]?).getD 0).testBit j=true)∧(i<j→((ms[j]?).getD 0).testBit i=true∨okB b=true)
theorem AltOK.none {ms:List Nat} {rf:List Rec}:AltOK (fun _=>Option.none) ms rf:=fun i h0 okB h=>by cases h
theorem yW {Cf:Nat→Cfg} {lo:Nat→Nat} {al:Nat→Option (Nat×(Blk→Bool))} {N:Nat} (hC :∀ i,CfgOK P (Cf i)) (hN :∀ i,(Cf i).N=N) {B:Base} {E0:Env} {all:List Oper} {st:St} {df:Dl} {rf:List Rec} (hrun:RunV Cf lo al all st 0 all ⟨[],[]⟩ [] df rf) (hE:b8 0 all=true) (hck:c7 (bm all []) 0 rf=true) (hal:AltOK al (bm all []) rf) {Q:Exit→Act→World→Prop}
  (hfr0 :∀ i,i<all.length→∀ n,lo i≤n→n<lo i +(Cf i).K→¬ E0.U n) (hlo :∀ i j,i<j→j<all.length→lo i +(Cf i).K≤lo j)
  (hQ :∀ E a,HRel B E→Ext E0 E→E.H=aj st.H df.hp→(∀ n,E.U n→E0.U n∨∃ i,i<all.length∧lo i≤n∧n<lo i +(Cf i).K)→cW E (find (df.tm++st.tm)) a→a.tmps.size=N→a.defers=[]→Q .normal a E.w) :
  ∀ (fuel:Nat) (listed:Array Bool) (a:Act) (w:World),listed.size=all.length→unl all.length listed=fuel→
   (∀ j oj,all[j]?=some oj→listed.getD j false=true→∀ e∈oj.after,Region.binds .any e=true→listed.getD e.on false=true)→
   InvV Cf lo N B E0 st rf (fun i=>listed.getD i false) a w→wpAny P .any all.toArray Q fuel listed a w:=by
 obtain ⟨⟨more,e1,e2⟩,g1,g2,g3⟩:=q7 all 0 ⟨[],[]⟩ [] df rf hrun rfl rfl rfl
 have hlen:rf.length=all.length:=by rw [e1];simpa using e2
 have full :∀ (listed:Array Bool),listed.size=all.length→Region.ready .any all.toArray listed=[]→∀ i,i<all.length→listed.getD i false=true:=by
  intro listed hsz hrd i
  induction i using Nat.strongRecOn with
  | _ i ih=>
   intro hi
   cases hb:listed.getD i false with
   | true=>rfl
   | false=>
    have hun:listed.getD i true=false:=by
     have:i<listed.size:=by omega
     simp [this] at hb ⊢
     exact hb
    have hoi:all[i]?=some all[i]:=List.getElem?_eq_getElem hi
    have:i∈Region.ready .any all.toArray listed:=mem_ready.2 ⟨hun,all[i],by simp,fun e he hbd=>by
     have:=dz all 0 hE i _ hoi e he hbd
     exact ih e.on (by omega) (by omega)⟩
    rw [hrd] at this
    cases this
 have close :∀ (listed:Array Bool) (a:Act) (w:World),listed.size=all.length→(∀ i,i<all.length→listed.getD i false=true)→InvV Cf lo N B E0 st rf (fun i=>listed.getD i false) a w→Q .normal a w:=by
  intro listed a w hsz hall hI
  obtain ⟨⟨E,hE',rfl,hX,hEH,hU,hT⟩,hs,hd⟩:=hI
  have hsel :∀ {α:Type} (us:List (List (Nat×α))) (f:Nat→Option α),us.length=all.length→ba (fun i=>listed.getD i false) f 0 us=us.foldl cp f:=fun us f hl=>by
   have h1:=iB us f 0 us.length
   rw [List.take_of_length_le (Nat.le_refl _)] at h1
   rw [←h1]
   funext k
   refine eb us 0 f f rfl (fun j u hj _=>?_)
   have hjl:j<us.length:=(List.getElem?_eq_some_iff.1 hj).1
   rw [Nat.zero_add,hall j (by omega)]
   exact (by rw [Nat.blt_eq];omega:Nat.blt j (0+us.length)=true).symm
  refine hQ E a hE' hX ?_ (fun n hn=>?_) (fun s v hv=>?_) hs hd
  ·rw [hEH,hsel _ _ (by simp [hlen]),g2]
  ·rcases hU n hn with h |⟨i,h1,_,h3,h4⟩
   ·exact .inl h
   ·exact .inr ⟨i,by omega,h3,h4⟩
  ·refine hT s v ?_
   rw [hsel _ _ (by simp [hlen]),←g1]
   exact hv
 intro fuel
 induction fuel with
 | zero=>
  intro listed a w hsz hun _ hI
  have hall :∀ i,i<all.length→listed.getD i false=true:=fun i hi=>by
   have h0 :(List.range all.length).filter (fun i=>!listed.getD i true)=[]:=List.eq_nil_of_length_eq_zero hun
   have:=List.filter_eq_nil_iff.1 h0 i (List.mem_range.2 hi)
   have hi':i<listed.size:=by omega
   simp [hi'] at this ⊢
   exact this
  refine ⟨?_,close listed a w hsz hall hI⟩
  cases hr:Region.ready .any all.toArray listed with
  | nil=>rfl
  | cons i l=>
   have hm:i∈Region.ready .any all.toArray listed:=by rw [hr];exact List.mem_cons_self
   obtain ⟨h1,o,h2,_⟩:=mem_ready.1 hm
   have hi:i<all.length:=by
    have:=(Array.getElem?_eq_some_iff.1 h2).1
    simpa using this
   have h3:=hall i hi
   have hi':i<listed.size:=by omega
   simp [hi'] at h1 h3
   rw [h1] at h3;cases h3
 | succ fuel ih=>
  intro listed a w hsz hun hclosed hI
  refine ⟨fun hr=>close listed a w hsz (full listed hsz hr) hI,fun i hi=>?_⟩
  obtain ⟨h1,o,h2,hdir⟩:=mem_ready.1 hi
  have ho:all[i]?=some o:=by simpa using h2
  have hil:i<all.length:=(List.getElem?_eq_some_iff.1 ho).1
  have his:i<listed.size:=by omega
  have hLi:listed.getD i false=false:=by simp [his] at h1 ⊢;exact h1
  obtain ⟨r,tm,H,k1,k2,k3,k4⟩:=g3 i o ho
  simp only [Nat.zero_add] at k1 k2 k3 k4
  have hget :∀ j,(listed.setIfInBounds i true).getD j false=if j=i then true else listed.getD j false:=fun j=>by
   by_cases e:j=i
   ·subst e;simp [his]
   ·simp [e,Array.getElem?_setIfInBounds_ne (Ne.symm e),Array.getD_eq_getD_getElem?]
  have hgetT :∀ j,j≠i→(listed.setIfInBounds i true).getD j true=listed.getD j true:=fun j e=>by
   simp [Array.getElem?_setIfInBounds_ne (Ne.symm e),Array.getD_eq_getD_getElem?]
  refine zg hC hN (E0:=E0) (by rw [hlen];exact hfr0) (by rw [hlen];exact hlo) (L:=fun i=>listed.getD i false) (L':=fun j=>(listed.setIfInBounds i true).getD j false) ho k1 hLi hget k2 ?_ ?_ (fun j s hs hor=>?_) (fun h0 okB ha j s b hs hb=>⟨fun hlt=>?_,fun hgt hLj=>?_⟩) hI (fun a w hI'=>ih _ a w (by simpa using hsz) ?_ ?_ hI')
  ·rw [k3]
   have:=iB (rf.map cX) (find st.tm) 0 i
   rw [←List.map_take,] at this
   simpa using this.symm
  ·rw [k4]
   have:=iB (rf.map Rec.dh) st.H 0 i
   rw [←List.map_take] at this
   simpa using this.symm
  ·rcases hor with ⟨hlt,hLj⟩ |⟨hgt,hLj⟩
   ·rcases eB rf 0 hck j i s r hlt hs k1 with h|h
    ·simp only [Nat.zero_add] at h
     have:=b7 hE hclosed i i (Nat.le_refl _) o ho hdir j h
     rw [this] at hLj;cases hLj
    ·exact h.symm
   ·rcases eB rf 0 hck i j r s hgt k1 hs with h|h
    ·simp only [Nat.zero_add] at h
     have hjl:j<all.length:=by rw [←hlen];exact (List.getElem?_eq_some_iff.1 hs).1
     have hoj:all[j]?=some all[j]:=List.getElem?_eq_getElem hjl
     have:=b7 hE hclosed j j (Nat.le_refl _) _ hoj (hclosed j _ hoj hLj) i h
     rw [this] at hLi;cases hLi
    ·exact h
  ·exact b7 hE hclosed i i (Nat.le_refl _) o ho hdir j ((hal i h0 okB ha j s b hs hb (by omega)).1 hlt)
  ·rcases (hal i h0 okB ha j s b hs hb (by omega)).2 hgt with h|h
   ·have hjl:j<all.length:=by rw [←hlen];exact (List.getElem?_eq_some_iff.1 hs).1
    have hoj:all[j]?=some all[j]:=List.getElem?_eq_getElem hjl
    have:=b7 hE hclosed j j (Nat.le_refl _) _ hoj (hclosed j _ hoj hLj) i h
    rw [this] at hLi;cases hLi
   ·exact h
  ·have:=kH (p:=fun j=>!listed.getD j true) (q:=fun j=>!(listed.setIfInBounds i true).getD j true) (i:=i) (by simp [h1]) (by simp [his]) (fun j e=>by simp [hgetT j e]) (List.range all.length) List.nodup_range (List.mem_range.2 hil)
   unfold unl at hun ⊢
   omega
  ·intro j oj hj hlj e he hb
   rw [hget] at hlj ⊢
   by_cases e1:e.on=i
   ·rw [if_pos e1]
   ·rw [if_neg e1]
    by_cases e2:j=i
    ·subst e2
     rw [ho] at hj;cases hj
     exact hdir e he hb
    ·rw [if_neg e2] at hlj
     exact hclosed j oj hj hlj e he hb
theorem yX {Cf:Nat→Cfg} {lo:Nat→Nat} {al:Nat→Option (Nat×(Blk→Bool))} {N:Nat} (hC :∀ i,CfgOK P (Cf i)) (hN :∀ i,(Cf i).N=N) (hP:P.follows .mixedOrders=true) {B:Base} {all:List Oper} {st:St} {df:Dl} {rf:List Rec} (hrun:RunV Cf lo al all st 0 all ⟨[],[]⟩ [] df rf) (hE:b8 0 all=true) (hck:c7 (bm all []) 0 rf=true) (hal:AltOK al (bm all []) rf) {Q:Exit→Act→World→Prop}
  {E:Env} (hE':HRel B E) (hH:E.H=st.H) {a:Act} (hT:cW E (find st.tm) a) (hsz:a.tmps.size=N) (hdf:a.defers=[])
  (hfr0 :∀ i,i<all.length→∀ n,lo i≤n→n<lo i +(Cf i).K→¬ E.U n) (hlo :∀ i j,i<j→j<all.length→lo i +(Cf i).K≤lo j)
  (hQ :∀ E' a,HRel B E'→Ext E E'→E'.H=aj st.H df.hp→(∀ n,E'.U n→E.U n∨∃ i,i<all.length∧lo i≤n∧n<lo i +(Cf i).K)→cW E' (find (df.tm++st.tm)) a→a.tmps.size=N→a.defers=[]→Q .normal a E'.w) (id:Nat) :
  (Code.region id all.toArray true).wp P Q a E.w:=by
 refine wp_region_any hP ?_
 obtain ⟨R,X⟩:=re hE' { E.w with drawn:=E.w.drawn+1 } rfl rfl rfl rfl
 have hfalse :∀ i,(Array.replicate all.toArray.size false).getD i false=false:=fun i=>by
  rcases Nat.lt_or_ge i all.length with h|h
  ·simp [h]
  ·simp [h]
 have hno :∀ {α:Type} (us:List (List (Nat×α))) (f:Nat→Option α) (i:Nat),ba (fun i=>(Array.replicate all.toArray.size false).getD i false) f i us=f:=by
  intro α us
  induction us with
  | nil=>intro f i;rfl
  | cons u us ih=>intro f i;unfold ba;rw [hfalse];simp only [Bool.false_eq_true,if_false];exact ih f _
 refine yW hC hN (E0:={ E with w:={ E.w with drawn:=E.w.drawn+1 } }) hrun hE hck hal hfr0 hlo (fun E1 a1 r1 x1 h1 u1 t1 s1 d1=>hQ E1 a1 r1 (X.trans x1) h1 u1 t1 s1 d1) _ _ a _ (by simp) ?_ (fun j oj hj hl=>by rw [hfalse] at hl;cases hl) ⟨⟨_,R,rfl,Ext.refl _,?_,fun n hn=> .inl hn,fun s v hv=>?_⟩,hsz,hdf⟩
 ·unfold unl
  have :(List.range all.length).filter (fun i=>!(Array.replicate all.toArray.size false).getD i true)=List.range all.length:=List.filter_eq_self.2 fun i hi=>by
   have:=List.mem_range.1 hi
   simp [this]
  rw [this]
  simp
 ·rw [hno _ _ _];exact hH
 ·rw [hno] at hv
  exact aU X _ _ (hT s v hv)
end Go.Mir
namespace Go.Mir
open Go.RowKit
variable {P:Program}
theorem iE {E:Env} {v:V} {u:Value} (h:aa E v u):aa E (gz v) u:=by
 cases v <;> first|exact h|simpa [gz,aa] using h
theorem Cy {a:Act} {w:World} {c:Call} {o:Oper} (ho:o.op = .call c) {f:Operand} (hf:c.callee = .value f) {g:FuncId} {l:Array Value} (hfe:a.eval f = .func (.func g) #[] l)
  (hfn :∃ fn,P.funcs[g]?=some fn∧fn.body.isSome=true∧(fn.name == "runtime.NumGoroutine")=false) {R:Ending→World→Prop} (hcalls:Calls P g (c.args.toList.map a.eval++l.toList).toArray w R)
  {next:Act→World→Prop} {Q:Exit→Act→World→Prop} (hn :∀ e w',R e w'→∃ v',e = .returned v'∧next (a.put o.dst v') w'):o.wp P a w next Q:=by
 obtain ⟨fn,h1,h2,h3⟩:=hfn
 have hb :¬ fn.body=none:=by cases hb:fn.body with|none=>rw [hb] at h2;cases h2|some _=>simp
 have h4 :¬ fn.name = "runtime.NumGoroutine":=by simpa using h3
 have hrun :(execOp a.eval o).run P w = .ok (.enter g (c.args.toList.map a.eval++l.toList).toArray) w:=by
  have e :(c.args.toList.map a.eval++l.toList).toArray=#[]++c.args.map a.eval++l:=by
   apply Array.ext'
   simp
  rw [e]
  simp [execOp,ho,resolve,hf,Deferred.ofValue,hfe,invoke,callFunc,h1,h4,hb]
 unfold Oper.wp
 rw [hrun]
 simp only [Oper.upon]
 refine hcalls.mono fun e w' hh=>?_
 obtain ⟨v',rfl,h⟩:=hn e w' hh
 exact h
structure RR (B:Base) (E0:Env) (n0 N:Nat) (s:RS) (E:Env) (a:Act):Prop where
 rel:HRel B E
 ext:Ext E0 E
 h:E.H=s.hp.get
 u :∀ n,E.U n→E0.U n∨(n0≤n∧n<s.nx)
 le:n0≤s.nx
 tm:cW E s.tm.get a
 size:a.tmps.size=N
 defers:a.defers=[]
structure Came (B:Base) (E:Env) (hp':ai) (nx nx':Nat) (v:V) (v':Value) (w':World) (E':Env):Prop where
 rel:HRel B E'
 w:E'.w=w'
 h:E'.H=hp'
 ext:Ext E E'
 u :∀ n,E'.U n→E.U n∨(nx≤n∧n<nx')
 v:aa E' v v'
variable {tb:Tbl} {N:Nat} {call:zM} {all:List Oper} {B:Base} {E0:Env} {n0:Nat}
theorem RR.put {s:RS} {E:Env} {a:Act} (hR:RR B E0 n0 N s E a) {E':Env} {hp:Tri Blk} {nx:Nat} (hrel:HRel B E') (hext:Ext E E') (hh:E'.H=hp.get) (hu :∀ n,E'.U n→E.U n∨(s.nx≤n∧n<nx)) (hle:s.nx≤nx)
  {d:Option Nat} (hd:dstIn N d=true) {v:V} {v':Value} (hv:aa E' v v') {tm:Tri V} (htm :∀ k,tm.get k=match find (bB d (gz v)) k with|some u=>some u|none=>s.tm.get k):RR B E0 n0 N ⟨tm,hp,nx⟩ E' (a.put d v'):=by
 have hle0:=hR.le
 refine ⟨hrel,hR.ext.trans hext,hh,fun n hn=>?_,Nat.le_trans hle0 hle,sY hext hR.tm hR.size hd (iE hv) (fun k u hk=>?_),by rw [jv];exact hR.size,by rw [fL];exact hR.defers⟩
 ·show E0.U n∨(n0≤n∧n<nx)
  rcases hu n hn with h|h
  ·rcases hR.u n h with h|h
   ·exact .inl h
   ·exact .inr ⟨h.1,by omega⟩
  ·exact .inr ⟨by omega,h.2⟩
 ·rw [htm] at hk
  cases hf:find (bB d (gz v)) k with
  | some x=>rw [hf] at hk;exact .inl hk
  | none=>rw [hf] at hk;exact .inr ⟨rfl,hk⟩
end Go.Mir
namespace Go.Mir
open Go.RowKit
variable {P:Program}
theorem sn {α:Type} {l:List (Nat×α)} {k:Nat} (h:memN (l.map (·.1)) k=true):find l k≠none:=by
 induction l with
 | nil=>simp [memN] at h
 | cons q l ih=>
  obtain ⟨a,b⟩:=q
  simp only [List.map_cons,memN,Bool.or_eq_true] at h
  simp only [find]
  cases hb:Nat.beq a k with
  | true=>simp
  | false=>
   simp only [cond_false]
   refine ih ?_
   rcases h with h|h
   ·rw [hb] at h;cases h
   ·exact h
def Chain:Nat→List (Nat×Cfg)→Nat→Prop
 | n,[],e=>n=e
 | n,q::r,e=>q.1=n∧∃ n2,n+q.2.K≤n2∧Chain n2 r e
theorem Chain.le :∀ {n:Nat} {l:List (Nat×Cfg)} {e:Nat},Chain n l e→n≤e
 | n,[],e,h=>Nat.le_of_eq h
 | n,q::r,e,⟨_,n2,h1,h2⟩=>by have:=h2.le;omega
theorem Chain.at :∀ {n:Nat} {l:List (Nat×Cfg)} {e:Nat},Chain n l e→∀ (j:Nat) (q:Nat×Cfg),l[j]?=some q→n≤q.1∧q.1+q.2.K≤e
 | n,[],e,_,j,q,hq=>by simp at hq
 | n,p::r,e,⟨h0,n2,h1,h2⟩,j,q,hq=>by
  have hle:=h2.le
  cases j with
  | zero=>
   simp only [List.getElem?_cons_zero,Option.some.injEq] at hq
   subst hq
   omega
  | succ j=>
   have:=h2.at j q (by simpa using hq)
   omega
theorem Chain.lt :∀ {n:Nat} {l:List (Nat×Cfg)} {e:Nat},Chain n l e→∀ (i j:Nat) (p q:Nat×Cfg),i<j→l[i]?=some p→l[j]?=some q→p.1+p.2.K≤q.1
 | n,[],e,_,i,j,p,q,_,hp,_=>by simp at hp
 | n,x::r,e,⟨h0,n2,h1,h2⟩,i,j,p,q,hij,hp,hq=>by
  cases j with
  | zero=>omega
  | succ j=>
   cases i with
   | zero=>
    simp only [List.getElem?_cons_zero,Option.some.injEq] at hp
    subst hp
    have:=(h2.at j q (by simpa using hq)).1
    omega
   | succ i=>exact h2.lt i j p q (by omega) (by simpa using hp) (by simpa using hq)
variable {tb:Tbl} {N:Nat} {call:zM} {all:List Oper}
end Go.Mir
namespace Go.Mir
open Go.RowKit
variable {P:Program}
def Tri.toL {α:Type}:Tri α→List (Nat×α)
 | .lf=> []
 | .nd l v r=>(match v with|some x=> [(0,x)]|none=> []) ++((l.toL.map fun p=>(2*p.1+1,p.2)) ++(r.toL.map fun p=>(2*p.1+2,p.2)))
variable {tb:Tbl} {N:Nat} {call:zM} {B:Base} {E0:Env} {n0:Nat}
def HA (td:TD):TD:=⟨td.kind,td.size,td.bytes,td.zero,none⟩
def zF (tb:Tbl):Tbl:=fun t=>match tb t with
 | some td=>some (HA td)
 | none=>none
theorem Dy {tb:Tbl} (h:aK P tb):aK P (zF tb):=fun t td ht=>by
 unfold zF at ht
 split at ht
 case h_2=>cases ht
 rename_i td0 h0
 cases ht
 have:=h _ _ h0
 exact ⟨fun hp=>this.eqk hp,this.info,this.kind,this.zagg⟩
def x7 (P:Program):Bool:=P.funcs.toList.all fun fn=>!(fn.name == "runtime.NumGoroutine")
theorem uS (h:x7 P=true) (f:FuncId) (fn:Func) (hf:P.funcs[f]?=some fn) :(fn.name == "runtime.NumGoroutine")=false:=by
 have:=List.all_eq_true.1 h fn (by
  obtain ⟨hl,he⟩:=Array.getElem?_eq_some_iff.1 hf
  rw [←he]
  exact Array.mem_toList_iff.2 (Array.getElem_mem hl))
 simpa using this
end Go.Mir
