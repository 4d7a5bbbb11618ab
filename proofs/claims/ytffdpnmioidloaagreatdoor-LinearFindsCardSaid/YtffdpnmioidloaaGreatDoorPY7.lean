/- Texts of the mirror and contracts, put together. -/
import Derived.Test.YtffdpnmioidloaaGreatDoorPY6
import Derived.Test.YtffdpnmioidloaaGreatDoorPY3
import Derived.Test.YtffdpnmioidloaaGreatDoorPY5
import Derived.Test.YtffdpnmioidloaaGreatDoorTie
import Derived.SizedLaws
import Derived.LaidMore
import Derived.OpenShut
import Derived.ProofKit
namespace Go.Proofs.YtffdpnmioidloaaGreatDoor
open Go Go.Mir
attribute [local irreducible] Go.Mir.DT.sat Go.Mir.evPat Go.Mir.RT.sat Go.Mir.evFn
def ofL (l:List UInt8):ByteArray:=⟨l.toArray⟩
def hL (l:List UInt8):Int:=match l with | []=> -1|x::_=>(x.toNat:Int)
theorem sR (l:List UInt8) :(ofL l).data.toList=l:=rfl
theorem gv (a b:List UInt8):ofL a++ofL b=ofL (a++b):=fO (by rw [ByteArray.data_append,Array.toList_append];rfl)
theorem IB (l:List UInt8) :(ofL l).size=l.length:=by show l.toArray.size=_;simp
theorem B8 (l:List UInt8):emp (ofL l)=l.isEmpty:=by
 rw [O6,IB]
 cases l with
 | nil=>rfl
 | cons x l=>rw [decide_eq_true (show (((x::l).length:Nat):Int)>0 by simp)];rfl
theorem Et (x:UInt8) (l:List UInt8):hd (ofL (x::l)) =(x.toNat:Int):=by rw [KO,sR];rfl
theorem fN (x:UInt8) (l:List UInt8):tl (ofL (x::l))=ofL l:=fO (by rw [Mw,sR,sR];rfl)
theorem nq (l:List UInt8) {c:Int} (hc:0≤c):tkB (ofL l) c =(hL l==c):=by
 unfold tkB;rw [B8]
 cases l with
 | nil=>show false =(-1==c);symm;simp;omega
 | cons x l=>rw [Et];rfl
theorem MF (l:List UInt8):fJ (ofL l) =(decide (48≤hL l)&&decide (hL l≤57)):=by
 unfold fJ;rw [B8]
 cases l with
 | nil=>rfl
 | cons x l=>rw [Et];rfl
def nd (t:List UInt8):Prop:=hL t<48∨hL t>57
theorem Iw {t:List UInt8} (h:nd t):fJ (ofL t)=false:=by
 rw [MF];unfold nd at h
 rcases h with h|h
 ·rw [decide_eq_false (show ¬ 48≤hL t by omega)];rfl
 ·rw [decide_eq_false (show ¬ hL t≤57 by omega)];exact Bool.and_false _
def dC (n:Nat):UInt8:=UInt8.ofNat (48+n)
theorem wP {n:Nat} (h:n<10) :(dC n).toNat=48+n:=by
 unfold dC;rw [UInt8.toNat_ofNat'];omega
def dL (n:Int):List UInt8:=if n<10 then [dC n.toNat] else [dC (n.toNat / 10),dC (n.toNat % 10)]
theorem Hs {n:Nat} (h:n<10) (t:List UInt8):fJ (ofL (dC n::t))=true:=by
 rw [MF];show (decide (48≤((dC n).toNat:Int))&&decide (((dC n).toNat:Int)≤57))=true
 rw [wP h,decide_eq_true (show (48:Int)≤((48+n:Nat):Int) by omega),decide_eq_true (show ((48+n:Nat):Int)≤57 by omega)];rfl
theorem KA {n:Nat} (h:n<10) (t:List UInt8):dgV (ofL (dC n::t))=n:=by
 unfold dgV;rw [Hs h,if_pos rfl,Et,wP h];omega
theorem Kz {n:Nat} (h:n<10) (t:List UInt8):dgR (ofL (dC n::t))=ofL t:=by
 unfold dgR;rw [Hs h,if_pos rfl,fN]
theorem Hu {t:List UInt8} (h:nd t):dgV (ofL t)=0∧dgR (ofL t)=ofL t:=by
 unfold dgV dgR;rw [Iw h];exact ⟨rfl,rfl⟩
theorem Pr {t:List UInt8} (h:nd t):nmV (ofL t)=0∧nmR (ofL t)=ofL t:=by
 unfold nmV nmR;rw [(Hu h).2,Iw h];exact ⟨(Hu h).1,rfl⟩
theorem rJ {n:Int} (h0:0≤n) (h1:n≤9) (t:List UInt8):dgV (ofL (dL n++t))=n∧dgR (ofL (dL n++t))=ofL t:=by
 unfold dL;rw [if_pos (by omega)]
 exact ⟨by rw [List.singleton_append,KA (by omega)];omega,Kz (by omega) t⟩
theorem sP {n:Int} (h:lQ n) {t:List UInt8} (ht:nd t):nmV (ofL (dL n++t))=n∧nmR (ofL (dL n++t))=ofL t:=by
 obtain ⟨h0,h1⟩:=h
 unfold dL nmV nmR
 split
 ·rename_i h2
  rw [List.singleton_append,Kz (by omega),KA (by omega),Iw ht]
  exact ⟨by show ((n.toNat:Nat):Int)=n;omega,rfl⟩
 ·show (if fJ (dgR (ofL (dC (n.toNat / 10)::dC (n.toNat % 10)::t))) then _ else _)=n∧_
  rw [List.cons_append,List.singleton_append,Kz (by omega),KA (by omega),Hs (by omega),if_pos rfl,if_pos rfl,KA (by omega),Kz (by omega)]
  exact ⟨by omega,rfl⟩
theorem O4 {n:Int} (h:lQ n) (t:List UInt8):48≤hL (dL n++t)∧hL (dL n++t)≤57:=by
 obtain ⟨h0,h1⟩:=h
 unfold dL
 split
 ·show 48≤((dC n.toNat).toNat:Int)∧((dC n.toNat).toNat:Int)≤57
  rw [wP (by omega)];omega
 ·show 48≤((dC (n.toNat / 10)).toNat:Int)∧((dC (n.toNat / 10)).toNat:Int)≤57
  rw [wP (by omega)];omega
theorem B6 {n:Int} (h:lQ n):gy n=ofL (dL n):=by
 have key :((List.range 100).all fun k=>(gy (k:Int)).data.toList==dL (k:Int))=true:=by kernel_rfl
 have:=List.all_eq_true.1 key n.toNat (List.mem_range.2 (by have:=h.1;have:=h.2;omega))
 rw [show ((n.toNat:Nat):Int)=n from by have:=h.1;omega] at this
 exact fO (eq_of_beq this)
theorem wQ {n:Int} (h0:0≤n) (h1:n≤9):jH n=ofL (dL n):=by
 rw [KD h0 h1];exact B6 ⟨h0,by omega⟩
def hwC (h:Int):UInt8:=lets.data.getD h.toNat 0
theorem Nw {h:Int} (h0:0≤h) (h1:h≤10):Cl h=ofL [hwC h]:=by
 have key :((List.range 11).all fun k=>(Cl (k:Int)).data.toList==[hwC (k:Int)])=true:=by kernel_rfl
 have:=List.all_eq_true.1 key h.toNat (List.mem_range.2 (by omega))
 rw [show ((h.toNat:Nat):Int)=h from by omega] at this
 exact fO (eq_of_beq this)
theorem Nz {h:Int} (h0:0≤h) (h1:h≤10) (t:List UInt8):hwV (ofL (hwC h::t))=h:=by
 unfold hwV;rw [Et]
 have key :((List.range 11).all fun k=>IntKind.u8.wrap (mxI (ixW lets ((hwC (k:Int)).toNat:Int))) ==(k:Int))=true:=by kernel_rfl
 have:=List.all_eq_true.1 key h.toNat (List.mem_range.2 (by omega))
 rw [show ((h.toNat:Nat):Int)=h from by omega] at this
 exact eq_of_beq this
def okD (d:Delivery):Prop:=b8 d=0∧0≤d.Source∧0≤d.How
theorem NZ {d:Delivery} (h:okD d):d.Boundary=0∨d.Boundary=4∨d.Boundary=6:=by
 have h:=h.1
 unfold b8 at h
 split at h
 ·cases h
 ·split at h
  ·cases h
  ·rename_i h1 h2
   simp [inW] at h2
   omega
def pV (d:Delivery) (t:List UInt8):List UInt8:=if d.Sub then 115::41::t else 41::t
def qP (d:Delivery) (t:List UInt8):List UInt8:=if d.Second != 0 then 44 ::(dL d.Second++pV d t) else pV d t
def kO (d:Delivery) (t:List UInt8):List UInt8:=if nu d then 40 ::(dL d.Fielder++qP d t) else t
def wkN (d:Delivery):Bool:=d.How==0&&(d.Victim==0&&!nu d)
def wkL (d:Delivery) (t:List UInt8):List UInt8:=if wkN d then t else 47::hwC d.How ::(dL d.Victim++kO d t)
theorem OU {d:Delivery} (h:okD d) (t:List UInt8):pb d++ofL t=ofL (wkL d t):=by
 obtain ⟨⟨_,_⟩,_,hw,⟨f0,f1⟩,s0,s1⟩:=iD h.1
 obtain ⟨_,_,⟨v0,v1⟩,_⟩:=fS h.1
 have e1:Cl d.How=ofL [hwC d.How]:=Nw h.2.2 hw
 have e2:jH d.Victim=ofL (dL d.Victim):=wQ v0 (by omega)
 have e3:gy d.Fielder=ofL (dL d.Fielder):=B6 ⟨f0,by omega⟩
 have e4:gy d.Second=ofL (dL d.Second):=B6 ⟨s0,by omega⟩
 have c1:ByteArray.mk #[47]=ofL [47]:=rfl
 have c2:ByteArray.mk #[40]=ofL [40]:=rfl
 have c3:ByteArray.mk #[44]=ofL [44]:=rfl
 have c4:ByteArray.mk #[115]=ofL [115]:=rfl
 have c5:ByteArray.mk #[41]=ofL [41]:=rfl
 have c6:ByteArray.mk #[]=ofL []:=rfl
 have e:pb d=if wkN d then ⟨#[]⟩ else if nu d then Ee d ++⟨#[41]⟩ else BS d:=rfl
 have el:wkL d t=if wkN d then t else 47::hwC d.How ::(dL d.Victim++kO d t):=rfl
 have ew:BS d=ofL (47::hwC d.How::dL d.Victim):=by unfold BS;rw [c1,e1,e2];simp only [gv];rfl
 rw [e,el]
 cases wkN d with
 | true=>rw [if_pos rfl,if_pos rfl,c6,gv];rfl
 | false=>
  rw [if_neg Bool.false_ne_true,if_neg Bool.false_ne_true]
  have el:kO d t=if nu d then 40 ::(dL d.Fielder++qP d t) else t:=rfl
  rw [el]
  cases nu d with
  | false=>rw [if_neg Bool.false_ne_true,if_neg Bool.false_ne_true,ew,gv];rfl
  | true=>
   rw [if_pos rfl,if_pos rfl]
   unfold Ee Ea Ha qP pV
   rw [ew,e3,e4,c2,c3,c4,c5]
   cases d.Second != 0 <;> cases d.Sub <;> simp [gv]
def hdT (t:List UInt8):Prop:=hL t = -1∨hL t=64
theorem MQ {a b:Int} (h:a≠b) :(a==b)=false:=by simp [h]
theorem MA {d e:Delivery} (h:okD d) {t:List UInt8} (ht:hdT t) (z:e.How=0∧e.Victim=0∧e.Fielder=0∧e.Second=0∧e.Sub=false) :
  wkR (ofL (wkL d t))=ofL t∧wkD e (ofL (wkL d t))={ e with How:=d.How,Victim:=d.Victim,Fielder:=d.Fielder,Second:=d.Second,Sub:=d.Sub }:=by
 obtain ⟨⟨_,_⟩,_,hw,⟨f0,f1⟩,s0,s1⟩:=iD h.1
 obtain ⟨_,_,⟨v0,v1⟩,_⟩:=fS h.1
 obtain ⟨z1,z2,z3,z4,z5⟩:=z
 have htk :∀ c:Int,0≤c→c≠64→tkB (ofL t) c=false:=fun c h0 h1=>by
  rw [nq _ h0];exact MQ (by rcases ht with h|h <;> omega)
 cases hn:wkN d with
 | true=>
  have hl:wkL d t=t:=by unfold wkL;rw [hn];rfl
  unfold wkN nu at hn
  simp at hn
  obtain ⟨a1,a2,a3,a4,a5⟩:=hn
  rw [hl]
  have hg:ze (ofL t)=false:=by unfold ze;rw [htk 47 (by decide) (by decide)];rfl
  unfold wkR wkD wk1
  rw [hg,eY (htk 47 (by decide) (by decide)),a1,a2,a3,a4,a5]
  refine ⟨rfl,?_⟩
  obtain ⟨_,_,_,_,_,_,_,_,_,_,_,_⟩:=e
  simp only at z1 z2 z3 z4 z5
  subst z1 z2 z3 z4 z5
  rfl
 | false=>
  have hl:wkL d t=47::hwC d.How ::(dL d.Victim++kO d t):=by unfold wkL;rw [hn];rfl
  rw [hl]
  have b0:tkB (ofL (47::hwC d.How ::(dL d.Victim++kO d t))) 47=true:=by rw [nq _ (by decide)];rfl
  have w1:wk1 (ofL (47::hwC d.How ::(dL d.Victim++kO d t)))=ofL (hwC d.How ::(dL d.Victim++kO d t)):=by unfold wk1;rw [cI b0,fN]
  have hg:ze (ofL (47::hwC d.How ::(dL d.Victim++kO d t)))=true:=by unfold ze;rw [b0,w1,B8];rfl
  have w2:wk2 (ofL (47::hwC d.How ::(dL d.Victim++kO d t)))=ofL (dL d.Victim++kO d t):=by unfold wk2;rw [w1,fN]
  have w3:wk3 (ofL (47::hwC d.How ::(dL d.Victim++kO d t)))=ofL (kO d t):=by unfold wk3;rw [w2,(rJ v0 (by omega) _).2]
  have w2v:dgV (ofL (dL d.Victim++kO d t))=d.Victim:=(rJ v0 (by omega) _).1
  have wh:hwV (ofL (hwC d.How ::(dL d.Victim++kO d t)))=d.How:=Nz h.2.2 hw _
  generalize hs:ofL (47::hwC d.How ::(dL d.Victim++kO d t))=s at *
  have d1:Mz e s={ e with How:=d.How,Victim:=d.Victim }:=by unfold Mz;rw [w1,w2,w2v,wh]
  cases ha:nu d with
  | false=>
   have hl:kO d t=t:=by unfold kO;rw [ha];rfl
   rw [hl] at w3
   have b3:tkB (wk3 s) 40=false:=by rw [w3];exact htk 40 (by decide) (by decide)
   unfold nu at ha
   simp at ha
   obtain ⟨a3,a4,a5⟩:=ha
   unfold wkR wkD
   rw [hg,b3,w3,d1,a3,a4,a5]
   refine ⟨rfl,?_⟩
   obtain ⟨_,_,_,_,_,_,_,_,_,_,_,_⟩:=e
   simp only at z1 z2 z3 z4 z5
   subst z1 z2 z3 z4 z5
   rfl
  | true=>
   have hl:kO d t=40 ::(dL d.Fielder++qP d t):=by unfold kO;rw [ha];rfl
   rw [hl] at w3
   have b3:tkB (wk3 s) 40=true:=by rw [w3,nq _ (by decide)];rfl
   have w4:wk4 s=ofL (dL d.Fielder++qP d t):=by unfold wk4;rw [cI b3,w3,fN]
   have h3:hL (pV d t)=115∨hL (pV d t)=41:=by unfold pV;cases d.Sub;exact .inr rfl;exact .inl rfl
   have h2:nd (qP d t):=by
    unfold qP nd
    split
    ·exact .inl (show (44:Int)<48 by decide)
    ·rcases h3 with h|h <;> rw [h] <;> decide
   obtain ⟨n1,n2⟩:=sP ⟨f0,by omega⟩ h2
   have w5:wk5 s=ofL (qP d t):=by unfold wk5;rw [w4,n2]
   have w4v:nmV (wk4 s)=d.Fielder:=by rw [w4,n1]
   have w56:wk6 s=ofL (pV d t)∧(if tkB (wk5 s) 44 then nmV (tl (wk5 s)) else e.Second)=d.Second:=by
    unfold wk6;rw [w5]
    cases hc:d.Second != 0 with
    | true=>
     have hl:qP d t=44 ::(dL d.Second++pV d t):=by unfold qP;rw [hc];rfl
     obtain ⟨n1,n2⟩:=sP (t:=pV d t) ⟨s0,by omega⟩ (by unfold nd;rcases h3 with h|h <;> rw [h] <;> decide)
     have b:tkB (ofL (44 ::(dL d.Second++pV d t))) 44=true:=by rw [nq _ (by decide)];rfl
     rw [hl,b,if_pos rfl,if_pos rfl,fN,n1,n2];exact ⟨rfl,rfl⟩
    | false=>
     have hl:qP d t=pV d t:=by unfold qP;rw [hc];rfl
     have b:tkB (ofL (pV d t)) 44=false:=by rw [nq _ (by decide)];rcases h3 with h|h <;> rw [h] <;> rfl
     simp at hc
     rw [hl,b,z4,hc];exact ⟨rfl,rfl⟩
   obtain ⟨w6,ws⟩:=w56
   have w7:tkB (wk6 s) 115=d.Sub∧wk7 s=ofL (41::t):=by
    unfold wk7;rw [w6];unfold pV
    cases d.Sub with
    | true=>
     have b:tkB (ofL (115::41::t)) 115=true:=by rw [nq _ (by decide)];rfl
     exact ⟨b,by rw [if_pos rfl,cI b,fN]⟩
    | false=>
     have b:tkB (ofL (41::t)) 115=false:=by rw [nq _ (by decide)];rfl
     exact ⟨b,by rw [if_neg (by decide),eY b]⟩
   have w8:tkR (wk7 s) 41=ofL t:=by
    have b:tkB (ofL (41::t)) 41=true:=by rw [nq _ (by decide)];rfl
    rw [w7.2,cI b,fN]
   have d2:OT e s={ e with How:=d.How,Victim:=d.Victim,Fielder:=d.Fielder,Second:=d.Second,Sub:=d.Sub }:=by
    unfold OT;rw [d1,w4v,ws,w7.1]
   unfold wkR wkD
   rw [hg,b3,w8,d2]
   exact ⟨rfl,rfl⟩
end Go.Proofs.YtffdpnmioidloaaGreatDoor
namespace Go.Proofs.YtffdpnmioidloaaGreatDoor
open Go Go.Mir
attribute [local irreducible] Go.Mir.DT.sat Go.Mir.evPat Go.Mir.RT.sat Go.Mir.evFn
def L8 (d:Delivery):List UInt8:=if decide (d.Sector>0) then 64::dL d.Sector else []
def L7 (d:Delivery):List UInt8:=wkL d (L8 d)
def L6 (d:Delivery):List UInt8:=if d.Crossed then 120::L7 d else L7 d
def L5 (d:Delivery):List UInt8:=if decide (d.Short>0) then 45 ::(dL d.Short++L6 d) else L6 d
def L4 (d:Delivery):List UInt8:=if d.Boundary==4 then 70::L5 d else if d.Boundary==6 then 83::L5 d else L5 d
def L3 (d:Delivery):List UInt8:=if GX d (jX d.Typ d.Source) then dL d.Runs++L4 d else L4 d
def J8 (t s:Int):List UInt8:=if s==0 then (if t != 2 then [46] else []) else if s==1 then (if t==2 then [111] else []) else if s==2 then [98] else if s==3 then [108] else []
def My (t:Int):List UInt8:=if t==2 then [119] else if t==3 then [110] else []
def L2 (d:Delivery):List UInt8:=J8 d.Typ d.Source++L3 d
def L1 (d:Delivery):List UInt8:=My d.Typ++L2 d
theorem Ok (t s:Int):jX t s=ofL (J8 t s):=by
 unfold jX J8;repeat' split
 all_goals rfl
theorem OL (t:Int):G6 t=ofL (My t):=by
 unfold G6 My;repeat' split
 all_goals rfl
theorem Hg (a b c:ByteArray) :(a++b)++c=a ++(b++c):=fO (by simp [ByteArray.data_append])
theorem wK (b:Bool) (x:ByteArray) (a t:List UInt8):cb b (x++ofL a) x++ofL t=x++ofL (if b then a++t else t):=by
 cases b
 ·rfl
 ·show (x++ofL a)++ofL t=x++ofL (a++t)
  rw [Hg,gv]
theorem N7 {d:Delivery} (h:okD d):prS d=ofL (L1 d):=by
 obtain ⟨⟨r0,r1⟩,⟨h0,h1⟩,⟨v0,v1⟩,c0,c1⟩:=fS h.1
 have e8:prG d=prF d++ofL (L8 d):=by
  unfold prG L8
  rw [wQ c0 (by omega)]
  cases decide (d.Sector>0) with
  | true=>show prF d ++(ofL [64]++ofL (dL d.Sector))=_;rw [gv];rfl
  | false=>show prF d=prF d++ByteArray.mk #[];rw [Fz]
 have e7:prF d++ofL (L8 d)=prE d++ofL (L7 d):=by unfold prF L7;rw [Hg,OU h]
 have e6:prE d++ofL (L7 d)=prD d++ofL (L6 d):=wK d.Crossed (prD d) [120] (L7 d)
 have e5:prD d++ofL (L6 d)=prC d++ofL (L5 d):=by
  unfold prD L5
  rw [wQ h0 (by omega),show ByteArray.mk #[45]=ofL [45] from rfl,gv,wK];rfl
 have e4:prC d++ofL (L5 d)=prB d++ofL (L4 d):=by
  unfold prC L4
  cases d.Boundary==4 with
  | true=>exact (Hg _ _ _).trans (congrArg _ (gv [70] (L5 d)))
  | false=>exact wK (d.Boundary==6) (prB d) [83] (L5 d)
 have e3:prB d++ofL (L4 d)=prA d++ofL (L3 d):=by
  unfold prB L3
  rw [wQ r0 (by omega),wK]
 have e:prS d=prG d:=by unfold prS;rw [h.1];rfl
 rw [e,e8,e7,e6,e5,e4,e3]
 unfold prA L1 L2
 rw [Ok,OL,gv,gv,List.append_assoc]
theorem H8 {d:Delivery}:hdT (L8 d):=by
 unfold hdT L8;split
 ·exact .inr rfl
 ·exact .inl rfl
theorem H7 (d:Delivery):hL (L7 d) = -1∨hL (L7 d)=64∨hL (L7 d)=47:=by
 unfold L7 wkL;split
 ·have:=H8 (d:=d);unfold hdT at this;omega
 ·exact .inr (.inr rfl)
theorem H6 (d:Delivery):hL (L6 d) = -1∨hL (L6 d)=64∨hL (L6 d)=47∨hL (L6 d)=120:=by
 unfold L6;split
 ·exact .inr (.inr (.inr rfl))
 ·have:=H7 d;omega
theorem H5 (d:Delivery):hL (L5 d) = -1∨hL (L5 d)=64∨hL (L5 d)=47∨hL (L5 d)=120∨hL (L5 d)=45:=by
 unfold L5;split
 ·exact .inr (.inr (.inr (.inr rfl)))
 ·have:=H6 d;omega
theorem H4 (d:Delivery):hL (L4 d) = -1∨hL (L4 d)=64∨hL (L4 d)=47∨hL (L4 d)=120∨hL (L4 d)=45∨hL (L4 d)=70∨hL (L4 d)=83:=by
 unfold L4;split
 ·exact .inr (.inr (.inr (.inr (.inr (.inl rfl)))))
 ·split
  ·exact .inr (.inr (.inr (.inr (.inr (.inr rfl)))))
  ·have:=H5 d;omega
def NU (x:Int):Prop:=x≠119∧x≠110∧x≠46∧x≠98∧x≠108∧x≠111
theorem H3 {d:Delivery} (h:okD d):NU (hL (L3 d)):=by
 obtain ⟨⟨r0,r1⟩,_⟩:=fS h.1
 unfold L3 NU;split
 ·have:=O4 (n:=d.Runs) ⟨r0,by omega⟩ (L4 d);omega
 ·have:=H4 d;omega
theorem H2 {d:Delivery} (h:okD d):hL (L2 d)≠119∧hL (L2 d)≠110:=by
 have h3:=H3 h
 unfold NU at h3
 unfold L2 J8
 repeat' split
 all_goals first
  | exact ⟨h3.1,h3.2.1⟩
  | exact ⟨(by decide :((46:UInt8).toNat:Int)≠119),(by decide :((46:UInt8).toNat:Int)≠110)⟩
  | exact ⟨(by decide :((111:UInt8).toNat:Int)≠119),(by decide :((111:UInt8).toNat:Int)≠110)⟩
  | exact ⟨(by decide :((98:UInt8).toNat:Int)≠119),(by decide :((98:UInt8).toNat:Int)≠110)⟩
  | exact ⟨(by decide :((108:UInt8).toNat:Int)≠119),(by decide :((108:UInt8).toNat:Int)≠110)⟩
theorem fM {l:List UInt8} {c:Int} (hc:0≤c) (h:hL l≠c):tkB (ofL l) c=false:=by rw [nq _ hc];exact MQ h
theorem mh (x:UInt8) (l:List UInt8):tkB (ofL (x::l)) (x.toNat:Int)=true:=by
 rw [nq _ (Int.natCast_nonneg _)];exact beq_self_eq_true _
theorem rd1 {d:Delivery} (h:okD d):paT (ofL (L1 d))=d.Typ∧pa1 (ofL (L1 d))=ofL (L2 d)∧tkB (ofL (L1 d)) 119 =(d.Typ==2):=by
 obtain ⟨⟨t0,t1⟩,_⟩:=iD h.1
 obtain ⟨h1,h2⟩:=H2 h
 have ht:d.Typ=1∨d.Typ=2∨d.Typ=3:=by omega
 unfold paT pa1 L1 My
 rcases ht with e|e|e
 ·rw [e]
  have b1:tkB (ofL (L2 d)) 119=false:=fM (by decide) h1
  have b2:tkB (ofL (L2 d)) 110=false:=fM (by decide) h2
  show (if tkB (ofL (L2 d)) 119 then (2:Int) else if tkB (ofL (L2 d)) 110 then 3 else 1)=1∧(if tkB (ofL (L2 d)) 119 then _ else tkR (ofL (L2 d)) 110)=_∧tkB (ofL (L2 d)) 119=false
  rw [b1,b2,eY b2];exact ⟨rfl,rfl,rfl⟩
 ·rw [e]
  have b1:tkB (ofL (119::L2 d)) 119=true:=mh 119 _
  show (if tkB (ofL (119::L2 d)) 119 then (2:Int) else if tkB (ofL (119::L2 d)) 110 then 3 else 1)=2∧(if tkB (ofL (119::L2 d)) 119 then tl (ofL (119::L2 d)) else tkR (ofL (119::L2 d)) 110)=_∧tkB (ofL (119::L2 d)) 119=true
  rw [b1,fN];exact ⟨rfl,rfl,rfl⟩
 ·rw [e]
  have b1:tkB (ofL (110::L2 d)) 119=false:=fM (by decide) (show (110:Int)≠119 by decide)
  have b2:tkB (ofL (110::L2 d)) 110=true:=mh 110 _
  show (if tkB (ofL (110::L2 d)) 119 then (2:Int) else if tkB (ofL (110::L2 d)) 110 then 3 else 1)=3∧(if tkB (ofL (110::L2 d)) 119 then tl (ofL (110::L2 d)) else tkR (ofL (110::L2 d)) 110)=_∧tkB (ofL (110::L2 d)) 119=false
  rw [b1,b2,cI b2,fN];exact ⟨rfl,rfl,rfl⟩
theorem rd2 {d:Delivery} (h:okD d):soV d.Typ (ofL (L2 d))=d.Source∧soR d.Typ (ofL (L2 d))=ofL (L3 d):=by
 obtain ⟨_,s1,_⟩:=iD h.1
 have s0:=h.2.1
 obtain ⟨_,_,n46,n98,n108,n111⟩:=H3 h
 have hs:d.Source=0∨d.Source=1∨d.Source=2∨d.Source=3:=by omega
 have m46:=fM (l:=L3 d) (by decide) n46
 have m98:=fM (l:=L3 d) (by decide) n98
 have m108:=fM (l:=L3 d) (by decide) n108
 have m111:=fM (l:=L3 d) (by decide) n111
 unfold soV soR L2 J8
 rcases hs with e|e|e|e <;> rw [e]
 ·cases ht:d.Typ==2 with
  | true=>
   have :(d.Typ != 2)=false:=by simp only [bne,ht];rfl
   rw [this]
   show (if tkB (ofL (L3 d)) 98 then (2:Int) else if tkB (ofL (L3 d)) 108 then 3 else if (true&&tkB (ofL (L3 d)) 111) then 1 else 0)=0∧(if tkB (ofL (L3 d)) 98 then _ else if tkB (ofL (L3 d)) 108 then _ else if (true&&tkB (ofL (L3 d)) 111) then _ else ofL (L3 d))=_
   rw [m98,m108,m111];exact ⟨rfl,rfl⟩
  | false=>
   have :(d.Typ != 2)=true:=by simp only [bne,ht];rfl
   rw [this]
   have b1:tkB (ofL (46::L3 d)) 98=false:=fM (by decide) (show (46:Int)≠98 by decide)
   have b2:tkB (ofL (46::L3 d)) 108=false:=fM (by decide) (show (46:Int)≠108 by decide)
   have b3:tkB (ofL (46::L3 d)) 46=true:=mh 46 _
   show (if tkB (ofL (46::L3 d)) 98 then (2:Int) else if tkB (ofL (46::L3 d)) 108 then 3 else if tkB (ofL (46::L3 d)) 46 then 0 else 1)=0∧(if tkB (ofL (46::L3 d)) 98 then _ else if tkB (ofL (46::L3 d)) 108 then _ else tkR (ofL (46::L3 d)) 46)=_
   rw [b1,b2,b3,cI b3,fN];exact ⟨rfl,rfl⟩
 ·cases ht:d.Typ==2 with
  | true=>
   have b1:tkB (ofL (111::L3 d)) 98=false:=fM (by decide) (show (111:Int)≠98 by decide)
   have b2:tkB (ofL (111::L3 d)) 108=false:=fM (by decide) (show (111:Int)≠108 by decide)
   have b3:tkB (ofL (111::L3 d)) 111=true:=mh 111 _
   show (if tkB (ofL (111::L3 d)) 98 then (2:Int) else if tkB (ofL (111::L3 d)) 108 then 3 else if (true&&tkB (ofL (111::L3 d)) 111) then 1 else 0)=1∧(if tkB (ofL (111::L3 d)) 98 then _ else if tkB (ofL (111::L3 d)) 108 then _ else if (true&&tkB (ofL (111::L3 d)) 111) then tl (ofL (111::L3 d)) else _)=_
   rw [b1,b2,b3,fN];exact ⟨rfl,rfl⟩
  | false=>
   show (if tkB (ofL (L3 d)) 98 then (2:Int) else if tkB (ofL (L3 d)) 108 then 3 else if tkB (ofL (L3 d)) 46 then 0 else 1)=1∧(if tkB (ofL (L3 d)) 98 then _ else if tkB (ofL (L3 d)) 108 then _ else tkR (ofL (L3 d)) 46)=_
   rw [m98,m108,m46,eY m46];exact ⟨rfl,rfl⟩
 ·have b1:tkB (ofL (98::L3 d)) 98=true:=mh 98 _
  show (if tkB (ofL (98::L3 d)) 98 then (2:Int) else _)=2∧(if tkB (ofL (98::L3 d)) 98 then tl (ofL (98::L3 d)) else _)=_
  rw [b1,fN];exact ⟨rfl,rfl⟩
 ·have b1:tkB (ofL (108::L3 d)) 98=false:=fM (by decide) (show (108:Int)≠98 by decide)
  have b2:tkB (ofL (108::L3 d)) 108=true:=mh 108 _
  show (if tkB (ofL (108::L3 d)) 98 then (2:Int) else if tkB (ofL (108::L3 d)) 108 then 3 else _)=3∧(if tkB (ofL (108::L3 d)) 98 then _ else if tkB (ofL (108::L3 d)) 108 then tl (ofL (108::L3 d)) else _)=_
  rw [b1,b2,fN];exact ⟨rfl,rfl⟩
theorem nd4 (d:Delivery):nd (L4 d):=by have:=H4 d;unfold nd;omega
theorem nd6 (d:Delivery):nd (L6 d):=by have:=H6 d;unfold nd;omega
theorem rd3 {d:Delivery} (h:okD d) :(dgV (ofL (L3 d))=d.Runs∧dgR (ofL (L3 d))=ofL (L4 d))∧nmV (ofL (L3 d))=d.Runs∧nmR (ofL (L3 d))=ofL (L4 d):=by
 obtain ⟨⟨r0,r1⟩,_⟩:=fS h.1
 cases hb:GX d (jX d.Typ d.Source) with
 | true=>
  have hl:L3 d=dL d.Runs++L4 d:=by unfold L3;rw [hb];rfl
  rw [hl]
  exact ⟨rJ r0 (by omega) _,sP ⟨r0,by omega⟩ (nd4 d)⟩
 | false=>
  have hl:L3 d=L4 d:=by unfold L3;rw [hb];rfl
  have hr:d.Runs=0:=by
   unfold GX at hb
   simp only [Bool.or_eq_false_iff,decide_eq_false_iff_not] at hb
   omega
  rw [hl,hr]
  exact ⟨Hu (nd4 d),Pr (nd4 d)⟩
theorem rd4 {d:Delivery} (h:okD d) :(if tkB (ofL (L4 d)) 70 then (4:Int) else if tkB (ofL (L4 d)) 83 then 6 else 0)=d.Boundary∧(if tkB (ofL (L4 d)) 70 then tl (ofL (L4 d)) else tkR (ofL (L4 d)) 83)=ofL (L5 d):=by
 have h5:=H5 d
 rcases NZ h with e|e|e
 ·have hl:L4 d=L5 d:=by unfold L4;rw [e];rfl
  have b1:tkB (ofL (L5 d)) 70=false:=fM (by decide) (by omega)
  have b2:tkB (ofL (L5 d)) 83=false:=fM (by decide) (by omega)
  rw [hl,b1,b2,eY b2,e];exact ⟨rfl,rfl⟩
 ·have hl:L4 d=70::L5 d:=by unfold L4;rw [e];rfl
  have b1:tkB (ofL (70::L5 d)) 70=true:=mh 70 _
  rw [hl,b1,fN,e];exact ⟨rfl,rfl⟩
 ·have hl:L4 d=83::L5 d:=by unfold L4;rw [e];rfl
  have b1:tkB (ofL (83::L5 d)) 70=false:=fM (by decide) (show (83:Int)≠70 by decide)
  have b2:tkB (ofL (83::L5 d)) 83=true:=mh 83 _
  rw [hl,b1,b2,cI b2,fN,e];exact ⟨rfl,rfl⟩
theorem rd5 {d:Delivery} (h:okD d) :((if tkB (ofL (L5 d)) 45 then dgV (tl (ofL (L5 d))) else 0)=d.Short∧(if tkB (ofL (L5 d)) 45 then dgR (tl (ofL (L5 d))) else ofL (L5 d))=ofL (L6 d))∧((if tkB (ofL (L5 d)) 45 then nmV (tl (ofL (L5 d))) else 0)=d.Short∧(if tkB (ofL (L5 d)) 45 then nmR (tl (ofL (L5 d))) else ofL (L5 d))=ofL (L6 d)):=by
 obtain ⟨_,⟨r0,r1⟩,_⟩:=fS h.1
 have h6:=H6 d
 by_cases hb:d.Short>0
 ·have hl:L5 d=45 ::(dL d.Short++L6 d):=by unfold L5;rw [decide_eq_true hb];rfl
  have b1:tkB (ofL (45 ::(dL d.Short++L6 d))) 45=true:=mh 45 _
  have a:=rJ r0 (by omega) (L6 d)
  have b:=sP ⟨r0,by omega⟩ (nd6 d)
  rw [hl,b1,fN,a.1,a.2,b.1,b.2];exact ⟨⟨rfl,rfl⟩,rfl,rfl⟩
 ·have hl:L5 d=L6 d:=by unfold L5;rw [decide_eq_false hb];rfl
  have b1:tkB (ofL (L6 d)) 45=false:=fM (by decide) (by omega)
  have hr:d.Short=0:=by omega
  rw [hl,b1,hr];exact ⟨⟨rfl,rfl⟩,rfl,rfl⟩
theorem rd6 (d:Delivery):tkB (ofL (L6 d)) 120=d.Crossed∧tkR (ofL (L6 d)) 120=ofL (L7 d):=by
 have h7:=H7 d
 unfold L6
 cases d.Crossed with
 | true=>
  have b1:tkB (ofL (120::L7 d)) 120=true:=mh 120 _
  rw [if_pos rfl,b1,cI b1,fN];exact ⟨rfl,rfl⟩
 | false=>
  have b1:tkB (ofL (L7 d)) 120=false:=fM (by decide) (by omega)
  rw [if_neg Bool.false_ne_true,b1,eY b1];exact ⟨rfl,rfl⟩
theorem rd8 {d:Delivery} (h:okD d) :(if tkB (ofL (L8 d)) 64 then dgV (tl (ofL (L8 d))) else 0)=d.Sector∧(if tkB (ofL (L8 d)) 64 then nmV (tl (ofL (L8 d))) else 0)=d.Sector:=by
 obtain ⟨_,_,_,r0,r1⟩:=fS h.1
 by_cases hb:d.Sector>0
 ·have hl:L8 d=64 ::(dL d.Sector++[]):=by unfold L8;rw [decide_eq_true hb,List.append_nil];rfl
  have b1:tkB (ofL (64 ::(dL d.Sector++[]))) 64=true:=mh 64 _
  have a:=rJ r0 (by omega) []
  have b:=sP (n:=d.Sector) (t:= []) ⟨r0,by omega⟩ (.inl (by decide))
  rw [hl,b1,fN,a.1,b.1];exact ⟨rfl,rfl⟩
 ·have hl:L8 d=[]:=by unfold L8;rw [decide_eq_false hb];rfl
  have b1:tkB (ofL []) 64=false:=fM (by decide) (show (-1:Int)≠64 by decide)
  have hr:d.Sector=0:=by omega
  rw [hl,b1,hr];exact ⟨rfl,rfl⟩
theorem N6 {d:Delivery} (h:okD d):AQ (ofL (L1 d))=d:=by
 obtain ⟨a1,a2,_⟩:=rd1 h
 obtain ⟨b1,b2⟩:=rd2 h
 obtain ⟨⟨c1,c2⟩,_⟩:=rd3 h
 obtain ⟨d1,d2⟩:=rd4 h
 obtain ⟨⟨e1,e2⟩,_⟩:=rd5 h
 obtain ⟨f1,f2⟩:=rd6 d
 obtain ⟨g1,_⟩:=rd8 h
 generalize hs:ofL (L1 d)=s at *
 have p2:pa2 s=ofL (L3 d):=by unfold pa2;rw [a1,a2,b2]
 have p3:pa3 s=ofL (L4 d):=by unfold pa3;rw [p2,c2]
 have p4:pa4 s=ofL (L5 d):=by unfold pa4;rw [p3,d2]
 have p5:pa5 s=ofL (L6 d):=by unfold pa5;rw [p4,e2]
 have p6:pa6 s=ofL (L7 d):=by unfold pa6;rw [p5,f2]
 have pD:paD s={ d with How:=0,Victim:=0,Fielder:=0,Second:=0,Sub:=false,Sector:=0 }:=by
  unfold paD;rw [a1,a2,b1,p2,c1,p3,d1,p4,e1,p5,f1]
 have w:=MA (e:=paD s) h (H8 (d:=d)) (by rw [pD];exact ⟨rfl,rfl,rfl,rfl,rfl⟩)
 have p7:pa7 s=ofL (L8 d):=by unfold pa7;rw [p6];exact w.1
 have pW:paW s={ d with Sector:=0 }:=by unfold paW;rw [p6];refine w.2.trans ?_;rw [pD]
 unfold AQ;rw [p7,pW,g1]
theorem I3 {d:Delivery} (h:okD d):fX (prS d)=d∧pJ (prS d)=0:=by
 have e:=N6 h
 rw [←N7 h] at e
 have hn:vW (prS d)=false:=by unfold vW;rw [e,h.1];simp
 unfold fX pJ;rw [hn];exact ⟨e,rfl⟩
end Go.Proofs.YtffdpnmioidloaaGreatDoor
namespace Go.Proofs.YtffdpnmioidloaaGreatDoor
open Go Go.Mir
attribute [local irreducible] Go.Mir.DT.sat Go.Mir.evPat Go.Mir.RT.sat Go.Mir.evFn
end Go.Proofs.YtffdpnmioidloaaGreatDoor
namespace Go.Proofs.YtffdpnmioidloaaGreatDoor
open Go Go.Mir
def mW (d:Delivery):Prop:=0≤d.Source∧0≤d.How
theorem xY {r:Rules} {b:Bef} {x:Row} {d:Delivery} (h:okRow r b x d) (hd:mW d):fX x.Symbol=d∧pJ x.Symbol=0:=by
 rw [h.sym];exact I3 ⟨h.form,hd.1,hd.2⟩
theorem I7 {r:Rules} {b:Bef} {x:Row} {d:Delivery} (h:okRow r b x d):gL r b x=true:=by
 obtain ⟨i0,i1,i2⟩:=h.inn
 obtain ⟨p1,p2⟩:=h.place
 have e2:W (2*r.Innings)=2*r.Innings:=bb (by omega) (by omega)
 have lst :∀ n,n≤x.Innings→x.Over=0→x.Ball=0→nM r n x=true:=fun n h1 h2 h3=>by
  unfold nM
  rw [e2,h2,h3,decide_eq_true h1,decide_eq_true i1];rfl
 cases b with
 | none=>exact lst 0 i0 p1 p2
 | some p=>
  obtain ⟨y,c⟩:=p
  obtain ⟨q0,q1⟩:=h.bef y c rfl
  unfold bO at p1
  unfold bI at p2
  unfold gL
  simp only at p1 p2 ⊢
  by_cases e:y.Innings=x.Innings
  ·rw [if_pos e] at p1 p2
   rw [if_pos (by rw [e];simp),p1,p2]
   simp
  ·rw [if_neg e] at p1 p2
   have e3:W (y.Innings+1)=y.Innings+1:=bb (by omega) (by omega)
   rw [if_neg (by simp only [beq_iff_eq];omega),e3]
   exact lst _ (by omega) p1 p2
theorem OS {r:Rules} {b:Bef} {x:Row} {d:Delivery} (h:okRow r b x d):mm r x=false:=by
 obtain ⟨⟨h1,h2⟩,⟨h3,h4⟩,⟨h5,h6⟩,h7⟩:=h.pl
 unfold mm inS
 rw [decide_eq_true h1,decide_eq_true h2,decide_eq_true h3,decide_eq_true h4,decide_eq_true h5,decide_eq_true h6]
 simp [h7]
def lg (x:Row) (t:Int):Row:={ x with Total:=x.Total+t }
theorem OJ {r:Rules} {b:Bef} {x:Row} {d:Delivery} (h:okRow r b x d) (hd:mW d):D7 r b x=bT x.Innings b+bX (aB r d)∧Hb b x=bW x.Innings b+m0 d:=by
 have e:=(xY h hd).1
 have e1:Gk r x=bX (aB r d):=by unfold Gk;rw [e]
 have e2:CW x=m0 d:=by
  unfold CW m0;rw [e]
  by_cases hh:d.How=0
  ·rw [if_pos hh,hh];rfl
  ·rw [if_neg hh,if_pos (by simpa using hh)]
 have w01:0≤m0 d∧m0 d≤1:=by unfold m0;split <;> decide
 obtain ⟨t0,t1⟩:=h.tot
 obtain ⟨s0,s1,s2,s3⟩:=h.sum
 obtain ⟨k0,k1,k2,k3⟩:=h.wk
 cases b with
 | none=>
  show Gk r x=0+_∧CW x=0+_
  rw [e1,e2];omega
 | some p=>
  obtain ⟨y,c⟩:=p
  unfold D7 Hb
  simp only [bT,bW] at s0 s1 k0 k1 ⊢
  by_cases e:y.Innings=x.Innings
  ·rw [if_pos e] at s0 s1 k0 k1
   rw [if_pos e,if_pos e,if_pos (by rw [e];simp),if_pos (by rw [e];simp),e1,e2]
   have w1:W (bX (aB r d)+y.Total)=bX (aB r d)+y.Total:=bb (by omega) (by omega)
   have w2:W (m0 d+y.Wickets)=m0 d+y.Wickets:=bb (by omega) (by omega)
   rw [w1,w2];omega
  ·rw [if_neg e,if_neg e,if_neg (by simpa using e),if_neg (by simpa using e),e1,e2];omega
theorem Eh {r:Rules} {b:Bef} {x:Row} {d:Delivery} (h:okRow r b x d) (hd:mW d) (t:Int):fD r b (lg x t)=if nZ r b (lg x t) then 12 else 0:=by
 obtain ⟨e,e0⟩:=xY h hd
 have p1:pJ (lg x t).Symbol=0:=e0
 have p2:bJ (fX (lg x t).Symbol)=0:=by
  show bJ (fX x.Symbol)=0
  rw [e];exact h.legal
 have p3:mm r (lg x t)=false:=(show mm r x=false from OS h)
 have p4:gL r b (lg x t)=true:=by
  have:=I7 h
  cases b with
  | none=>exact this
  | some p=>exact this
 unfold fD
 rw [p1,p2,p3,p4]
 rfl
theorem Fx {r:Rules} {b:Bef} {x:Row} {d:Delivery} (h:okRow r b x d) (hd:mW d) {t:Int} (ht:-4≤t∧t≤4):nZ r b (lg x t)=decide (t≠0):=by
 obtain ⟨e1,e2⟩:=OJ h hd
 obtain ⟨t0,t1⟩:=h.tot
 obtain ⟨s0,s1,s2,s3⟩:=h.sum
 obtain ⟨k0,k1,k2,k3⟩:=h.wk
 have q1:D7 r b (lg x t)=bT x.Innings b+bX (aB r d):=by
  rw [←e1]
  cases b <;> rfl
 have q2:Hb b (lg x t)=bW x.Innings b+m0 d:=by
  rw [←e2]
  cases b <;> rfl
 have q3 :(lg x t).Total=x.Total+t:=rfl
 have q4 :(lg x t).Wickets=x.Wickets:=rfl
 unfold nZ
 rw [q1,q2,q3,q4]
 have w:W (x.Total+t - (bT x.Innings b+bX (aB r d)))=x.Total+t - (bT x.Innings b+bX (aB r d)):=bb (by omega) (by omega)
 rw [w,decide_eq_false (p:=x.Wickets<_) (by omega),decide_eq_false (p:=x.Wickets>_) (by omega),decide_eq_false (p:=x.Total+t>_) (by omega)]
 by_cases hl:x.Total+t<bT x.Innings b+bX (aB r d)
 ·rw [decide_eq_true hl,decide_eq_true (by omega)];rfl
 ·rw [decide_eq_false hl,Int.tmod_eq_emod_of_nonneg (by omega)]
  by_cases hz:t=0
  ·rw [decide_eq_false (by simpa using hz),show (x.Total+t - (bT x.Innings b+bX (aB r d))) % 5=0 by omega];rfl
  ·rw [decide_eq_true hz]
   have :((x.Total+t - (bT x.Innings b+bX (aB r d))) % 5 != 0)=true:=by
    simp only [bne_iff_ne,ne_eq];omega
   rw [this];rfl
theorem IC (x:Row):lg x 0=x:=by unfold lg;rw [Int.add_zero]
theorem Nt {r:Rules} {b:Bef} {x:Row} {d:Delivery} (h:okRow r b x d) (hd:mW d):fD r b x=0:=by
 have h1:=Eh h hd 0
 rw [Fx h hd (by decide),IC] at h1
 exact h1
theorem KH {r:Rules} {b:Bef} {x:Row} {d:Delivery} (h:okRow r b x d) (hd:mW d) {t:Int} (ht:-4≤t∧t≤4) (hz:t≠0):fD r b (lg x t)=12:=by
 rw [Eh h hd,Fx h hd ht,decide_eq_true hz];rfl
theorem K3 {r:Rules} {b:Bef} {x:Row} {d:Delivery} (h:okRow r b x d) (hd:mW d):sO r x=some (x,(aB r d).Counts):=by unfold sO;rw [(xY h hd).1]
theorem zz {r:Rules} {t:Int} (ht:-4≤t∧t≤4) (hz:t≠0) :∀ (l:List Row) (ds:List Delivery) (b:Bef) (i:Int) (k:Nat),sT r b l ds→(∀ d∈ds,mW d)→k<l.length→dv r b i (l.set k (lg (l.getD k Row.zero) t)) =(i+k,12)
 | [],_,_,_,_,_,_,h=>absurd h (Nat.not_lt_zero _)
 | x::l,ds,b,i,0,h,hd,_=>by
  obtain ⟨d,u,rfl,h1,h2⟩:=h
  have hs:=hd d List.mem_cons_self
  show dv r b i (lg x t::l)=_
  unfold dv
  rw [KH h1 hs ht hz]
  show (i,(12:Int))=_
  simp
 | x::l,ds,b,i,k+1,h,hd,hk=>by
  obtain ⟨d,u,rfl,h1,h2⟩:=h
  have hs:=hd d List.mem_cons_self
  show dv r b i (x::l.set k (lg (l.getD k Row.zero) t))=_
  unfold dv
  rw [Nt h1 hs,K3 h1 hs]
  show dv r _ (i+1) (l.set k _)=_
  rw [zz ht hz l u _ (i+1) k h2 (fun z hz=>hd z (List.mem_cons_of_mem _ hz)) (by simpa using hk)]
  congr 1
  omega
theorem A1 :∀ (l:List Mir.Event) (m:Match) (i:Int) (o:List Delivered),(∀ e∈l,mW e.Ball)→(∀ p∈o,mW p.Delivery)→∀ p∈(gF m l i o).1,mW p.Delivery
 | [],_,_,_,_,h=>h
 | e::l,m,i,o,he,h=>by
  unfold gF
  cases hc:jO m i e != 0 with
  | true=>rw [if_pos rfl];exact h
  | false=>
   rw [if_neg Bool.false_ne_true]
   refine A1 l _ _ _ (fun z hz=>he z (List.mem_cons_of_mem _ hz)) ?_
   unfold uk
   split
   ·intro p hp
    rcases List.mem_append.1 hp with hp|hp
    ·exact h p hp
    ·rw [List.mem_singleton.1 hp]
     exact he e List.mem_cons_self
   ·exact h
theorem Gm {r:Rules} {l:List Mir.Event} (he :∀ e∈l,mW e.Ball) :∀ d∈(aN r l).1.map (·.Delivery),mW d:=by
 intro d hd
 obtain ⟨p,hp,rfl⟩:=List.mem_map.1 hd
 revert hp
 unfold aN
 split
 ·intro hp;cases hp
 ·exact A1 l _ _ _ he (fun p hp=>by cases hp) p
end Go.Proofs.YtffdpnmioidloaaGreatDoor
namespace Go.Proofs.YtffdpnmioidloaaGreatDoor
open Go Go.Mir
attribute [local irreducible] Go.Mir.DT.sat Go.Mir.evPat Go.Mir.RT.sat Go.Mir.evFn
abbrev LR:Pat:=⟨[(0,.c (.osl 0 1)),(1,.h I)],[(0,.row 1 (.nm .Row))],2⟩
def DX:Den (tyP qRL)→List Prop×Den (tyP LR):=fun x=>([],((dd x.1 x.2.1).2,(dd x.1 x.2.1).1,()))
abbrev Pe:List (Nat×PB):= [(0,.row 1 (.nm .Row))]
abbrev qWr:Pat:=⟨[(11,.c (.osl 0 1)),(30,.h OW),(31,.h I),(32,.h I)],Pe,2⟩
abbrev xWr:List (Lf×Pat):= [(.ret,⟨[(4,.c .nilsl),(5,.h I)],[],0⟩),(.ext 0,⟨[(11,.c (.osl 0 1))],Pe,2⟩)]
abbrev TWr:Type:=List Delivered×Int×Int×List Row×Unit
def vn (x:TWr):Prop:=(x.2.1 =(x.1.length:Int)∧0≤x.2.2.1∧x.2.2.1≤x.2.1∧x.1.length≤4000)∧(x.2.2.2.1.length:Int)≤x.2.2.1
def F2 (x:TWr):Nat:=(x.2.1 - x.2.2.1).toNat
def ju (x:TWr):Sum (Int×Unit) (List Row×Unit):=wrF (x.1.drop x.2.2.1.toNat) x.2.2.2.1
noncomputable def lpWr:Lp:=(⟨0,ao [oE] Tryz.f30,(fun _=>none),(aH Tryz.f30 0),qWr,xWr⟩:Lp)
theorem OG (xs:List Delivered) (n:Int) (i:Int) (o:List Row) (hi:vn (xs,n,i,o,())) :(Go.Mir.stepG lpWr ju (fun y:Den (tyP lpWr.q)=>vn y∧F2 y<F2 (xs,n,i,o,())) (xs,n,i,o,())∧Go.Mir.stepE lpWr ju (xs,n,i,o,())=ju (xs,n,i,o,())):=by
 refine cast (by kernel_rfl) (?_:let r1:Bool:=b8 (xs.getD i.toNat (dflt (Ty.nm Nm.Delivered))).9 !=(0:Int);let r2:List Row:= [Row.mk (xs.getD i.toNat (dflt (Ty.nm Nm.Delivered))).2 (xs.getD i.toNat (dflt (Ty.nm Nm.Delivered))).3 (xs.getD i.toNat (dflt (Ty.nm Nm.Delivered))).4 (xs.getD i.toNat (dflt (Ty.nm Nm.Delivered))).5 (xs.getD i.toNat (dflt (Ty.nm Nm.Delivered))).6 (xs.getD i.toNat (dflt (Ty.nm Nm.Delivered))).7 (prS (xs.getD i.toNat (dflt (Ty.nm Nm.Delivered))).9) (xs.getD i.toNat (dflt (Ty.nm Nm.Delivered))).11 (xs.getD i.toNat (dflt (Ty.nm Nm.Delivered))).12];((decide (i<n)=true→((0:Int)≤i∧i <(↑xs.length:Int))∧(r1=true→True)∧(r1=false→(o.length+r2.length) *(80:Nat)≤(70368744177664:Nat)∧vn (xs,n,IntKind.i64.wrap (i +(1:Int)),o++r2,())∧F2 (xs,n,IntKind.i64.wrap (i +(1:Int)),o++r2,())<F2 (xs,n,i,o,())))∧(decide (i<n)=false→True))∧(bif decide (i<n) then bif r1 then Sum.inl (b8 (xs.getD i.toNat (dflt (Ty.nm Nm.Delivered))).9,()) else ju (xs,n,IntKind.i64.wrap (i +(1:Int)),o++r2,()) else Sum.inr (o,()))=ju (xs,n,i,o,()))
 intro r1 r2
 clear_value (hr1:r1=_) (hr2:r2=_)
 obtain ⟨⟨h1,h2,h3,h4⟩,h5⟩:=hi
 simp only at h1 h2 h3 h4 h5
 by_cases h:i<n
 ·have e:xs.drop i.toNat=xs.getD i.toNat (dflt (Ty.nm Nm.Delivered))::xs.drop (i+1).toNat:=dI h2 (by omega) _
  have ew:IntKind.i64.wrap (i+1)=i+1:=bb (by omega) (by omega)
  rw [decide_eq_true h,ew,cond_true]
  generalize xs.getD i.toNat (dflt (Ty.nm Nm.Delivered))=v at *
  have e2:r2=[ia v]:=by rw [hr2];rfl
  have hl1:r2.length=1:=by rw [e2];rfl
  have hl :(o++r2).length=o.length+1:=by rw [List.length_append,hl1]
  refine ⟨⟨fun _=>⟨⟨h2,by omega⟩,fun _=>trivial,fun _=>⟨by omega,⟨⟨h1,by simp only;omega,by simp only;omega,h4⟩,by simp only;omega⟩,by simp only [F2];omega⟩⟩,fun z=>Bool.noConfusion z⟩,?_⟩
  simp only [ju]
  rw [e,e2,hr1]
  show _=if b8 v.Delivery != 0 then _ else _
  cases b8 v.Delivery != 0 <;> rfl
 ·rw [decide_eq_false h,cond_false]
  refine ⟨⟨fun z=>Bool.noConfusion z,fun _=>trivial⟩,?_⟩
  simp only [ju]
  rw [cM (l:=xs) (by omega)]
  rfl
noncomputable def Nk:LoopSum:=bh lpWr ju vn
noncomputable def M8:Nat:=rid (aH Tryz.f30 0)
theorem NS:LoopOKp Tryz.prog 0 Tryz.f30.ntmps (aH Tryz.f30 0) (bh lpWr ju vn):=
 cj lpWr (al (.consU sZ rfl .nil) _) mixed (fun b hb S hS=>by cases hS) ju vn F2 (fun |⟨xs,n,i,o,⟨⟩⟩,hi=>OG xs n i o hi)
theorem Dk (r:Rules) (l:List Mir.Event) :(evPat (ao [EL,xu,oE] Tryz.f30) (find [(M8,Nk)]) Tryz.f30 qRL LR (r,l,())).sat fun z_=>z_ =(DX (r,l,())).2:=by
 refine cast (by kernel_rfl) (?_:let r1:Bool:=isL (ju ((aN r l).1,(↑(aN r l).1.length:Int),(0:Int),[],()));((bR r l !=(0:Int))=true→(bR r l,[],()) =((dd r l).2,(dd r l).1,()))∧((bR r l !=(0:Int))=false→((fW fun x=>none)∧((↑(aN r l).1.length:Int) =(↑(aN r l).1.length:Int)∧(0:Int)≤(0:Int)∧(0:Int)≤(↑(aN r l).1.length:Int)∧(aN r l).1.length≤(4000:Nat))∧(↑(0:Nat):Int)≤(0:Int))∧(r1=true→((ov (dflt (I.prod Ty.unit)) (ju ((aN r l).1,(↑(aN r l).1.length:Int),(0:Int),[],()))).1,[],()) =((dd r l).2,(dd r l).1,()))∧(r1=false→((0:Int),xk (dflt ((Ty.nm Nm.Row).slice.prod Ty.unit)) (ju ((aN r l).1,(↑(aN r l).1.length:Int),(0:Int),[],()))) =((dd r l).2,(dd r l).1,()))))
 intro r1
 clear_value (hr1:r1=_)
 have hl:=vZ r l
 have er:ju ((aN r l).1,((aN r l).1.length:Int),0,[],()) = .inr ((aN r l).1.map ia,()):=by
  show wrF (aN r l).1 []=_
  rw [zg _ _ (tp r l)];rfl
 rw [er] at hr1 ⊢
 refine ⟨fun h=>?_,fun h=>⟨⟨rfl,⟨rfl,Int.le_refl _,by omega,hl⟩,Int.le_refl _⟩,fun a=>?_,fun a=>?_⟩⟩
 ·have:dd r l =([],bR r l):=by unfold dd;rw [h];rfl
  rw [this]
 ·rw [hr1] at a;cases a
 ·have:dd r l =((aN r l).1.map ia,0):=by rw [BT];unfold zi;rw [h];rfl
  rw [this];rfl
def oD:FuncId×Ctr:=(30,af KE qRL LR DX)
theorem vP:CtrOK Tryz.prog KE 30 (af KE qRL LR DX):=by
 refine aw (C:=ao [EL,xu,oE] Tryz.f30) (al (.consU IR rfl (.consU E7 rfl (.consU sZ rfl .nil))) _) mixed (fn:=Tryz.f30) Tryz.func30 (by kernel_rfl) (by kernel_rfl) (by kernel_rfl) (by kernel_rfl) (by kernel_rfl) (by kernel_rfl) (Λ:=fun x=>find [(M8,Nk)]) ?_ ?_
 ·rintro ⟨r,l,⟨⟩⟩ hw hn
  exact LoopsOKp.at (by kernel_rfl) (.cons (by kernel_rfl) (NS) .nil)
 ·rintro ⟨r,l,⟨⟩⟩ hw hn
  exact Dk r l
end Go.Proofs.YtffdpnmioidloaaGreatDoor
namespace Go.Mir
open Go.RowKit
variable {P:Program}
def cw (C:Cfg) (Λ κ:Nat→Option LoopSum):Code→St→Tr
 | .seq a b,st=>match κ (rid (.seq a b)) with
  | some S=> .need (S.pre st) (S.T st)
  | none=>D0 st (cw C Λ κ a st) fun d nx=>cw C Λ κ b (st.app d nx)
 | .cond c x y,st=>match AN st.tm c with
  | .kb true=>cw C Λ κ x st
  | .kb false=>cw C Λ κ y st
  | .bool b=> .br b (cw C Λ κ x st) (cw C Λ κ y st)
  | .hint q true=> .both (.when q (cw C Λ κ x st)) (cw C Λ κ y st)
  | .hint q false=> .both (.when q (cw C Λ κ y st)) (cw C Λ κ x st)
  | _=> .bad
 | .block id b,st=>(cw C Λ κ b st).catch id
 | .skip,st=>bs C Λ .skip st
 | .ret,st=>bs C Λ .ret st
 | .exit id,st=>bs C Λ (.exit id) st
 | .region id ops dr,st=>bs C Λ (.region id ops dr) st
 | .loop b,st=>bs C Λ (.loop b) st
 | _,_=> .bad
def eQ (κ:Nat→Option LoopSum):Code→List Code
 | .seq a b=>match κ (rid (.seq a b)) with
  | some _=> [.seq a b]
  | none=>eQ κ a++eQ κ b
 | .cond _ a b=>eQ κ a++eQ κ b
 | .block _ b=>eQ κ b
 | _=> []
def fV (Λ κ:Nat→Option LoopSum):Code→List Code
 | .seq a b=>match κ (rid (.seq a b)) with
  | some _=> []
  | none=>fV Λ κ a++fV Λ κ b
 | .cond _ a b=>fV Λ κ a++fV Λ κ b
 | .block _ b=>fV Λ κ b
 | .loop b=>aM Λ (.loop b)
 | _=> []
def MC (P:Program) (N:Nat) (B:Base) (c:Code) (S:LoopSum):Prop:=
 ∀ (st:St) (Q:Lf→Dl→Nat→Prop) (CQ:Exit→Act→World→Prop),S.pre st→(S.T st).sat Q→(∀ e d nx a w,Q e d nx→at_ B N st d nx a w→CQ (dK e) a w)→∀ a w,fv B N st a w→c.wp P CQ a w
theorem cS {C:Cfg} (hC:CfgOK P C) (hP:P.follows .mixedOrders=true) {Λ κ:Nat→Option LoopSum} {B:Base} :∀ (c:Code),(∀ b∈fV Λ κ c,∀ L,Λ (rid b)=some L→nt P C.N B b L)→(∀ d∈eQ κ c,∀ S,κ (rid d)=some S→MC P C.N B d S)→
  ∀ (st:St) (Q:Lf→Dl→Nat→Prop) (CQ:Exit→Act→World→Prop),(cw C Λ κ c st).sat Q→(∀ e d nx a w,Q e d nx→at_ B C.N st d nx a w→CQ (dK e) a w)→∀ a w,fv B C.N st a w→c.wp P CQ a w
 | .skip,_,_,st,Q,CQ,h,hQ,a,w,hs=>bn hC hP .skip (fun b hb=>by cases hb) st Q CQ h hQ a w hs
 | .ret,_,_,st,Q,CQ,h,hQ,a,w,hs=>bn hC hP .ret (fun b hb=>by cases hb) st Q CQ h hQ a w hs
 | .exit id,_,_,st,Q,CQ,h,hQ,a,w,hs=>bn hC hP (.exit id) (fun b hb=>by cases hb) st Q CQ h hQ a w hs
 | .region id ops dr,_,_,st,Q,CQ,h,hQ,a,w,hs=>bn hC hP (.region id ops dr) (fun b hb=>by cases hb) st Q CQ h hQ a w hs
 | .loop b,hL,_,st,Q,CQ,h,hQ,a,w,hs=>bn hC hP (.loop b) hL st Q CQ h hQ a w hs
 | .seq x y,hL,hK,st,Q,CQ,h,hQ,a,w,hs=>by
  simp only [cw] at h
  simp only [fV] at hL
  simp only [eQ] at hK
  cases hk:κ (rid (.seq x y)) with
  | some S=>
   rw [hk] at h hK
   simp only at h hK
   exact hK _ (List.mem_singleton.2 rfl) S hk st Q CQ h.1 h.2 hQ a w hs
  | none=>
   rw [hk] at h hK hL
   simp only at h hK hL
   have hx:=cS hC hP (Λ:=Λ) (κ:=κ) (B:=B) x (fun b hb=>hL b (List.mem_append_left _ hb)) (fun b hb=>hK b (List.mem_append_left _ hb))
   have hy:=cS hC hP (Λ:=Λ) (κ:=κ) (B:=B) y (fun b hb=>hL b (List.mem_append_right _ hb)) (fun b hb=>hK b (List.mem_append_right _ hb))
   have h2:=mc (B:=B) (N:=C.N) (Y:=fun a w=>y.wp P CQ a w) h (fun d nx hk a w ha=>by
    rw [fB] at hk
    exact hy (st.app d nx) _ CQ hk (fun e d' nx' a w hq hat=>hQ e _ _ a w hq (at_pre.1 hat)) a w (at_here.1 ha))
   refine wp_seq (hx st _ _ h2 (fun e d nx a w hq hat=>?_) a w hs)
   cases e with
   | nrm=>exact hq a w hat
   | ext id=>exact hQ (.ext id) d nx a w hq hat
   | ret=>exact hQ .ret d nx a w hq hat
 | .cond c x y,hL,hK,st,Q,CQ,h,hQ,a,w,hs=>by
  simp only [cw] at h
  have hx:=cS hC hP (Λ:=Λ) (κ:=κ) (B:=B) x (fun b hb=>hL b (by simp only [fV];exact List.mem_append_left _ hb)) (fun b hb=>hK b (by simp only [eQ];exact List.mem_append_left _ hb))
  have hy:=cS hC hP (Λ:=Λ) (κ:=κ) (B:=B) y (fun b hb=>hL b (by simp only [fV];exact List.mem_append_right _ hb)) (fun b hb=>hK b (by simp only [eQ];exact List.mem_append_right _ hb))
  have hv :∃ E:Env,ib E (find st.tm) a:=by
   obtain ⟨⟨E,_,_,_,_,hT⟩,_⟩:=hs
   exact ⟨E,hT⟩
  obtain ⟨E,hT⟩:=hv
  have hc:=iQ hT c
  split at h
  ·rename_i e;rw [e] at hc;simp only [aa] at hc
   exact wp_cond_true hc (hx st Q CQ h hQ a w hs)
  ·rename_i e;rw [e] at hc;simp only [aa] at hc
   exact wp_cond_false hc (hy st Q CQ h hQ a w hs)
  ·rename_i b e;rw [e] at hc;simp only [aa] at hc
   exact wp_cond_split hc (fun hb=>hx st Q CQ (h.1 hb) hQ a w hs) (fun hb=>hy st Q CQ (h.2 hb) hQ a w hs)
  ·rename_i q e;rw [e] at hc;simp only [aa] at hc
   obtain ⟨b,hc,hq⟩:=hc
   exact wp_cond_split hc (fun hb=>hx st Q CQ (h.1 (hq hb)) hQ a w hs) (fun _=>hy st Q CQ h.2 hQ a w hs)
  ·rename_i q e;rw [e] at hc;simp only [aa] at hc
   obtain ⟨b,hc,hq⟩:=hc
   exact wp_cond_split hc (fun _=>hx st Q CQ h.2 hQ a w hs) (fun hb=>hy st Q CQ (h.1 (hq hb)) hQ a w hs)
  ·exact h.elim
 | .block id b,hL,hK,st,Q,CQ,h,hQ,a,w,hs=>by
  simp only [cw] at h
  refine wp_block (cS hC hP (Λ:=Λ) (κ:=κ) (B:=B) b (fun b' hb=>hL b' (by simpa only [fV] using hb)) (fun b' hb=>hK b' (by simpa only [eQ] using hb)) st _ _ (dE h) (fun e d nx a w hq hat=>?_) a w hs)
  cases e with
  | nrm=>exact hQ .nrm d nx a w hq hat
  | ret=>exact hQ .ret d nx a w hq hat
  | ext id'=>
   simp only [dK,Exit.inBlock]
   simp only at hq
   split
   ·rename_i e;rw [if_pos e] at hq;exact hQ .nrm d nx a w hq hat
   ·rename_i e;rw [if_neg e] at hq;exact hQ (.ext id') d nx a w hq hat
 | .rangeFunc _ _ _ _,_,_,_,_,_,h,_,_,_,_=>h.elim
 | .scope _,_,_,_,_,_,h,_,_,_,_=>h.elim
 | .label _,_,_,_,_,_,h,_,_,_,_=>h.elim
 | .goto _,_,_,_,_,_,h,_,_,_,_=>h.elim
 | .refuse _,_,_,_,_,_,h,_,_,_,_=>h.elim
def rn (P:Program) (p N:Nat) (c:Code) (S:LoopSum):Prop:=∀ (B:Base),B.pins p→MC P N B c S
def CutsOKp (P:Program) (p N:Nat) (l:List Code) (κ:Nat→Option LoopSum):Prop:=∀ b∈l,∀ S,κ (rid b)=some S→rn P p N b S
theorem CutsOKp.nil {p N:Nat} {κ:Nat→Option LoopSum}:CutsOKp P p N [] κ:=fun b hb=>by simp at hb
theorem CutsOKp.cons {p N:Nat} {b:Code} {l:List Code} {κ:Nat→Option LoopSum} {S:LoopSum} (h0:κ (rid b)=some S) (h1:rn P p N b S) (h2:CutsOKp P p N l κ):CutsOKp P p N (b::l) κ:=fun b' hb S' hS=>by
 rcases List.mem_cons.1 hb with rfl|hb
 ·rw [h0] at hS;cases hS;exact h1
 ·exact h2 b' hb S' hS
theorem CutsOKp.at {p N:Nat} {c:Code} {κ:Nat→Option LoopSum} {l:List Code} (e:eQ κ c=l) (h:CutsOKp P p N l κ) :∀ b∈eQ κ c,∀ S,κ (rid b)=some S→rn P p N b S:=by rw [e];exact h
section
variable (L:Lp) (κ:Nat→Option LoopSum) (res:Den (tyP L.q)→gU L.X)
def stepEK (x:Den (tyP L.q)):gU L.X:=evT (kS L.X) (hdL L res (put L.q x)) (cw L.C L.Λ κ L.body (put L.q x))
def stepGK (inv:Den (tyP L.q)→Prop) (x:Den (tyP L.q)):Prop:=gT (kS L.X) (hdL L res (put L.q x)) (okL L inv (put L.q x)) (cw L.C L.Λ κ L.body (put L.q x))
end
def uS (fn:Func):Code:=match fn.body with|some c=>c|none=> .skip
def AllOKp (P:Program) (p N:Nat) (l:List Code) (Λ:Nat→Option LoopSum):Prop:=∀ b∈l,∀ L,Λ (rid b)=some L→LoopOKp P p N b L
theorem AllOKp.nil {p N:Nat} {Λ:Nat→Option LoopSum}:AllOKp P p N [] Λ:=fun b hb=>by simp at hb
theorem AllOKp.cons {p N:Nat} {b:Code} {l:List Code} {Λ:Nat→Option LoopSum} {L:LoopSum} (h0:Λ (rid b)=some L) (h1:LoopOKp P p N b L) (h2:AllOKp P p N l Λ):AllOKp P p N (b::l) Λ:=fun b' hb L' hL=>by
 rcases List.mem_cons.1 hb with rfl|hb
 ·rw [h0] at hL;cases hL;exact h1
 ·exact h2 b' hb L' hL
theorem AllOKp.at {p N:Nat} {fn:Func} {l:List Code} {Λ κ:Nat→Option LoopSum} (he:fV Λ κ (uS fn)=l) (h:AllOKp P p N l Λ) :∀ c,fn.body=some c→∀ b∈fV Λ κ c,∀ L,Λ (rid b)=some L→LoopOKp P p N b L:=fun c hc=>by
 have:uS fn=c:=by unfold uS;rw [hc]
 rw [←this,he]
 exact h
theorem CutsOKp.of {p N:Nat} {fn:Func} {l:List Code} {κ:Nat→Option LoopSum} (he:eQ κ (uS fn)=l) (h:CutsOKp P p N l κ) :∀ c,fn.body=some c→∀ b∈eQ κ c,∀ S,κ (rid b)=some S→rn P p N b S:=fun c hc=>by
 have:uS fn=c:=by unfold uS;rw [hc]
 rw [←this,he]
 exact h
end Go.Mir
namespace Go.Mir
open Go.RowKit
variable {P:Program}
section
variable (L:Lp) (κ:Nat→Option LoopSum) (q0:Pat) (res:Den (tyP L.q)→gU L.X)
def stepE0 (x:Den (tyP q0)):gU L.X:=evT (kS L.X) (hdL L res (put q0 x)) (cw L.C L.Λ κ L.body (put q0 x))
def stepG0 (inv:Den (tyP L.q)→Prop) (x:Den (tyP q0)):Prop:=gT (kS L.X) (hdL L res (put q0 x)) (okL L inv (put q0 x)) (cw L.C L.Λ κ L.body (put q0 x))
end
def ot (L:Lp) (q0:Pat) (res0:Den (tyP q0)→gU L.X) (ok:Den (tyP q0)→Prop):LoopSum:=
 ⟨fun st=>fW st.H0∧ifB (sJ st.nx st.hp) (match fL L.p q0 st with|some x=>ok x|none=>False),
  fun st=>match fL L.p q0 st with|some x=>m8 st (TX L.X (res0 x))|none=> .bad⟩
theorem BX (L:Lp) (κ:Nat→Option LoopSum) (q0:Pat) (hC:CfgOK P L.C) (hP:P.follows .mixedOrders=true) (hΛ :∀ b∈fV L.Λ κ L.body,∀ S,L.Λ (rid b)=some S→LoopOKp P L.p L.C.N b S) (hκ :∀ b∈eQ κ L.body,∀ S,κ (rid b)=some S→rn P L.p L.C.N b S)
  (res:Den (tyP L.q)→gU L.X) (inv:Den (tyP L.q)→Prop) (μ:Den (tyP L.q)→Nat)
  (step :∀ x,inv x→stepGK L κ res (fun y=>inv y∧μ y<μ x) x∧stepEK L κ res x=res x)
  (res0:Den (tyP q0)→gU L.X) (inv0:Den (tyP q0)→Prop) (μ0:Den (tyP q0)→Nat)
  (tZ :∀ x,inv0 x→stepG0 L κ q0 res (fun y=>inv y∧μ y<μ0 x) x∧stepE0 L κ q0 res x=res0 x):LoopOKp P L.p L.C.N L.body (ot L q0 res0 inv0):=by
 intro B hB st Q CQ hpre hT hQ a w hs
 simp only [ot] at hpre hT
 obtain ⟨hH0,hpre⟩:=hpre
 obtain ⟨hl,hpre⟩:=ifB_iff.1 hpre
 cases hr:fL L.p q0 st with
 | none=>rw [hr] at hpre;exact hpre.elim
 | some x0=>
 rw [hr] at hpre hT
 simp only at hpre hT
 have hT:=dW hT
 obtain ⟨hp0,hg0⟩:=dy hr
 have start:fv B L.C.N (put q0 x0) a w:=dU hB hg0 hp0 hs
 have key :∀ n x a w,inv x→μ x<n→(TX L.X (res x)).sat (fun e d nx=>Q e ⟨d.tm++kz st.tm,d.hp++iJ (Nat.max nx st.nx) st.hp⟩ (Nat.max nx st.nx+1))→fv B L.C.N (put L.q x) a w→Code.rounds P L.body CQ n a w:=by
  intro n
  induction n with
  | zero=>intro x a w _ hlt;omega
  | succ n ih=>
   intro x a w hx hlt hTx hs
   rw [rounds_succ]
   obtain ⟨hG,hE⟩:=step x hx
   refine cS hC hP (B:=B) L.body (fun b hb S hS=>hΛ b hb S hS B hB) (fun b hb S hS=>hκ b hb S hS B hB) (put L.q x) _ _ (dV _ _ _ _ hG) (fun e d nx a w hq hat=>?_) a w hs
   have hat:=at_here.1 hat
   obtain ⟨hok,hv⟩:=hq
   change hdL L res (put L.q x) e d nx=stepEK L κ res x at hv
   rw [hE] at hv
   have out :∀ e:Lf,(match mX L.p L.X e ((put L.q x).app d nx) with|some _=>True|none=>False)→(match mX L.p L.X e ((put L.q x).app d nx) with|some o=>o|none=>kS L.X)=res x→CQ (dK e) a w:=fun e hok hv=>by
    cases ho:mX L.p L.X e ((put L.q x).app d nx) with
    | none=>rw [ho] at hok;exact hok.elim
    | some o=>
     rw [ho] at hv
     simp only at hv
     subst hv
     obtain ⟨q,y,h1,h2⟩:=wF ho hTx
     obtain ⟨h3,h4⟩:=dy h1
     have h5:=dU hB h4 h3 hat
     exact hQ e _ _ a w h2 (ra hH0 hl h5)
   cases e with
   | nrm=>
    simp only [okL] at hok
    simp only [hdL] at hv
    cases hr2:fL L.p L.q ((put L.q x).app d nx) with
    | none=>rw [hr2] at hok;exact hok.elim
    | some y=>
     rw [hr2] at hok
     obtain ⟨h3,h4⟩:=dy hr2
     rw [h4] at hv
     simp only at hok hv
     exact ih y a w hok.1 (by omega) (by rw [hv];exact hTx) (dU hB h4 h3 hat)
   | ext id=>exact out (.ext id) hok hv
   | ret=>exact out .ret hok hv
 refine wp_loop_rounds (μ0 x0+1) ?_
 rw [rounds_succ]
 obtain ⟨hG,hE⟩:=tZ x0 hpre
 refine cS hC hP (B:=B) L.body (fun b hb S hS=>hΛ b hb S hS B hB) (fun b hb S hS=>hκ b hb S hS B hB) (put q0 x0) _ _ (dV _ _ _ _ hG) (fun e d nx a w hq hat=>?_) a w start
 have hat:=at_here.1 hat
 obtain ⟨hok,hv⟩:=hq
 change hdL L res (put q0 x0) e d nx=stepE0 L κ q0 res x0 at hv
 rw [hE] at hv
 have out :∀ e:Lf,(match mX L.p L.X e ((put q0 x0).app d nx) with|some _=>True|none=>False)→(match mX L.p L.X e ((put q0 x0).app d nx) with|some o=>o|none=>kS L.X)=res0 x0→CQ (dK e) a w:=fun e hok hv=>by
  cases ho:mX L.p L.X e ((put q0 x0).app d nx) with
  | none=>rw [ho] at hok;exact hok.elim
  | some o=>
   rw [ho] at hv
   simp only at hv
   subst hv
   obtain ⟨q,y,h1,h2⟩:=wF ho hT
   obtain ⟨h3,h4⟩:=dy h1
   have h5:=dU hB h4 h3 hat
   exact hQ e _ _ a w h2 (ra hH0 hl h5)
 cases e with
 | nrm=>
  simp only [okL] at hok
  simp only [hdL] at hv
  cases hr2:fL L.p L.q ((put q0 x0).app d nx) with
  | none=>rw [hr2] at hok;exact hok.elim
  | some y=>
   rw [hr2] at hok
   obtain ⟨h3,h4⟩:=dy hr2
   rw [h4] at hv
   simp only at hok hv
   exact key _ y a w hok.1 hok.2 (by rw [hv];exact hT) (dU hB h4 h3 hat)
 | ext id=>exact out (.ext id) hok hv
 | ret=>exact out .ret hok hv
end Go.Mir
namespace Go.Mir
open Go.RowKit
variable {P:Program}
inductive PF where
 | dat
 | ptr
 | clo (g:FuncId)
def Ff (H:aO) (t:Ty):V→Option (Den t)
 | .ptr h off=>match Nat.beq off 0 with
  | true=>match H h with
   | some (.cells cs)=>qA H t cs
   | _=>none
  | false=>none
 | .fp t' xs i off=>match Nat.beq off 0 with
  | true=>if e:t'=t then xs[i.toNat]?.map fun x=>(e▸x:Den t) else none
  | false=>none
 | _=>none
def ME (H:aO) (g:FuncId) (t:Ty):V→Option (Den t)
 | .fn g' [.nilmap,p]=>match Nat.beq g' g with
  | true=>Ff H t p
  | false=>none
 | _=>none
def E9 (H:aO) (q:PF) (a:Ty) (v:V):Option (Den a):=
 match q with
 | .ptr=>Ff H a v
 | .clo g=>ME H g a v
 | .dat=>(dB H (.prod a .unit) [v]).map (·.1)
def db (H:aO):List PF→(ps:Ty)→List V→Option (Den ps)
 | q,.prod a b,v::vs=>match E9 H (q.headD .dat) a v with
  | some x=>match db H q.tail b vs with
   | some y=>some (x,y)
   | none=>none
  | none=>none
 | _,.unit,[]=>some ()
 | _,_,_=>none
def O1 (q:PF) (a:Ty) (x:Den a):V:=
 match q with
 | .ptr=> .fp a [x] 0 0
 | .clo g=> .fn g [.nilmap,.fp a [x] 0 0]
 | .dat=>fi a x
def ll:List PF→(ps:Ty)→Den ps→List V
 | q,.prod a b,x=>O1 (q.headD .dat) a x.1::ll q.tail b x.2
 | _,_,_=> []
def Pf (H:aO):V→List Nat
 | .ptr h _=>(match H h with|some (.cells cs)=>hss cs|_=> [])
 | _=> []
def Ny (H:aO):List PF→List V→List Nat
 | q,v::vs=>(match q.headD .dat with
  | .ptr=>Pf H v
  | .clo _=>(match v with | .fn _ [_,p]=>Pf H p|_=> [])
  | .dat=>v.hs)++Ny H q.tail vs
 | _,[]=> []
def pL (K:Nat) (q:List PF) (ps:Ty) (spec:Den ps→PRes):Ctr:=fun args H m=>
 match db (roL H (Ny H q args)) q ps args with
 | some x=>
  let r:=spec x
  bif Nat.ble r.rows.length K&&r.flat then some (r.needs,r.v.shift m,iW m 0 r.rows) else none
 | none=>none
def BW (E:Env):Env:=⟨fun _=>False,fun _=>none,fun b=>b<E.w.heap.size,E.w,fun _=>none⟩
theorem qq {B:Base} {E:Env} (hE:HRel B E) {t:Ty} {v:V} {u:Value} {x:Den t} (hv:aa E v u) (h:Ff E.H t v=some x) :
  aa (BW E) (.fp t [x] 0 0) u∧∃ cs,Rd (fun b=>b<E.w.heap.size) E.w t x cs:=by
 have up :∀ {t:Ty} {x:Den t} {cs:List Value},Rd E.S E.w t x cs→Rd (fun b=>b<E.w.heap.size) E.w t x cs:=fun h=>h.ext (fun b hb=>hE.stab b hb) (fun _ _=>rfl)
 unfold Ff at h
 split at h
 ·rename_i hh off
  split at h
  case h_2=>cases h
  rename_i hoff
  have hoff:=Nat.eq_of_beq_eq_true hoff
  subst hoff
  split at h
  case h_2=>cases h
  rename_i cs hcs
  obtain ⟨b,c,T,fr,k1,k2,k3,k4,k5⟩:=hE.blk _ _ hcs
  have hrd:=cH hE h k5
  have hp:=hv
  simp only [aa] at hp
  obtain ⟨b',k6,k7⟩:=hp.2.2 cs hcs
  rw [k1] at k6
  cases k6
  have hlen:=hrd.len
  refine ⟨?_,_,up hrd⟩
  simp only [aa]
  refine ⟨b,0,c,T,fr,hE.lt _ _ _ hcs k1,k2,?_,fun j hj=>?_,Int.le_refl _,by simp,?_⟩
  ·simp only [List.length_singleton]
   have:c.toList.length=c.size:=by simp
   omega
  ·have:j=0:=by simpa using hj
   subst this
   have e:seg c (0+0*sz t) (sz t)=c.toList:=by
    unfold seg
    simp only [Nat.zero_mul,Nat.add_zero,List.drop_zero]
    exact List.take_of_length_le (by omega)
   rw [e]
   exact up hrd
  ·rw [k7];simp
 ·rename_i t' xs i off
  split at h
  case h_2=>cases h
  rename_i hoff
  have hoff:=Nat.eq_of_beq_eq_true hoff
  subst hoff
  split at h
  case isFalse=>cases h
  rename_i e
  subst e
  simp only [aa] at hv
  obtain ⟨b,o,c,T,fr,k1,k2,k3,k4,k5,k6,k7⟩:=hv
  rw [List.getElem?_eq_getElem k6] at h
  simp only [Option.map_some,Option.some.injEq] at h
  subst h
  have hm :(i.toNat+1)*sz t'≤xs.length*sz t':=Nat.mul_le_mul_right _ k6
  rw [Nat.add_mul] at hm
  refine ⟨?_,_,up (k4 _ k6)⟩
  simp only [aa]
  refine ⟨b,o+i.toNat*sz t',c,T,fr,hE.stab _ k1,k2,by simp only [List.length_singleton];omega,fun j hj=>?_,Int.le_refl _,by simp,?_⟩
  ·have:j=0:=by simpa using hj
   subst this
   simp only [Nat.zero_mul,Nat.add_zero]
   exact up (k4 _ k6)
  ·rw [k7];simp
 ·cases h
theorem AL {B:Base} {E:Env} (hE:HRel B E) {q:PF} {t:Ty} {v:V} {u:Value} {x:Den t} (hv:aa E v u) (h:E9 E.H q t v=some x) :
  aa (BW E) (O1 q t x) u∧∃ cs,Rd (fun b=>b<E.w.heap.size) E.w t x cs:=by
 have up :∀ {t:Ty} {x:Den t} {cs:List Value},Rd E.S E.w t x cs→Rd (fun b=>b<E.w.heap.size) E.w t x cs:=fun h=>h.ext (fun b hb=>hE.stab b hb) (fun _ _=>rfl)
 cases q with
 | ptr=>exact qq hE hv h
 | clo g=>
  simp only [E9] at h
  unfold ME at h
  split at h
  ·rename_i g' p
   split at h
   case h_2=>cases h
   rename_i hg
   have hg:=Nat.eq_of_beq_eq_true hg
   subst hg
   simp only [aa] at hv
   obtain ⟨l,h1,h2⟩:=hv
   obtain ⟨l⟩:=l
   match l,h2 with
   | [m,pv],h2=>
    simp only [ae] at h2
    obtain ⟨k1,k2⟩:=qq hE h2.2.1 h
    refine ⟨?_,k2⟩
    show aa (BW E) (.fn g' [.nilmap,.fp t [x] 0 0]) u
    unfold aa
    exact ⟨⟨[m,pv]⟩,h1,by simp only [ae];exact ⟨by simpa only [aa] using h2.1,k1,trivial⟩⟩
   | [],h2=>simp [ae] at h2
   | [_],h2=>simp [ae] at h2
   | _::_::_::_,h2=>simp [ae] at h2
  ·cases h
 | dat=>
  simp only [E9,Option.map_eq_some_iff] at h
  obtain ⟨x1,hx1,rfl⟩:=h
  let Ec:Env:=⟨fun _=>False,fun _=>none,E.S,E.w,fun _=>none⟩
  have hv1:ae E [v] [u]:=by simp only [ae];exact ⟨hv,trivial⟩
  obtain ⟨j1,cs1,j2⟩:=fy hE (Ec:=Ec) rfl rfl hv1 hx1
  have X:Ext Ec (BW E):=⟨fun _ h=>h,fun b hb=>hE.stab b hb,fun _ _=>rfl,fun h cs _ hx=>(by cases hx),fun h ver rw t xs _ _ hx=>(by cases hx),fun h ver esz cs _ _ hx=>(by cases hx),fun h es _ hx=>(by cases hx),fun h k t x _ hx=>(by cases hx)⟩
  have j3:=bc X _ _ j1
  simp only [bo,ae] at j3
  refine ⟨j3.1,?_⟩
  cases j2 with
  | prod ha hb=>exact ⟨_,up ha⟩
theorem qB {B:Base} {E:Env} (hE:HRel B E) :∀ {q:List PF} {ps:Ty} {args:List V} {av:List Value} {x:Den ps},ae E args av→db E.H q ps args=some x→
  ae (BW E) (ll q ps x) av∧∃ cs,Rd (fun b=>b<E.w.heap.size) E.w ps x cs:=by
 intro q ps
 induction ps generalizing q with
 | prod a b iha ihb=>
  intro args av x hv h
  cases args with
  | nil=>simp [db] at h
  | cons v vs=>
   cases av with
   | nil=>simp [ae] at hv
   | cons u us=>
    simp only [ae] at hv
    simp only [db] at h
    simp only [ll,ae]
    split at h
    case h_2=>cases h
    rename_i x1 hx1
    split at h
    case h_2=>cases h
    rename_i y1 hy1
    cases h
    obtain ⟨i1,cs2,i2⟩:=ihb hv.2 hy1
    obtain ⟨k1,cs1,k2⟩:=AL hE hv.1 hx1
    exact ⟨⟨k1,i1⟩,_,.prod k2 i2⟩
 | unit=>
  intro args av x hv h
  cases args with
  | nil=>
   cases av with
   | nil=>exact ⟨trivial,[],.unit⟩
   | cons=>simp [ae] at hv
  | cons=>simp [db] at h
 | int=>intro args av x hv h;cases args <;> simp [db] at h
 | bool=>intro args av x hv h;cases args <;> simp [db] at h
 | str=>intro args av x hv h;cases args <;> simp [db] at h
 | slice=>intro args av x hv h;cases args <;> simp [db] at h
 | nm=>intro args av x hv h;cases args <;> simp [db] at h
theorem Jb {C:Cfg} (hC:CfgOK P C) (hP:P.follows .mixedOrders=true) {f:FuncId} {fn:Func} (hf:P.funcs[f]?=some fn) (hbody:fn.body.isSome=true) (hname :(fn.name == "runtime.NumGoroutine")=false) (hN:C.N=fn.ntmps)
  {q:List PF} {ps:Ty} {spec:Den ps→PRes} {Λ:Den ps→Nat→Option LoopSum}
  (hΛ :∀ x:Den ps,wfD ps x→(∀ p∈(spec x).needs,p)→∀ c,fn.body=some c→∀ b∈aM (Λ x) c,∀ L,Λ x (rid b)=some L→LoopOK P C.N b L) (hlen :∀ x:Den ps,(ll q ps x).length≤fn.ntmps)
  (h :∀ x:Den ps,wfD ps x→(∀ p∈(spec x).needs,p)→(evFn C (Λ x) fn (ll q ps x)).sat fun v rows=>leV v (spec x).v∧rows =(spec x).rows):CtrOK P C.K f (pL C.K q ps spec):=by
 refine ⟨⟨fn,hf,hbody,hname⟩,fun B E hE args av hav m hm ps' v dh hct hps=>?_⟩
 unfold pL at hct
 split at hct
 case h_2=>cases hct
 rename_i x hx
 simp only at hct
 cases hle:Nat.ble (spec x).rows.length C.K&&(spec x).flat with
 | false=>rw [hle] at hct;cases hct
 | true=>
  rw [hle] at hct
  simp only [cond_true,Option.some.injEq,Prod.mk.injEq] at hct
  obtain ⟨rfl,rfl,rfl⟩:=hct
  simp only [Bool.and_eq_true] at hle
  obtain ⟨hle,hfl⟩:=hle
  obtain ⟨hSE,XS⟩:=cQ hE (Ny E.H q args)
  have hE0:HRel (zu E.w (fun _=>False) (fun b=>b<E.w.heap.size) hE.glob0) (BW E):=by
   refine ⟨fun h b hx=>?_,fun b hb=>hb,fun h k b hx=>?_,fun h h' k k' b hx=>?_,fun h k hx=>?_,Keeps.refl _ _,fun h k b hx=>?_,fun _ h=>h,fun _ h=> .inl h⟩ <;> cases hx
  obtain ⟨hav0,cs,hrd⟩:=qB hSE (bc XS _ _ hav) hx
  have hav0:ae (BW E) (ll q ps x) av:=hav0
  have hwf:wfD ps x:=⟨_,_,_,hrd⟩
  have hl0:av.length≤fn.ntmps:=by rw [←aY hav0];exact hlen x
  refine Calls.mono (rT hC hP hf hN (hΛ x hwf hps) (h x hwf hps) hE0 (fun _=>trivial) rfl rfl (fun _ h=>h) hav0 hl0) fun e w' hr=>?_
  obtain ⟨Ec,v',v0,v,acc,rfl,hEc,rfl,hv,hcan,hq1,hq2⟩:=hr
  have hcs:=nB hEc m v0 [] v acc v' hcan hv
  have hacc:=hcs.acc ⟨by simp,fun h r hr=>by simp at hr⟩
  have hlenK:acc.length≤C.K:=by
   have:=Nat.le_of_ble_eq_true hle
   rw [←hq2] at this
   simpa using this
  simp only [PRes.flat,Bool.and_eq_true,List.all_eq_true] at hfl
  obtain ⟨E',G,hren,_⟩:=Hf hE hm (S1:=fun b=>b<E.w.heap.size) (fun b hb=>hE.stab b hb) hEc hacc hlenK (.inr fun q hq=>hfl.2 _ (by rw [←hq2];exact List.mem_map_of_mem hq))
  refine ⟨E',v',rfl,?_,?_⟩
  ·rw [←hq2];exact G
  ·exact mF _ _ _ hq1 (hcs.rel E' G.w (.inr (xy _ _ hq1 hfl.1)) hren)
end Go.Mir
namespace Go.Mir
open Go.RowKit
variable {P:Program}
def orC (A B:Ctr):Ctr:=fun a h m=>match A a h m with
 | some r=>some r
 | none=>B a h m
theorem CtrOK.or {K:Nat} {f:FuncId} {A B:Ctr} (hA:CtrOK P K f A) (hB:CtrOK P K f B):CtrOK P K f (orC A B):=⟨hA.fn,fun Bs E hE args av hav m hm ps v dh hc hp=>by
 unfold orC at hc
 split at hc
 ·rename_i r e
  cases hc
  exact hA.calls Bs E hE args av hav m hm ps v dh e hp
 ·exact hB.calls Bs E hE args av hav m hm ps v dh hc hp⟩
end Go.Mir
namespace Go.Proofs.YtffdpnmioidloaaGreatDoor
open Go Go.Mir
attribute [local irreducible] Go.Mir.DT.sat Go.Mir.evPat Go.Mir.RT.sat Go.Mir.evFn
abbrev Rwk:Ty:= .slice (.nm .Row)
abbrev LH:Ty:= .prod I (.prod (.nm .Rules) .unit)
def Fp:Den LH→PRes:=fun x=>⟨[],.bool (inS x.2.1 x.1),[]⟩
abbrev LJ:Ty:= .prod (.nm .Rules) (.prod (.nm .Row) (.prod .bool (.prod (.nm .Row) .unit)))
def Mn:Den LJ→PRes:=fun x=>⟨[],.bool (gL x.1 (some (x.2.1,x.2.2.1)) x.2.2.2.1),[]⟩
abbrev Ma:Pat:=⟨[(0,.h (.nm .Rules)),(1,.c .nilptr),(2,.h .bool),(3,.h (.nm .Row))],[],0⟩
def Oh:Den (tyP Ma)→List Prop×Den (tyP aF):=fun x=>([],(gL x.1 none x.2.2.1,()))
def I0 (p:Int×Int):Sum (Int×Int×Unit) Unit:=if p.2 != 0 then .inl (p.1,p.2,()) else .inr ()
abbrev Pa:List (Nat×PB):= [(0,.dat (.nm .Rules))]
abbrev qCh:Pat:=⟨[(1,.h Rwk),(2,.c (.ptr 0 0)),(7,.c (.fn 92 [.ptr 0 0])),(8,.p (.nm .Row)),(9,.h .bool),(26,.h Rwk),(27,.h I),(28,.h I)],Pa,1⟩
abbrev qC0:Pat:=⟨[(1,.h Rwk),(2,.c (.ptr 0 0)),(7,.c (.fn 92 [.ptr 0 0])),(8,.c .nilptr),(9,.h .bool),(26,.h Rwk),(27,.h I),(28,.h I)],Pa,1⟩
abbrev xCh:List (Lf×Pat):= [(.ret,⟨[(4,.h I),(5,.h I)],[],0⟩),(.ext 0,⟨[],[],0⟩)]
abbrev TCh:Type:=List Row×Row×Bool×List Row×Int×Int×Rules×Unit
abbrev TC0:Type:=List Row×Bool×List Row×Int×Int×Rules×Unit
def vh (x:TCh):Prop:=x.2.2.2.1=x.1∧x.2.2.2.2.1 =(x.1.length:Int)∧(0≤x.2.2.2.2.2.1∧x.2.2.2.2.2.1≤x.2.2.2.2.1)∧x.1.length≤4000
def xH (x:TCh):Nat:=(x.2.2.2.2.1 - x.2.2.2.2.2.1).toNat
def jr (x:TCh):Sum (Int×Int×Unit) Unit:=I0 (dv x.2.2.2.2.2.2.1 (some (x.2.1,x.2.2.1)) x.2.2.2.2.2.1 (x.1.drop x.2.2.2.2.2.1.toNat))
def EB (x:TC0):Prop:=x.2.2.1=x.1∧x.2.2.2.1 =(x.1.length:Int)∧(0≤x.2.2.2.2.1∧x.2.2.2.2.1≤x.2.2.2.1)∧x.1.length≤4000
def K0 (x:TC0):Nat:=(x.2.2.2.1 - x.2.2.2.2.1).toNat
def ng (x:TC0):Sum (Int×Int×Unit) Unit:=I0 (dv x.2.2.2.2.2.1 none x.2.2.2.2.1 (x.1.drop x.2.2.2.2.1.toNat))
abbrev qRk:Pat:=bZ [.nm .Rules,Rwk]
abbrev LN:Pat:=bZ [I,I]
def ya:Den (tyP qRk)→List Prop×Den (tyP LN):=fun x=>([],((bp x.1 x.2.1).1,(bp x.1 x.2.1).2,()))
def klnPlacedO:FuncId×Ctr:=(94,orC (af KE Ma aF Oh) (pL KE [.dat,.ptr,.dat,.dat] LJ Mn))
theorem fj (a b:Bool) :(bif a then true else b) =(a||b):=by cases a <;> rfl
theorem lx (r:Rules) (b:Bef) (i:Int) (x:Row) (l:List Row):dv r b i (x::l)=if fD r b x != 0 then (i,fD r b x) else dv r (sO r x) (i+1) l:=rfl
theorem rE {r:Rules} :∀ (l:List Row) (b:Bef) (i:Int),(dv r b i l).2=0→dv r b i l =(-1,0)
 | [],_,_,_=>rfl
 | x::l,b,i,h=>by
  rw [lx] at h ⊢
  cases hc:fD r b x != 0 with
  | true=>
   rw [hc,if_pos rfl] at h
   have h:fD r b x=0:=h
   rw [h] at hc;cases hc
  | false=>
   rw [hc,if_neg Bool.false_ne_true] at h
   rw [if_neg Bool.false_ne_true]
   exact rE l _ _ h
theorem wj {r:Rules} {b:Bef} {v:Row} {a3 a6 a10 a4 a16:Bool} (h3:a3 =(pJ v.Symbol != 0)) (h6:a6 =(bJ (fX v.Symbol) != 0)) (h10:a10=mm r v) (h4:a4=!gL r b v) (h16:a16=nZ r b v) :
  fD r b v=bif a3 then 4 else bif a6 then 1 else bif a10 then 2 else bif a4 then 8 else bif a16 then 12 else 0:=by
 unfold fD
 rw [←h3,←h6,←h10,←h4,←h16]
 cases a3 <;> cases a6 <;> cases a10 <;> cases a4 <;> cases a16 <;> rfl
theorem jg (a b:Bool) :(bif a then b else false) =(a&&b):=by cases a <;> rfl
theorem MP (r:Rules) (o:Int) (c:Bool):nxB r o c=bif c then W (o+1) else o:=by cases c <;> rfl
theorem Pu (r:Rules) (k o:Int) (c:Bool):nxO r k o c=bif decide ((bif c then W (o+1) else o)≥r.Balls) then W (k+1) else k:=by
 unfold nxO
 rw [MP]
 by_cases h :(bif c then W (o+1) else o)≥r.Balls
 ·rw [if_pos h,decide_eq_true h];rfl
 ·rw [if_neg h,decide_eq_false h];rfl
theorem Pt (r:Rules) (o:Int) (c:Bool):nxI r o c=bif decide ((bif c then W (o+1) else o)≥r.Balls) then 0 else bif c then W (o+1) else o:=by
 unfold nxI
 rw [MP]
 by_cases h :(bif c then W (o+1) else o)≥r.Balls
 ·rw [if_pos h,decide_eq_true h];rfl
 ·rw [if_neg h,decide_eq_false h];rfl
def Ig:FuncId×Ctr:=(92,pL KE ([.dat,.ptr]:List PF) LH Fp)
theorem Mj (n:Int) (r:Rules) :(evFn (ao [] Tryz.f92) (fun _=>none) Tryz.f92 (ll ([.dat,.ptr]:List PF) LH (n,r,()))).sat fun v' rows=>leV v' (Fp (n,r,())).v∧rows =(Fp (n,r,())).rows:=by
 refine cast (by kernel_rfl) (?_ :(bif decide (n≥(1:Int)) then decide (n≤([r].getD (Int.toNat (0:Int)) (dflt (Ty.nm Nm.Rules))).2) else false)=inS r n∧([]:List RowD)=[])
 exact ⟨jg _ _,rfl⟩
theorem IT:CtrOK Tryz.prog KE 92 (pL KE ([.dat,.ptr]:List PF) LH Fp):=by
 refine Jb (C:=ao [] Tryz.f92) (al (CtrsOK.nil) _) mixed (fn:=Tryz.f92) Tryz.func92 (by kernel_rfl) (by kernel_rfl) (by kernel_rfl) (Λ:=fun _ _=>none) ?_ ?_ ?_
 ·exact fun _ _ _ _ _ _ _ _ h=>by cases h
 ·rintro ⟨n,r,⟨⟩⟩
  exact of_decide_eq_true (by kernel_rfl)
 ·rintro ⟨n,r,⟨⟩⟩ hw hn
  exact Mj n r
theorem Bu (r:Rules) (y:Row) (c:Bool) (x:Row) :(evFn (ao [] Tryz.f94) (fun _=>none) Tryz.f94 (ll ([.dat,.ptr,.dat,.dat]:List PF) LJ (r,y,c,x,()))).sat fun v' rows=>leV v' (Mn (r,y,c,x,())).v∧rows =(Mn (r,y,c,x,())).rows:=by
 refine cast (by kernel_rfl) (?_ :((x.1 ==([y].getD (Int.toNat (0:Int)) (dflt (Ty.nm Nm.Row))).1)=true→(bif x.2==bif decide ((bif c then IntKind.i64.wrap (([y].getD (Int.toNat (0:Int)) (dflt (Ty.nm Nm.Row))).3 +(1:Int)) else ([y].getD (Int.toNat (0:Int)) (dflt (Ty.nm Nm.Row))).3)≥r.5) then IntKind.i64.wrap (([y].getD (Int.toNat (0:Int)) (dflt (Ty.nm Nm.Row))).2 +(1:Int)) else ([y].getD (Int.toNat (0:Int)) (dflt (Ty.nm Nm.Row))).2 then x.3==bif decide ((bif c then IntKind.i64.wrap (([y].getD (Int.toNat (0:Int)) (dflt (Ty.nm Nm.Row))).3 +(1:Int)) else ([y].getD (Int.toNat (0:Int)) (dflt (Ty.nm Nm.Row))).3)≥r.5) then (0:Int) else bif c then IntKind.i64.wrap (([y].getD (Int.toNat (0:Int)) (dflt (Ty.nm Nm.Row))).3 +(1:Int)) else ([y].getD (Int.toNat (0:Int)) (dflt (Ty.nm Nm.Row))).3 else false)=gL r (some (y,c)) x∧([]:List RowD)=[])∧((x.1 ==([y].getD (Int.toNat (0:Int)) (dflt (Ty.nm Nm.Row))).1)=false→(bif decide (x.1≥IntKind.i64.wrap (([y].getD (Int.toNat (0:Int)) (dflt (Ty.nm Nm.Row))).1 +(1:Int))) then bif decide (x.1<IntKind.i64.wrap ((2:Int)*r.3)) then bif x.2 ==(0:Int) then x.3 ==(0:Int) else false else false else false)=gL r (some (y,c)) x∧([]:List RowD)=[]))
 refine ⟨fun h=>⟨?_,rfl⟩,fun h=>⟨?_,rfl⟩⟩
 ·have h :(x.Innings==y.Innings)=true:=h
  show _=if x.Innings==y.Innings then _ else _
  rw [if_pos h,Pu,Pt]
  exact jg _ _
 ·have h :(x.Innings==y.Innings)=false:=h
  show _=if x.Innings==y.Innings then _ else _
  rw [if_neg (by rw [h];exact Bool.false_ne_true)]
  unfold nM
  rw [←jg,←jg,←jg];rfl
theorem CJ:CtrOK Tryz.prog KE 94 (pL KE ([.dat,.ptr,.dat,.dat]:List PF) LJ Mn):=by
 refine Jb (C:=ao [] Tryz.f94) (al (CtrsOK.nil) _) mixed (fn:=Tryz.f94) Tryz.func94 (by kernel_rfl) (by kernel_rfl) (by kernel_rfl) (Λ:=fun _ _=>none) ?_ ?_ ?_
 ·exact fun _ _ _ _ _ _ _ _ h=>by cases h
 ·rintro ⟨r,y,c,x,⟨⟩⟩
  exact of_decide_eq_true (by kernel_rfl)
 ·rintro ⟨r,y,c,x,⟨⟩⟩ hw hn
  exact Bu r y c x
theorem x6 (r:Rules) (c:Bool) (x:Row) :(evPat (ao [] Tryz.f94) (fun _=>none) Tryz.f94 Ma aF (r,c,x,())).sat fun z_=>z_ =(Oh (r,c,x,())).2:=by
 refine cast (by kernel_rfl) (?_:let r1:Int:=IntKind.i64.wrap ((2:Int)*r.3);(bif decide (x.1≥(0:Int)) then bif decide (x.1<r1) then bif x.2 ==(0:Int) then x.3 ==(0:Int) else false else false else false,()) =(gL r none x,()))
 intro r1
 clear_value (hr1:r1=_)
 show _ =(nM r 0 x,())
 unfold nM
 rw [hr1,←jg,←jg,←jg]
theorem AF:CtrOK Tryz.prog KE 94 (af KE Ma aF Oh):=by
 refine aw (C:=ao [] Tryz.f94) (al (CtrsOK.nil) _) mixed (fn:=Tryz.f94) Tryz.func94 (by kernel_rfl) (by kernel_rfl) (by kernel_rfl) (by kernel_rfl) (by kernel_rfl) (by kernel_rfl) (Λ:=fun _ _=>none) ?_ ?_
 ·exact fun _ _ _ _ _ _ _ _ h=>by cases h
 ·rintro ⟨r,c,x,⟨⟩⟩ hw hn
  exact x6 r c x
theorem qm:CtrOK Tryz.prog KE 94 klnPlacedO.2:=CtrOK.or AF CJ
noncomputable def lpCh:Lp:=(⟨0,ao [Ig,klnPlacedO,xx,gZ,iH,oA] Tryz.f33,(fun _=>none),(aH Tryz.f33 0),qCh,xCh⟩:Lp)
theorem Oy (xs:List Row) (w:Row) (c:Bool) (l:List Row) (n:Int) (i:Int) (r:Rules) (hi:vh (xs,w,c,l,n,i,r,())) :(Go.Mir.stepGK lpCh (fun _=>none) jr (fun y:Den (tyP lpCh.q)=>vh y∧xH y<xH (xs,w,c,l,n,i,r,())) (xs,w,c,l,n,i,r,())∧Go.Mir.stepEK lpCh (fun _=>none) jr (xs,w,c,l,n,i,r,())=jr (xs,w,c,l,n,i,r,())):=by
 refine cast (by kernel_rfl) (?_:let r1:Credit:=aB r (fX (l.getD i.toNat (dflt (Ty.nm Nm.Row))).7);let r2:Int:=bX r1;let r3:Bool:=pJ (l.getD i.toNat (dflt (Ty.nm Nm.Row))).7 !=(0:Int);let r4:Bool:=!gL r (some (w,c)) (l.getD i.toNat (dflt (Ty.nm Nm.Row)));let r5:Row:= [w].getD (Int.toNat (0:Int)) (dflt (Ty.nm Nm.Row));let r6:Bool:=bJ (fX (l.getD i.toNat (dflt (Ty.nm Nm.Row))).7) !=(0:Int);let r7:Bool:=decide ((l.getD i.toNat (dflt (Ty.nm Nm.Row))).9>r.2);let r8:Int:=bif (fX (l.getD i.toNat (dflt (Ty.nm Nm.Row))).7).7 !=(0:Int) then (1:Int) else (0:Int);let r9:Bool:=r5.1 ==(l.getD i.toNat (dflt (Ty.nm Nm.Row))).1;let r10:Bool:=bif !inS r (l.getD i.toNat (dflt (Ty.nm Nm.Row))).4 then true else bif !inS r (l.getD i.toNat (dflt (Ty.nm Nm.Row))).5 then true else bif !inS r (l.getD i.toNat (dflt (Ty.nm Nm.Row))).6 then true else (l.getD i.toNat (dflt (Ty.nm Nm.Row))).5 ==(l.getD i.toNat (dflt (Ty.nm Nm.Row))).6;let r11:Int:=bif r9 then IntKind.i64.wrap (r2+r5.8) else r2;let r12:Bool:=(IntKind.i64.wrap ((l.getD i.toNat (dflt (Ty.nm Nm.Row))).8 - r11)).tmod (5:Int) !=(0:Int);let r13:Int:=bif r9 then IntKind.i64.wrap (r8+r5.9) else r8;let r14:Bool:=decide ((l.getD i.toNat (dflt (Ty.nm Nm.Row))).8<r11);let r15:Bool:=decide ((l.getD i.toNat (dflt (Ty.nm Nm.Row))).9<r13);let r16:Bool:=bif r14 then true else bif r12 then true else bif r15 then true else bif r7 then true else decide ((l.getD i.toNat (dflt (Ty.nm Nm.Row))).8 >(1000000:Int));((decide (i<n)=true→((0:Int)≤i∧i <(↑l.length:Int))∧(r3=true→True)∧(r3=false→(r6=true→True)∧(r6=false→(r10=true→True)∧(r10=false→(r4=true→True)∧(r4=false→((r14=true→True)∧(r14=false→(5:Int)≠(0:Int)∧(r12=true→True)∧(r12=false→(r15=true→True)∧(r15=false→(r7=true→True)∧(r7=false→True)))))∧(true=true→(r16=true→True)∧(r16=false→((0:Int)≤i∧i <(↑xs.length:Int))∧vh (xs,xs.getD i.toNat (dflt (Ty.nm Nm.Row)),r1.7,l,n,IntKind.i64.wrap (i +(1:Int)),r,())∧xH (xs,xs.getD i.toNat (dflt (Ty.nm Nm.Row)),r1.7,l,n,IntKind.i64.wrap (i +(1:Int)),r,())<xH (xs,w,c,l,n,i,r,()))))))))∧(decide (i<n)=false→True))∧(bif decide (i<n) then bif r3 then Sum.inl (i,(4:Int),()) else bif r6 then Sum.inl (i,(1:Int),()) else bif r10 then Sum.inl (i,(2:Int),()) else bif r4 then Sum.inl (i,(8:Int),()) else bif true&&(true&&(true&&(true&&true))) then bif r16 then Sum.inl (i,(12:Int),()) else jr (xs,xs.getD i.toNat (dflt (Ty.nm Nm.Row)),r1.7,l,n,IntKind.i64.wrap (i +(1:Int)),r,()) else bif true then bif r16 then Sum.inl (i,(12:Int),()) else jr (xs,xs.getD i.toNat (dflt (Ty.nm Nm.Row)),r1.7,l,n,IntKind.i64.wrap (i +(1:Int)),r,()) else bif r14 then Sum.inl (dflt (I.prod (I.prod Ty.unit))) else bif r12 then Sum.inl (dflt (I.prod (I.prod Ty.unit))) else bif r15 then Sum.inl (dflt (I.prod (I.prod Ty.unit))) else bif r7 then Sum.inl (dflt (I.prod (I.prod Ty.unit))) else Sum.inl (dflt (I.prod (I.prod Ty.unit))) else Sum.inr ())=jr (xs,w,c,l,n,i,r,()))
 intro r1 r2 r3 r4 r5 r6 r7 r8 r9 r10 r11 r12 r13 r14 r15 r16
 clear_value (hr1:r1=_) (hr2:r2=_) (hr3:r3=_) (hr4:r4=_) (hr5:r5=_) (hr6:r6=_) (hr7:r7=_) (hr8:r8=_) (hr9:r9=_) (hr10:r10=_) (hr11:r11=_) (hr12:r12=_) (hr13:r13=_) (hr14:r14=_) (hr15:r15=_) (hr16:r16=_)
 obtain ⟨h1,h2,⟨h3,h4⟩,h5⟩:=hi
 simp only at h1 h2 h3 h4 h5
 subst h1
 by_cases h:i<n
 ·have e:l.drop i.toNat=l.getD i.toNat (dflt (Ty.nm Nm.Row))::l.drop (i+1).toNat:=dI h3 (by omega) _
  have ew:IntKind.i64.wrap (i+1)=i+1:=bb (by omega) (by omega)
  rw [decide_eq_true h,ew,cond_true]
  generalize l.getD i.toNat (dflt (Ty.nm Nm.Row))=v at *
  have k11:r11=D7 r (some (w,c)) v:=by
   rw [hr11,hr9,hr5,hr2,hr1]
   show (bif w.Innings==v.Innings then _ else _)=if w.Innings==v.Innings then _ else _
   cases w.Innings==v.Innings <;> rfl
  have k8:r8=CW v:=by
   rw [hr8]
   show (bif (fX v.Symbol).How != 0 then _ else _)=if (fX v.Symbol).How != 0 then _ else _
   cases (fX v.Symbol).How != 0 <;> rfl
  have k13:r13=Hb (some (w,c)) v:=by
   rw [hr13,hr9,hr5,k8]
   show (bif w.Innings==v.Innings then _ else _)=if w.Innings==v.Innings then _ else _
   cases w.Innings==v.Innings <;> rfl
  have k10:r10=mm r v:=by rw [hr10,fj,fj,fj];rfl
  have k16:r16=nZ r (some (w,c)) v:=by
   rw [hr16,fj,fj,fj,fj,hr14,hr12,hr15,hr7,k11,k13];rfl
  have eE:=wj hr3 hr6 k10 hr4 k16
  have eN:sO r v=some (v,r1.Counts):=by rw [hr1];rfl
  clear k11 k8 k13 k10 k16 hr16 hr12 hr14 hr15 hr13 hr11 hr10 hr7
  refine ⟨⟨fun _=>⟨⟨h3,by omega⟩,fun _=>trivial,fun _=>⟨fun _=>trivial,fun _=>⟨fun _=>trivial,fun _=>⟨fun _=>trivial,fun _=>⟨⟨fun _=>trivial,fun _=>⟨by decide,fun _=>trivial,fun _=>⟨fun _=>trivial,fun _=>⟨fun _=>trivial,fun _=>trivial⟩⟩⟩⟩,fun _=>⟨fun _=>trivial,fun _=>⟨⟨h3,by omega⟩,⟨rfl,h2,⟨by simp only;omega,by simp only;omega⟩,h5⟩,by simp only [xH];omega⟩⟩⟩⟩⟩⟩⟩,fun z=>Bool.noConfusion z⟩,?_⟩
  simp only [jr]
  rw [e,lx,eE,eN]
  clear eE eN hr3 hr6 hr4
  cases r3 <;> cases r6 <;> cases r10 <;> cases r4 <;> cases r16 <;> rfl
 ·rw [decide_eq_false h,cond_false]
  refine ⟨⟨fun z=>Bool.noConfusion z,fun _=>trivial⟩,?_⟩
  simp only [jr]
  rw [cM (l:=l) (by omega)]
  rfl
theorem Ox (xs:List Row) (c:Bool) (l:List Row) (n:Int) (i:Int) (r:Rules) (hi:EB (xs,c,l,n,i,r,())) :(Go.Mir.stepG0 lpCh (fun _=>none) qC0 jr (fun y:Den (tyP lpCh.q)=>vh y∧xH y<K0 (xs,c,l,n,i,r,())) (xs,c,l,n,i,r,())∧Go.Mir.stepE0 lpCh (fun _=>none) qC0 jr (xs,c,l,n,i,r,())=ng (xs,c,l,n,i,r,())):=by
 refine cast (by kernel_rfl) (?_:let r1:Credit:=aB r (fX (l.getD i.toNat (dflt (Ty.nm Nm.Row))).7);let r2:Int:=bX r1;let r3:Bool:=!gL r none (l.getD i.toNat (dflt (Ty.nm Nm.Row)));let r4:Bool:=pJ (l.getD i.toNat (dflt (Ty.nm Nm.Row))).7 !=(0:Int);let r5:Bool:=bJ (fX (l.getD i.toNat (dflt (Ty.nm Nm.Row))).7) !=(0:Int);let r6:Bool:=decide ((l.getD i.toNat (dflt (Ty.nm Nm.Row))).9>r.2);let r7:Int:=bif (fX (l.getD i.toNat (dflt (Ty.nm Nm.Row))).7).7 !=(0:Int) then (1:Int) else (0:Int);let r8:Bool:=(IntKind.i64.wrap ((l.getD i.toNat (dflt (Ty.nm Nm.Row))).8 - r2)).tmod (5:Int) !=(0:Int);let r9:Bool:=decide ((l.getD i.toNat (dflt (Ty.nm Nm.Row))).8<r2);let r10:Bool:=bif !inS r (l.getD i.toNat (dflt (Ty.nm Nm.Row))).4 then true else bif !inS r (l.getD i.toNat (dflt (Ty.nm Nm.Row))).5 then true else bif !inS r (l.getD i.toNat (dflt (Ty.nm Nm.Row))).6 then true else (l.getD i.toNat (dflt (Ty.nm Nm.Row))).5 ==(l.getD i.toNat (dflt (Ty.nm Nm.Row))).6;let r11:Bool:=decide ((l.getD i.toNat (dflt (Ty.nm Nm.Row))).9<r7);let r12:Bool:=bif r9 then true else bif r8 then true else bif r11 then true else bif r6 then true else decide ((l.getD i.toNat (dflt (Ty.nm Nm.Row))).8 >(1000000:Int));((decide (i<n)=true→((0:Int)≤i∧i <(↑l.length:Int))∧(r4=true→True)∧(r4=false→(r5=true→True)∧(r5=false→(r10=true→True)∧(r10=false→(r3=true→True)∧(r3=false→((r9=true→True)∧(r9=false→((5:Int) =(0:Int)→False)∧(r8=true→True)∧(r8=false→(r11=true→True)∧(r11=false→(r6=true→True)∧(r6=false→True)))))∧(true=true→(r12=true→True)∧(r12=false→((0:Int)≤i∧i <(↑xs.length:Int))∧vh (xs,xs.getD i.toNat (dflt (Ty.nm Nm.Row)),r1.7,l,n,IntKind.i64.wrap (i +(1:Int)),r,())∧xH (xs,xs.getD i.toNat (dflt (Ty.nm Nm.Row)),r1.7,l,n,IntKind.i64.wrap (i +(1:Int)),r,())<K0 (xs,c,l,n,i,r,()))))))))∧(decide (i<n)=false→True))∧(bif decide (i<n) then bif r4 then Sum.inl (i,(4:Int),()) else bif r5 then Sum.inl (i,(1:Int),()) else bif r10 then Sum.inl (i,(2:Int),()) else bif r3 then Sum.inl (i,(8:Int),()) else bif true&&(true&&(true&&(true&&true))) then bif r12 then Sum.inl (i,(12:Int),()) else jr (xs,xs.getD i.toNat (dflt (Ty.nm Nm.Row)),r1.7,l,n,IntKind.i64.wrap (i +(1:Int)),r,()) else bif true then bif r12 then Sum.inl (i,(12:Int),()) else jr (xs,xs.getD i.toNat (dflt (Ty.nm Nm.Row)),r1.7,l,n,IntKind.i64.wrap (i +(1:Int)),r,()) else bif r9 then Sum.inl (dflt (I.prod (I.prod Ty.unit))) else bif r8 then Sum.inl (dflt (I.prod (I.prod Ty.unit))) else bif r11 then Sum.inl (dflt (I.prod (I.prod Ty.unit))) else bif r6 then Sum.inl (dflt (I.prod (I.prod Ty.unit))) else Sum.inl (dflt (I.prod (I.prod Ty.unit))) else Sum.inr ())=ng (xs,c,l,n,i,r,()))
 intro r1 r2 r3 r4 r5 r6 r7 r8 r9 r10 r11 r12
 clear_value (hr1:r1=_) (hr2:r2=_) (hr3:r3=_) (hr4:r4=_) (hr5:r5=_) (hr6:r6=_) (hr7:r7=_) (hr8:r8=_) (hr9:r9=_) (hr10:r10=_) (hr11:r11=_) (hr12:r12=_)
 obtain ⟨h1,h2,⟨h3,h4⟩,h5⟩:=hi
 simp only at h1 h2 h3 h4 h5
 subst h1
 by_cases h:i<n
 ·have e:l.drop i.toNat=l.getD i.toNat (dflt (Ty.nm Nm.Row))::l.drop (i+1).toNat:=dI h3 (by omega) _
  have ew:IntKind.i64.wrap (i+1)=i+1:=bb (by omega) (by omega)
  rw [decide_eq_true h,ew,cond_true]
  generalize l.getD i.toNat (dflt (Ty.nm Nm.Row))=v at *
  have k2:r2=D7 r none v:=by rw [hr2,hr1];rfl
  have k7:r7=Hb none v:=by
   rw [hr7]
   show (bif (fX v.Symbol).How != 0 then _ else _)=if (fX v.Symbol).How != 0 then _ else _
   cases (fX v.Symbol).How != 0 <;> rfl
  have k10:r10=mm r v:=by rw [hr10,fj,fj,fj];rfl
  have k12:r12=nZ r none v:=by
   rw [hr12,fj,fj,fj,fj,hr9,hr8,hr11,hr6,k2,k7];rfl
  have eE:=wj hr4 hr5 k10 hr3 k12
  have eN:sO r v=some (v,r1.Counts):=by rw [hr1];rfl
  clear k2 k7 k10 k12 hr12 hr8 hr9 hr11 hr10 hr6 hr7
  refine ⟨⟨fun _=>⟨⟨h3,by omega⟩,fun _=>trivial,fun _=>⟨fun _=>trivial,fun _=>⟨fun _=>trivial,fun _=>⟨fun _=>trivial,fun _=>⟨⟨fun _=>trivial,fun _=>⟨by decide,fun _=>trivial,fun _=>⟨fun _=>trivial,fun _=>⟨fun _=>trivial,fun _=>trivial⟩⟩⟩⟩,fun _=>⟨fun _=>trivial,fun _=>⟨⟨h3,by omega⟩,⟨rfl,h2,⟨by simp only;omega,by simp only;omega⟩,h5⟩,by simp only [xH,K0];omega⟩⟩⟩⟩⟩⟩⟩,fun z=>Bool.noConfusion z⟩,?_⟩
  simp only [jr,ng]
  rw [e,lx,eE,eN]
  clear eE eN hr3 hr4 hr5
  cases r4 <;> cases r5 <;> cases r10 <;> cases r3 <;> cases r12 <;> rfl
 ·rw [decide_eq_false h,cond_false]
  refine ⟨⟨fun z=>Bool.noConfusion z,fun _=>trivial⟩,?_⟩
  simp only [ng]
  rw [cM (l:=l) (by omega)]
  rfl
noncomputable def Nc:LoopSum:=ot lpCh qC0 ng EB
noncomputable def MY:Nat:=rid (aH Tryz.f33 0)
theorem NL:LoopOKp Tryz.prog 0 Tryz.f33.ntmps (aH Tryz.f33 0) (ot lpCh qC0 ng EB):=
 BX lpCh (fun _=>none) qC0 (al (.consU IT rfl (.consU qm rfl (.consU AK rfl (.consU lV rfl (.consU mN rfl (.consU sW rfl .nil)))))) _) mixed (fun b hb S hS=>by cases hS) (fun b hb S hS=>by cases hS) jr vh xH (fun |⟨xs,w,c,l,n,i,r,⟨⟩⟩,hi=>Oy xs w c l n i r hi) ng EB K0 (fun |⟨xs,c,l,n,i,r,⟨⟩⟩,hi=>Ox xs c l n i r hi)
theorem Dj (r:Rules) (l:List Row) :(evPat (ao [k85,Ig,klnPlacedO,xx,gZ,iH,oA] Tryz.f33) (find [(MY,Nc)]) Tryz.f33 qRk LN (r,l,())).sat fun z_=>z_ =(ya (r,l,())).2:=by
 refine cast (by kernel_rfl) (?_:let r1:Bool:=decide ((↑l.length:Int) >(4000:Int));let r2:Bool:=isL (ng (l,false,l,(↑l.length:Int),(0:Int),r,()));((aC r !=(0:Int))=true→((-1:Int),aC r,()) =((bp r l).1,(bp r l).2,()))∧((aC r !=(0:Int))=false→(r1=true→((-1:Int),(9:Int),()) =((bp r l).1,(bp r l).2,()))∧(r1=false→((fW fun x=>none)∧l=l∧(↑l.length:Int) =(↑l.length:Int)∧((0:Int)≤(0:Int)∧(0:Int)≤(↑l.length:Int))∧l.length≤(4000:Nat))∧(r2=true→ov (dflt (I.prod (I.prod Ty.unit))) (ng (l,false,l,(↑l.length:Int),(0:Int),r,())) =((bp r l).1,(bp r l).2,()))∧(r2=false→((-1:Int),(0:Int),()) =((bp r l).1,(bp r l).2,())))))
 intro r1 r2
 clear_value (hr1:r1=_) (hr2:r2=_)
 refine ⟨fun h=>?_,fun h=>⟨fun a=>?_,fun a=>?_⟩⟩
 ·have:bp r l =(-1,aC r):=by unfold bp;rw [h];rfl
  rw [this]
 ·have:bp r l =(-1,9):=by unfold bp;rw [h,←hr1,a];rfl
  rw [this]
 ·have eC:bp r l=dv r none 0 l:=by unfold bp;rw [h,←hr1,a];rfl
  have e0:ng (l,false,l,(l.length:Int),0,r,())=I0 (dv r none 0 l):=rfl
  rw [hr1] at a
  have hl:=of_decide_eq_false a
  rw [e0] at hr2 ⊢
  rw [eC]
  refine ⟨⟨rfl,rfl,rfl,⟨Int.le_refl _,by omega⟩,by omega⟩,fun b=>?_,fun b=>?_⟩
  ·rw [hr2] at b
   unfold I0 at b ⊢
   cases hc :(dv r none 0 l).2 != 0 with
   | true=>rfl
   | false=>rw [hc] at b;cases b
  ·rw [hr2] at b
   unfold I0 at b
   cases hc :(dv r none 0 l).2 != 0 with
   | true=>rw [hc] at b;cases b
   | false=>rw [rE l none 0 (by simpa using hc)]
def oC:FuncId×Ctr:=(33,af KE qRk LN ya)
theorem vO:CtrOK Tryz.prog KE 33 (af KE qRk LN ya):=by
 refine aw (C:=ao [k85,Ig,klnPlacedO,xx,gZ,iH,oA] Tryz.f33) (al (.consU sS rfl (.consU IT rfl (.consU qm rfl (.consU AK rfl (.consU lV rfl (.consU mN rfl (.consU sW rfl .nil))))))) _) mixed (fn:=Tryz.f33) Tryz.func33 (by kernel_rfl) (by kernel_rfl) (by kernel_rfl) (by kernel_rfl) (by kernel_rfl) (by kernel_rfl) (Λ:=fun x=>find [(MY,Nc)]) ?_ ?_
 ·rintro ⟨r,l,⟨⟩⟩ hw hn
  exact LoopsOKp.at (by kernel_rfl) (.cons (by kernel_rfl) (NL) .nil)
 ·rintro ⟨r,l,⟨⟩⟩ hw hn
  exact Dj r l
end Go.Proofs.YtffdpnmioidloaaGreatDoor
namespace Go.Proofs.YtffdpnmioidloaaGreatDoor
open Go Go.Mir
attribute [local irreducible] Go.Mir.DT.sat Go.Mir.evPat Go.Mir.RT.sat Go.Mir.evFn
abbrev LW (a:Ty):Pat:=bZ [.slice a,.slice a]
def Od (a:Ty):Den (tyP (LW a))→List Prop×Den (tyP aF):=fun x=>([x.1=x.2.1],(true,()))
abbrev QM (a:Ty):Pat:=⟨[(0,.h (.slice a)),(1,.h (.slice a)),(12,.h I),(13,.h I)],[],0⟩
abbrev QP:List (Lf×Pat):= [(.ret,⟨[(4,.h .bool)],[],0⟩),(.ext 0,⟨[],[],0⟩)]
abbrev Np (a:Ty):Type:=List (Den a)×List (Den a)×Int×Int×Unit
def po (a:Ty) (x:Np a):Prop:=x.2.2.1 =(x.1.length:Int)∧x.1=x.2.1∧0≤x.2.2.2.1∧x.2.2.2.1≤x.2.2.1∧x.1.length≤aP
def vJ (a:Ty) (x:Np a):Nat:=(x.2.2.1 - x.2.2.2.1).toNat
def l7 (a:Ty) (_:Np a):Sum (Bool×Unit) Unit:= .inr ()
abbrev qL:Pat:=bZ []
abbrev LS:Pat:=bZ [.nm .Delivery]
abbrev LX:Pat:=bZ [.nm .Event]
abbrev Mc:Pat:=bZ [.nm .Rules]
abbrev L0:Pat:=bZ [Evs]
def ev9:Mir.Event:=Mir.Event.zero
def m1 (d:Delivery):Mir.Event:={ ev9 with Kind:=4,Ball:=d }
def de9:Delivery:=Delivery.zero
def Jn:Rules:={ Rules.zero with Name:={ data:=#[84,69,83,84] },Side:=2,Innings:=1,Overs:=1,Balls:=4,Wide:=1,NoBall:=1,Outside:=11 }
def Po:List Mir.Event:= [{ ev9 with Kind:=1,Side:=1,Yes:=true },{ ev9 with Kind:=2,Player:=1,Other:=2 },{ ev9 with Kind:=8,Player:=2 },{ ev9 with Kind:=3,Player:=1 },
 m1 { de9 with Typ:=1,Source:=1,Runs:=1 },m1 { de9 with Typ:=1,How:=1,Victim:=1 },{ ev9 with Kind:=2,Player:=2,Other:=1 },{ ev9 with Kind:=8,Player:=1 },{ ev9 with Kind:=3,Player:=2 },
 m1 { de9 with Typ:=2 },m1 { de9 with Typ:=1,Source:=1,Boundary:=4 }]
def Dt:Den (tyP LS)→List Prop×Den (tyP LX):=fun x=>([],(m1 x.1,()))
def yk:Den (tyP qL)→List Prop×Den (tyP Mc):=fun _=>([],(Jn,()))
def JS:Den (tyP qL)→List Prop×Den (tyP L0):=fun _=>([],(Po,()))
def DU:Den (tyP qL)→List Prop×Den (tyP aF):=fun _=>([],(true,()))
noncomputable def lpLEqRow:Lp:=(⟨0,ao [] Tryz.f24,(fun _=>none),(aH Tryz.f24 0),(QM (.nm .Row)),QP⟩:Lp)
theorem D4 (xs:List Row) (zs:List Row) (n:Int) (i:Int) (hi :(po (.nm .Row)) (xs,zs,n,i,())) :(Go.Mir.stepG lpLEqRow (l7 (.nm .Row)) (fun y:Den (tyP lpLEqRow.q)=>(po (.nm .Row)) y∧(vJ (.nm .Row)) y <(vJ (.nm .Row)) (xs,zs,n,i,())) (xs,zs,n,i,())∧Go.Mir.stepE lpLEqRow (l7 (.nm .Row)) (xs,zs,n,i,()) =(l7 (.nm .Row)) (xs,zs,n,i,())):=by
 refine cast (by kernel_rfl) (?_:let r1:Bool:=!((xs.getD i.toNat (dflt (Ty.nm Nm.Row))).1 ==(zs.getD i.toNat (dflt (Ty.nm Nm.Row))).1&&((xs.getD i.toNat (dflt (Ty.nm Nm.Row))).2 ==(zs.getD i.toNat (dflt (Ty.nm Nm.Row))).2&&((xs.getD i.toNat (dflt (Ty.nm Nm.Row))).3 ==(zs.getD i.toNat (dflt (Ty.nm Nm.Row))).3&&((xs.getD i.toNat (dflt (Ty.nm Nm.Row))).4 ==(zs.getD i.toNat (dflt (Ty.nm Nm.Row))).4&&((xs.getD i.toNat (dflt (Ty.nm Nm.Row))).5 ==(zs.getD i.toNat (dflt (Ty.nm Nm.Row))).5&&((xs.getD i.toNat (dflt (Ty.nm Nm.Row))).6 ==(zs.getD i.toNat (dflt (Ty.nm Nm.Row))).6&&((xs.getD i.toNat (dflt (Ty.nm Nm.Row))).7.toList ==(zs.getD i.toNat (dflt (Ty.nm Nm.Row))).7.toList&&((xs.getD i.toNat (dflt (Ty.nm Nm.Row))).8 ==(zs.getD i.toNat (dflt (Ty.nm Nm.Row))).8&&((xs.getD i.toNat (dflt (Ty.nm Nm.Row))).9 ==(zs.getD i.toNat (dflt (Ty.nm Nm.Row))).9&&true)))))))));((decide (i<n)=true→((0:Int)≤i∧i <(↑xs.length:Int))∧((0:Int)≤i∧i <(↑zs.length:Int))∧(r1=true→True)∧(r1=false→po (Ty.nm Nm.Row) (xs,zs,n,IntKind.i64.wrap (i +(1:Int)),())∧vJ (Ty.nm Nm.Row) (xs,zs,n,IntKind.i64.wrap (i +(1:Int)),())<vJ (Ty.nm Nm.Row) (xs,zs,n,i,())))∧(decide (i<n)=false→True))∧(bif decide (i<n) then bif r1 then Sum.inl (false,()) else l7 (Ty.nm Nm.Row) (xs,zs,n,IntKind.i64.wrap (i +(1:Int)),()) else Sum.inr ())=l7 (Ty.nm Nm.Row) (xs,zs,n,i,()))
 intro r1
 clear_value (hr1:r1=_)
 obtain ⟨h1,h2,h3,h4,h5⟩:=hi
 simp only at h1 h2 h3 h4 h5
 subst h2
 have h1:n =(xs.length:Int):=h1
 have hx :(xs.length:Int)≤140737488355328:=by have:xs.length≤140737488355328:=h5;omega
 have h4:i≤n:=h4
 have e1:r1=false:=by rw [hr1];simp
 clear hr1
 subst e1
 by_cases h:i<n
 ·rw [decide_eq_true h,bb (n:=i+1) (by omega) (by omega)]
  exact ⟨⟨fun _=>⟨⟨h3,by omega⟩,⟨h3,by omega⟩,fun _=>trivial,fun _=>⟨⟨h1,rfl,by simp only;omega,by simp only;omega,h5⟩,by simp only [vJ];omega⟩⟩,fun z=>Bool.noConfusion z⟩,rfl⟩
 ·rw [decide_eq_false h]
  exact ⟨⟨fun z=>Bool.noConfusion z,fun _=>trivial⟩,rfl⟩
noncomputable def wA:LoopSum:=bh lpLEqRow (l7 (.nm .Row)) (po (.nm .Row))
noncomputable def wi:Nat:=rid (aH Tryz.f24 0)
theorem Cv:LoopOKp Tryz.prog 0 Tryz.f24.ntmps (aH Tryz.f24 0) (bh lpLEqRow (l7 (.nm .Row)) (po (.nm .Row))):=
 cj lpLEqRow (al (CtrsOK.nil) _) mixed (fun b hb S hS=>by cases hS) (l7 (.nm .Row)) (po (.nm .Row)) (vJ (.nm .Row)) (fun |⟨xs,zs,n,i,⟨⟩⟩,hi=>D4 xs zs n i hi)
theorem Jr (xs:List Row) (zs:List Row) (he:xs=zs) (hx:xs.length≤aP) :(evPat (ao [] Tryz.f24) (find [(wi,wA)]) Tryz.f24 (LW (.nm .Row)) aF (xs,zs,())).sat fun z_=>z_ =((Od (.nm .Row)) (xs,zs,())).2:=by
 refine cast (by kernel_rfl) (?_:let r1:Bool:=(↑xs.length:Int) !=(↑zs.length:Int);(r1=true→(false,()) =(true,()))∧(r1=false→((fW fun x=>none)∧(↑xs.length:Int) =(↑xs.length:Int)∧xs=zs∧(0:Int)≤(0:Int)∧(0:Int)≤(↑xs.length:Int)∧xs.length≤aP)∧(false=true→(false,()) =(true,()))∧(false=false→(true,()) =(true,()))))
 intro r1
 clear_value (hr1:r1=_)
 have e1:r1=false:=by rw [hr1,he];simp
 exact ⟨fun h=>(by rw [e1] at h;cases h),fun _=>⟨⟨rfl,rfl,he,Int.le_refl _,by omega,hx⟩,fun h=>(by cases h),fun _=>rfl⟩⟩
def HU:FuncId×Ctr:=(24,af KE (LW (.nm .Row)) aF (Od (.nm .Row)))
theorem Le:CtrOK Tryz.prog KE 24 (af KE (LW (.nm .Row)) aF (Od (.nm .Row))):=by
 refine aw (C:=ao [] Tryz.f24) (al (CtrsOK.nil) _) mixed (fn:=Tryz.f24) Tryz.func24 (by kernel_rfl) (by kernel_rfl) (by kernel_rfl) (by kernel_rfl) (by kernel_rfl) (by kernel_rfl) (Λ:=fun x=>find [(wi,wA)]) ?_ ?_
 ·rintro ⟨xs,zs,⟨⟩⟩ hw hn
  exact LoopsOKp.at (by kernel_rfl) (.cons (by kernel_rfl) (Cv) .nil)
 ·rintro ⟨xs,zs,⟨⟩⟩ hw hn
  exact Jr xs zs (hn _ List.mem_cons_self) (dT (bf hw))
theorem Qm {b:Bool} {p:Prop} (e:b=false):b=true→p:=fun h=>by rw [e] at h;cases h
theorem BC (d:Delivery) :(evPat (ao [] Tryz.f97) (fun _=>none) Tryz.f97 LS LX (d,())).sat fun z_=>z_ =(Dt (d,())).2:=by
 refine cast (by kernel_rfl) (?_ :(Mir.Event.mk (4:Int) (0:Int) (0:Int) (0:Int) false (0:Int) (0:Int) d,()) =(m1 d,()))
 rfl
def vG:FuncId×Ctr:=(97,af KE LS LX Dt)
theorem CR:CtrOK Tryz.prog KE 97 (af KE LS LX Dt):=by
 refine aw (C:=ao [] Tryz.f97) (al (CtrsOK.nil) _) mixed (fn:=Tryz.f97) Tryz.func97 (by kernel_rfl) (by kernel_rfl) (by kernel_rfl) (by kernel_rfl) (by kernel_rfl) (by kernel_rfl) (Λ:=fun _ _=>none) ?_ ?_
 ·exact fun _ _ _ _ _ _ _ _ h=>by cases h
 ·rintro ⟨d,⟨⟩⟩ hw hn
  exact BC d
theorem BD :(evPat (ao [] Tryz.f37) (fun _=>none) Tryz.f37 qL Mc ()).sat fun z_=>z_ =(yk ()).2:=by
 refine cast (by kernel_rfl) (?_ :(Rules.mk (ByteArray.mk #[84,69,83,84]) (2:Int) (1:Int) (1:Int) (4:Int) (0:Int) (1:Int) (1:Int) false (0:Int) (0:Int) (0:Int) (11:Int) [],()) =(Jn,()))
 rfl
def vH:FuncId×Ctr:=(37,af KE qL Mc yk)
theorem CS:CtrOK Tryz.prog KE 37 (af KE qL Mc yk):=by
 refine aw (C:=ao [] Tryz.f37) (al (CtrsOK.nil) _) mixed (fn:=Tryz.f37) Tryz.func37 (by kernel_rfl) (by kernel_rfl) (by kernel_rfl) (by kernel_rfl) (by kernel_rfl) (by kernel_rfl) (Λ:=fun _ _=>none) ?_ ?_
 ·exact fun _ _ _ _ _ _ _ _ h=>by cases h
 ·rintro ⟨⟩ hw hn
  exact BD
theorem GV :(evPat (ao [vG] Tryz.f38) (fun _=>none) Tryz.f38 qL L0 ()).sat fun z_=>z_ =(JS ()).2:=by
 refine cast (by kernel_rfl) (?_:let r1:Delivery:=Delivery.mk (0:Int) (0:Int) (0:Int) (0:Int) (0:Int) false (0:Int) (0:Int) (0:Int) (0:Int) false (0:Int);([Mir.Event.mk (1:Int) (1:Int) (0:Int) (0:Int) true (0:Int) (0:Int) r1,Mir.Event.mk (2:Int) (0:Int) (1:Int) (2:Int) false (0:Int) (0:Int) r1,Mir.Event.mk (8:Int) (0:Int) (2:Int) (0:Int) false (0:Int) (0:Int) r1,Mir.Event.mk (3:Int) (0:Int) (1:Int) (0:Int) false (0:Int) (0:Int) r1,Mir.Event.mk (4:Int) (0:Int) (0:Int) (0:Int) false (0:Int) (0:Int) (Delivery.mk (1:Int) (1:Int) (1:Int) (0:Int) (0:Int) false (0:Int) (0:Int) (0:Int) (0:Int) false (0:Int)),Mir.Event.mk (4:Int) (0:Int) (0:Int) (0:Int) false (0:Int) (0:Int) (Delivery.mk (1:Int) (0:Int) (0:Int) (0:Int) (0:Int) false (1:Int) (1:Int) (0:Int) (0:Int) false (0:Int)),Mir.Event.mk (2:Int) (0:Int) (2:Int) (1:Int) false (0:Int) (0:Int) r1,Mir.Event.mk (8:Int) (0:Int) (1:Int) (0:Int) false (0:Int) (0:Int) r1,Mir.Event.mk (3:Int) (0:Int) (2:Int) (0:Int) false (0:Int) (0:Int) r1,Mir.Event.mk (4:Int) (0:Int) (0:Int) (0:Int) false (0:Int) (0:Int) (Delivery.mk (2:Int) (0:Int) (0:Int) (0:Int) (0:Int) false (0:Int) (0:Int) (0:Int) (0:Int) false (0:Int)),Mir.Event.mk (4:Int) (0:Int) (0:Int) (0:Int) false (0:Int) (0:Int) (Delivery.mk (1:Int) (1:Int) (0:Int) (0:Int) (4:Int) false (0:Int) (0:Int) (0:Int) (0:Int) false (0:Int))],()) =(Po,()))
 intro r1
 clear_value (hr1:r1=_)
 rw [hr1]
 rfl
def EP:FuncId×Ctr:=(38,af KE qL L0 JS)
theorem IX:CtrOK Tryz.prog KE 38 (af KE qL L0 JS):=by
 refine aw (C:=ao [vG] Tryz.f38) (al (.consU CR rfl .nil) _) mixed (fn:=Tryz.f38) Tryz.func38 (by kernel_rfl) (by kernel_rfl) (by kernel_rfl) (by kernel_rfl) (by kernel_rfl) (by kernel_rfl) (Λ:=fun _ _=>none) ?_ ?_
 ·exact fun _ _ _ _ _ _ _ _ h=>by cases h
 ·rintro ⟨⟩ hw hn
  exact GV
theorem BF :(evPat (ao [vH,EP,oD,oC,HU] Tryz.f19) (fun _=>none) Tryz.f19 qL aF ()).sat fun z_=>z_ =(DU ()).2:=by
 refine cast (by kernel_rfl) (?_:let r1:Bool:=(0:Int) !=(0:Int);let r2:Int:=(0:Int) +(1:Int);let r3:Bool:=bif r1 then true else !true;let r4:Int:=r2 +(1:Int);let r5:Int:=r4 +(1:Int);let r6:Int:=r5 +(1:Int);let r7:Delivery:=Delivery.mk (0:Int) (0:Int) (0:Int) (0:Int) (0:Int) false (0:Int) (0:Int) (0:Int) (0:Int) false (0:Int);let r8:Delivery:=Delivery.mk (1:Int) (1:Int) (1:Int) (0:Int) (0:Int) false (0:Int) (0:Int) (0:Int) (0:Int) false (0:Int);let r9:Delivery:=Delivery.mk (1:Int) (0:Int) (0:Int) (0:Int) (0:Int) false (1:Int) (1:Int) (0:Int) (0:Int) false (0:Int);let r10:Delivery:=Delivery.mk (2:Int) (0:Int) (0:Int) (0:Int) (0:Int) false (0:Int) (0:Int) (0:Int) (0:Int) false (0:Int);let r11:Delivery:=Delivery.mk (1:Int) (1:Int) (0:Int) (0:Int) (4:Int) false (0:Int) (0:Int) (0:Int) (0:Int) false (0:Int);let r12:Row:=Row.mk (0:Int) (0:Int) (0:Int) (1:Int) (1:Int) (2:Int) (ByteArray.mk #[49]) (2:Int) (0:Int);let r13:Int:=r6 +(1:Int);let r14:Row:=Row.mk (0:Int) (0:Int) (1:Int) (1:Int) (2:Int) (1:Int) (ByteArray.mk #[46,47,66,49]) (1:Int) (1:Int);let r15:Int:=r13 +(1:Int);let r16:Int:=r15 +(1:Int);let r17:Rules:=Rules.mk (ByteArray.mk #[84,69,83,84]) (2:Int) (1:Int) (1:Int) (4:Int) (0:Int) (1:Int) (1:Int) false (0:Int) (0:Int) (0:Int) (11:Int) [];let r18:Int:=r16 +(1:Int);let r19:Int:=r18 +(1:Int);let r20:Int:=r19 +(1:Int);let r21:List Row:= [Row.mk (0:Int) (0:Int) (0:Int) (1:Int) (1:Int) (2:Int) (ByteArray.mk #[49]) (1:Int) (0:Int),r14,Row.mk (1:Int) (0:Int) (0:Int) (2:Int) (2:Int) (1:Int) (ByteArray.mk #[119]) (1:Int) (0:Int),Row.mk (1:Int) (0:Int) (0:Int) (2:Int) (2:Int) (1:Int) (ByteArray.mk #[70]) (5:Int) (0:Int)];let r22:Match:=c8 (c8 (c8 (c8 (F3 r17) (0:Int) (Mir.Event.mk (1:Int) (1:Int) (0:Int) (0:Int) true (0:Int) (0:Int) r7)) r2 (Mir.Event.mk (2:Int) (0:Int) (1:Int) (2:Int) false (0:Int) (0:Int) r7)) r4 (Mir.Event.mk (8:Int) (0:Int) (2:Int) (0:Int) false (0:Int) (0:Int) r7)) r5 (Mir.Event.mk (3:Int) (0:Int) (1:Int) (0:Int) false (0:Int) (0:Int) r7);let r23:Match:=c8 r22 r6 (m1 r8);let r24:Match:=c8 r23 r13 (m1 r9);let r25:Match:=c8 (c8 (c8 r24 r15 (Mir.Event.mk (2:Int) (0:Int) (2:Int) (1:Int) false (0:Int) (0:Int) r7)) r16 (Mir.Event.mk (8:Int) (0:Int) (1:Int) (0:Int) false (0:Int) (0:Int) r7)) r18 (Mir.Event.mk (3:Int) (0:Int) (2:Int) (0:Int) false (0:Int) (0:Int) r7);let r26:Match:=c8 r25 r19 (m1 r10);((r1=true→True)∧(r1=false→ []++[ia (ed r17 r6 r22 r23 r8)]++[ia (ed r17 r13 r23 r24 r9)]++[ia (ed r17 r19 r25 r26 r10)]++[ia (ed r17 r20 r26 (c8 r26 r20 (m1 r11)) r11)]=r21∧True))∧(true=true→(r3=true→(false,()) =(true,()))∧(r3=false→((0:Int)≤(0:Int)∧(0:Int) <(↑r21.length:Int))∧((0:Int)≤(0:Int)∧(0:Int) <(↑(r21.set (Int.toNat (0:Int)) r12).length:Int))∧(bif (0:Int) ==(0:Int) then bif fD r17 none r12 ==(12:Int) then bif r2 ==(1:Int) then fD r17 (sO r17 (Row.mk (0:Int) (0:Int) (0:Int) (1:Int) (1:Int) (2:Int) (ByteArray.mk #[49]) (6:Int) (0:Int))) r14 ==(12:Int) else false else false else false,()) =(true,()))))
 intro r1 r2 r3 r4 r5 r6 r7 r8 r9 r10 r11 r12 r13 r14 r15 r16 r17 r18 r19 r20 r21 r22 r23 r24 r25 r26
 clear_value (hr1:r1=_) (hr2:r2=_) (hr3:r3=_) (hr4:r4=_) (hr5:r5=_) (hr6:r6=_) (hr7:r7=_) (hr8:r8=_) (hr9:r9=_) (hr10:r10=_) (hr11:r11=_) (hr12:r12=_) (hr13:r13=_) (hr14:r14=_) (hr15:r15=_) (hr16:r16=_) (hr17:r17=_) (hr18:r18=_) (hr19:r19=_) (hr20:r20=_) (hr21:r21=_) (hr22:r22=_) (hr23:r23=_) (hr24:r24=_) (hr25:r25=_) (hr26:r26=_)
 subst hr1 hr2 hr3 hr4 hr5 hr6 hr7 hr8 hr9 hr10 hr11 hr12 hr13 hr14 hr15 hr16 hr17 hr18 hr19 hr20 hr21 hr22 hr23 hr24 hr25 hr26
 refine ⟨⟨fun _=>trivial,fun _=>⟨by kernel_rfl,trivial⟩⟩,fun _=>⟨Qm (by kernel_rfl),fun _=>⟨⟨by decide,by decide⟩,⟨by decide,by decide⟩,by kernel_rfl⟩⟩⟩
def vI:FuncId×Ctr:=(19,af KE qL aF DU)
theorem CU:CtrOK Tryz.prog KE 19 (af KE qL aF DU):=by
 refine aw (C:=ao [vH,EP,oD,oC,HU] Tryz.f19) (al (.consU CS rfl (.consU IX rfl (.consU vP rfl (.consU vO rfl (.consU Le rfl .nil))))) _) mixed (fn:=Tryz.f19) Tryz.func19 (by kernel_rfl) (by kernel_rfl) (by kernel_rfl) (by kernel_rfl) (by kernel_rfl) (by kernel_rfl) (Λ:=fun _ _=>none) ?_ ?_
 ·exact fun _ _ _ _ _ _ _ _ h=>by cases h
 ·rintro ⟨⟩ hw hn
  exact BF
end Go.Proofs.YtffdpnmioidloaaGreatDoor
namespace Go.Proofs.YtffdpnmioidloaaGreatDoor
open Go Go.Mir
attribute [local irreducible] Go.Mir.DT.sat Go.Mir.evPat Go.Mir.RT.sat Go.Mir.evFn
abbrev A8:Pat:=bZ [Evs]
def JP:Den (tyP A8)→List Prop×Den (tyP A8):=fun x=>([],(x.1.take 60,()))
theorem GU (l:List Mir.Event) :(evPat (ao [] Tryz.f26) (fun _=>none) Tryz.f26 A8 A8 (l,())).sat fun z_=>z_ =(JP (l,())).2:=by
 refine cast (by kernel_rfl) (?_:let r1:Int:=if (60:Int) <(↑l.length:Int) then (60:Int) else (↑l.length:Int);((0:Int)≤(0:Int)∧(0:Int)≤r1∧r1≤(↑l.length:Int))∧(List.drop (Int.toNat (0:Int)) (List.take r1.toNat l),()) =(List.take (60:Nat) l,()))
 intro r1
 clear_value (hr1:r1=_)
 have e1:0≤r1∧r1≤(l.length:Int)∧r1.toNat=min 60 l.length:=by rw [hr1];split <;> omega
 refine ⟨⟨Int.le_refl _,e1.1,e1.2.1⟩,?_⟩
 rw [e1.2.2]
 have e2:l.take (min 60 l.length)=l.take 60:=by
  rw [List.take_eq_take_iff]
  omega
 rw [e2]
 rfl
def EO:FuncId×Ctr:=(26,af KE A8 A8 JP)
theorem IW:CtrOK Tryz.prog KE 26 (af KE A8 A8 JP):=by
 refine aw (C:=ao [] Tryz.f26) (al (CtrsOK.nil) _) mixed (fn:=Tryz.f26) Tryz.func26 (by kernel_rfl) (by kernel_rfl) (by kernel_rfl) (by kernel_rfl) (by kernel_rfl) (by kernel_rfl) (Λ:=fun _ _=>none) ?_ ?_
 ·exact fun _ _ _ _ _ _ _ _ h=>by cases h
 ·rintro ⟨l,⟨⟩⟩ hw hn
  exact GU l
end Go.Proofs.YtffdpnmioidloaaGreatDoor
namespace Go.Proofs.YtffdpnmioidloaaGreatDoor
open Go Go.Mir
attribute [local irreducible] Go.Mir.DT.sat Go.Mir.evPat Go.Mir.RT.sat Go.Mir.evFn
theorem D9 {t:Ty} {xs:List (Den t)} (h:wfD (.slice t) xs) :∀ x∈xs,wfD t x:=by
 obtain ⟨S,w,cs,h⟩:=h
 cases h with
 | nil=>intro x hx;cases hx
 | slice _ _ _ _ _ hr=>
  intro x hx
  obtain ⟨i,hi,rfl⟩:=List.mem_iff_getElem.1 hx
  exact ⟨_,_,_,hr i hi⟩
theorem No {n:Int} (h:wfD (.int .u8) n):0≤n:=by
 obtain ⟨S,w,cs,h⟩:=h
 cases h with|int h=>have:=h.1;simpa [IntKind.min,IntKind.max,IntKind.signed,IntKind.bits] using this
theorem ON {l:List Mir.Event} (h:wfD (.slice (.nm .Event)) l) :∀ e∈l,mW e.Ball:=fun e he=>by
 have h1:=BR (D9 h e he)
 have h2:wfD (.nm .Delivery) e.Ball:=bf (aG (aG (aG (aG (aG (aG (aG h1)))))))
 have h3:=BR h2
 exact ⟨No (bf (aG h3)),No (bf (aG (aG (aG (aG (aG (aG h3)))))))⟩
theorem Kq {r:Rules} {l:List Mir.Event} (h :(bR r l != 0)=false):dd r l =((aN r l).1.map ia,0):=by rw [BT];unfold zi;rw [h];rfl
theorem Kx {r:Rules} {l:List Mir.Event} (h :(bR r l != 0)=false):aC r=0:=by
 have h:bR r l=0:=by simpa using h
 unfold bR at h
 split at h
 ·exact h
 ·rename_i h1;simpa using h1
theorem B4 {r:Rules} {l:List Mir.Event} {x:List Row} (h :(bR r l != 0)=false) (hx:x.length≤4000):bp r x=dv r none 0 x:=by
 unfold bp
 rw [Kx h,decide_eq_false (by omega)]
 rfl
end Go.Proofs.YtffdpnmioidloaaGreatDoor
namespace Go.Proofs.YtffdpnmioidloaaGreatDoor
open Go Go.Mir
attribute [local irreducible] Go.Mir.DT.sat Go.Mir.evPat Go.Mir.RT.sat Go.Mir.evFn
abbrev N9:Pat:=bZ [.nm .Rules,Evs,.int .u16]
def BG:Den (tyP N9)→List Prop×Den (tyP aF):=fun _=>([],(true,()))
theorem OR {n:Int} (h:wfD (.int .u16) n):0≤n:=by
 obtain ⟨S,w,cs,h⟩:=h
 cases h with|int h=>have:=h.1;simpa [IntKind.min,IntKind.max,IntKind.signed,IntKind.bits] using this
theorem Hc (x:Int):0≤IntKind.u16.wrap x∧IntKind.u16.wrap x≤65535:=by
 have h:IntKind.u16.wrap x=x % 65536:=rfl
 rw [h]
 omega
theorem Be {r:Rules} :∀ (l:List Row) (ds:List Delivery) (b:Bef),sT r b l ds→∀ x∈l,0≤x.Total∧x.Total≤999000
 | [],_,_,_,x,hx=>by cases hx
 | y::l,ds,b,h,x,hx=>by
  obtain ⟨d,t,rfl,h1,h2⟩:=h
  rcases List.mem_cons.1 hx with rfl|hx
  ·obtain ⟨s0,s1,s2,s3⟩:=h1.sum
   obtain ⟨t0,t1⟩:=h1.tot
   omega
  ·exact Be l t _ h2 x hx
theorem BE (r:Rules) (l:List Mir.Event) (k:Int) (he :∀ e∈l,mW e.Ball) (hk:0≤k) :(evPat (ao [vI,EO,oD,oC] Tryz.f10) (fun _=>none) Tryz.f10 N9 aF (r,l,k,())).sat fun z_=>z_ =(BG (r,l,k,())).2:=by
 refine cast (by kernel_rfl) (?_:let r1:Int:=(↑(dd r (List.take (60:Nat) l)).1.length:Int);let r2:Int:=IntKind.i64.wrap (IntKind.i64.wrap (k.tmod (4:Int)) +(1:Int));let r3:Int:=(IntKind.i64.wrap (IntKind.u16.wrap (k.tdiv (8:Int)))).tmod r1;let r4:Row:=(dd r (List.take (60:Nat) l)).1.getD r3.toNat (dflt (Ty.nm Nm.Row));let r5:Bool:=bif (dd r (List.take (60:Nat) l)).2 !=(0:Int) then true else r1 ==(0:Int);let r6:Int×Int:=bp r ((dd r (List.take (60:Nat) l)).1.set r3.toNat (Row.mk r4.1 r4.2 r4.3 r4.4 r4.5 r4.6 r4.7 (IntKind.i64.wrap (r4.8+bif IntKind.u16.wrap (↑(BitVec.ofInt IntKind.u16.bits k &&& BitVec.ofInt IntKind.u16.bits (4:Int)).toNat:Int) !=(0:Int) then IntKind.i64.wrap ((0:Int) - r2) else r2)) r4.9));((!true)=true→(false,()) =(true,()))∧((!true)=false→(r5=true→(true,()) =(true,()))∧(r5=false→(8:Int)≠(0:Int)∧r1≠(0:Int)∧(4:Int)≠(0:Int)∧((0:Int)≤r3∧r3<r1)∧((0:Int)≤r3∧r3<r1)∧(bif r6.2 ==(12:Int) then r6.1==r3 else false,()) =(true,()))))
 intro r1 r2 r3 r4 r5 r6
 clear_value (hr1:r1=_) (hr2:r2=_) (hr3:r3=_) (hr4:r4=_) (hr5:r5=_) (hr6:r6=_)
 have hL :∀ e∈l.take 60,mW e.Ball:=fun e h=>he e (List.mem_of_mem_take h)
 generalize l.take 60=L at *
 have hk1:=Iq r L
 have hd:=Gm (r:=r) hL
 refine ⟨fun h=>Bool.noConfusion h,fun _=>⟨fun _=>rfl,fun h5=>?_⟩⟩
 have hc :(bR r L != 0)=false:=by
  cases hc:bR r L != 0 with
  | false=>rfl
  | true=>
   have e:dd r L =([],bR r L):=by unfold dd;rw [hc];rfl
   rw [hr5,e] at h5
   simp only [hc,cond_true] at h5
   cases h5
 have ew:=Kq hc
 rw [ew] at hr1 hr4 hr5 hr6
 simp only at hr1 hr4 hr5 hr6
 have hlen :((aN r L).1.map ia).length≤4000:=by rw [List.length_map];exact vZ r L
 generalize (aN r L).1.map ia=rows at *
 have h1:0<r1:=by
  rw [hr5] at h5
  have h5 :(r1==0)=false:=h5
  have:r1≠0:=by simpa using h5
  omega
 have ha:=Hc (k.tdiv 8)
 have e16:IntKind.i64.wrap (IntKind.u16.wrap (k.tdiv 8))=IntKind.u16.wrap (k.tdiv 8):=bb (by omega) (by omega)
 rw [e16] at hr3
 have h3:0≤r3∧r3<r1:=by
  rw [hr3]
  exact ⟨Int.tmod_nonneg _ ha.1,Int.tmod_lt_of_pos _ h1⟩
 have h2:1≤r2∧r2≤4:=by
  rw [hr2,Int.tmod_eq_emod_of_nonneg hk]
  have e1:IntKind.i64.wrap (k % 4)=k % 4:=bb (by omega) (by omega)
  rw [e1]
  have e2:IntKind.i64.wrap (k % 4+1)=k % 4+1:=bb (by omega) (by omega)
  rw [e2];omega
 have eneg:IntKind.i64.wrap (0 - r2)=0 - r2:=bb (by omega) (by omega)
 rw [eneg] at hr6
 clear hr2
 refine ⟨by decide,by omega,by decide,h3,h3,?_⟩
 have key :∀ t:Int,-4≤t∧t≤4→t≠0→bp r (rows.set r3.toNat ⟨r4.Innings,r4.Over,r4.Ball,r4.Bowler,r4.Striker,r4.Partner,r4.Symbol,IntKind.i64.wrap (r4.Total+t),r4.Wickets⟩) =(r3,12):=fun t ht hz=>by
  have hlt:r3.toNat<rows.length:=by omega
  have htot:=Be _ _ _ hk1 r4 (by rw [hr4];exact jK hlt _)
  have ewr:IntKind.i64.wrap (r4.Total+t)=r4.Total+t:=bb (by omega) (by omega)
  rw [ewr]
  have eo :(⟨r4.Innings,r4.Over,r4.Ball,r4.Bowler,r4.Striker,r4.Partner,r4.Symbol,r4.Total+t,r4.Wickets⟩:Row)=lg (rows.getD r3.toNat Row.zero) t:=by rw [hr4];rfl
  rw [eo,B4 hc (by rw [List.length_set];exact hlen),zz ht hz rows _ none 0 r3.toNat hk1 hd hlt]
  congr 1
  omega
 cases hb :(IntKind.u16.wrap ((BitVec.ofInt IntKind.u16.bits k &&& BitVec.ofInt IntKind.u16.bits 4).toNat:Int) != 0) with
 | true=>
  rw [hb,cond_true,key _ (by omega) (by omega)] at hr6
  rw [hr6]
  simp
 | false=>
  rw [hb,cond_false,key _ (by omega) (by omega)] at hr6
  rw [hr6]
  simp
theorem CT:CtrOK Tryz.prog KE 10 (af KE N9 aF BG):=by
 refine aw (C:=ao [vI,EO,oD,oC] Tryz.f10) (al (.consU CU rfl (.consU IW rfl (.consU vP rfl (.consU vO rfl .nil)))) _) mixed (fn:=Tryz.f10) Tryz.func10 (by kernel_rfl) (by kernel_rfl) (by kernel_rfl) (by kernel_rfl) (by kernel_rfl) (by kernel_rfl) (Λ:=fun _ _=>none) ?_ ?_
 ·exact fun _ _ _ _ _ _ _ _ h=>by cases h
 ·rintro ⟨r,l,k,⟨⟩⟩ hw hn
  exact BE r l k (ON (bf (aG hw))) (OR (bf (aG (aG hw))))
end Go.Proofs.YtffdpnmioidloaaGreatDoor
namespace Go.Proofs.YtffdpnmioidloaaGreatDoor
open Go Go.ChangeShapes Go.WideShapes Go.ChangeAt Go.RowKit
theorem QL:ownKnob Tryz.prog.godebug=none:=by kernel_rfl
abbrev ER:List (String×DataW Unit):= [("math/bits.deBruijn32tab",Rows.laid_math_bits_deBruijn32tab),("math/bits.deBruijn64tab",Rows.laid_math_bits_deBruijn64tab),("internal/strconv.uint64pow10",Rows.laid_internal_strconv_uint64pow10)]
theorem Hw (os:Os) (args:Array Value):laidMetH Tryz.prog ER ((World.doorLaid Tryz.prog 72 os).forCall (fun _ _=>0) ⟨#[],args,[]⟩).memory:=
 laidMetH_of_parts3 (fuel:=8) (laidMet_of_run' 8 (by kernel_rfl) (by kernel_rfl)) (by kernel_rfl) (by kernel_rfl)
end Go.Proofs.YtffdpnmioidloaaGreatDoor
namespace Go.Mir
open Go.RowKit Go.ChangeShapes Go.WideShapes
open Go.Proofs.YtffdpnmioidloaaGreatDoor.Rows (uptoBulk uptoBulkAll)
section
variable {H:Type} {enc:TypeId×Value→H} {P:Program} {w:World}
theorem Cs {K:Nat} {f:FuncId} {fn:Func} {c:Ctr} (hc:CtrOK P K f c) {ps:Ty} (hps:tQ P fn.params.toList ps=true) (hgl:rq w fun _=>False)
  (h :∀ x:Den ps,wfD ps x→∃ ls,c (bo ps x) (fun _=>none) 0=some (ls,.bool true,[])∧∀ p∈ls,p)
  {args:Array Value} {ds:List (DataW H)} {p:List MemPlace} (hA:DataW.TrodAll enc P w 0 (fun _=>true) true fn.params.toList args.toList ds p) (hval :∀ (j:Nat) t v,fn.params[j]?=some t→args[j]?=some v→∃ r b,Value.okWide P w r b t v)
  (hw :∀ m∈DataW.weightsEach P fn.params.toList ds,m≤aP) :
  Calls P f args w fun e w'=>e = .returned (.bool true)∧Keeps w (fun _=>False) w':=by
 obtain ⟨x,k1,⟨cs,k2⟩,_,_,_⟩:=pd hA hps (fun j t v h1 h2=>hval j t v (by simpa using h1) (by simpa using h2)) hw
 obtain ⟨ls,e1,e2⟩:=h x ⟨_,_,_,k2⟩
 have hc:=hc.calls (MD w hgl) (KG w) (Hz w hgl) _ _ k1 0 (fun n _ _ hu=>hu) ls _ _ e1 e2
 have e:args.toList.toArray=args:=by simp
 rw [e] at hc
 refine Calls.mono hc fun e w' hr=>?_
 obtain ⟨E',v',rfl,G,hv⟩:=hr
 simp only [aa] at hv
 subst hv
 refine ⟨rfl,?_⟩
 have:=G.rel.keeps
 rw [G.w] at this
 exact this
end
end Go.Mir
