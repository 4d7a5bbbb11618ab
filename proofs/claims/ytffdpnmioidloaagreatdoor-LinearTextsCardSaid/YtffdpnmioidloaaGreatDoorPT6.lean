/- Texts of the mirror and contracts, put together. -/
import Derived.Test.YtffdpnmioidloaaGreatDoorPT5
import Derived.Test.YtffdpnmioidloaaGreatDoorPT4
import Derived.Test.YtffdpnmioidloaaGreatDoorPT2
import Derived.LoopN
namespace Go.Proofs.YtffdpnmioidloaaGreatDoor
open Go Go.Mir
attribute [local irreducible] Go.Mir.DT.sat Go.Mir.evPat Go.Mir.RT.sat Go.Mir.evFn
theorem I3 {d e:Delivery} (h:okD d) {t:List UInt8} (ht:hdT t) (z:e.How=0∧e.Victim=0∧e.Fielder=0∧e.Second=0∧e.Sub=false) :
  (if tkB (ofL (wkL d t)) 47 then ouR (tl (ofL (wkL d t))) else ofL (wkL d t))=ofL t∧(if tkB (ofL (wkL d t)) 47 then ouD e (tl (ofL (wkL d t))) else e)={ e with How:=d.How,Victim:=d.Victim,Fielder:=d.Fielder,Second:=d.Second,Sub:=d.Sub }:=by
 obtain ⟨⟨_,_⟩,_,hw,⟨f0,f1⟩,s0,s1⟩:=dp h.1
 obtain ⟨_,_,⟨v0,v1⟩,_⟩:=cK h.1
 obtain ⟨z1,z2,z3,z4,z5⟩:=z
 have htk :∀ c:Int,0≤c→c≠64→tkB (ofL t) c=false:=fun c h0 h1=>by
  rw [fu _ h0];exact IM (by rcases ht with h|h <;> omega)
 cases hn:wkN d with
 | true=>
  have hl:wkL d t=t:=by unfold wkL;rw [hn];rfl
  unfold wkN gN at hn
  simp at hn
  obtain ⟨a1,a2,a3,a4,a5⟩:=hn
  rw [hl,htk 47 (by decide) (by decide),a1,a2,a3,a4,a5]
  refine ⟨rfl,?_⟩
  obtain ⟨_,_,_,_,_,_,_,_,_,_,_,_⟩:=e
  simp only at z1 z2 z3 z4 z5
  subst z1 z2 z3 z4 z5
  rfl
 | false=>
  have hl:wkL d t=47::hwC d.How ::(dL d.Victim++dM d t):=by unfold wkL;rw [hn];rfl
  rw [hl]
  have b0:tkB (ofL (47::hwC d.How ::(dL d.Victim++dM d t))) 47=true:=by rw [fu _ (by decide)];rfl
  rw [b0,if_pos rfl,if_pos rfl,bQ]
  have hg:emp (ofL (hwC d.How ::(dL d.Victim++dM d t)))=false:=by rw [wB];rfl
  have h1:nd (dM d t):=by
   unfold dM nd
   split
   ·exact .inl (show (40:Int)<48 by decide)
   ·rcases ht with h|h <;> rw [h] <;> decide
  obtain ⟨n1,n2⟩:=k9 ⟨v0,by omega⟩ h1
  have w1:ou1 (ofL (hwC d.How ::(dL d.Victim++dM d t)))=ofL (dM d t):=by unfold ou1;rw [bQ,n2]
  have wh:hoF (ofL (hwC d.How ::(dL d.Victim++dM d t))) 11 e.How=d.How:=by rw [z1];exact NU h.2.2 hw _
  have d1:Lr e (ofL (hwC d.How ::(dL d.Victim++dM d t)))={ e with How:=d.How,Victim:=d.Victim }:=by unfold Lr hoD;rw [wh,bQ,n1]
  generalize hs:ofL (hwC d.How ::(dL d.Victim++dM d t))=s at *
  cases ha:gN d with
  | false=>
   have hl:dM d t=t:=by unfold dM;rw [ha];rfl
   rw [hl] at w1
   have b3:tkB (ou1 s) 40=false:=by rw [w1];exact htk 40 (by decide) (by decide)
   unfold gN at ha
   simp at ha
   obtain ⟨a3,a4,a5⟩:=ha
   unfold ouR ouD
   rw [hg,b3,w1,d1,a3,a4,a5]
   refine ⟨rfl,?_⟩
   obtain ⟨_,_,_,_,_,_,_,_,_,_,_,_⟩:=e
   simp only at z1 z2 z3 z4 z5
   subst z1 z2 z3 z4 z5
   rfl
  | true=>
   have hl:dM d t=40 ::(dL d.Fielder++jL d t):=by unfold dM;rw [ha];rfl
   rw [hl] at w1
   have b3:tkB (ou1 s) 40=true:=by rw [w1,fu _ (by decide)];rfl
   have h3:hL (iz d t)=115∨hL (iz d t)=41:=by unfold iz;cases d.Sub;exact .inr rfl;exact .inl rfl
   have h2:nd (jL d t):=by
    unfold jL nd
    split
    ·exact .inl (show (44:Int)<48 by decide)
    ·rcases h3 with h|h <;> rw [h] <;> decide
   obtain ⟨n1,n2⟩:=k9 ⟨f0,by omega⟩ h2
   have w2:ou2 s=ofL (jL d t):=by unfold ou2;rw [w1,bQ,n2]
   have w2v:nmV (tl (ou1 s))=d.Fielder:=by rw [w1,bQ,n1]
   have w3s:ou3 s=ofL (iz d t)∧(if tkB (ou2 s) 44 then nmV (tl (ou2 s)) else e.Second)=d.Second:=by
    unfold ou3;rw [w2]
    cases hc:d.Second != 0 with
    | true=>
     have hl:jL d t=44 ::(dL d.Second++iz d t):=by unfold jL;rw [hc];rfl
     obtain ⟨n1,n2⟩:=k9 (t:=iz d t) ⟨s0,by omega⟩ (by unfold nd;rcases h3 with h|h <;> rw [h] <;> decide)
     have b:tkB (ofL (44 ::(dL d.Second++iz d t))) 44=true:=by rw [fu _ (by decide)];rfl
     rw [hl,b,if_pos rfl,if_pos rfl,bQ,n1,n2];exact ⟨rfl,rfl⟩
    | false=>
     have hl:jL d t=iz d t:=by unfold jL;rw [hc];rfl
     have b:tkB (ofL (iz d t)) 44=false:=by rw [fu _ (by decide)];rcases h3 with h|h <;> rw [h] <;> rfl
     simp at hc
     rw [hl,b,z4,hc];exact ⟨rfl,rfl⟩
   obtain ⟨w3,ws⟩:=w3s
   have w7 :(tkB (ou3 s) 115||e.Sub)=d.Sub∧ou4 s=ofL (41::t):=by
    unfold ou4;rw [w3,z5,Bool.or_false];unfold iz
    cases d.Sub with
    | true=>
     have b:tkB (ofL (115::41::t)) 115=true:=by rw [fu _ (by decide)];rfl
     exact ⟨b,by rw [if_pos rfl,aQ b,bQ]⟩
    | false=>
     have b:tkB (ofL (41::t)) 115=false:=by rw [fu _ (by decide)];rfl
     exact ⟨b,by rw [if_neg (by decide),bG b]⟩
   have w8:tkR (ou4 s) 41=ofL t:=by
    have b:tkB (ofL (41::t)) 41=true:=by rw [fu _ (by decide)];rfl
    rw [w7.2,aQ b,bQ]
   have d2:OL e s={ e with How:=d.How,Victim:=d.Victim,Fielder:=d.Fielder,Second:=d.Second,Sub:=d.Sub }:=by
    unfold OL;rw [d1,w2v,ws,w7.1]
   unfold ouR ouD
   rw [hg,b3,w8,d2]
   exact ⟨rfl,rfl⟩
def L8 (d:Delivery):List UInt8:=if decide (d.Sector>0) then 64::dL d.Sector else []
def L7 (d:Delivery):List UInt8:=wkL d (L8 d)
def L6 (d:Delivery):List UInt8:=if d.Crossed then 120::L7 d else L7 d
def L5 (d:Delivery):List UInt8:=if decide (d.Short>0) then 45 ::(dL d.Short++L6 d) else L6 d
def L4 (d:Delivery):List UInt8:=if d.Boundary==4 then 70::L5 d else if d.Boundary==6 then 83::L5 d else L5 d
def L3 (d:Delivery):List UInt8:=if AQ d (dE d.Typ d.Source) then dL d.Runs++L4 d else L4 d
def F7 (t s:Int):List UInt8:=if s==0 then (if t != 2 then [46] else []) else if s==1 then (if t==2 then [111] else []) else if s==2 then [98] else if s==3 then [108] else []
def Mg (t:Int):List UInt8:=if t==2 then [119] else if t==3 then [110] else []
def L2 (d:Delivery):List UInt8:=F7 d.Typ d.Source++L3 d
def L1 (d:Delivery):List UInt8:=Mg d.Typ++L2 d
theorem O7 (t s:Int):dE t s=ofL (F7 t s):=by
 unfold dE F7;repeat' split
 all_goals rfl
theorem Px (t:Int):mX t=ofL (Mg t):=by
 unfold mX Mg;repeat' split
 all_goals rfl
theorem Gv (a b c:ByteArray) :(a++b)++c=a ++(b++c):=bW (by simp [ByteArray.data_append])
theorem vZ (b:Bool) (x:ByteArray) (a t:List UInt8):cb b (x++ofL a) x++ofL t=x++ofL (if b then a++t else t):=by
 cases b
 ·rfl
 ·show (x++ofL a)++ofL t=x++ofL (a++t)
  rw [Gv,fO]
theorem Jd {d:Delivery} (h:okD d):prS d=ofL (L1 d):=by
 obtain ⟨⟨r0,r1⟩,⟨h0,h1⟩,⟨v0,v1⟩,c0,c1⟩:=cK h.1
 have e8:prG d=prF d++ofL (L8 d):=by
  unfold prG L8
  rw [wz c0 (by omega)]
  cases decide (d.Sector>0) with
  | true=>show prF d ++(ofL [64]++ofL (dL d.Sector))=_;rw [fO];rfl
  | false=>show prF d=prF d++ByteArray.mk #[];rw [tJ]
 have e7:prF d++ofL (L8 d)=prE d++ofL (L7 d):=by unfold prF L7;rw [Gv,PK h]
 have e6:prE d++ofL (L7 d)=prD d++ofL (L6 d):=vZ d.Crossed (prD d) [120] (L7 d)
 have e5:prD d++ofL (L6 d)=prC d++ofL (L5 d):=by
  unfold prD L5
  rw [wz h0 (by omega),show ByteArray.mk #[45]=ofL [45] from rfl,fO,vZ];rfl
 have e4:prC d++ofL (L5 d)=prB d++ofL (L4 d):=by
  unfold prC L4
  cases d.Boundary==4 with
  | true=>exact (Gv _ _ _).trans (congrArg _ (fO [70] (L5 d)))
  | false=>exact vZ (d.Boundary==6) (prB d) [83] (L5 d)
 have e3:prB d++ofL (L4 d)=prA d++ofL (L3 d):=by
  unfold prB L3
  rw [wz r0 (by omega),vZ]
 have e:prS d=prG d:=by unfold prS;rw [h.1];rfl
 rw [e,e8,e7,e6,e5,e4,e3]
 unfold prA L1 L2
 rw [O7,Px,fO,fO,List.append_assoc]
theorem H8 {d:Delivery}:hdT (L8 d):=by
 unfold hdT L8;split
 ·exact .inr rfl
 ·exact .inl rfl
theorem H7 (d:Delivery):hL (L7 d) = -1∨hL (L7 d)=64∨hL (L7 d)=47:=by
 unfold L7 wkL;split
 ·have:=H8 (d:=d);unfold hdT at this;omega
 ·exact .inr (.inr rfl)
theorem H6 (d:Delivery):hL (L6 d) = -1∨hL (L6 d)=64∨hL (L6 d)=47∨hL (L6 d)=120:=by
 unfold L6;split
 ·exact .inr (.inr (.inr rfl))
 ·have:=H7 d;omega
theorem H5 (d:Delivery):hL (L5 d) = -1∨hL (L5 d)=64∨hL (L5 d)=47∨hL (L5 d)=120∨hL (L5 d)=45:=by
 unfold L5;split
 ·exact .inr (.inr (.inr (.inr rfl)))
 ·have:=H6 d;omega
theorem H4 (d:Delivery):hL (L4 d) = -1∨hL (L4 d)=64∨hL (L4 d)=47∨hL (L4 d)=120∨hL (L4 d)=45∨hL (L4 d)=70∨hL (L4 d)=83:=by
 unfold L4;split
 ·exact .inr (.inr (.inr (.inr (.inr (.inl rfl)))))
 ·split
  ·exact .inr (.inr (.inr (.inr (.inr (.inr rfl)))))
  ·have:=H5 d;omega
def Oz (x:Int):Prop:=x≠119∧x≠110∧x≠46∧x≠98∧x≠108∧x≠111
theorem H3 {d:Delivery} (h:okD d):Oz (hL (L3 d)):=by
 obtain ⟨⟨r0,r1⟩,_⟩:=cK h.1
 unfold L3 Oz;split
 ·have:=P9 (n:=d.Runs) ⟨r0,by omega⟩ (L4 d);omega
 ·have:=H4 d;omega
theorem H2 {d:Delivery} (h:okD d):hL (L2 d)≠119∧hL (L2 d)≠110:=by
 have h3:=H3 h
 unfold Oz at h3
 unfold L2 F7
 repeat' split
 all_goals first
  | exact ⟨h3.1,h3.2.1⟩
  | exact ⟨(by decide :((46:UInt8).toNat:Int)≠119),(by decide :((46:UInt8).toNat:Int)≠110)⟩
  | exact ⟨(by decide :((111:UInt8).toNat:Int)≠119),(by decide :((111:UInt8).toNat:Int)≠110)⟩
  | exact ⟨(by decide :((98:UInt8).toNat:Int)≠119),(by decide :((98:UInt8).toNat:Int)≠110)⟩
  | exact ⟨(by decide :((108:UInt8).toNat:Int)≠119),(by decide :((108:UInt8).toNat:Int)≠110)⟩
theorem cg {l:List UInt8} {c:Int} (hc:0≤c) (h:hL l≠c):tkB (ofL l) c=false:=by rw [fu _ hc];exact IM h
theorem ir (x:UInt8) (l:List UInt8):tkB (ofL (x::l)) (x.toNat:Int)=true:=by
 rw [fu _ (Int.natCast_nonneg _)];exact beq_self_eq_true _
theorem rd1 {d:Delivery} (h:okD d):paT (ofL (L1 d))=d.Typ∧pa1 (ofL (L1 d))=ofL (L2 d)∧tkB (ofL (L1 d)) 119 =(d.Typ==2):=by
 obtain ⟨⟨t0,t1⟩,_⟩:=dp h.1
 obtain ⟨h1,h2⟩:=H2 h
 have ht:d.Typ=1∨d.Typ=2∨d.Typ=3:=by omega
 unfold paT pa1 L1 Mg
 rcases ht with e|e|e
 ·rw [e]
  have b1:tkB (ofL (L2 d)) 119=false:=cg (by decide) h1
  have b2:tkB (ofL (L2 d)) 110=false:=cg (by decide) h2
  show (if tkB (ofL (L2 d)) 119 then (2:Int) else if tkB (ofL (L2 d)) 110 then 3 else 1)=1∧(if tkB (ofL (L2 d)) 119 then _ else tkR (ofL (L2 d)) 110)=_∧tkB (ofL (L2 d)) 119=false
  rw [b1,b2,bG b2];exact ⟨rfl,rfl,rfl⟩
 ·rw [e]
  have b1:tkB (ofL (119::L2 d)) 119=true:=ir 119 _
  show (if tkB (ofL (119::L2 d)) 119 then (2:Int) else if tkB (ofL (119::L2 d)) 110 then 3 else 1)=2∧(if tkB (ofL (119::L2 d)) 119 then tl (ofL (119::L2 d)) else tkR (ofL (119::L2 d)) 110)=_∧tkB (ofL (119::L2 d)) 119=true
  rw [b1,bQ];exact ⟨rfl,rfl,rfl⟩
 ·rw [e]
  have b1:tkB (ofL (110::L2 d)) 119=false:=cg (by decide) (show (110:Int)≠119 by decide)
  have b2:tkB (ofL (110::L2 d)) 110=true:=ir 110 _
  show (if tkB (ofL (110::L2 d)) 119 then (2:Int) else if tkB (ofL (110::L2 d)) 110 then 3 else 1)=3∧(if tkB (ofL (110::L2 d)) 119 then tl (ofL (110::L2 d)) else tkR (ofL (110::L2 d)) 110)=_∧tkB (ofL (110::L2 d)) 119=false
  rw [b1,b2,aQ b2,bQ];exact ⟨rfl,rfl,rfl⟩
theorem rd2 {d:Delivery} (h:okD d):soV d.Typ (ofL (L2 d))=d.Source∧soR d.Typ (ofL (L2 d))=ofL (L3 d):=by
 obtain ⟨_,s1,_⟩:=dp h.1
 have s0:=h.2.1
 obtain ⟨_,_,n46,n98,n108,n111⟩:=H3 h
 have hs:d.Source=0∨d.Source=1∨d.Source=2∨d.Source=3:=by omega
 have m46:=cg (l:=L3 d) (by decide) n46
 have m98:=cg (l:=L3 d) (by decide) n98
 have m108:=cg (l:=L3 d) (by decide) n108
 have m111:=cg (l:=L3 d) (by decide) n111
 unfold soV soR L2 F7
 rcases hs with e|e|e|e <;> rw [e]
 ·cases ht:d.Typ==2 with
  | true=>
   have :(d.Typ != 2)=false:=by simp only [bne,ht];rfl
   rw [this]
   show (if tkB (ofL (L3 d)) 98 then (2:Int) else if tkB (ofL (L3 d)) 108 then 3 else if (true&&tkB (ofL (L3 d)) 111) then 1 else 0)=0∧(if tkB (ofL (L3 d)) 98 then _ else if tkB (ofL (L3 d)) 108 then _ else if (true&&tkB (ofL (L3 d)) 111) then _ else ofL (L3 d))=_
   rw [m98,m108,m111];exact ⟨rfl,rfl⟩
  | false=>
   have :(d.Typ != 2)=true:=by simp only [bne,ht];rfl
   rw [this]
   have b1:tkB (ofL (46::L3 d)) 98=false:=cg (by decide) (show (46:Int)≠98 by decide)
   have b2:tkB (ofL (46::L3 d)) 108=false:=cg (by decide) (show (46:Int)≠108 by decide)
   have b3:tkB (ofL (46::L3 d)) 46=true:=ir 46 _
   show (if tkB (ofL (46::L3 d)) 98 then (2:Int) else if tkB (ofL (46::L3 d)) 108 then 3 else if tkB (ofL (46::L3 d)) 46 then 0 else 1)=0∧(if tkB (ofL (46::L3 d)) 98 then _ else if tkB (ofL (46::L3 d)) 108 then _ else tkR (ofL (46::L3 d)) 46)=_
   rw [b1,b2,b3,aQ b3,bQ];exact ⟨rfl,rfl⟩
 ·cases ht:d.Typ==2 with
  | true=>
   have b1:tkB (ofL (111::L3 d)) 98=false:=cg (by decide) (show (111:Int)≠98 by decide)
   have b2:tkB (ofL (111::L3 d)) 108=false:=cg (by decide) (show (111:Int)≠108 by decide)
   have b3:tkB (ofL (111::L3 d)) 111=true:=ir 111 _
   show (if tkB (ofL (111::L3 d)) 98 then (2:Int) else if tkB (ofL (111::L3 d)) 108 then 3 else if (true&&tkB (ofL (111::L3 d)) 111) then 1 else 0)=1∧(if tkB (ofL (111::L3 d)) 98 then _ else if tkB (ofL (111::L3 d)) 108 then _ else if (true&&tkB (ofL (111::L3 d)) 111) then tl (ofL (111::L3 d)) else _)=_
   rw [b1,b2,b3,bQ];exact ⟨rfl,rfl⟩
  | false=>
   show (if tkB (ofL (L3 d)) 98 then (2:Int) else if tkB (ofL (L3 d)) 108 then 3 else if tkB (ofL (L3 d)) 46 then 0 else 1)=1∧(if tkB (ofL (L3 d)) 98 then _ else if tkB (ofL (L3 d)) 108 then _ else tkR (ofL (L3 d)) 46)=_
   rw [m98,m108,m46,bG m46];exact ⟨rfl,rfl⟩
 ·have b1:tkB (ofL (98::L3 d)) 98=true:=ir 98 _
  show (if tkB (ofL (98::L3 d)) 98 then (2:Int) else _)=2∧(if tkB (ofL (98::L3 d)) 98 then tl (ofL (98::L3 d)) else _)=_
  rw [b1,bQ];exact ⟨rfl,rfl⟩
 ·have b1:tkB (ofL (108::L3 d)) 98=false:=cg (by decide) (show (108:Int)≠98 by decide)
  have b2:tkB (ofL (108::L3 d)) 108=true:=ir 108 _
  show (if tkB (ofL (108::L3 d)) 98 then (2:Int) else if tkB (ofL (108::L3 d)) 108 then 3 else _)=3∧(if tkB (ofL (108::L3 d)) 98 then _ else if tkB (ofL (108::L3 d)) 108 then tl (ofL (108::L3 d)) else _)=_
  rw [b1,b2,bQ];exact ⟨rfl,rfl⟩
theorem nd4 (d:Delivery):nd (L4 d):=by have:=H4 d;unfold nd;omega
theorem nd6 (d:Delivery):nd (L6 d):=by have:=H6 d;unfold nd;omega
theorem rd3 {d:Delivery} (h:okD d) :(dgV (ofL (L3 d))=d.Runs∧dgR (ofL (L3 d))=ofL (L4 d))∧nmV (ofL (L3 d))=d.Runs∧nmR (ofL (L3 d))=ofL (L4 d):=by
 obtain ⟨⟨r0,r1⟩,_⟩:=cK h.1
 cases hb:AQ d (dE d.Typ d.Source) with
 | true=>
  have hl:L3 d=dL d.Runs++L4 d:=by unfold L3;rw [hb];rfl
  rw [hl]
  exact ⟨qG r0 (by omega) _,k9 ⟨r0,by omega⟩ (nd4 d)⟩
 | false=>
  have hl:L3 d=L4 d:=by unfold L3;rw [hb];rfl
  have hr:d.Runs=0:=by
   unfold AQ at hb
   simp only [Bool.or_eq_false_iff,decide_eq_false_iff_not] at hb
   omega
  rw [hl,hr]
  exact ⟨G0 (nd4 d),QC (nd4 d)⟩
theorem rd4 {d:Delivery} (h:okD d) :(if tkB (ofL (L4 d)) 70 then (4:Int) else if tkB (ofL (L4 d)) 83 then 6 else 0)=d.Boundary∧(if tkB (ofL (L4 d)) 70 then tl (ofL (L4 d)) else tkR (ofL (L4 d)) 83)=ofL (L5 d):=by
 have h5:=H5 d
 rcases OB h with e|e|e
 ·have hl:L4 d=L5 d:=by unfold L4;rw [e];rfl
  have b1:tkB (ofL (L5 d)) 70=false:=cg (by decide) (by omega)
  have b2:tkB (ofL (L5 d)) 83=false:=cg (by decide) (by omega)
  rw [hl,b1,b2,bG b2,e];exact ⟨rfl,rfl⟩
 ·have hl:L4 d=70::L5 d:=by unfold L4;rw [e];rfl
  have b1:tkB (ofL (70::L5 d)) 70=true:=ir 70 _
  rw [hl,b1,bQ,e];exact ⟨rfl,rfl⟩
 ·have hl:L4 d=83::L5 d:=by unfold L4;rw [e];rfl
  have b1:tkB (ofL (83::L5 d)) 70=false:=cg (by decide) (show (83:Int)≠70 by decide)
  have b2:tkB (ofL (83::L5 d)) 83=true:=ir 83 _
  rw [hl,b1,b2,aQ b2,bQ,e];exact ⟨rfl,rfl⟩
theorem rd5 {d:Delivery} (h:okD d) :((if tkB (ofL (L5 d)) 45 then dgV (tl (ofL (L5 d))) else 0)=d.Short∧(if tkB (ofL (L5 d)) 45 then dgR (tl (ofL (L5 d))) else ofL (L5 d))=ofL (L6 d))∧((if tkB (ofL (L5 d)) 45 then nmV (tl (ofL (L5 d))) else 0)=d.Short∧(if tkB (ofL (L5 d)) 45 then nmR (tl (ofL (L5 d))) else ofL (L5 d))=ofL (L6 d)):=by
 obtain ⟨_,⟨r0,r1⟩,_⟩:=cK h.1
 have h6:=H6 d
 by_cases hb:d.Short>0
 ·have hl:L5 d=45 ::(dL d.Short++L6 d):=by unfold L5;rw [decide_eq_true hb];rfl
  have b1:tkB (ofL (45 ::(dL d.Short++L6 d))) 45=true:=ir 45 _
  have a:=qG r0 (by omega) (L6 d)
  have b:=k9 ⟨r0,by omega⟩ (nd6 d)
  rw [hl,b1,bQ,a.1,a.2,b.1,b.2];exact ⟨⟨rfl,rfl⟩,rfl,rfl⟩
 ·have hl:L5 d=L6 d:=by unfold L5;rw [decide_eq_false hb];rfl
  have b1:tkB (ofL (L6 d)) 45=false:=cg (by decide) (by omega)
  have hr:d.Short=0:=by omega
  rw [hl,b1,hr];exact ⟨⟨rfl,rfl⟩,rfl,rfl⟩
theorem rd6 (d:Delivery):tkB (ofL (L6 d)) 120=d.Crossed∧tkR (ofL (L6 d)) 120=ofL (L7 d):=by
 have h7:=H7 d
 unfold L6
 cases d.Crossed with
 | true=>
  have b1:tkB (ofL (120::L7 d)) 120=true:=ir 120 _
  rw [if_pos rfl,b1,aQ b1,bQ];exact ⟨rfl,rfl⟩
 | false=>
  have b1:tkB (ofL (L7 d)) 120=false:=cg (by decide) (by omega)
  rw [if_neg Bool.false_ne_true,b1,bG b1];exact ⟨rfl,rfl⟩
theorem rd8 {d:Delivery} (h:okD d) :(if tkB (ofL (L8 d)) 64 then dgV (tl (ofL (L8 d))) else 0)=d.Sector∧(if tkB (ofL (L8 d)) 64 then nmV (tl (ofL (L8 d))) else 0)=d.Sector:=by
 obtain ⟨_,_,_,r0,r1⟩:=cK h.1
 by_cases hb:d.Sector>0
 ·have hl:L8 d=64 ::(dL d.Sector++[]):=by unfold L8;rw [decide_eq_true hb,List.append_nil];rfl
  have b1:tkB (ofL (64 ::(dL d.Sector++[]))) 64=true:=ir 64 _
  have a:=qG r0 (by omega) []
  have b:=k9 (n:=d.Sector) (t:= []) ⟨r0,by omega⟩ (.inl (by decide))
  rw [hl,b1,bQ,a.1,b.1];exact ⟨rfl,rfl⟩
 ·have hl:L8 d=[]:=by unfold L8;rw [decide_eq_false hb];rfl
  have b1:tkB (ofL []) 64=false:=cg (by decide) (show (-1:Int)≠64 by decide)
  have hr:d.Sector=0:=by omega
  rw [hl,b1,hr];exact ⟨rfl,rfl⟩
theorem OM {d:Delivery} (h:okD d):kc (ofL (L1 d))=d:=by
 obtain ⟨a1,a2,_⟩:=rd1 h
 obtain ⟨b1,b2⟩:=rd2 h
 obtain ⟨⟨c1,c2⟩,_⟩:=rd3 h
 obtain ⟨d1,d2⟩:=rd4 h
 obtain ⟨⟨e1,e2⟩,_⟩:=rd5 h
 obtain ⟨f1,f2⟩:=rd6 d
 obtain ⟨g1,_⟩:=rd8 h
 generalize hs:ofL (L1 d)=s at *
 have p2:pa2 s=ofL (L3 d):=by unfold pa2;rw [a1,a2,b2]
 have p3:pa3 s=ofL (L4 d):=by unfold pa3;rw [p2,c2]
 have p4:pa4 s=ofL (L5 d):=by unfold pa4;rw [p3,d2]
 have p5:pa5 s=ofL (L6 d):=by unfold pa5;rw [p4,e2]
 have p6:pa6 s=ofL (L7 d):=by unfold pa6;rw [p5,f2]
 have pD:paD s={ d with How:=0,Victim:=0,Fielder:=0,Second:=0,Sub:=false,Sector:=0 }:=by
  unfold paD;rw [a1,a2,b1,p2,c1,p3,d1,p4,e1,p5,f1]
 have w:=Mm (e:=paD s) h (H8 (d:=d)) (by rw [pD];exact ⟨rfl,rfl,rfl,rfl,rfl⟩)
 have p7:pa7 s=ofL (L8 d):=by unfold pa7;rw [p6];exact w.1
 have pW:paW s={ d with Sector:=0 }:=by unfold paW;rw [p6];refine w.2.trans ?_;rw [pD]
 unfold kc;rw [p7,pW,g1]
theorem NS {d:Delivery} (h:okD d):jS (ofL (L1 d))=d:=by
 obtain ⟨a1,a2,a3⟩:=rd1 h
 obtain ⟨_,s1,_⟩:=dp h.1
 obtain ⟨_,⟨c1,c2⟩⟩:=rd3 h
 obtain ⟨d1,d2⟩:=rd4 h
 obtain ⟨_,e1,e2⟩:=rd5 h
 obtain ⟨f1,f2⟩:=rd6 d
 obtain ⟨_,g1⟩:=rd8 h
 have b:gsV (ofL (L1 d))=d.Source∧gs2 (ofL (L1 d))=ofL (L3 d):=by
  have s0:=h.2.1
  obtain ⟨_,_,n46,n98,n108,n111⟩:=H3 h
  have hs:d.Source=0∨d.Source=1∨d.Source=2∨d.Source=3:=by omega
  have m46:=cg (l:=L3 d) (by decide) n46
  have m98:=cg (l:=L3 d) (by decide) n98
  have m108:=cg (l:=L3 d) (by decide) n108
  have m111:=cg (l:=L3 d) (by decide) n111
  unfold gsV gs2 gs0
  rw [a2,a3]
  unfold L2 F7
  rcases hs with e|e|e|e <;> rw [e]
  ·cases ht:d.Typ==2 with
   | true=>
    have :(d.Typ != 2)=false:=by simp only [bne,ht];rfl
    rw [this]
    show (if tkB (ofL (L3 d)) 46 then (0:Int) else if tkB (ofL (L3 d)) 98 then 2 else if tkB (ofL (L3 d)) 108 then 3 else if tkB (ofL (L3 d)) 111 then 1 else 0)=0∧(if tkB (ofL (L3 d)) 46 then _ else if tkB (ofL (L3 d)) 98 then _ else if tkB (ofL (L3 d)) 108 then _ else tkR (ofL (L3 d)) 111)=_
    rw [m46,m98,m108,m111,bG m111];exact ⟨rfl,rfl⟩
   | false=>
    have :(d.Typ != 2)=true:=by simp only [bne,ht];rfl
    rw [this]
    have b3:tkB (ofL (46::L3 d)) 46=true:=ir 46 _
    show (if tkB (ofL (46::L3 d)) 46 then (0:Int) else _)=0∧(if tkB (ofL (46::L3 d)) 46 then tl (ofL (46::L3 d)) else _)=_
    rw [b3,bQ];exact ⟨rfl,rfl⟩
  ·cases ht:d.Typ==2 with
   | true=>
    have b0:tkB (ofL (111::L3 d)) 46=false:=cg (by decide) (show (111:Int)≠46 by decide)
    have b1:tkB (ofL (111::L3 d)) 98=false:=cg (by decide) (show (111:Int)≠98 by decide)
    have b2:tkB (ofL (111::L3 d)) 108=false:=cg (by decide) (show (111:Int)≠108 by decide)
    have b3:tkB (ofL (111::L3 d)) 111=true:=ir 111 _
    show (if tkB (ofL (111::L3 d)) 46 then (0:Int) else if tkB (ofL (111::L3 d)) 98 then 2 else if tkB (ofL (111::L3 d)) 108 then 3 else if tkB (ofL (111::L3 d)) 111 then 1 else 0)=1∧(if tkB (ofL (111::L3 d)) 46 then _ else if tkB (ofL (111::L3 d)) 98 then _ else if tkB (ofL (111::L3 d)) 108 then _ else tkR (ofL (111::L3 d)) 111)=_
    rw [b0,b1,b2,b3,aQ b3,bQ];exact ⟨rfl,rfl⟩
   | false=>
    show (if tkB (ofL (L3 d)) 46 then (0:Int) else if tkB (ofL (L3 d)) 98 then 2 else if tkB (ofL (L3 d)) 108 then 3 else if tkB (ofL (L3 d)) 111 then 1 else 1)=1∧(if tkB (ofL (L3 d)) 46 then _ else if tkB (ofL (L3 d)) 98 then _ else if tkB (ofL (L3 d)) 108 then _ else tkR (ofL (L3 d)) 111)=_
    rw [m46,m98,m108,m111,bG m111];exact ⟨rfl,rfl⟩
  ·have b0:tkB (ofL (98::L3 d)) 46=false:=cg (by decide) (show (98:Int)≠46 by decide)
   have b1:tkB (ofL (98::L3 d)) 98=true:=ir 98 _
   show (if tkB (ofL (98::L3 d)) 46 then (0:Int) else if tkB (ofL (98::L3 d)) 98 then 2 else _)=2∧(if tkB (ofL (98::L3 d)) 46 then _ else if tkB (ofL (98::L3 d)) 98 then tl (ofL (98::L3 d)) else _)=_
   rw [b0,b1,bQ];exact ⟨rfl,rfl⟩
  ·have b0:tkB (ofL (108::L3 d)) 46=false:=cg (by decide) (show (108:Int)≠46 by decide)
   have b1:tkB (ofL (108::L3 d)) 98=false:=cg (by decide) (show (108:Int)≠98 by decide)
   have b2:tkB (ofL (108::L3 d)) 108=true:=ir 108 _
   show (if tkB (ofL (108::L3 d)) 46 then (0:Int) else if tkB (ofL (108::L3 d)) 98 then 2 else if tkB (ofL (108::L3 d)) 108 then 3 else _)=3∧(if tkB (ofL (108::L3 d)) 46 then _ else if tkB (ofL (108::L3 d)) 98 then _ else if tkB (ofL (108::L3 d)) 108 then tl (ofL (108::L3 d)) else _)=_
   rw [b0,b1,b2,bQ];exact ⟨rfl,rfl⟩
 obtain ⟨b1,p2⟩:=b
 generalize hs:ofL (L1 d)=s at *
 have p3:gs3 s=ofL (L4 d):=by unfold gs3;rw [p2,c2]
 have p4:gs4 s=ofL (L5 d):=by unfold gs4;rw [p3,d2]
 have p5:gs5 s=ofL (L6 d):=by unfold gs5;rw [p4,e2]
 have p6:gs6 s=ofL (L7 d):=by unfold gs6;rw [p5,f2]
 have pD:gsD s={ d with How:=0,Victim:=0,Fielder:=0,Second:=0,Sub:=false,Sector:=0 }:=by
  unfold gsD;rw [a1,b1,p2,c1,p3,d1,p4,e1,p5,f1]
 have w:=I3 (e:=gsD s) h (H8 (d:=d)) (by rw [pD];exact ⟨rfl,rfl,rfl,rfl,rfl⟩)
 have p7:gs7 s=ofL (L8 d):=by unfold gs7;rw [p6];exact w.1
 have pW:gsW s={ d with Sector:=0 }:=by unfold gsW;rw [p6];refine w.2.trans ?_;rw [pD]
 unfold jS;rw [p7,pW,g1]
theorem Bb (x:Int):0≤IntKind.u8.wrap x:=by
 simp only [IntKind.wrap,IntKind.bits,IntKind.signed]
 simp
 omega
theorem HA (s:ByteArray) :∀ (k:Nat) (h:Int),k≤11→0≤h→0≤hoF s k h
 | 0,_,_,h=>h
 | k+1,x,hk,h=>by
  unfold hoF
  apply HA s k _ (by omega)
  split <;> omega
theorem HD (s:ByteArray):0≤(kc s).How∧0≤(jS s).How:=by
 constructor
 ·show 0≤(paW s).How
  unfold paW wkD
  split
  ·exact Int.le_refl _
  ·split
   ·exact Bb _
   ·exact Bb _
 ·show 0≤(gsW s).How
  unfold gsW ouD
  have hh :∀ x,0≤(hoD x 11 (gsD s)).How:=fun x=>HA _ 11 0 (Nat.le_refl _) (Int.le_refl _)
  repeat' split
  ·exact hh _
  ·exact hh _
  ·exact hh _
  ·exact Int.le_refl _
theorem JP (s:ByteArray):0≤(kc s).Source∧0≤(jS s).Source:=by
 constructor
 ·have :(kc s).Source=soV (paT s) (pa1 s):=by
   show (paW s).Source=_
   unfold paW wkD
   split
   ·rfl
   ·split <;> rfl
  rw [this];unfold soV
  repeat' split
  all_goals decide
 ·have :(jS s).Source=gsV s:=by
   show (gsW s).Source=_
   unfold gsW ouD
   repeat' split
   all_goals rfl
  rw [this];unfold gsV gs0
  repeat' split
  all_goals decide
theorem D5 {s:ByteArray} (h:jv s=false):jS s=kc s:=by
 unfold jv at h
 simp only [Bool.or_eq_false_iff,Bool.not_eq_false'] at h
 have h1:ba (kc s)=0:=by simpa using h.1
 have ok:okD (kc s):=⟨h1,(JP s).1,(HD s).1⟩
 have e:prS (kc s)=s:=bW (bytes_eq_iff.1 h.2)
 have:=NS ok
 rw [←Jd ok,e] at this;exact this
theorem KO {s:ByteArray} (h:kS s=false):kc s=jS s:=by
 unfold kS at h
 simp only [Bool.or_eq_false_iff,Bool.not_eq_false'] at h
 have h1:ba (jS s)=0:=by simpa using h.1
 have ok:okD (jS s):=⟨h1,(JP s).2,(HD s).2⟩
 have e:prS (jS s)=s:=bW (bytes_eq_iff.1 h.2)
 have:=OM ok
 rw [←Jd ok,e] at this;exact this
theorem I6 (s:ByteArray):kS s=jv s∧Hx s=tu s∧Hw s=l8 s:=by
 have e:kS s=jv s:=by
  cases h:jv s with
  | false=>rw [←h];unfold kS jv;rw [D5 h]
  | true=>
   cases g:kS s with
   | true=>rfl
   | false=>rw [←h,←g];unfold kS jv;rw [KO g]
 refine ⟨e,?_,?_⟩
 ·unfold Hx tu;rw [e]
  cases h:jv s with
  | true=>rfl
  | false=>rw [D5 h]
 ·unfold Hw l8;rw [e]
end Go.Proofs.YtffdpnmioidloaaGreatDoor
namespace Go.Proofs.YtffdpnmioidloaaGreatDoor
open Go Go.Mir
attribute [local irreducible] Go.Mir.DT.sat Go.Mir.evPat Go.Mir.RT.sat Go.Mir.evFn
theorem CK (s:ByteArray) :(evPat (ay [ze,zb] Tryz.f72) (fun _=>none) Tryz.f72 mS Cl (s,())).sat fun z_=>z_ =(oU (s,())).2:=by
 refine cast (by kernel_rfl) (?_:let r1:Delivery:=Delivery.mk (gsW s).1 (gsW s).2 (gsW s).3 (gsW s).4 (gsW s).5 (gsW s).6 (gsW s).7 (gsW s).8 (gsW s).9 (gsW s).10 (gsW s).11 (if tkB (gs7 s) (64:Int)=true then nmV (tl (gs7 s)) else (gsW s).12);let r2:Bool:=bif ba r1 !=(0:Int) then true else !(prS r1).toList==s.toList;(r2=true→(Delivery.mk (0:Int) (0:Int) (0:Int) (0:Int) (0:Int) false (0:Int) (0:Int) (0:Int) (0:Int) false (0:Int),(4:Int),()) =(tu s,l8 s,()))∧(r2=false→(r1,(0:Int),()) =(tu s,l8 s,())))
 intro r1 r2
 clear_value (hr1:r1=_) (hr2:r2=_)
 obtain ⟨g1,g2,g3⟩:=I6 s
 rw [show tu s=Hx s from g2.symm,show l8 s=Hw s from g3.symm]
 have e1:r1=jS s:=hr1
 have e2:r2=kS s:=by rw [hr2,e1];unfold kS;cases ba (jS s) != 0 <;> rfl
 refine ⟨fun h=>?_,fun h=>?_⟩
 ·rw [e2] at h;unfold Hx Hw;rw [h];rfl
 ·rw [e2] at h;unfold Hx Hw;rw [h,e1];rfl
def rD:FuncId×Ctr:=(72,ae KE mS Cl oU)
theorem vg:CtrOK Tryz.prog KE 72 (ae KE mS Cl oU):=by
 refine aE (C:=ay [ze,zb] Tryz.f72) (au (.consU FJ rfl (.consU FI rfl .nil)) _) mixed (fn:=Tryz.f72) Tryz.func72 (by kernel_rfl) (by kernel_rfl) (by kernel_rfl) (by kernel_rfl) (by kernel_rfl) (by kernel_rfl) (Λ:=fun _ _=>none) ?_ ?_
 ·exact fun _ _ _ _ _ _ _ _ h=>by cases h
 ·rintro ⟨s,⟨⟩⟩ hw hn
  exact CK s
end Go.Proofs.YtffdpnmioidloaaGreatDoor
namespace Go.Proofs.YtffdpnmioidloaaGreatDoor
open Go Go.Mir Go.RowKit
attribute [local irreducible] Go.Mir.DT.sat Go.Mir.evPat Go.Mir.RT.sat Go.Mir.evFn
def p9 (l:List ByteArray):Nat:=(l.map fun s=>s.size+1).sum
end Go.Proofs.YtffdpnmioidloaaGreatDoor
namespace Go.Proofs.YtffdpnmioidloaaGreatDoor
open Go Go.Mir Go.RowKit
attribute [local irreducible] Go.Mir.DT.sat Go.Mir.evPat Go.Mir.RT.sat Go.Mir.evFn
theorem vF :∀ l:List (List UInt8),(Lib.joinTail [32] l).length =(l.map fun s=>s.length+1).sum
 | []=>rfl
 | w::l=>by
  have ih:=vF l
  unfold Lib.joinTail at *
  simp only [List.map_cons,List.flatten_cons,List.length_append,List.length_cons,List.length_nil,List.sum_cons] at *
  omega
theorem BT (l:List (List UInt8)) :(Lib.join l [32]).length≤(l.map fun s=>s.length+1).sum:=by
 cases l with
 | nil=>rw [Lib.join_nil];exact Nat.zero_le _
 | cons w l=>
  have h:=vF l
  rw [Lib.join_cons]
  simp only [List.length_append,List.map_cons,List.sum_cons]
  omega
theorem rz (l:List ByteArray) :(fU l spV).size≤p9 l:=by
 have h:=BT (l.map fun s=>s.data.toList)
 have e :(fU l spV).size =(Lib.join (l.map fun s=>s.data.toList) [32]).length:=rfl
 have e2 :((l.map fun s=>s.data.toList).map fun s=>s.length+1).sum=p9 l:=by
  unfold p9
  rw [List.map_map]
  congr 1
 omega
theorem oW (a:ByteArray) (b:List ByteArray):p9 (a::b)=a.size+1+p9 b:=by unfold p9;rw [List.map_cons,List.sum_cons]
end Go.Proofs.YtffdpnmioidloaaGreatDoor
namespace Go.Proofs.YtffdpnmioidloaaGreatDoor
open Go Go.Mir Go.RowKit
attribute [local irreducible] Go.Mir.DT.sat Go.Mir.evPat Go.Mir.RT.sat Go.Mir.evFn
abbrev qRl:Pat:=dI [RwsL]
abbrev Cm:Pat:=dI [.str,I]
def bP (r:Mir.Row):Int:=if (ef r++eU r).any dB then 2 else if l8 r.Symbol != 0 then 4 else 0
def ei:List Mir.Row→Int
 | []=>0
 | r::l=>if bP r != 0 then bP r else ei l
def bn (l:List Mir.Row):ByteArray×Int:=if ei l=0 then (jd l ⟨#[]⟩,0) else (⟨#[]⟩,ei l)
def Pr (l:List Mir.Row):Prop:=∀ r∈l,r.Symbol.size≤20000
def pT (l:List Mir.Row):Prop:=l.length≤20100∧Pr l
def oV:Den (tyP qRl)→List Prop×Den (tyP Cm):=fun x=>([pT x.1],((bn x.1).1,(bn x.1).2,()))
abbrev Gh:Type:=ByteArray×Int×Unit
abbrev xRl:Lf×Pat:=(.ret,⟨[(2,.h .str),(3,.h I)],[],0⟩)
abbrev qM0:Pat:=⟨[(4,.h .str),(6,.c (.ptr 2 0)),(7,.h .str),(12,.h RwsL),(13,.h I),(14,.h I),(34,.c (.osl 0 1)),(35,.h I),(36,.h I)],[(0,.row 1 I),(2,.dat (.nm .Row))],3⟩
abbrev xM0:List (Lf×Pat):= [(.ext 2,⟨[(4,.h .str),(6,.c (.ptr 2 0)),(7,.h .str),(12,.h RwsL),(13,.h I),(14,.h I)],[(2,.dat (.nm .Row))],3⟩),xRl]
abbrev TM0:Type:=ByteArray×ByteArray×List Mir.Row×Int×Int×Int×Int×List Int×Mir.Row×Unit
def Ab (o:ByteArray) (l:List Mir.Row) (n i:Int) (r:Mir.Row):Option ByteArray→Sum (ByteArray×ByteArray×List Mir.Row×Int×Int×Mir.Row×Unit) Gh
 | some s=> .inl (o,s,l,n,i,r,())
 | none=> .inr (⟨#[]⟩,2,())
def il:TM0→Sum (ByteArray×ByteArray×List Mir.Row×Int×Int×Mir.Row×Unit) Gh
 |(o,s,l,n,i,_,j,xs,r,_)=>Ab o l n i r (lnG r.Symbol (xs.drop j.toNat) j s)
def uv:TM0→Prop
 |(_,s,_,_,_,m,j,xs,r,_)=>(m =(xs.length:Int)∧xs.length=8∧r.Symbol.size≤20000)∧(0≤j∧j≤m)∧(s.size:Int)≤30*j +(if j≤6 then 0 else 20001)
def Iu:TM0→Nat
 |(_,_,_,_,_,m,j,_)=>(m - j).toNat
abbrev qM1:Pat:=⟨[(4,.h .str),(12,.h RwsL),(13,.h I),(14,.h I)],[],0⟩
abbrev xM1:List (Lf×Pat):= [(.ext 0,⟨[(4,.h .str)],[],0⟩),xRl]
abbrev TM1:Type:=ByteArray×List Mir.Row×Int×Int×Unit
def cq (o:ByteArray) (l:List Mir.Row):Sum (ByteArray×Unit) Gh:=if ei l=0 then .inl (jd l o,()) else .inr (⟨#[]⟩,ei l,())
def jA:TM1→Sum (ByteArray×Unit) Gh
 |(o,l,_,i,_)=>cq o (l.drop i.toNat)
def uw:TM1→Prop
 |(o,l,n,i,_)=>(n =(l.length:Int)∧pT l)∧(0≤i∧i≤n)∧(o.size:Int)≤20300*i
def Iv:TM1→Nat
 |(_,_,n,i,_)=>(n - i).toNat
noncomputable def lpM0:Lp:=(⟨0,ay [jU] Tryz.f22,(fun _=>none),(jV Tryz.f22 0 0),qM0,xM0⟩:Lp)
theorem Ph (o:ByteArray) (s:ByteArray) (l:List Mir.Row) (n:Int) (i:Int) (m:Int) (j:Int) (xs:List Int) (r:Mir.Row) (hi:uv (o,s,l,n,i,m,j,xs,r,())) :(Go.Mir.stepG lpM0 il (fun y:Den (tyP lpM0.q)=>uv y∧Iu y<Iu (o,s,l,n,i,m,j,xs,r,())) (o,s,l,n,i,m,j,xs,r,())∧Go.Mir.stepE lpM0 il (o,s,l,n,i,m,j,xs,r,())=il (o,s,l,n,i,m,j,xs,r,())):=by
 refine cast (by kernel_rfl) (?_:let r1:ByteArray:=r.7++ByteArray.mk #[32];let r2:ByteArray:=aY (xs.getD j.toNat (dflt (Ty.int IntKind.i64)))++ByteArray.mk #[32];let r3:ByteArray:=bif j ==(6:Int) then s++r1 else s;let r4:Bool:=bif decide (xs.getD j.toNat (dflt (Ty.int IntKind.i64)) <(0:Int)) then true else decide (xs.getD j.toNat (dflt (Ty.int IntKind.i64)) >(1000000:Int));((decide (j<m)=true→((0:Int)≤j∧j <(↑xs.length:Int))∧(r4=true→True)∧(r4=false→(((j ==(6:Int))=true→r.7.size +(ByteArray.mk #[32]).size≤ak∧s.size+r1.size≤ak∧True)∧((j ==(6:Int))=false→True))∧(true=true→Fv (xs.getD j.toNat (dflt (Ty.int IntKind.i64)))∧(aY (xs.getD j.toNat (dflt (Ty.int IntKind.i64)))).size +(ByteArray.mk #[32]).size≤ak∧r3.size+r2.size≤ak∧uv (o,r3++r2,l,n,i,m,IntKind.i64.wrap (j +(1:Int)),xs,r,())∧Iu (o,r3++r2,l,n,i,m,IntKind.i64.wrap (j +(1:Int)),xs,r,())<Iu (o,s,l,n,i,m,j,xs,r,()))))∧(decide (j<m)=false→True))∧(bif decide (j<m) then bif r4 then Sum.inr (ByteArray.mk #[],(2:Int),()) else bif true&&true then il (o,r3++r2,l,n,i,m,IntKind.i64.wrap (j +(1:Int)),xs,r,()) else bif true then il (o,r3++r2,l,n,i,m,IntKind.i64.wrap (j +(1:Int)),xs,r,()) else bif j ==(6:Int) then Sum.inl (dflt (Ty.str.prod (Ty.str.prod (RwsL.prod (I.prod (I.prod ((Ty.nm Nm.Row).prod Ty.unit))))))) else Sum.inl (dflt (Ty.str.prod (Ty.str.prod (RwsL.prod (I.prod (I.prod ((Ty.nm Nm.Row).prod Ty.unit))))))) else Sum.inl (o,s,l,n,i,r,()))=il (o,s,l,n,i,m,j,xs,r,()))
 intro r1 r2 r3 r4
 clear_value (hr1:r1=_) (hr2:r2=_) (hr3:r3=_) (hr4:r4=_)
 obtain ⟨⟨h1,h1b,h1c⟩,⟨h2,h3⟩,h4⟩:=hi
 have h1:m =(xs.length:Int):=h1
 have h1b:xs.length=8:=h1b
 have h1c:r.Symbol.size≤20000:=h1c
 have h2:0≤j:=h2
 have h3:j≤m:=h3
 have h4 :(s.size:Int)≤30*j +(if j≤6 then 0 else 20001):=h4
 have hL :(1000000000:Nat)≤ak:=by decide
 by_cases h:j<m
 ·have e1:IntKind.i64.wrap (j+1)=j+1:=wrap64 (by omega) (by omega)
  have hd:xs.drop j.toNat=xs.getD j.toNat (dflt (Ty.int IntKind.i64))::xs.drop (j+1).toNat:=gD h2 (by omega) _
  generalize xs.getD j.toNat (dflt (Ty.int IntKind.i64))=x at *
  have e4:r4=dB x:=hr4
  have hsp :(ByteArray.mk #[(32:UInt8)]).size=1:=rfl
  have hs4 :(s.size:Int)≤30*j+20001:=by split at h4 <;> omega
  have key:il (o,s,l,n,i,m,j,xs,r,())=bif r4 then .inr (⟨#[]⟩,2,()) else il (o,r3++r2,l,n,i,m,j+1,xs,r,()):=by
   show Ab o l n i r (lnG r.Symbol (xs.drop j.toNat) j s)=bif r4 then .inr (⟨#[]⟩,2,()) else Ab o l n i r (lnG r.Symbol (xs.drop (j+1).toNat) (j+1) (r3++r2))
   rw [hd]
   generalize xs.drop (j+1).toNat=R
   have e:lnG r.Symbol (x::R) j s=if dB x then none else lnG r.Symbol R (j+1) ((bif j==6 then s ++(r.Symbol++spV) else s) ++(aY x++spV)):=rfl
   rw [e,e4,hr3,hr2,hr1]
   cases dB x <;> rfl
  rw [decide_eq_true h,e1,key]
  refine ⟨⟨fun _=>⟨⟨h2,by omega⟩,fun _=>trivial,fun h4'=>?_⟩,fun z=>Bool.noConfusion z⟩,?_⟩
  ·have hx:0≤x∧x≤1000000:=xu (by rw [e4,xC] at h4';simpa using h4')
   have hz:=jk hx.1 hx.2
   have hr2':r2.size≤22:=by rw [hr2,ByteArray.size_append,hsp];omega
   have hr1':r1.size=r.Symbol.size+1:=by rw [hr1,ByteArray.size_append,hsp]
   have hr3' :(r3.size:Int)≤30*j +(if j+1≤6 then 0 else 20001):=by
    rw [hr3]
    cases hj:j==6 with
    | true=>
     have hj:j=6:=eq_of_beq hj
     show ((s++r1).size:Int)≤_
     rw [ByteArray.size_append,hr1',if_neg (by omega)]
     rw [if_pos (by omega)] at h4
     omega
    | false=>
     have hj:j≠6:=fun e=>by rw [e] at hj;exact Bool.noConfusion hj
     show (s.size:Int)≤_
     by_cases hk:j+1≤6
     ·rw [if_pos hk];rw [if_pos (by omega)] at h4;exact h4
     ·rw [if_neg hk];rw [if_neg (by omega)] at h4;exact h4
   have hr3b :(r3.size:Int)≤30*j+20001:=by split at hr3' <;> omega
   refine ⟨⟨fun _=>⟨by rw [hsp];omega,by omega,trivial⟩,fun _=>trivial⟩,fun _=>⟨⟨hx.1,by omega⟩,by rw [hsp];omega,by omega,⟨⟨h1,h1b,h1c⟩,⟨?_,?_⟩,?_⟩,?_⟩⟩
   ·show 0≤j+1;omega
   ·show j+1≤m;omega
   ·show ((r3++r2).size:Int)≤30 *(j+1) +(if j+1≤6 then 0 else 20001)
    rw [ByteArray.size_append];omega
   ·show (m - (j+1)).toNat <(m - j).toNat;omega
  ·cases r4 <;> rfl
 ·rw [decide_eq_false h]
  refine ⟨⟨fun z=>Bool.noConfusion z,fun _=>trivial⟩,?_⟩
  show _=Ab o l n i r (lnG r.Symbol (xs.drop j.toNat) j s)
  rw [fa (l:=xs) (by omega)]
  rfl
noncomputable def QR:LoopSum:=aD lpM0 il uv
noncomputable def QL:Nat:=rid (jV Tryz.f22 0 0)
theorem Oh:LoopOKp Tryz.prog 0 Tryz.f22.ntmps (jV Tryz.f22 0 0) (aD lpM0 il uv):=
 bq lpM0 (au (.consU lg rfl .nil) _) mixed (fun b hb S hS=>by cases hS) il uv Iu (fun |⟨o,s,l,n,i,m,j,xs,r,⟨⟩⟩,hi=>Ph o s l n i m j xs r hi)
theorem Ax {r:Mir.Row} (h :(ef r++eU r).any dB=false) (hs:r.Symbol.size≤20000) :(fU (aF r) spV).size≤20200:=by
 have hx :∀ x∈ef r++eU r,0≤x∧x≤1000000:=fun x hx=>by
  have:=List.any_eq_false.1 h x hx
  exact xu (by rw [xC] at this;simpa using this)
 have z:=fun x hx'=>jk (hx x hx').1 (hx x hx').2
 unfold ef eU at z
 have hj:=rz (aF r)
 have e:p9 (aF r)≤20200:=by
  unfold aF ef eU
  simp only [List.map_cons,List.map_nil,List.cons_append,List.nil_append,oW]
  have h0:p9 []=0:=rfl
  have z1:=z r.Innings (by simp)
  have z2:=z r.Over (by simp)
  have z3:=z r.Ball (by simp)
  have z4:=z r.Bowler (by simp)
  have z5:=z r.Striker (by simp)
  have z6:=z r.Partner (by simp)
  have z7:=z r.Total (by simp)
  have z8:=z r.Wickets (by simp)
  omega
 omega
theorem lE (r:Mir.Row) (l:List Mir.Row):ei (r::l)=if bP r != 0 then bP r else ei l:=rfl
theorem lT {r:Mir.Row} {l:List Mir.Row} {o:ByteArray} {k:Int} (h:bP r=k) (hk:k≠0):cq o (r::l) = .inr (⟨#[]⟩,k,()):=by
 have e:ei (r::l)=k:=by
  rw [lE,h,if_pos (by simpa using hk)]
 unfold cq
 rw [e,if_neg hk]
theorem Ad {r:Mir.Row} {l:List Mir.Row} {o:ByteArray} (h:bP r=0):cq o (r::l)=cq (o++lnB (aF r)) l:=by
 have e:ei (r::l)=ei l:=by
  rw [lE,h]
  rfl
 unfold cq
 rw [e]
 rfl
noncomputable def lpM1:Lp:=(⟨0,ay [jU,rD] Tryz.f22,(find [(QL,QR)]),(bt Tryz.f22 0),qM1,xM1⟩:Lp)
theorem Pi (o:ByteArray) (l:List Mir.Row) (n:Int) (i:Int) (hi:uw (o,l,n,i,())) :(Go.Mir.stepG lpM1 jA (fun y:Den (tyP lpM1.q)=>uw y∧Iv y<Iv (o,l,n,i,())) (o,l,n,i,())∧Go.Mir.stepE lpM1 jA (o,l,n,i,())=jA (o,l,n,i,())):=by
 refine cast (by kernel_rfl) (?_:let r1:List Int:= [(l.getD i.toNat (dflt (Ty.nm Nm.Row))).1,(l.getD i.toNat (dflt (Ty.nm Nm.Row))).2,(l.getD i.toNat (dflt (Ty.nm Nm.Row))).3,(l.getD i.toNat (dflt (Ty.nm Nm.Row))).4,(l.getD i.toNat (dflt (Ty.nm Nm.Row))).5,(l.getD i.toNat (dflt (Ty.nm Nm.Row))).6,(l.getD i.toNat (dflt (Ty.nm Nm.Row))).8,(l.getD i.toNat (dflt (Ty.nm Nm.Row))).9];let r2:Int:=(↑r1.length:Int);let r3:Bool:=isL (il (o,ByteArray.mk #[],l,n,i,r2,(0:Int),r1,l.getD i.toNat (dflt (Ty.nm Nm.Row)),()));let r4:ByteArray×ByteArray×List Mir.Row×Int×Int×Mir.Row×PUnit:=tp (dflt (Ty.str.prod (Ty.str.prod (RwsL.prod (I.prod (I.prod ((Ty.nm Nm.Row).prod Ty.unit))))))) (il (o,ByteArray.mk #[],l,n,i,r2,(0:Int),r1,l.getD i.toNat (dflt (Ty.nm Nm.Row)),()));let r5:Int:=(↑r4.2.1.size:Int);let r6:Bool:=l8 r4.2.2.2.2.2.1.7 !=(0:Int);let r7:Int:=IntKind.i64.wrap (r5 - (1:Int));let r8:ByteArray:=r4.2.1.extract (Int.toNat (0:Int)) r7.toNat;let r9:ByteArray:=r8++ByteArray.mk #[10];((decide (i<n)=true→((0:Int)≤i∧i <(↑l.length:Int))∧((jZ fun x=>none)∧(r2 =(↑r1.length:Int)∧nat_lit 8=nat_lit 8∧(l.getD i.toNat (dflt (Ty.nm Nm.Row))).7.size≤(20000:Nat))∧((0:Int)≤(0:Int)∧(0:Int)≤r2)∧(↑(ByteArray.mk #[]).size:Int)≤(30:Int) *(0:Int)+if (0:Int)≤(6:Int) then (0:Int) else (20001:Int))∧(r3=true→(r6=true→True)∧(r6=false→((0:Int)≤(0:Int)∧(0:Int)≤r7∧r7≤r5)∧r8.size +(ByteArray.mk #[10]).size≤ak∧r4.1.size+r9.size≤ak∧uw (r4.1++r9,r4.2.2.1,r4.2.2.2.1,IntKind.i64.wrap (r4.2.2.2.2.1 +(1:Int)),())∧Iv (r4.1++r9,r4.2.2.1,r4.2.2.2.1,IntKind.i64.wrap (r4.2.2.2.2.1 +(1:Int)),())<Iv (o,l,n,i,())))∧(r3=false→True))∧(decide (i<n)=false→True))∧(bif decide (i<n) then bif r3 then bif r6 then Sum.inr (ByteArray.mk #[],(4:Int),()) else jA (r4.1++r9,r4.2.2.1,r4.2.2.2.1,IntKind.i64.wrap (r4.2.2.2.2.1 +(1:Int)),()) else Sum.inr (wX (dflt (Ty.str.prod (I.prod Ty.unit))) (il (o,ByteArray.mk #[],l,n,i,r2,(0:Int),r1,l.getD i.toNat (dflt (Ty.nm Nm.Row)),()))) else Sum.inl (o,()))=jA (o,l,n,i,()))
 intro r1 r2 r3 r4 r5 r6 r7 r8 r9
 clear_value (hr1:r1=_) (hr2:r2=_) (hr3:r3=_) (hr4:r4=_) (hr5:r5=_) (hr6:r6=_) (hr7:r7=_) (hr8:r8=_) (hr9:r9=_)
 obtain ⟨⟨h1,h1b⟩,⟨h2,h3⟩,h4⟩:=hi
 have h1:n =(l.length:Int):=h1
 have h1b:pT l:=h1b
 have h2:0≤i:=h2
 have h3:i≤n:=h3
 have h4 :(o.size:Int)≤20300*i:=h4
 have hL :(1000000000:Nat)≤ak:=by decide
 have hf:=h1b.1
 by_cases h:i<n
 ·have e1:IntKind.i64.wrap (i+1)=i+1:=wrap64 (by omega) (by omega)
  have hd:l.drop i.toNat=l.getD i.toNat (dflt (Ty.nm Nm.Row))::l.drop (i+1).toNat:=gD h2 (by omega) _
  have hm:l.getD i.toNat (dflt (Ty.nm Nm.Row))∈l:=List.mem_of_mem_drop (i:=i.toNat) (by rw [hd];exact List.mem_cons_self)
  have hz:=h1b.2 _ hm
  generalize l.getD i.toNat (dflt (Ty.nm Nm.Row))=x at *
  have er1:r1=ef x++eU x:=hr1
  have l1:r1.length=8:=by rw [er1];rfl
  have er:il (o,⟨#[]⟩,l,n,i,r2,0,r1,x,())=Ab o l n i x (lnG x.Symbol r1 0 ⟨#[]⟩):=rfl
  have key:jA (o,l,n,i,())=cq o (x::l.drop (i+1).toNat):=by
   show cq o (l.drop i.toNat)=_
   rw [hd]
  have hE :(jZ fun _=>none)∧(r2 =(r1.length:Int)∧8=8∧x.Symbol.size≤20000)∧((0:Int)≤0∧0≤r2)∧((⟨#[]⟩:ByteArray).size:Int)≤30*0 +(if (0:Int)≤6 then 0 else 20001):=⟨rfl,⟨hr2,rfl,hz⟩,⟨Int.le_refl _,by omega⟩,by decide⟩
  rw [er] at hr3 hr4 ⊢
  rw [decide_eq_true h,key]
  cases hb :(ef x++eU x).any dB with
  | true=>
   have eN:lnG x.Symbol r1 0 ⟨#[]⟩=none:=DQ _ _ _ _ (by rw [er1];exact hb)
   have eE:bP x=2:=by unfold bP;rw [if_pos hb]
   rw [eN] at hr3 ⊢
   have e3:r3=false:=hr3
   rw [e3,lT eE (by decide)]
   exact ⟨⟨fun _=>⟨⟨h2,by omega⟩,hE,fun z=>Bool.noConfusion z,fun _=>trivial⟩,fun z=>Bool.noConfusion z⟩,rfl⟩
  | false=>
   have eN:lnG x.Symbol r1 0 ⟨#[]⟩=some (fU (aF x) spV++spV):=by rw [er1];exact K5 hb
   have hJ:=Ax hb hz
   rw [eN] at hr3 hr4 ⊢
   have e3:r3=true:=hr3
   have e4:r4 =(o,fU (aF x) spV++spV,l,n,i,x,()):=hr4
   have hsz :(fU (aF x) spV++spV).size =(fU (aF x) spV).size+1:=by rw [ByteArray.size_append];rfl
   have e5:r5 =((fU (aF x) spV).size:Int)+1:=by
    rw [hr5,e4]
    show ((fU (aF x) spV++spV).size:Int)=_
    rw [hsz]
    exact Int.natCast_add _ _
   have e6:r6 =(l8 x.Symbol != 0):=by rw [hr6,e4]
   have e7:r7=r5 - 1:=by rw [hr7];exact wrap64 (by omega) (by omega)
   have e8:r8=fU (aF x) spV:=by
    rw [hr8,e4]
    have:r7.toNat =(fU (aF x) spV++spV).size - 1:=by omega
    rw [this]
    exact GV _
   have e9:r9=lnB (aF x):=by rw [hr9,e8];rfl
   have z9:r9.size=r8.size+1:=by rw [hr9];exact ByteArray.size_append
   have z8:r8.size≤20200:=by rw [e8];exact hJ
   have hnl :(ByteArray.mk #[(10:UInt8)]).size=1:=rfl
   rw [e3,e4,e1]
   cases h6:r6 with
   | true=>
    have eE:bP x=4:=by
     unfold bP
     rw [if_neg (by rw [hb];decide),←e6,h6]
     rfl
    rw [lT eE (by decide)]
    exact ⟨⟨fun _=>⟨⟨h2,by omega⟩,hE,fun _=>⟨fun _=>trivial,fun z=>Bool.noConfusion z⟩,fun z=>Bool.noConfusion z⟩,fun z=>Bool.noConfusion z⟩,rfl⟩
   | false=>
    have eE:bP x=0:=by
     unfold bP
     rw [if_neg (by rw [hb];decide),←e6,h6]
     rfl
    rw [Ad eE,←e9]
    refine ⟨⟨fun _=>⟨⟨h2,by omega⟩,hE,fun _=>⟨fun z=>Bool.noConfusion z,fun _=>⟨⟨Int.le_refl _,by omega,by omega⟩,by rw [hnl];omega,?_,⟨⟨h1,h1b⟩,⟨?_,?_⟩,?_⟩,?_⟩⟩,fun z=>Bool.noConfusion z⟩,fun z=>Bool.noConfusion z⟩,rfl⟩
    ·show o.size+r9.size≤ak;omega
    ·show 0≤i+1;omega
    ·show i+1≤n;omega
    ·show ((o++r9).size:Int)≤20300 *(i+1)
     rw [ByteArray.size_append];omega
    ·show (n - (i+1)).toNat <(n - i).toNat;omega
 ·rw [decide_eq_false h]
  refine ⟨⟨fun z=>Bool.noConfusion z,fun _=>trivial⟩,?_⟩
  show _=cq o (l.drop i.toNat)
  rw [fa (l:=l) (by omega)]
  rfl
noncomputable def M6:LoopSum:=aD lpM1 jA uw
noncomputable def MN:Nat:=rid (bt Tryz.f22 0)
theorem Oi:LoopOKp Tryz.prog 0 Tryz.f22.ntmps (bt Tryz.f22 0) (aD lpM1 jA uw):=
 bq lpM1 (au (.consU lg rfl (.consU vg rfl .nil)) _) mixed (LoopsOKp.cons (by kernel_rfl) Oh .nil) jA uw Iv (fun |⟨o,l,n,i,⟨⟩⟩,hi=>Pi o l n i hi)
theorem CI (l:List Mir.Row) (hl:pT l) :(evPat (ay [jU,rD] Tryz.f22) (find [(MN,M6)]) Tryz.f22 qRl Cm (l,())).sat fun z_=>z_ =(oV (l,())).2:=by
 refine cast (by kernel_rfl) (?_:let r1:Bool:=isL (jA (ByteArray.mk #[],l,(↑l.length:Int),(0:Int),()));((jZ fun x=>none)∧((↑l.length:Int) =(↑l.length:Int)∧pT l)∧((0:Int)≤(0:Int)∧(0:Int)≤(↑l.length:Int))∧(↑(ByteArray.mk #[]).size:Int)≤(20300:Int) *(0:Int))∧(r1=true→((tp (dflt (Ty.str.prod Ty.unit)) (jA (ByteArray.mk #[],l,(↑l.length:Int),(0:Int),()))).1,(0:Int),()) =((bn l).1,(bn l).2,()))∧(r1=false→wX (dflt (Ty.str.prod (I.prod Ty.unit))) (jA (ByteArray.mk #[],l,(↑l.length:Int),(0:Int),())) =((bn l).1,(bn l).2,())))
 intro r1
 clear_value (hr1:r1=_)
 have er:jA (⟨#[]⟩,l,(l.length:Int),0,())=cq ⟨#[]⟩ l:=rfl
 rw [er] at hr1 ⊢
 refine ⟨⟨rfl,⟨rfl,hl⟩,⟨Int.le_refl _,by omega⟩,by decide⟩,fun h1=>?_,fun h1=>?_⟩
 ·by_cases he:ei l=0
  ·unfold cq bn;rw [if_pos he,if_pos he];rfl
  ·have:cq ⟨#[]⟩ l = .inr (⟨#[]⟩,ei l,()):=by unfold cq;rw [if_neg he]
   rw [hr1,this] at h1;exact Bool.noConfusion h1
 ·by_cases he:ei l=0
  ·have:cq ⟨#[]⟩ l = .inl (jd l ⟨#[]⟩,()):=by unfold cq;rw [if_pos he]
   rw [hr1,this] at h1;exact Bool.noConfusion h1
  ·unfold cq bn;rw [if_neg he,if_neg he];rfl
def y9:FuncId×Ctr:=(22,ae KE qRl Cm oV)
theorem FG:CtrOK Tryz.prog KE 22 (ae KE qRl Cm oV):=by
 refine aE (C:=ay [jU,rD] Tryz.f22) (au (.consU lg rfl (.consU vg rfl .nil)) _) mixed (fn:=Tryz.f22) Tryz.func22 (by kernel_rfl) (by kernel_rfl) (by kernel_rfl) (by kernel_rfl) (by kernel_rfl) (by kernel_rfl) (Λ:=fun x=>find [(MN,M6)]) ?_ ?_
 ·rintro ⟨l,⟨⟩⟩ hw hn
  exact LoopsOKp.at (by kernel_rfl) (.cons (by kernel_rfl) (Oi) .nil)
 ·rintro ⟨l,⟨⟩⟩ hw hn
  exact CI l (hn _ List.mem_cons_self)
end Go.Proofs.YtffdpnmioidloaaGreatDoor
namespace Go.Proofs.YtffdpnmioidloaaGreatDoor
open Go Go.Mir Go.RowKit
attribute [local irreducible] Go.Mir.DT.sat Go.Mir.evPat Go.Mir.RT.sat Go.Mir.evFn
abbrev qW2:Pat:=⟨[(4,.c (.av 0 0)),(15,.h RwsL),(16,.h I),(17,.h I)],[(0,.abs 0 .str)],1⟩
abbrev xW2:List (Lf×Pat):= [(.ext 0,⟨[(4,.c (.av 0 0))],[(0,.abs 0 .str)],1⟩),xRl]
abbrev TW2:Type:=List Mir.Row×Int×Int×ByteArray×Unit
def jB:TW2→Sum (ByteArray×Unit) Gh
 |(l,_,i,o,_)=>cq o (l.drop i.toNat)
def uE:TW2→Prop
 |(l,n,i,o,_)=>(n =(l.length:Int)∧pT l)∧(0≤i∧i≤n)∧(o.size:Int)≤20300*i
def ID:TW2→Nat
 |(_,n,i,_)=>(n - i).toNat
theorem yd (a:ByteArray) :∀ (l:List ByteArray) (b:ByteArray),kC l (a++b)=a++kC l b
 | [],b=>rfl
 | x::l,b=>by
  show kC l ((a++b) ++(spV++x))=a++kC l (b ++(spV++x))
  rw [ByteArray.append_assoc,yd a l]
theorem ye (a:ByteArray) :∀ (l:List ByteArray) (b:ByteArray),lZ l (a++b)=a++lZ l b
 | [],b=>rfl
 | x::l,b=>by
  show lZ l ((a++b) ++(x++spV))=a++lZ l (b ++(x++spV))
  rw [ByteArray.append_assoc,ye a l]
theorem tB :∀ (l:List ByteArray) (o:ByteArray),(kC l o).size=o.size+p9 l
 | [],o=>rfl
 | x::l,o=>by
  have h:=tB l (o ++(spV++x))
  show (kC l (o ++(spV++x))).size=_
  have hs:spV.size=1:=rfl
  rw [h,ByteArray.size_append,ByteArray.size_append,oW]
  omega
theorem uG (w:ByteArray) (l:List ByteArray):fU (w::l) spV=kC l w:=by
 apply Bq
 unfold kC
 rw [lH]
 show Lib.join ((w::l).map fun s=>s.data.toList) [32]=_
 rw [List.map_cons,Lib.join_cons]
 congr 1
 unfold Lib.joinTail
 rw [List.map_map]
 congr 1
theorem Ic (r:Mir.Row) (o:ByteArray):kC ((eU r).map aY) (lZ ((ef r).map aY) o++r.Symbol)++chB 10=o++lnB (aF r):=by
 obtain ⟨w,l1,he⟩ :∃ w l1,(ef r).map aY=w::l1:=⟨_,_,rfl⟩
 have e0:o=o ++(⟨#[]⟩:ByteArray):=ByteArray.append_empty.symm
 have e1:lZ ((ef r).map aY) o=o ++(kC l1 w++spV):=by
  rw [he]
  have:lZ (w::l1) o=lZ (w::l1) (o ++(⟨#[]⟩:ByteArray)):=congrArg _ e0
  rw [this,ye,tE,uG]
 have e2:fU (aF r) spV=kC ((eU r).map aY) (kC l1 w ++(spV++r.Symbol)):=by
  unfold aF
  rw [he,List.cons_append,uG]
  unfold kC
  rw [List.foldl_append]
  rfl
 have e3:chB 10=nlV:=rfl
 unfold lnB
 rw [e1,ByteArray.append_assoc,ByteArray.append_assoc,yd,ByteArray.append_assoc,e2,e3]
noncomputable def lpW2:Lp:=(⟨0,ay [BU,KU,KV,oD,dU,kU] Tryz.f21,(find [(OX,Pp),(OY,Pq)]),(bt Tryz.f21 0),qW2,xW2⟩:Lp)
theorem Pn (l:List Mir.Row) (n:Int) (i:Int) (o:ByteArray) (hi:uE (l,n,i,o,())) :(Go.Mir.stepG lpW2 jB (fun y:Den (tyP lpW2.q)=>uE y∧ID y<ID (l,n,i,o,())) (l,n,i,o,())∧Go.Mir.stepE lpW2 jB (l,n,i,o,())=jB (l,n,i,o,())):=by
 refine cast (by kernel_rfl) (?_:let r1:Bool:=l8 (l.getD i.toNat (dflt (Ty.nm Nm.Row))).7 !=(0:Int);let r2:List Int:= [(l.getD i.toNat (dflt (Ty.nm Nm.Row))).8,(l.getD i.toNat (dflt (Ty.nm Nm.Row))).9];let r3:Int:=(↑r2.length:Int);let r4:List Int:= [(l.getD i.toNat (dflt (Ty.nm Nm.Row))).1,(l.getD i.toNat (dflt (Ty.nm Nm.Row))).2,(l.getD i.toNat (dflt (Ty.nm Nm.Row))).3,(l.getD i.toNat (dflt (Ty.nm Nm.Row))).4,(l.getD i.toNat (dflt (Ty.nm Nm.Row))).5,(l.getD i.toNat (dflt (Ty.nm Nm.Row))).6];let r5:Int:=(↑r4.length:Int);let r6:ByteArray:=lZ (List.map aY (List.drop (Int.toNat (0:Int)) r4)) o;let r7:ByteArray:=r6 ++(l.getD i.toNat (dflt (Ty.nm Nm.Row))).7;let r8:List (List Int):= [r4,r2];let r9:Bool:=r8.flatten.any dB;let r10:ByteArray:=kC (List.map aY (List.drop (Int.toNat (0:Int)) r2)) r7;((decide (i<n)=true→((0:Int)≤i∧i <(↑l.length:Int))∧xm r8∧(r9=true→True)∧(r9=false→(r1=true→True)∧(r1=false→((jZ fun x=>none)∧(r5 =(↑r4.length:Int)∧inR r4)∧((0:Int)≤(0:Int)∧(0:Int)≤r5)∧(↑o.size:Int) +(30:Int) *(r5 - (0:Int))≤(900000000:Int))∧r6.size +(l.getD i.toNat (dflt (Ty.nm Nm.Row))).7.size≤ak∧((jZ fun x=>none)∧(r3 =(↑r2.length:Int)∧inR r2)∧((0:Int)≤(0:Int)∧(0:Int)≤r3)∧(↑r7.size:Int) +(30:Int) *(r3 - (0:Int))≤(900000000:Int))∧r10.size +(1:Nat)≤ak∧uE (l,n,IntKind.i64.wrap (i +(1:Int)),r10++chB (10:Int),())∧ID (l,n,IntKind.i64.wrap (i +(1:Int)),r10++chB (10:Int),())<ID (l,n,i,o,()))))∧(decide (i<n)=false→True))∧(bif decide (i<n) then bif r9 then Sum.inr (ByteArray.mk #[],(2:Int),()) else bif r1 then Sum.inr (ByteArray.mk #[],(4:Int),()) else jB (l,n,IntKind.i64.wrap (i +(1:Int)),r10++chB (10:Int),()) else Sum.inl (o,()))=jB (l,n,i,o,()))
 intro r1 r2 r3 r4 r5 r6 r7 r8 r9 r10
 clear_value (hr1:r1=_) (hr2:r2=_) (hr3:r3=_) (hr4:r4=_) (hr5:r5=_) (hr6:r6=_) (hr7:r7=_) (hr8:r8=_) (hr9:r9=_) (hr10:r10=_)
 obtain ⟨⟨h1,h1b⟩,⟨h2,h3⟩,h4⟩:=hi
 have h1:n =(l.length:Int):=h1
 have h1b:pT l:=h1b
 have h2:0≤i:=h2
 have h3:i≤n:=h3
 have h4 :(o.size:Int)≤20300*i:=h4
 have hL :(1000000000:Nat)≤ak:=by decide
 have hf:=h1b.1
 by_cases h:i<n
 ·have e1:IntKind.i64.wrap (i+1)=i+1:=wrap64 (by omega) (by omega)
  have hd:l.drop i.toNat=l.getD i.toNat (dflt (Ty.nm Nm.Row))::l.drop (i+1).toNat:=gD h2 (by omega) _
  have hm:l.getD i.toNat (dflt (Ty.nm Nm.Row))∈l:=List.mem_of_mem_drop (i:=i.toNat) (by rw [hd];exact List.mem_cons_self)
  have hz:=h1b.2 _ hm
  generalize l.getD i.toNat (dflt (Ty.nm Nm.Row))=x at *
  have e4:r4=ef x:=hr4
  have e2:r2=eU x:=hr2
  have l4:r4.length=6:=by rw [e4];rfl
  have l2:r2.length=2:=by rw [e2];rfl
  have e8:r8.flatten=ef x++eU x:=by
   rw [hr8,e4,e2]
   show ef x ++(eU x++[])=_
   rw [List.append_nil]
  have e9:r9 =(ef x++eU x).any dB:=by rw [hr9,e8]
  have hcc:xm r8:=by
   have hl:r8.flatten.length=8:=by rw [e8];rfl
   exact ⟨⟨by rw [hr8];show 2≤1000;omega,by omega⟩,by omega⟩
  have key:jB (l,n,i,o,())=cq o (x::l.drop (i+1).toNat):=by
   show cq o (l.drop i.toNat)=_
   rw [hd]
  rw [decide_eq_true h,key,e1]
  cases h9:r9 with
  | true=>
   have eE:bP x=2:=by unfold bP;rw [if_pos (by rw [←e9];exact h9)]
   rw [lT eE (by decide)]
   exact ⟨⟨fun _=>⟨⟨h2,by omega⟩,hcc,fun _=>trivial,fun z=>Bool.noConfusion z⟩,fun z=>Bool.noConfusion z⟩,rfl⟩
  | false=>
   have hb :(ef x++eU x).any dB=false:=by rw [←e9];exact h9
   cases hk:r1 with
   | true=>
    have eE:bP x=4:=by
     unfold bP
     rw [if_neg (by rw [hb];decide),←hr1,hk]
     rfl
    rw [lT eE (by decide)]
    exact ⟨⟨fun _=>⟨⟨h2,by omega⟩,hcc,fun z=>Bool.noConfusion z,fun _=>⟨fun _=>trivial,fun z=>Bool.noConfusion z⟩⟩,fun z=>Bool.noConfusion z⟩,rfl⟩
   | false=>
    have eE:bP x=0:=by
     unfold bP
     rw [if_neg (by rw [hb];decide),←hr1,hk]
     rfl
    have hJ:=Ax hb hz
    have hr :∀ v∈ef x++eU x,0≤v∧v≤1000000:=fun v hv=>by
     have:=List.any_eq_false.1 hb v hv
     exact xu (by rw [xC] at this;simpa using this)
    have i4:inR r4:=by rw [e4];exact ⟨by show 6≤100;omega,fun v hv=>hr v (List.mem_append_left _ hv)⟩
    have i2:inR r2:=by rw [e2];exact ⟨by show 2≤100;omega,fun v hv=>hr v (List.mem_append_right _ hv)⟩
    have eL:r10++chB 10=o++lnB (aF x):=by
     rw [hr10,hr7,hr6,e4,e2]
     exact Ic x o
    have z10:r10.size+1=o.size +((fU (aF x) spV).size+1):=by
     have:=congrArg ByteArray.size eL
     rw [ByteArray.size_append,ByteArray.size_append] at this
     unfold lnB at this
     rw [ByteArray.size_append] at this
     exact this
    have z7:r10.size=r7.size+p9 ((r2.drop (Int.toNat 0)).map aY):=by rw [hr10];exact tB _ _
    have z6:r7.size=r6.size+x.Symbol.size:=by rw [hr7];exact ByteArray.size_append
    rw [eL,Ad eE]
    refine ⟨⟨fun _=>⟨⟨h2,by omega⟩,hcc,fun z=>Bool.noConfusion z,fun _=>⟨fun z=>Bool.noConfusion z,fun _=>⟨⟨rfl,⟨hr5,i4⟩,⟨Int.le_refl _,by omega⟩,by omega⟩,by omega,⟨rfl,⟨hr3,i2⟩,⟨Int.le_refl _,by omega⟩,by omega⟩,by omega,⟨⟨h1,h1b⟩,⟨?_,?_⟩,?_⟩,?_⟩⟩⟩,fun z=>Bool.noConfusion z⟩,rfl⟩
    ·show 0≤i+1;omega
    ·show i+1≤n;omega
    ·show ((o++lnB (aF x)).size:Int)≤20300 *(i+1)
     rw [←eL,ByteArray.size_append]
     have :(chB 10).size=1:=rfl
     omega
    ·show (n - (i+1)).toNat <(n - i).toNat;omega
 ·rw [decide_eq_false h]
  refine ⟨⟨fun z=>Bool.noConfusion z,fun _=>trivial⟩,?_⟩
  show _=cq o (l.drop i.toNat)
  rw [fa (l:=l) (by omega)]
  rfl
noncomputable def Nb:LoopSum:=aD lpW2 jB uE
noncomputable def MS:Nat:=rid (bt Tryz.f21 0)
theorem On:LoopOKp Tryz.prog 0 Tryz.f21.ntmps (bt Tryz.f21 0) (aD lpW2 jB uE):=
 bq lpW2 (au (.consU zQ rfl (.consU IQ rfl (.consU IX rfl (.consU mP rfl (.consU fm rfl (.consU nL rfl .nil)))))) _) mixed (LoopsOKp.cons (by kernel_rfl) K7 (.cons (by kernel_rfl) K8 .nil)) jB uE ID (fun |⟨l,n,i,o,⟨⟩⟩,hi=>Pn l n i o hi)
theorem FX (l:List Mir.Row) (hl:pT l) :(evPat (ay [dU,kU,y3] Tryz.f21) (find [(MS,Nb)]) Tryz.f21 qRl Cm (l,())).sat fun z_=>z_ =(oV (l,())).2:=by
 refine cast (by kernel_rfl) (?_:let r1:Bool:=isL (jB (l,(↑l.length:Int),(0:Int),ByteArray.empty,()));((jZ fun x=>none)∧((↑l.length:Int) =(↑l.length:Int)∧pT l)∧((0:Int)≤(0:Int)∧(0:Int)≤(↑l.length:Int))∧(↑ByteArray.empty.size:Int)≤(20300:Int) *(0:Int))∧(r1=true→((tp (dflt (Ty.str.prod Ty.unit)) (jB (l,(↑l.length:Int),(0:Int),ByteArray.empty,()))).1,(0:Int),()) =((bn l).1,(bn l).2,()))∧(r1=false→wX (dflt (Ty.str.prod (I.prod Ty.unit))) (jB (l,(↑l.length:Int),(0:Int),ByteArray.empty,())) =((bn l).1,(bn l).2,())))
 intro r1
 clear_value (hr1:r1=_)
 have er:jB (l,(l.length:Int),0,ByteArray.empty,())=cq ⟨#[]⟩ l:=rfl
 rw [er] at hr1 ⊢
 refine ⟨⟨rfl,⟨rfl,hl⟩,⟨Int.le_refl _,by omega⟩,by decide⟩,fun h1=>?_,fun h1=>?_⟩
 ·by_cases he:ei l=0
  ·unfold cq bn;rw [if_pos he,if_pos he];rfl
  ·have:cq ⟨#[]⟩ l = .inr (⟨#[]⟩,ei l,()):=by unfold cq;rw [if_neg he]
   rw [hr1,this] at h1;exact Bool.noConfusion h1
 ·by_cases he:ei l=0
  ·have:cq ⟨#[]⟩ l = .inl (jd l ⟨#[]⟩,()):=by unfold cq;rw [if_pos he]
   rw [hr1,this] at h1;exact Bool.noConfusion h1
  ·unfold cq bn;rw [if_neg he,if_neg he];rfl
def xd:FuncId×Ctr:=(21,ae KE qRl Cm oV)
theorem zT:CtrOK Tryz.prog KE 21 (ae KE qRl Cm oV):=by
 refine aE (C:=ay [dU,kU,y3] Tryz.f21) (au (.consU fm rfl (.consU nL rfl (.consU FC rfl .nil))) _) mixed (fn:=Tryz.f21) Tryz.func21 (by kernel_rfl) (by kernel_rfl) (by kernel_rfl) (by kernel_rfl) (by kernel_rfl) (by kernel_rfl) (Λ:=fun x=>find [(MS,Nb)]) ?_ ?_
 ·rintro ⟨l,⟨⟩⟩ hw hn
  exact LoopsOKp.at (by kernel_rfl) (.cons (by kernel_rfl) (On) .nil)
 ·rintro ⟨l,⟨⟩⟩ hw hn
  exact FX l (hn _ List.mem_cons_self)
end Go.Proofs.YtffdpnmioidloaaGreatDoor
namespace Go.Proofs.YtffdpnmioidloaaGreatDoor
open Go Go.Mir Go.RowKit
attribute [local irreducible] Go.Mir.DT.sat Go.Mir.evPat Go.Mir.RT.sat Go.Mir.evFn Go.Mir.Rg.stepS
def hdL:Code→Code
 | .seq a _=>a
 | c=>c
def tlL:Code→Code
 | .seq _ b=>b
 | c=>c
noncomputable abbrev bdL:Code:=iL Tryz.f23
noncomputable abbrev R0L:Code:=hdL bdL
noncomputable abbrev R1L:Code:=hdL (tlL bdL)
noncomputable abbrev R2L:Code:=hdL (hdL (tlL (tlL bdL)))
noncomputable abbrev RGL:Code:=tlL (hdL (tlL (tlL bdL)))
def MF:Code→Option Oper
 | .block _ (.rangeFunc _ _ (.region _ ops _) _)=>ops[0]?
 | _=>none
def QV (c:Code):TypeId:=match MF c with|some o=>o.type|none=>0
def OO (c:Code):String:=match MF c with|some o=>o.pos|none=>""
abbrev TLp:Type:=ByteArray×List Mir.Row×Unit
def gg (x:ByteArray):List ByteArray:=cA (gb x nlB) 32
def pM (x:ByteArray) (y:TLp):Sum (Int×Unit) TLp:=I2 (fq (gg x)) y
def ED (s:ByteArray) (y:TLp):Sum (Int×Unit) TLp:=mU pM (bc s) y
noncomputable def cfL:Cfg:=ay [N6,xd] Tryz.f23
noncomputable def trL:St→Tr:=AP (aR cfL (fun _=>none) R0L) (AP (aR cfL (fun _=>none) R1L) (AP (aR cfL (fun _=>none) R2L) (rgT rgLp 107 (.tmp 15) ED rq (aR cfL (fun _=>none) (Gr Tryz.f23)))))
abbrev LH:Pat:=dI [RwsL,I]
def eM:List (List ByteArray)→Option (List Mir.Row)
 | []=>some []
 | w::l=>(fq w).bind fun r=>(eM l).map (r::·)
def G7 (s:ByteArray):Option (List Mir.Row)→List Mir.Row×Int
 | none=>([],4)
 | some b=>if (bn b).2 != 0 ||(bn b).1.toList != s.toList then ([],4) else (b,0)
def fD (s:ByteArray):List Mir.Row×Int:=G7 s (eM ((bc s).map gg))
def xR:Den (tyP qPn)→List Prop×Den (tyP LH):=fun x=>([x.1.size≤20000],((fD x.1).1,(fD x.1).2,()))
def DZ (s:ByteArray) (rows:List Mir.Row):Option (List Mir.Row)→Sum (Int×Unit) TLp
 | some v=> .inr (s,rows++v,())
 | none=> .inl (4,())
theorem vz (s:ByteArray) :∀ (L:List ByteArray) (rows:List Mir.Row),mU pM L (s,rows,())=DZ s rows (eM (L.map gg))
 | [],rows=>by
  show Sum.inr (s,rows,())=Sum.inr (s,rows++[],())
  rw [List.append_nil]
 | x::L,rows=>by
  cases hT:fq (gg x) with
  | none=>
   have e:pM x (s,rows,()) = .inl (4,()):=by unfold pM;rw [hT];rfl
   have e2:eM ((x::L).map gg)=none:=by
    show (fq (gg x)).bind (fun r=>(eM (L.map gg)).map (r::·))=none
    rw [hT];rfl
   rw [e2]
   unfold mU
   rw [List.foldl_cons]
   simp only [e]
   exact oS L
  | some r=>
   have e:pM x (s,rows,()) = .inr (s,rows++[r],()):=by unfold pM;rw [hT];rfl
   have e2:eM ((x::L).map gg) =(eM (L.map gg)).map (r::·):=by
    show (fq (gg x)).bind (fun r=>(eM (L.map gg)).map (r::·))=_
    rw [hT];rfl
   have ih:=vz s L (rows++[r])
   have e3:DZ s (rows++[r]) (eM (L.map gg))=DZ s rows ((eM (L.map gg)).map (r::·)):=by
    cases eM (L.map gg) with
    | none=>rfl
    | some v=>
     show Sum.inr (s,(rows++[r])++v,())=Sum.inr (s,rows++r::v,())
     rw [List.append_assoc]
     rfl
   rw [e2,←e3,←ih]
   unfold mU
   rw [List.foldl_cons]
   simp only [e]
theorem Kk (s:ByteArray):ED s (s,[],())=DZ s [] (eM ((bc s).map gg)):=vz s _ []
theorem pB :∀ (k:Nat) (l:List UInt8),(gW k l).length≤l.length∧∀ x∈gW k l,x.length≤l.length
 | 0,l=>⟨Nat.zero_le _,fun x hx=>by cases hx⟩
 | k+1,l=>by
  unfold gW
  split
  ·exact ⟨Nat.zero_le _,fun x hx=>by cases hx⟩
  ·rename_i hne
   have hne:l≠ []:=fun e=>hne (by rw [e];rfl)
   have h1:=oG hne
   have h2:=List.length_pos_iff.2 hne
   obtain ⟨h3,h4⟩:=pB k (l.drop (eG l))
   rw [List.length_drop] at h3 h4
   refine ⟨by rw [List.length_cons];omega,fun x hx=>?_⟩
   rcases List.mem_cons.1 hx with rfl|hx
   ·rw [List.length_take];omega
   ·have:=h4 x hx;omega
theorem pA (s:ByteArray) :(bc s).length≤s.size∧∀ x∈bc s,x.size≤s.size:=by
 obtain ⟨h1,h2⟩:=pB (s.size+1) s.data.toList
 rw [Array.length_toList] at h1 h2
 refine ⟨by unfold bc;rw [List.length_map];exact h1,fun x hx=>?_⟩
 unfold bc at hx
 obtain ⟨y,hy,rfl⟩:=List.mem_map.1 hx
 rw [J1]
 exact h2 y hy
theorem FS {l:List ByteArray} {r:Mir.Row} (h:fq l=some r):r.Symbol=l.getD 6 ByteArray.empty∧l.length=9:=by
 unfold fq at h
 split at h
 ·rename_i hl
  cases hf:liF l 0 z9 with
  | none=>rw [hf] at h;cases h
  | some a=>rw [hf] at h;cases h;exact ⟨rfl,hl⟩
 ·cases h
theorem Ay :∀ (L:List ByteArray) (v:List Mir.Row),(∀ x∈L,x.size≤20000)→eM (L.map gg)=some v→v.length=L.length∧Pr v
 | [],v,_,h=>by cases h;exact ⟨rfl,fun r hr=>by cases hr⟩
 | x::L,v,hL,h=>by
  have h :(fq (gg x)).bind (fun r=>(eM (L.map gg)).map (r::·))=some v:=h
  cases hT:fq (gg x) with
  | none=>rw [hT] at h;cases h
  | some r=>
   rw [hT,Option.bind_some] at h
   cases hR:eM (L.map gg) with
   | none=>rw [hR] at h;cases h
   | some u=>
    rw [hR] at h;cases h
    obtain ⟨i1,i2⟩:=Ay L u (fun y hy=>hL y (List.mem_cons_of_mem _ hy)) hR
    refine ⟨by rw [List.length_cons,List.length_cons,i1],fun q hq=>?_⟩
    rcases List.mem_cons.1 hq with rfl|hq
    ·obtain ⟨g1,g2⟩:=FS hT
     have hx:=hL x List.mem_cons_self
     have ht:=mW x nlB
     have hc:=(tY (gb x nlB) 32).2
     rw [g1]
     have :(gg x).getD 6 ByteArray.empty∈cA (gb x nlB) 32:=by
      rw [List.getD_eq_getElem?_getD,List.getElem?_eq_getElem (by omega)]
      exact List.getElem_mem _
     have:=hc _ this
     omega
    ·exact i2 q hq
theorem GT:CfgOK Tryz.prog cfL:=au (.consU Lj rfl (.consU zT rfl .nil)) _
theorem No:bdL = .seq R0L (.seq R1L (.seq (.seq R2L (.block 0 (.rangeFunc (.tmp 15) #[rgLp.sp] (.region 3 #[⟨some rgLp.sl,.assign (.tmp rgLp.sp),QV RGL,OO RGL,#[],none⟩] false) rgLp.body))) (Gr Tryz.f23))):=by kernel_rfl
theorem LX (n:Nat) (x:ByteArray) (y:TLp) (hi:rq n y) (hx:x.size≤rgLp.nb) (hn:n<rgLp.nb) :∃ (C:Cfg) (Λ:Nat→Option LoopSum),CfgOK Tryz.prog C∧C.N=rgLp.N∧(∀ b∈aB Λ rgLp.body,∃ S,Λ (rid b)=some S∧gB Tryz.prog rgLp.q.nx C.N b S)∧rgLp.stepS C Λ (rq (n+1)) x y (pM x y):=by
 obtain ⟨s,rows,⟨⟩⟩:=y
 exact ⟨ay [pw,HO,rF] Tryz.f23,find [(MM,M5)],au (.consU xw rfl (.consU Ll rfl (.consU vh rfl .nil))) _,rfl,I0 (by kernel_rfl) (by kernel_rfl) Og,QM x s rows n hx hn hi⟩
theorem Pv:TrM Tryz.prog Tryz.f23.ntmps 0 bdL trL:=by
 rw [No]
 exact Ew (x4 GT mixed (fun b hb S hS=>by cases hS)) (Ew (x4 GT mixed (fun b hb S hS=>by cases hS)) (J2 (x4 GT mixed (fun b hb S hS=>by cases hS))
  (LP rgLp mixed (LB:=bc) (fun args w=>by kernel_rfl) (fun bx s0 h=>Fq bx s0 h) (by kernel_rfl) (by kernel_rfl) (res:=pM) (all:=ED) (inv:=rq) (fun s=>(pA s).1) (fun _ _=>rfl) LX (x4 GT mixed (fun b hb S hS=>by cases hS)))))
theorem QN (s:ByteArray) (hs:s.size≤20000) :(oX cfL.tb Tryz.f23.results.toList 0 LH (put qPn (s,())) (trL (put qPn (s,())))).sat fun z_=>z_ =(xR (s,())).2:=by
 refine cast (by kernel_rfl) (?_:let r1:Bool:=isL (ED s (s,[],()));let r2:ByteArray×List Mir.Row×PUnit:=wX (dflt (Ty.str.prod ((Ty.nm Nm.Row).slice.prod Ty.unit))) (ED s (s,[],()));let r3:ByteArray×Int:=bn r2.2.1;let r4:Bool:=bif r3.2 !=(0:Int) then true else !r3.1.toList==r2.1.toList;((jZ fun x=>none)∧s.size≤(1000000:Nat)∧rq (0:Nat) (s,[],()))∧(r1=true→([],tp (dflt (I.prod Ty.unit)) (ED s (s,[],()))) =((fD s).1,(fD s).2,()))∧(r1=false→(r2.2.1.length≤(20100:Nat)∧Pr r2.2.1)∧(r4=true→([],(4:Int),()) =((fD s).1,(fD s).2,()))∧(r4=false→(r2.2.1,(0:Int),()) =((fD s).1,(fD s).2,()))))
 intro r1 r2 r3 r4
 clear_value (hr1:r1=_) (hr2:r2=_) (hr3:r3=_) (hr4:r4=_)
 have eA:=Kk s
 have eP:fD s=G7 s (eM ((bc s).map gg)):=rfl
 obtain ⟨l1,l2⟩:=pA s
 rw [eA] at hr1 hr2 ⊢
 rw [eP]
 refine ⟨⟨rfl,Nat.le_trans hs (by decide),Nat.zero_le _⟩,fun h1=>?_,fun h1=>?_⟩
 ·cases hF:eM ((bc s).map gg) with
  | none=>rfl
  | some b=>rw [hr1,hF] at h1;exact Bool.noConfusion h1
 ·cases hF:eM ((bc s).map gg) with
  | none=>rw [hr1,hF] at h1;exact Bool.noConfusion h1
  | some b=>
   obtain ⟨g1,g2⟩:=Ay _ _ (fun x hx=>Nat.le_trans (l2 x hx) hs) hF
   have e2:r2 =(s,b,()):=by rw [hr2,hF];rfl
   have e4:r4 =((bn b).2 != 0 ||(bn b).1.toList != s.toList):=by
    rw [hr4,hr3,e2]
    cases (bn b).2 != 0 <;> rfl
   have eO:G7 s (some b)=if r4=true then ([],4) else (b,0):=by rw [e4];rfl
   rw [eO,e2]
   refine ⟨⟨?_,g2⟩,fun h4=>?_,fun h4=>?_⟩
   ·show b.length≤20100;omega
   ·rw [if_pos h4]
   ·rw [if_neg (by rw [h4];decide)]
def y6:FuncId×Ctr:=(23,ae KE qPn LH xR)
theorem FD:CtrOK Tryz.prog KE 23 (ae KE qPn LH xR):=by
 refine Aj (C:=cfL) GT (fn:=Tryz.f23) Tryz.func23 (by kernel_rfl) (by kernel_rfl) (by kernel_rfl) (by kernel_rfl) (by kernel_rfl) (by kernel_rfl) ?_
 rintro ⟨s,⟨⟩⟩ hw hn c hc
 have eb:Tryz.f23.body=some bdL:=by kernel_rfl
 have ec:c=bdL:=Option.some.inj (hc.symm.trans eb)
 rw [ec]
 exact ⟨trL (put qPn (s,())),Pv _,QN s (hn _ List.mem_cons_self)⟩
end Go.Proofs.YtffdpnmioidloaaGreatDoor
namespace Go.Proofs.YtffdpnmioidloaaGreatDoor
open Go Go.Mir
def wdB (s:ByteArray):Bool:=s.data.toList.all fun b=>b != 32&&b != 10
theorem Q2 {s:ByteArray} (h:wdB s=true):xx s:=by
 unfold wdB at h
 rw [List.all_eq_true] at h
 exact ⟨fun hm=>absurd (h _ hm) (by decide),fun hm=>absurd (h _ hm) (by decide)⟩
theorem cW (a b:ByteArray):wdB (a++b) =(wdB a&&wdB b):=by
 unfold wdB
 rw [ByteArray.data_append,Array.toList_append,List.all_append]
theorem C4 {s:ByteArray} (h:wdB s=true) (a b:Nat):wdB (s.extract a b)=true:=by
 unfold wdB at h ⊢
 rw [Lib.extract_data,List.all_eq_true]
 rw [List.all_eq_true] at h
 exact fun x hx=>h x (List.mem_of_mem_drop (List.mem_of_mem_take hx))
theorem wA {n:Int} (h0:0≤n) (h1:n≤20):wdB (iA n)=true:=by
 have key :∀ k:Fin 21,wdB (iA (k.val:Int))=true:=by decide +kernel
 have e :((n.toNat:Nat):Int)=n:=by omega
 have:=key ⟨n.toNat,by omega⟩
 rw [←e]
 exact this
theorem Dh (n:Int):wdB (bC n)=true:=by
 unfold bC
 split
 ·exact C4 (by decide +kernel) _ _
 ·exact C4 (by decide +kernel) _ _
theorem NW (h:Int):wdB (wZ h)=true:=C4 (by decide +kernel) _ _
theorem Py (t:Int):wdB (mX t)=true:=by
 unfold mX
 repeat' split
 all_goals rfl
theorem O8 (t s:Int):wdB (dE t s)=true:=by
 unfold dE
 repeat' split
 all_goals rfl
theorem tR {b:Bool} {x y:ByteArray} (hx:wdB x=true) (hy:wdB y=true):wdB (cb b x y)=true:=by cases b <;> assumption
theorem PL {d:Delivery} (hv:0≤d.Victim∧d.Victim≤2):wdB (lz d)=true:=by
 have h1:wdB (qa d)=true:=by
  unfold qa
  rw [cW,cW,NW,wA hv.1 (by omega)]
  rfl
 have h2:wdB (x9 d)=true:=by
  unfold x9
  rw [cW,cW,h1,Dh]
  rfl
 have h3:wdB (sR d)=true:=by
  unfold sR
  split
  ·rw [cW,cW,h2,Dh];rfl
  ·exact h2
 have h4:wdB (sS d)=true:=by
  unfold sS
  split
  ·rw [cW,h3];rfl
  ·exact h3
 unfold lz
 split
 ·rfl
 ·split
  ·rw [cW,h4];rfl
  ·exact h1
theorem QH {d:Delivery} (h:ba d=0):wdB (prS d)=true:=by
 obtain ⟨h1,h2,h3,h4⟩:=cK h
 unfold prS
 split
 ·rfl
 ·have hA:wdB (prA d)=true:=by unfold prA;rw [cW,Py,O8];rfl
  have hB:wdB (prB d)=true:=by unfold prB;exact tR (by rw [cW,hA,wA h1.1 (by omega)];rfl) hA
  have hC:wdB (prC d)=true:=by unfold prC;exact tR (by rw [cW,hB];rfl) (tR (by rw [cW,hB];rfl) hB)
  have hD:wdB (prD d)=true:=by unfold prD;exact tR (by rw [cW,cW,hC,wA h2.1 (by omega)];rfl) hC
  have hE:wdB (prE d)=true:=by unfold prE;exact tR (by rw [cW,hD];rfl) hD
  have hF:wdB (prF d)=true:=by unfold prF;rw [cW,hE,PL h3];rfl
  unfold prG
  exact tR (by rw [cW,cW,hF,wA h4.1 (by omega)];rfl) hF
theorem Ps {s:ByteArray} (h:l8 s=0):xx s:=by
 unfold l8 at h
 split at h
 ·cases h
 ·rename_i hn
  unfold jv at hn
  rw [Bool.or_eq_true,not_or] at hn
  obtain ⟨h1,h2⟩:=hn
  have h1:ba (kc s)=0:=by simpa using h1
  have h2 :((prS (kc s)).toList != s.toList)=false:=Bool.eq_false_iff.2 h2
  have e:prS (kc s)=s:=bytes_ne.1 h2
  rw [←e]
  exact Q2 (QH h1)
end Go.Proofs.YtffdpnmioidloaaGreatDoor
namespace Go.Proofs.YtffdpnmioidloaaGreatDoor
open Go Go.Mir
theorem jm :∀ {l:List Mir.Row},ei l=0→∀ r∈l,bP r=0
 | [],_,r,hr=>by cases hr
 | q::l,h,r,hr=>by
  rw [lE] at h
  split at h
  ·rename_i hq
   rw [h] at hq
   exact absurd hq (by decide)
  ·rename_i hq
   rcases List.mem_cons.1 hr with rfl|hr
   ·simpa using hq
   ·exact jm h r hr
theorem sj {r:Mir.Row} (h:bP r=0) :(∀ x∈ef r++eU r,0≤x∧x≤1000000)∧xx r.Symbol:=by
 unfold bP at h
 split at h
 ·cases h
 ·rename_i hb
  split at h
  ·cases h
  ·rename_i hp
   have hb :(ef r++eU r).any dB=false:=by simpa using hb
   refine ⟨fun x hx=>?_,Ps (by simpa using hp)⟩
   have:=List.any_eq_false.1 hb x hx
   exact xu (by rw [xC] at this;simpa using this)
theorem Ju {r:Mir.Row} (h:bP r=0):aF r≠ []∧∀ s∈aF r,xx s:=by
 obtain ⟨h1,h2⟩:=sj h
 refine ⟨by unfold aF ef;simp,fun s hs=>?_⟩
 unfold aF at hs
 rcases List.mem_append.1 hs with hs|hs
 ·obtain ⟨n,hn,rfl⟩:=List.mem_map.1 hs
  exact GY (h1 n (List.mem_append_left _ hn)).1
 ·rcases List.mem_cons.1 hs with rfl|hs
  ·exact h2
  ·obtain ⟨n,hn,rfl⟩:=List.mem_map.1 hs
   exact GY (h1 n (List.mem_append_right _ hn)).1
theorem n6 (l:List Mir.Row) :(jd l ⟨#[]⟩).data.toList =(((l.map aF).map jnL).map (·++[10])).flatten:=by
 unfold jd
 rw [lH]
 show []++_=_
 rw [List.nil_append,List.map_map,List.map_map]
 congr 1
theorem zH {l:List Mir.Row} (h:ei l=0) :(bc (jd l ⟨#[]⟩)).map gg=l.map aF:=by
 have hw :∀ ws∈l.map aF,ws≠ []∧∀ s∈ws,xx s:=fun ws hws=>by
  obtain ⟨r,hr,rfl⟩:=List.mem_map.1 hws
  exact Ju (jm h r hr)
 have h1 :∀ x∈(l.map aF).map jnL,(10:UInt8)∉x:=fun x hx=>by
  obtain ⟨ws,hws,rfl⟩:=List.mem_map.1 hx
  exact MB (hw ws hws).2
 have h2 :(((((l.map aF).map jnL).map (·++[10])).flatten).length <(jd l ⟨#[]⟩).size+1):=by
  rw [←n6,Array.length_toList]
  exact Nat.lt_succ_self _
 unfold bc
 rw [n6,zG _ _ h1 h2,List.map_map,List.map_map,List.map_map]
 have :∀ ws∈l.map aF,(((gg ∘ toB) ∘ (fun x=>x++[10])) ∘ jnL) ws=id ws:=fun ws hws=>by
  show cA (gb (toB (jnL ws++[10])) nlB) 32=ws
  have e:gb (toB (jnL ws++[10])) nlB=toB (jnL ws):=by
   unfold gb
   show toB (Lib.trimSuffix (jnL ws++[10]) [10])=_
   rw [Mf]
  rw [e]
  exact GU (hw ws hws).1 (hw ws hws).2
 rw [List.map_congr_left this,List.map_id]
theorem EU {l:List Mir.Row} (h:ei l=0) :(cA (jd l ⟨#[]⟩) 10).dropLast.map (fun x=>cA x 32)=l.map aF:=by
 have hw :∀ ws∈l.map aF,ws≠ []∧∀ s∈ws,xx s:=fun ws hws=>by
  obtain ⟨r,hr,rfl⟩:=List.mem_map.1 hws
  exact Ju (jm h r hr)
 have h1 :∀ x∈(l.map aF).map jnL,(10:UInt8)∉x:=fun x hx=>by
  obtain ⟨ws,hws,rfl⟩:=List.mem_map.1 hx
  exact MB (hw ws hws).2
 have e0:cA (jd l ⟨#[]⟩) 10 =((l.map aF).map jnL++[[]]).map toB:=by
  unfold cA
  rw [n6,ub _ h1]
 rw [e0,List.map_append,List.map_cons,List.map_nil,List.dropLast_concat,List.map_map,List.map_map]
 have :∀ ws∈l.map aF,(((fun x=>cA x 32) ∘ toB) ∘ jnL) ws=id ws:=fun ws hws=>GU (hw ws hws).1 (hw ws hws).2
 rw [List.map_congr_left this,List.map_id]
theorem OZ {r:Mir.Row} (h:bP r=0):fq (aF r)=some r∧CB (aF r)=some r:=by
 obtain ⟨h1,_⟩:=sj h
 have k :∀ x∈ef r++eU r,pE (aY x) =(x,0):=fun x hx=>Lh (h1 x hx).1 (h1 x hx).2
 unfold ef eU at k
 have k0:=k r.Innings (by simp)
 have k1:=k r.Over (by simp)
 have k2:=k r.Ball (by simp)
 have k3:=k r.Bowler (by simp)
 have k4:=k r.Striker (by simp)
 have k5:=k r.Partner (by simp)
 have k7:=k r.Total (by simp)
 have k8:=k r.Wickets (by simp)
 have e:aF r=[aY r.Innings,aY r.Over,aY r.Ball,aY r.Bowler,aY r.Striker,aY r.Partner,r.Symbol,aY r.Total,aY r.Wickets]:=rfl
 have hl:[aY r.Innings,aY r.Over,aY r.Ball,aY r.Bowler,aY r.Striker,aY r.Partner,r.Symbol,aY r.Total,aY r.Wickets].length=9:=rfl
 rw [e]
 constructor
 ·unfold fq
  rw [if_pos hl]
  simp only [liF,BH,k0,k1,k2,k3,k4,k5,k7,k8]
  rfl
 ·unfold CB
  rw [if_pos hl]
  simp only [LL,BH,k0,k1,k2,k3,k4,k5,k7,k8]
  rfl
def Az:List (List ByteArray)→Option (List Mir.Row)
 | []=>some []
 | w::l=>(CB w).bind fun r=>(Az l).map (r::·)
theorem Eh :∀ L:List ByteArray,Eg L=Az (L.map fun x=>cA x 32)
 | []=>rfl
 | x::L=>by
  show ((CB (cA x 32)).bind fun r=>(Eg L).map (r::·)) =(CB (cA x 32)).bind fun r=>(Az (L.map fun x=>cA x 32)).map (r::·)
  rw [Eh L]
theorem CC :∀ {l:List Mir.Row},ei l=0→eM (l.map aF)=some l∧Az (l.map aF)=some l
 | [],_=>⟨rfl,rfl⟩
 | r::l,h=>by
  have hr:=OZ (jm h r List.mem_cons_self)
  have hl:ei l=0:=by
   have h0:=jm h r List.mem_cons_self
   rw [lE,h0] at h
   exact h
  obtain ⟨i1,i2⟩:=CC hl
  constructor
  ·show (fq (aF r)).bind (fun r=>(eM (l.map aF)).map (r::·))=_
   rw [hr.1,i1];rfl
  ·show (CB (aF r)).bind (fun r=>(Az (l.map aF)).map (r::·))=_
   rw [hr.2,i2];rfl
def D6 (s:ByteArray):List Mir.Row×Int:=G7 s (Eg (cA s 10).dropLast)
theorem sJ {l:List Mir.Row} (h:ei l=0):bn l =(jd l ⟨#[]⟩,0):=by unfold bn;rw [if_pos h]
theorem AX {l:List Mir.Row} (h:ei l≠0):bn l =(⟨#[]⟩,ei l):=by unfold bn;rw [if_neg h]
theorem Dj {b:List Mir.Row} (h:ei b=0):G7 (jd b ⟨#[]⟩) (some b) =(b,0):=by
 have e2 :((jd b ⟨#[]⟩).toList !=(jd b ⟨#[]⟩).toList)=false:=bytes_ne.2 rfl
 show (if ((bn b).2 != 0 ||(bn b).1.toList !=(jd b ⟨#[]⟩).toList)=true then ([],(4:Int)) else (b,0))=_
 rw [sJ h]
 simp only [e2]
 rfl
theorem Ai {b:List Mir.Row} (h:ei b=0):fD (jd b ⟨#[]⟩) =(b,0)∧D6 (jd b ⟨#[]⟩) =(b,0):=by
 constructor
 ·unfold fD
  rw [zH h,(CC h).1,Dj h]
 ·unfold D6
  rw [Eh,EU h,(CC h).2,Dj h]
end Go.Proofs.YtffdpnmioidloaaGreatDoor
namespace Go.Mir
open Go.RowKit
inductive Rn (γ:Type) where
 | ok (r:γ)
 | no (w:List Nat)
inductive Tri (α:Type) where
 | lf
 | nd (l:Tri α) (v:Option α) (r:Tri α)
def Tri.get {α:Type} (t:Tri α):Nat→Option α:=
 match t with
 | .lf=>fun _=>none
 | .nd l v r=>fun k=>Nat.casesOn (motive:=fun _=>Option α) k v fun k=>Bool.casesOn (motive:=fun _=>Option α) (Nat.beq (Nat.mod k 2) 0) (r.get (Nat.div k 2)) (l.get (Nat.div k 2))
def Tri.inR {α γ:Type} (κ:Tri α→Rn γ) (l:Tri α) (w:Option α) (r:Tri α):Rn γ:=κ (.nd l w r)
def IntKind.eqb (a b:IntKind):Bool:=decide (a=b)
mutual
def V.eqb:V→V→Bool
 | .any,.any=>true
 | .int k n,.int k' n'=>decide (k=k')&&decide (n=n')
 | .bool a,.bool b=>decide (a=b)
 | .kb a,.kb b=>decide (a=b)
 | .str s,.str t=>decide (s.data.toList=t.data.toList)
 | .nilptr,.nilptr=>true
 | .ptr h o,.ptr h' o'=>Nat.beq h h'&&Nat.beq o o'
 | .nilsl,.nilsl=>true
 | .esl,.esl=>true
 | .gsl h v e o l,.gsl h' v' e' o' l'=>Nat.beq h h'&&Nat.beq v v'&&Nat.beq e e'&&Nat.beq o o'&&Nat.beq l l'
 | .gp h v o,.gp h' v' o'=>Nat.beq h h'&&Nat.beq v v'&&Nat.beq o o'
 | .mpv h,.mpv h'=>Nat.beq h h'
 | .nilfn,.nilfn=>true
 | .nilmap,.nilmap=>true
 | .fn f cs,.fn f' cs'=>Nat.beq f f'&&yB cs cs'
 | .agg cs,.agg cs'=>yB cs cs'
 | .tup cs,.tup cs'=>yB cs cs'
 | _,_=>false
def yB:List V→List V→Bool
 | [],[]=>true
 | x::xs,y::ys=>V.eqb x y&&yB xs ys
 | _,_=>false
end
mutual
theorem V.eqb_eq :∀ (x y:V),V.eqb x y=true→x=y
 | .any,y,h=>by cases y <;> simp_all [V.eqb]
 | .int k n,y,h=>by cases y <;> simp_all [V.eqb]
 | .bool _,y,h=>by cases y <;> simp_all [V.eqb]
 | .kb _,y,h=>by cases y <;> simp_all [V.eqb]
 | .hint _ _,y,h=>by cases y <;> simp [V.eqb] at h
 | .str s,y,h=>by
  cases y <;> simp only [V.eqb,Bool.false_eq_true,decide_eq_true_eq] at h
  rename_i t
  have:s=t:=ByteArray.ext (Array.toList_inj.1 h)
  rw [this]
 | .nilptr,y,h=>by cases y <;> simp_all [V.eqb]
 | .ptr _ _,y,h=>by cases y <;> simp_all [V.eqb]
 | .fp _ _ _ _,y,h=>by cases y <;> simp [V.eqb] at h
 | .rp _ _ _ _,y,h=>by cases y <;> simp [V.eqb] at h
 | .nilsl,y,h=>by cases y <;> simp_all [V.eqb]
 | .esl,y,h=>by cases y <;> simp_all [V.eqb]
 | .osl _ _,y,h=>by cases y <;> simp [V.eqb] at h
 | .fsl _ _,y,h=>by cases y <;> simp [V.eqb] at h
 | .gsl _ _ _ _ _,y,h=>by cases y <;> simp_all [V.eqb]
 | .gp _ _ _,y,h=>by cases y <;> simp_all [V.eqb]
 | .mpv _,y,h=>by cases y <;> simp_all [V.eqb]
 | .av _ _,y,h=>by cases y <;> simp [V.eqb] at h
 | .nilfn,y,h=>by cases y <;> simp_all [V.eqb]
 | .nilmap,y,h=>by cases y <;> simp_all [V.eqb]
 | .fn f cs,y,h=>by
  cases y <;> simp only [V.eqb,Bool.false_eq_true,Bool.and_eq_true,Nat.beq_eq] at h
  rw [h.1,qc _ _ h.2]
 | .agg cs,y,h=>by
  cases y <;> simp only [V.eqb,Bool.false_eq_true] at h
  rw [qc _ _ h]
 | .tup cs,y,h=>by
  cases y <;> simp only [V.eqb,Bool.false_eq_true] at h
  rw [qc _ _ h]
theorem qc :∀ (xs ys:List V),yB xs ys=true→xs=ys
 | [],[],_=>rfl
 | [],_::_,h=>by simp [yB] at h
 | _::_,[],h=>by simp [yB] at h
 | x::xs,y::ys,h=>by
  simp only [yB,Bool.and_eq_true] at h
  rw [V.eqb_eq _ _ h.1,qc _ _ h.2]
end
def Fb:List (V×V)→List (V×V)→Bool
 | [],[]=>true
 |(a,b)::xs,(c,d)::ys=>V.eqb a c&&V.eqb b d&&Fb xs ys
 | _,_=>false
theorem Dk :∀ (xs ys:List (V×V)),Fb xs ys=true→xs=ys
 | [],[],_=>rfl
 | [],_::_,h=>by simp [Fb] at h
 | _::_,[],h=>by simp [Fb] at h
 |(a,b)::xs,(c,d)::ys,h=>by
  simp only [Fb,Bool.and_eq_true] at h
  rw [V.eqb_eq _ _ h.1.1,V.eqb_eq _ _ h.1.2,Dk _ _ h.2]
end Go.Mir
namespace Go.Mir
open Go.RowKit
variable {P:Program}
def Ob.chk:Ob→Bool
 | .rng n len=>decide (0≤n)&&decide (n <(len:Int))
 | .sub l h len=>decide (0≤l)&&decide (l≤h)&&decide (h≤(len:Int))
 | .mk n c=>decide (0≤n)&&decide (c=n)&&decide (n≤17179869184)
 | .mkc n c=>decide (0≤n)&&decide (n≤c)&&decide (c≤17179869184)
 | .ne0 n=>!decide (n=0)
 | .leN a b=>Nat.ble a b
 | .prop _=>false
theorem Ob.chk_holds :∀ {p:Ob},p.chk=true→p.holds
 | .rng n len,h=>by simpa [Ob.chk,Ob.holds] using h
 | .sub l h len,hh=>by simp only [Ob.chk,Bool.and_eq_true,decide_eq_true_eq] at hh;exact ⟨hh.1.1,hh.1.2,hh.2⟩
 | .mk n c,h=>by simp only [Ob.chk,Bool.and_eq_true,decide_eq_true_eq] at h;exact ⟨h.1.1,h.1.2,h.2⟩
 | .mkc n c,h=>by simp only [Ob.chk,Bool.and_eq_true,decide_eq_true_eq] at h;exact ⟨h.1.1,h.1.2,h.2⟩
 | .ne0 n,h=>by simpa [Ob.chk,Ob.holds] using h
 | .leN a b,h=>Nat.le_of_ble_eq_true h
def jb:V→V
 | .bool b=> .kb b
 | v=>v
structure RS where
 tm:Tri V
 hp:Tri Blk
 nx:Nat
abbrev Gj:=FuncId→List V→Tri Blk→Nat→Rn (V×Tri Blk×Nat)
def lq (r:Res):Option (List Ob×V×List (Nat×Blk)):=match r with
 | .val ps v dh=>some (ps,v,dh)
 | _=>none
abbrev R1:=Option (List Ob×V×List (Nat×Blk))
def Ct (tb:Tbl) (H:aq) (ev:Operand→V) (t:TypeId) (a x:Operand):R1:=match tb t with
 | some td=>match cH td H (ev a) (ev x) with
  | .skip ps dh=>some (ps,.tup [],dh)
  | _=>none
 | none=>none
def vu (ev:Operand→V) (x:Operand):R1:=some ([],ev x,[])
def MH (ev:Operand→V) (c a b:Operand):R1:=lq (ox (ev c) (ev a) (ev b))
def Co (tb:Tbl) (m:Nat) (t:TypeId):R1:=match tb t with|some td=>some ([],.ptr m 0,[(m,.cells td.zero)])|none=>none
def OU (m:Nat) (ev:Operand→V) (x:Operand):R1:=match cellsOf (ev x) with|some cs=>some ([],.ptr m 0,[(m,.cells cs)])|none=>none
def Cp (tb:Tbl) (ev:Operand→V) (t:TypeId) (parts:Array (Nat×Operand)):R1:=match tb t with|some td=>lq (lF tb td (parts.toList.map fun p=>(p.1,ev p.2)))|none=>none
def lp (tb:Tbl) (m:Nat) (H:aq) (ev:Operand→V) (t:TypeId) (n:Nat) (parts:Array (Nat×Operand)):R1:=match tb t with|some td=>lq (cJ tb td H m n (parts.toList.map fun p=>(p.1,ev p.2)))|none=>none
def Jk (tb:Tbl) (H:aq) (ev:Operand→V) (t:TypeId) (a:Operand):R1:=match tb t with|some td=>lq (fe td H (ev a))|none=>none
def QI (ev:Operand→V) (x:Operand):R1:=lq (yG (ev x))
def OT (tb:Tbl) (ev:Operand→V) (op:BinOp) (t:TypeId) (x y:Operand):R1:=match tb t with|some td=>lq (fw td op (ev x) (ev y))|none=>none
def rUn (ev:Operand→V) (op:UnOp) (x:Operand):R1:=lq (Ha op (ev x))
def Jh (tb:Tbl) (m:Nat) (ev:Operand→V) (s d:TypeId) (x:Operand):R1:=match tb s,tb d with|some ts,some td=>lq (qe tb ts td m (ev x))|_,_=>none
def bL:List V→Bool
 | []=>true
 | .ptr _ _::_=>true
 | _=>false
theorem Ci {asz caps:List V} (h:bL caps=true):oy asz caps=some (asz++caps):=by
 cases caps with
 | nil=>simp [oy]
 | cons c cs=>cases c <;> simp only [bL,Bool.false_eq_true] at h;rfl
theorem Cj {f:FuncId} {caps:List V} (h:bL caps=true):ov f [] caps = .val [] (.fn f caps) []:=by
 cases caps with
 | nil=>rfl
 | cons c cs=>cases c <;> simp only [bL,Bool.false_eq_true] at h;rfl
theorem Jb {E:Env} {f:FuncId} {caps:List V} {l:Array Value} (h:bL caps=true) (hl:ab E caps l.toList):fnV f l = .func (.func f) #[] l:=by
 obtain ⟨l⟩:=l
 cases caps with
 | nil=>cases l with
  | nil=>rfl
  | cons=>simp [ab] at hl
 | cons c cs=>
  cases c <;> simp only [bL,Bool.false_eq_true] at h
  cases l with
  | nil=>simp [ab] at hl
  | cons v vs=>
   simp only [ab,aa] at hl
   obtain ⟨⟨_,⟨a,rfl⟩,_⟩,_⟩:=hl
   rfl
def Ji (ev:Operand→V) (fn:Fn) (first caps:Array Operand):R1:=match fn with
 | .func f=>lq (ov f (first.toList.map ev) (caps.toList.map ev))
 | _=>none
def Jl (tb:Tbl) (m:Nat) (H:aq) (ev:Operand→V) (t:TypeId) (l c:Operand):R1:=match tb t with|some td=>lq (gE tb td H m (ev l) (ev c))|none=>none
def Cs (tb:Tbl) (H:aq) (ev:Operand→V) (t:TypeId) (x:Operand) (lo hi mx:Option Operand):R1:=match tb t with|some td=>lq (ff tb td H (ev x) (lo.map ev) (hi.map ev) (mx.map ev))|none=>none
def Cq (tb:Tbl) (ev:Operand→V) (t:TypeId) (x:Operand) (f:Nat):R1:=match tb t with|some td=>lq (jo tb td (ev x) f)|none=>none
def xI (tb:Tbl) (ev:Operand→V) (t:TypeId) (x:Operand) (f:Nat):R1:=match tb t with|some td=>lq (gP tb td (ev x) f)|none=>none
def Cr (tb:Tbl) (H:aq) (ev:Operand→V) (t:TypeId) (x i:Operand):R1:=match tb t with|some td=>lq (di tb td H (ev x) (ev i))|none=>none
def Jj (tb:Tbl) (ev:Operand→V) (t:TypeId) (x i:Operand):R1:=match tb t with|some td=>lq (kI tb td (ev x) (ev i))|none=>none
def Ar (ev:Operand→V) (t:Operand) (i:Nat):R1:=lq (lG (ev t) i)
theorem F8 {td:TD} {H:aq} {a x:V} {ps:List Ob} {dh:List (Nat×Blk)} (h:cH td H a x = .skip ps dh):fg td H a x = .skip ps dh:=by
 unfold fg
 split
 ·rw [h]
 ·exact h
def qM (tb:Tbl) (N m:Nat) (H:aq) (ev:Operand→V) (op:Op):R1:=match op with
 | .store t a x=>Ct tb H ev t a x
 | .move x=>vu ev x
 | .assign x=>vu ev x
 | .pick c a b=>MH ev c a b
 | .alloc t=>Co tb m t
 | .box _ x=>OU m ev x
 | .build t parts=>Cp tb ev t parts
 | .buildSlice t n parts=>lp tb m H ev t n parts
 | .load t a=>Jk tb H ev t a
 | .nilCheck x=>QI ev x
 | .binOp op t x y _=>OT tb ev op t x y
 | .unOp op _ x=>rUn ev op x
 | .convert s d x=>Jh tb m ev s d x
 | .makeFunc fn first caps=>Ji ev fn first caps
 | .makeSlice t l c=>Jl tb m H ev t l c
 | .slice t x lo hi mx=>Cs tb H ev t x lo hi mx
 | .fieldAddr t x f=>Cq tb ev t x f
 | .field t x f=>xI tb ev t x f
 | .indexAddr t x i=>Cr tb H ev t x i
 | .index t x i=>Jj tb ev t x i
 | .extract t i=>Ar ev t i
 | op=>ax ⟨tb,fun _=>none,1,N⟩ m H ev op
theorem ot (tb:Tbl) (N m:Nat) (H:aq) (ev:Operand→V) (op:Op) {q:List Ob×V×List (Nat×Blk)} (h:qM tb N m H ev op=some q):ax ⟨tb,fun _=>none,1,N⟩ m H ev op=some q:=by
 have key :∀ {r:Res},lq r=some q→(match r with | .val ps v dh=>some (ps,v,dh)|_=>none:R1)=some q:=fun {r} h=>by cases r <;> first|exact h|cases h
 cases op <;> simp only [qM] at h <;> simp only [ax,bM,bE]
 case store t a x=>simp only [Ct] at h;cases ht:tb t <;> rw [ht] at h <;> simp only [reduceCtorEq] at h ⊢;cases hs:cH _ H (ev a) (ev x) <;> rw [hs] at h <;> simp only [reduceCtorEq] at h ⊢;rw [F8 hs];exact h
 case move=>simpa [vu] using h
 case assign=>simpa [vu] using h
 case pick=>exact key h
 case alloc t=>simp only [Co] at h;cases ht:tb t <;> rw [ht] at h <;> simp only [reduceCtorEq] at h ⊢;exact h
 case box t x=>simp only [OU] at h;cases ht:cellsOf (ev x) <;> rw [ht] at h <;> simp only [reduceCtorEq] at h ⊢;exact h
 case build t parts=>simp only [Cp] at h;cases ht:tb t <;> rw [ht] at h <;> simp only [reduceCtorEq] at h ⊢;exact key h
 case buildSlice t n parts=>simp only [lp] at h;cases ht:tb t <;> rw [ht] at h <;> simp only [reduceCtorEq] at h ⊢;exact key h
 case load t a=>simp only [Jk] at h;cases ht:tb t <;> rw [ht] at h <;> simp only [reduceCtorEq] at h ⊢;exact key h
 case nilCheck=>exact key h
 case binOp o t x y t2=>simp only [OT] at h;cases ht:tb t <;> rw [ht] at h <;> simp only [reduceCtorEq] at h ⊢;exact key h
 case unOp=>exact key h
 case convert s d x=>
  simp only [Jh] at h
  cases ht:tb s with
  | none=>rw [ht] at h;cases h
  | some ts=>
   rw [ht] at h
   cases ht2:tb d with
   | none=>rw [ht2] at h;cases h
   | some td=>rw [ht2] at h;exact key h
 case makeFunc fn first caps=>
  cases fn <;> simp only [Ji,reduceCtorEq] at h
  exact key h
 case makeSlice t l c=>simp only [Jl] at h;cases ht:tb t <;> rw [ht] at h <;> simp only [reduceCtorEq] at h ⊢;exact key h
 case slice t x lo hi mx=>simp only [Cs] at h;cases ht:tb t <;> rw [ht] at h <;> simp only [reduceCtorEq] at h ⊢;exact key h
 case fieldAddr t x f=>simp only [Cq] at h;cases ht:tb t <;> rw [ht] at h <;> simp only [reduceCtorEq] at h ⊢;exact key h
 case field t x f=>simp only [xI] at h;cases ht:tb t <;> rw [ht] at h <;> simp only [reduceCtorEq] at h ⊢;exact key h
 case indexAddr t x i=>simp only [Cr] at h;cases ht:tb t <;> rw [ht] at h <;> simp only [reduceCtorEq] at h ⊢;exact key h
 case index t x i=>simp only [Jj] at h;cases ht:tb t <;> rw [ht] at h <;> simp only [reduceCtorEq] at h ⊢;exact key h
 case extract=>exact key h
 all_goals (simp only [ax,bM,bE] at h;exact h)
inductive Act1 where
 | plain (r:R1)
 | call (g:FuncId) (args:List V)
def GM (tb:Tbl) (N m:Nat) (H:aq) (ev:Operand→V) (c:Call):Act1:=match c.callee with
 | .value f=>match ev f with
  | .fn g caps=>bif bL caps then .call g (c.args.toList.map ev++caps) else .plain none
  | _=> .plain none
 | _=> .plain (ax ⟨tb,fun _=>none,1,N⟩ m H ev (.call c))
def evA (tb:Tbl) (N m:Nat) (H:aq) (ev:Operand→V) (op:Op):Act1:=match op with
 | .call c=>GM tb N m H ev c
 | .store t a x=> .plain (Ct tb H ev t a x)
 | .move x=> .plain (vu ev x)
 | .assign x=> .plain (vu ev x)
 | .pick c a b=> .plain (MH ev c a b)
 | .alloc t=> .plain (Co tb m t)
 | .box _ x=> .plain (OU m ev x)
 | .build t parts=> .plain (Cp tb ev t parts)
 | .buildSlice t n parts=> .plain (lp tb m H ev t n parts)
 | .load t a=> .plain (Jk tb H ev t a)
 | .nilCheck x=> .plain (QI ev x)
 | .binOp op t x y _=> .plain (OT tb ev op t x y)
 | .unOp op _ x=> .plain (rUn ev op x)
 | .convert s d x=> .plain (Jh tb m ev s d x)
 | .makeFunc fn first caps=> .plain (Ji ev fn first caps)
 | .makeSlice t l c=> .plain (Jl tb m H ev t l c)
 | .slice t x lo hi mx=> .plain (Cs tb H ev t x lo hi mx)
 | .fieldAddr t x f=> .plain (Cq tb ev t x f)
 | .field t x f=> .plain (xI tb ev t x f)
 | .indexAddr t x i=> .plain (Cr tb H ev t x i)
 | .index t x i=> .plain (Jj tb ev t x i)
 | .extract t i=> .plain (Ar ev t i)
 | op=> .plain (ax ⟨tb,fun _=>none,1,N⟩ m H ev op)
theorem Fe (tb:Tbl) (N m:Nat) (H:aq) (ev:Operand→V) (op:Op) {q:List Ob×V×List (Nat×Blk)} (h:evA tb N m H ev op = .plain (some q)):ax ⟨tb,fun _=>none,1,N⟩ m H ev op=some q:=by
 cases op
 case call c=>
  simp only [evA,GM] at h
  split at h
  ·split at h
   ·rename_i caps _
    cases hb:bL caps with
    | true=>rw [hb] at h;cases h
    | false=>rw [hb] at h;cases h
   ·cases h
  ·exact Act1.plain.inj h
 all_goals (exact ot tb N m H ev _ (Act1.plain.inj h))
theorem G9 (tb:Tbl) (N m:Nat) (H:aq) (ev:Operand→V) (op:Op) {g:FuncId} {args:List V} (h:evA tb N m H ev op = .call g args) :∃ c f caps,op = .call c∧c.callee = .value f∧ev f = .fn g caps∧args=c.args.toList.map ev++caps∧bL caps=true:=by
 cases op
 case call c=>
  simp only [evA,GM] at h
  split at h
  ·rename_i f hf
   split at h
   ·rename_i g' caps he
    cases hb:bL caps with
    | false=>rw [hb] at h;cases h
    | true=>
     rw [hb] at h
     cases h
     exact ⟨c,f,caps,rfl,hf,he,rfl,hb⟩
   ·cases h
  ·cases h
 all_goals (cases h)
def ME (ps:List Ob):Bool:=List.casesOn (motive:=fun _=>Bool) ps true fun _ _=>ps.all Ob.chk
def G4 (N:Nat) (ops:List Oper):Bool:=ops.all fun o=>dstIn N o.dst
end Go.Mir
namespace Go.Mir
open Go.RowKit
variable {P:Program}
inductive DoesV (C:Cfg) (alt:Option (Nat×(Blk→Bool))) (all:List Oper) (tm:List (Nat×V)) (H:aq) (m:Nat) (o:Oper):Rec→Prop
 | old {r:Rec}:Does C true all tm H m o r→DoesV C alt all tm H m o r
 | dir {ps:List Ob} {v v':V} {dh:List (Nat×Blk)} {R:List Nat}:dstIn C.N o.dst=true→fh all tm o=some true→ax C m H (aN (aj all o) tm) o.op=some (ps,v,dh)→
   (∀ H2:aq,(∀ h∈R,H2 h=H h)→(∀ h0 okB,alt=some (h0,okB)→H2 h0=H h0∨∃ b,H2 h0=some b∧okB b=true)→ax C m H2 (aN (aj all o) tm) o.op=ax C m H (aN (aj all o) tm) o.op)→(∀ p∈ps,p.holds)→
   (v'=v∨∃ b,v = .bool b∧v' = .kb b)→DoesV C alt all tm H m o ⟨o.dst,v',dh,R,aj all o⟩
theorem DoesV.dstIn {C:Cfg} {alt:Option (Nat×(Blk→Bool))} {all:List Oper} {tm:List (Nat×V)} {H:aq} {m:Nat} {o:Oper} {r:Rec} (h:DoesV C alt all tm H m o r):dstIn C.N o.dst=true∧r.dst=o.dst∧r.rs=aj all o:=by
 cases h with
 | old h=>exact h.dstIn
 | dir h _ _ _ _ _=>exact ⟨h,rfl,rfl⟩
inductive RunV (Cf:Nat→Cfg) (lo:Nat→Nat) (al:Nat→Option (Nat×(Blk→Bool))) (all:List Oper) (st:St):Nat→List Oper→Dl→List Rec→Dl→List Rec→Prop
 | nil {i:Nat} {d:Dl} {recs:List Rec}:RunV Cf lo al all st i [] d recs d recs
 | cons {i:Nat} {o:Oper} {rest:List Oper} {d:Dl} {recs:List Rec} {r:Rec} {df:Dl} {rf:List Rec}:DoesV (Cf i) (al i) all (d.tm++st.tm) (an st.H d.hp) (lo i) o r→
   RunV Cf lo al all st (i+1) rest ⟨bT r.dst r.v++d.tm,r.dh++d.hp⟩ (recs++[r]) df rf→RunV Cf lo al all st i (o::rest) d recs df rf
theorem vy {Cf:Nat→Cfg} {lo:Nat→Nat} {al:Nat→Option (Nat×(Blk→Bool))} {all:List Oper} {st:St} :∀ (rest:List Oper) (i:Nat) (d:Dl) (recs:List Rec) (df:Dl) (rf:List Rec),RunV Cf lo al all st i rest d recs df rf→recs.length=i→
  find (d.tm++st.tm) =(recs.map dY).foldl cS (find st.tm)→an st.H d.hp =(recs.map Rec.dh).foldl cS st.H→
  (∃ more,rf=recs++more∧more.length=rest.length)∧find (df.tm++st.tm) =(rf.map dY).foldl cS (find st.tm)∧an st.H df.hp =(rf.map Rec.dh).foldl cS st.H∧
  ∀ j o,rest[j]?=some o→∃ r tm H,rf[i+j]?=some r∧DoesV (Cf (i+j)) (al (i+j)) all tm H (lo (i+j)) o r∧find tm =((rf.take (i+j)).map dY).foldl cS (find st.tm)∧H =((rf.take (i+j)).map Rec.dh).foldl cS st.H
 | [],i,d,recs,df,rf,hr,hl,h1,h2=>by
  cases hr
  exact ⟨⟨[],by simp,rfl⟩,h1,h2,fun j o h=>by simp at h⟩
 | o::rest,i,d,recs,df,rf,hr,hl,h1,h2=>by
  cases hr with
  | @cons _ _ _ _ _ r _ _ hdo hrun=>
   obtain ⟨⟨more,e1,e2⟩,g1,g2,g3⟩:=vy rest (i+1) _ _ _ _ hrun (by simp [hl])
    (by rw [List.append_assoc,ug,h1];simp [dY]) (by rw [bJ,h2];simp [lK])
   refine ⟨⟨r::more,by rw [e1];simp,by simp [e2]⟩,g1,g2,fun j o' hj=>?_⟩
   cases j with
   | zero=>
    simp only [List.getElem?_cons_zero,Option.some.injEq] at hj
    subst hj
    have et:rf.take i=recs:=by rw [e1,List.append_assoc,List.take_append_of_le_length (by omega),List.take_of_length_le (by omega)]
    refine ⟨r,_,_,?_,hdo,?_,?_⟩
    ·rw [e1,Nat.add_zero,List.append_assoc,List.getElem?_append_right (by omega)]
     simp [hl]
    ·rw [Nat.add_zero,et];exact h1
    ·rw [Nat.add_zero,et];exact h2
   | succ j=>
    obtain ⟨r',tm,H,k1,k2,k3,k4⟩:=g3 j o' (by simpa using hj)
    rw [show i+1+j=i +(j+1) by omega] at k1 k2 k3 k4
    exact ⟨r',tm,H,k1,k2,k3,k4⟩
structure InvV (Cf:Nat→Cfg) (lo:Nat→Nat) (N:Nat) (B:Base) (E0:Env) (st:St) (rf:List Rec) (L:Nat→Bool) (a:Act) (w:World):Prop where
 ex :∃ E,HRel B E∧E.w=w∧Ext E0 E∧E.H=bp L st.H 0 (rf.map Rec.dh)∧(∀ n,E.U n→E0.U n∨∃ i,i<rf.length∧L i=true∧lo i≤n∧n<lo i +(Cf i).K)∧cY E (bp L (find st.tm) 0 (rf.map dY)) a
 size:a.tmps.size=N
 defers:a.defers=[]
theorem AO {L L':Nat→Bool} {k:Nat} {okB:Blk→Bool} :∀ (us:List (List (Nat×Blk))) (i:Nat) (f f':Nat→Option Blk),(f k=f' k∨∃ b,f k=some b∧okB b=true)→
  (∀ j u,us[j]?=some u→find u k≠none→L (i+j)=L' (i+j)∨(L' (i+j)=false∧∀ b,find u k=some b→okB b=true))→bp L f i us k=bp L' f' i us k∨∃ b,bp L f i us k=some b∧okB b=true
 | [],_,_,_,h,_=>h
 | u::us,i,f,f',h,hu=>by
  unfold bp
  refine AO us (i+1) _ _ ?_ (fun j u' hj hf=>by
   have:=hu (j+1) u' (by simpa using hj) hf
   rwa [show i +(j+1)=i+1+j by omega] at this)
  cases hf:find u k with
  | none=>
   have e1 :(if L i=true then cS f u else f) k=f k:=by split <;> simp [gM hf]
   have e2 :(if L' i=true then cS f' u else f') k=f' k:=by split <;> simp [gM hf]
   rw [e1,e2]
   exact h
  | some v=>
   rcases hu 0 u (by simp) (by rw [hf];simp) with h1 |⟨h1,h2⟩
   ·simp only [Nat.add_zero] at h1
    rw [h1]
    split
    ·left;rw [fC hf,fC hf]
    ·exact h
   ·simp only [Nat.add_zero] at h1
    rw [h1]
    simp only [Bool.false_eq_true,if_false]
    split
    ·right;exact ⟨v,fC hf,h2 v hf⟩
    ·exact h
theorem Fm {Cf:Nat→Cfg} {lo:Nat→Nat} {al:Nat→Option (Nat×(Blk→Bool))} {N:Nat} (hC :∀ i,CfgOK P (Cf i)) (hN :∀ i,(Cf i).N=N) {B:Base} {E0:Env} {all:List Oper} {st:St} {rf:List Rec} (hfr0 :∀ i,i<rf.length→∀ n,lo i≤n→n<lo i +(Cf i).K→¬ E0.U n) (hlo :∀ i j,i<j→j<rf.length→lo i +(Cf i).K≤lo j) {L L':Nat→Bool} {i:Nat} {o:Oper} {r:Rec} (ho:all[i]?=some o) (hr:rf[i]?=some r) (hLi:L i=false) (hL' :∀ j,L' j=if j=i then true else L j)
  {tm:List (Nat×V)} {H:aq} (hdo:DoesV (Cf i) (al i) all tm H (lo i) o r) (htm:find tm=bp (fun j=>Nat.blt j i) (find st.tm) 0 (rf.map dY)) (hH:H=bp (fun j=>Nat.blt j i) st.H 0 (rf.map Rec.dh))
  (hcomm :∀ j s,rf[j]?=some s→(j<i∧L j=false)∨(i<j∧L j=true)→Comm r s) (halt :∀ h0 okB,al i=some (h0,okB)→∀ j s b,rf[j]?=some s→find s.dh h0=some b→(j<i→L j=true)∧(i<j→L j=true→okB b=true)) {Q:Exit→Act→World→Prop} {a:Act} {w:World} (hI:InvV Cf lo N B E0 st rf L a w) {K:Act→World→Prop} (hK :∀ a w,InvV Cf lo N B E0 st rf L' a w→K a w) :
  wpOp P all.toArray Q i K a w:=by
 obtain ⟨⟨E,hE,rfl,hX,hEH,hU,hT⟩,hsz,hdf⟩:=hI
 obtain ⟨hd,he,hrs⟩:=hdo.dstIn
 have hiL:i<rf.length:=(List.getElem?_eq_some_iff.1 hr).1
 have hLsel :∀ {α:Type} (us:List (List (Nat×α))) (f:Nat→Option α) (k:Nat) (g:Rec→List (Nat×α)),us=rf.map g→(∀ j s,rf[j]?=some s→find (g s) k≠none→j≠i→Comm r s→False)→bp L f 0 us k=bp (fun j=>Nat.blt j i) f 0 us k:=by
  intro α us f k g hus hno
  refine fF us 0 f f rfl (fun j u hj hu=>?_)
  rw [Nat.zero_add]
  subst hus
  rw [List.getElem?_map] at hj
  cases hs:rf[j]? with
  | none=>rw [hs] at hj;simp at hj
  | some s=>
   rw [hs] at hj
   simp only [Option.map_some,Option.some.injEq] at hj
   subst hj
   by_cases hji:j=i
   ·subst hji
    rw [hLi]
    cases hb:Nat.blt j j with
    | false=>rfl
    | true=>rw [Nat.blt_eq] at hb;omega
   ·rcases Nat.lt_or_gt_of_ne hji with hlt|hgt
    ·have hb:Nat.blt j i=true:=by rw [Nat.blt_eq];exact hlt
     rw [hb]
     cases hLj:L j with
     | true=>rfl
     | false=>exact (hno j s hs hu hji (hcomm j s hs (.inl ⟨hlt,hLj⟩))).elim
    ·have hb:Nat.blt j i=false:=by cases hb:Nat.blt j i with|false=>rfl|true=>rw [Nat.blt_eq] at hb;omega
     rw [hb]
     cases hLj:L j with
     | false=>rfl
     | true=>exact (hno j s hs hu hji (hcomm j s hs (.inr ⟨hgt,hLj⟩))).elim
 have hslot :∀ s∈aj all o,bp L (find st.tm) 0 (rf.map dY) s=find tm s:=fun s hs=>by
  rw [htm]
  refine hLsel _ _ s dY rfl (fun j s' hs' hne hji hc=>?_)
  exact hc.sd s (jK hne) (by rw [hrs];exact hs)
 have hlook :∀ s∈aj all o,aa E (cp tm s) (a.tmps.getD s undef):=fun s hs=>by
  unfold cp
  cases hf:find tm s with
  | none=>simp [aa]
  | some v=>exact hT s v (by rw [hslot s hs];exact hf)
 have hL0 :∀ {α:Type} (us:List (List (Nat×α))) (f:Nat→Option α) (g:Rec→List (Nat×α)),us=rf.map g→(∀ j s,i<j→rf[j]?=some s→Comm r s→∀ k,find (g r) k≠none→find (g s) k=none)→bp L' f 0 us=cS (bp L f 0 us) (g r):=by
  intro α us f g hus hno
  subst hus
  refine AN (rf.map g) f i (g r) (by rw [List.getElem?_map,hr];rfl) hL' (fun j u hj hu hLj k hk=>?_)
  rw [List.getElem?_map] at hu
  cases hs:rf[j]? with
  | none=>rw [hs] at hu;simp at hu
  | some s=>
   rw [hs] at hu
   simp only [Option.map_some,Option.some.injEq] at hu
   subst hu
   exact hno j s hj hs (hcomm j s hs (.inr ⟨hj,hLj⟩)) k hk
 have none_of :∀ {α:Type} {l:List (Nat×α)} {k:Nat},(k∈l.map (·.1)→False)→find l k=none:=fun {α l k} h=>by
  cases hf:find l k with
  | none=>rfl
  | some v=>exact (h (dT (by rw [hf];simp))).elim
 have hT':bp L' (find st.tm) 0 (rf.map dY)=cS (bp L (find st.tm) 0 (rf.map dY)) (dY r):=hL0 _ _ dY rfl (fun j s _ _ hc k hk=>by
  cases hf:find (dY s) k with
  | none=>rfl
  | some v=>exact (hc.d k (jK hk) (jK (by rw [hf];simp))).elim)
 have hH':bp L' st.H 0 (rf.map Rec.dh)=cS (bp L st.H 0 (rf.map Rec.dh)) r.dh:=hL0 _ _ Rec.dh rfl (fun j s _ _ hc k hk=>none_of fun hm=>hc.k k (dT hk) hm)
 have after :∀ (E':Env) (v':Value),GoodK B E (lo i) (Cf i).K r.dh E'.w E'→aa E' r.v v'→InvV Cf lo N B E0 st rf L' (a.put o.dst v') E'.w:=fun E' v' G hv=>by
  refine ⟨⟨E',G.rel,rfl,hX.trans G.ext,by rw [G.h,hH',hEH,lK],fun n hn=>?_,?_⟩,by rw [ll];exact hsz,by rw [ig];exact hdf⟩
  ·rcases G.u n hn with h|h
   ·rcases hU n h with h1 |⟨j,h1,h2,h3⟩
    ·exact .inl h1
    ·refine .inr ⟨j,h1,?_,h3⟩
     rw [hL']
     split
     ·rfl
     ·exact h2
   ·exact .inr ⟨i,hiL,by rw [hL',if_pos rfl],h.1,h.2⟩
  ·rw [hT']
   exact xG G.ext hT hsz (by rw [←hN i];exact hd) (v:=r.v) hv (fun s u hu=>by
    unfold cS dY at hu
    rw [he] at hu
    cases hf:find (bT o.dst r.v) s with
    | some x=>rw [hf] at hu;exact .inl hu
    | none=>rw [hf] at hu;exact .inr ⟨rfl,hu⟩)
 unfold wpOp
 simp only [List.getElem?_toArray,ho]
 have hfresh :∀ n,lo i≤n→n<lo i +(Cf i).K→¬ E.U n:=fun n h1 h2 hu=>by
  rcases hU n hu with h3 |⟨j,h3,h4,h5,h6⟩
  ·exact hfr0 i hiL n h1 h2 h3
  ·have hji:j≠i:=fun e=>by subst e;rw [hLi] at h4;cases h4
   rcases Nat.lt_or_gt_of_ne hji with hlt|hgt
   ·have:=hlo j i hlt hiL;omega
   ·have:=hlo i j hgt h3;omega
 cases hdo with
 | @dir ps v v' dh R _ hg hev hcg hps hv=>
  rw [bO hlook hg]
  simp only [if_true]
  left
  have hHR :∀ h∈R,E.H h=H h:=fun h hh=>by
   rw [hEH,hH]
   refine hLsel _ _ h Rec.dh rfl (fun j s hs hne hji hc=>?_)
   exact hc.sk h (dT hne) hh
  have hev2:=hcg E.H hHR (fun h0 okB hal=>by
   have hal:=halt h0 okB hal
   rw [hEH,hH]
   refine AO (rf.map Rec.dh) 0 st.H st.H (.inl rfl) (fun j u hj hu=>?_)
   rw [Nat.zero_add]
   rw [List.getElem?_map] at hj
   cases hs:rf[j]? with
   | none=>rw [hs] at hj;simp at hj
   | some s=>
    rw [hs] at hj
    simp only [Option.map_some,Option.some.injEq] at hj
    subst hj
    rcases Nat.lt_trichotomy j i with hlt|heq|hgt
    ·left
     obtain ⟨b,hb⟩ :∃ b,find s.dh h0=some b:=by
      cases hf:find s.dh h0 with
      | none=>exact absurd hf hu
      | some b=>exact ⟨b,rfl⟩
     rw [(hal j s b hs hb).1 hlt]
     exact (by rw [Nat.blt_eq];exact hlt:Nat.blt j i=true).symm
    ·left
     subst heq
     rw [hLi]
     cases hb:Nat.blt j j with
     | false=>rfl
     | true=>rw [Nat.blt_eq] at hb;omega
    ·have hbf:Nat.blt j i=false:=by cases hb:Nat.blt j i with|false=>rfl|true=>rw [Nat.blt_eq] at hb;omega
     cases hLj:L j with
     | false=>exact .inl hbf.symm
     | true=>exact .inr ⟨hbf,fun b hb=>(hal j s b hs hb).2 hgt hLj⟩)
  rw [hev] at hev2
  have hevm :∀ x,aa E (aN (aj all o) tm x) (a.eval x):=fun x=>by
   cases x with
   | tmp t=>
    simp only [aN]
    cases hm:memN (aj all o) t with
    | false=>simp [aa]
    | true=>exact hlook t (memN_iff.1 hm)
   | const v=>exact fQ v
   | func f=>simp only [aN,aa,Act.eval];exact ⟨#[],rfl,by simp [ab]⟩
   | _=>simp [aN,aa]
  exact cZ hE (hC i).tb (hC i).K (hC i).Γ hfresh hevm hev2 hps fun v'' E' G hv'=>by
   have hw:E'.w=E'.w:=rfl
   exact hK _ _ (after E' _ G (Ge hv hv'))
 | old hdo=>
 cases hdo with
 | skip _ hg=>
  rw [bO hlook hg]
  simp only [Bool.false_eq_true,if_false]
  exact hK _ _ (after E undef ⟨hE,Ext.refl E,rfl,rfl,fun n h=> .inl h⟩ (by simp [aa,undef,ab]))
 | @dir ps v v' dh _ _ hg hdr hev hps hv=>
  rw [bO hlook hg]
  simp only [if_true]
  left
  have hev2:=ud (C:=Cf i) (m:=lo i) (H1:=E.H) (H2:=H) hdr fun k hk=>by
   rw [hEH,hH]
   refine hLsel _ _ k Rec.dh rfl (fun j s hs hne hji hc=>?_)
   exact hc.sk k (dT hne) hk
  rw [hev] at hev2
  have hevm :∀ x,aa E (aN (aj all o) tm x) (a.eval x):=fun x=>by
   cases x with
   | tmp t=>
    simp only [aN]
    cases hm:memN (aj all o) t with
    | false=>simp [aa]
    | true=>exact hlook t (memN_iff.1 hm)
   | const v=>exact fQ v
   | func f=>simp only [aN,aa,Act.eval];exact ⟨#[],rfl,by simp [ab]⟩
   | _=>simp [aN,aa]
  exact cZ hE (hC i).tb (hC i).K (hC i).Γ hfresh hevm hev2 hps fun v'' E' G hv'=>hK _ _ (after E' _ G (Ge hv hv'))
 | @run ps v v' dh R _ hg hst hps hv=>
  rw [bO hlook hg]
  simp only [if_true]
  left
  simp only [lx] at hst
  split at hst
  case h_2=>cases hst
  rename_i ps' v2 dh' hev
  cases hfr:gF H (mi H 8 (o.op.operands.toList.flatMap fun x=>(aN (aj all o) tm x).hs) []) (lo i) (Cf i).K v2 dh' with
  | false=>rw [hfr] at hst;cases hst
  | true=>
   rw [hfr] at hst
   simp only [cond_true,Option.some.injEq,Prod.mk.injEq] at hst
   obtain ⟨rfl,rfl,rfl,hR⟩:=hst
   rw [hR] at hfr hev
   have hHR :∀ h∈R,E.H h=H h:=fun h hh=>by
    rw [hEH,hH]
    refine hLsel _ _ h Rec.dh rfl (fun j s hs hne hji hc=>?_)
    exact hc.sk h (dT hne) hh
   have hrest:restr H R=restr E.H R:=by
    funext h
    unfold restr
    cases hm:memN R h with
    | false=>rfl
    | true=>simp only [cond_true];exact (hHR h (memN_iff.1 hm)).symm
   simp only [gF,Bool.and_eq_true] at hfr
   obtain ⟨⟨f1,f2⟩,f3⟩:=hfr
   have fR :∀ h∈R,∃ b,H h=some b∧l7 R (lo i) (Cf i).K b.hs=true:=fun h hh=>by
    have:=List.all_eq_true.1 f1 h hh
    split at this
    ·rename_i b hb;exact ⟨b,hb,this⟩
    ·cases this
   have hfresh :∀ n,lo i≤n→n<lo i +(Cf i).K→¬ E.U n:=fun n h1 h2 hu=>by
    rcases hU n hu with h3 |⟨j,h3,h4,h5,h6⟩
    ·exact hfr0 i hiL n h1 h2 h3
    ·have hji:j≠i:=fun e=>by subst e;rw [hLi] at h4;cases h4
     rcases Nat.lt_or_gt_of_ne hji with hlt|hgt
     ·have:=hlo j i hlt hiL;omega
     ·have:=hlo i j hgt h3;omega
   have hEs:=hE.restr R
   have Xs:=Ext.restr E R
   rw [hrest] at hev
   have hevm :∀ x,aa { E with H:=Mir.restr E.H R } (aN (aj all o) tm x) (a.eval x):=fun x=>by
    cases x with
    | tmp t=>
     simp only [aN]
     cases hm:memN (aj all o) t with
     | false=>simp [aa]
     | true=>exact aI Xs _ _ (hlook t (memN_iff.1 hm))
    | const v=>exact fQ v
    | func f=>simp only [aN,aa,Act.eval];exact ⟨#[],rfl,by simp [ab]⟩
    | _=>simp [aN,aa]
   exact cZ (E:={ E with H:=Mir.restr E.H R }) hEs (hC i).tb (hC i).K (hC i).Γ hfresh hevm hev hps fun v'' Es G hv'=>by
    obtain ⟨E',G',tr⟩:=Mt hE hfresh G (fun h hh=>by obtain ⟨b,hb,_⟩:=fR h hh;exact ⟨b,by rw [hHR h hh];exact hb⟩)
     (fun h hh k hk x hx=>by
      obtain ⟨b,hb,hb2⟩:=fR h hh
      rw [hHR h hh,hb] at hk
      cases hk
      exact eF hb2 x hx)
     (fun h k hk=>by
      have hq:=ag hk
      have:=List.all_eq_true.1 f2 _ hq
      simp only [Bool.and_eq_true] at this
      exact ⟨eF this.1 h (by simp),eF this.2⟩)
    have hw:E'.w=Es.w:=G'.w
    have hv2:aa E' v2 v'':=tr _ _ (eF f3) hv'
    have:=hK _ _ (after E' _ (by rw [hw];exact G') (Ge hv hv2))
    rw [hw] at this
    exact this
def AltOK (al:Nat→Option (Nat×(Blk→Bool))) (ms:List Nat) (rf:List Rec):Prop:=∀ i h0 okB,al i=some (h0,okB)→∀ j s b,rf[j]?=some s→find s.dh h0=some b→j≠i→
 (j<i→((ms[i]?).getD 0).testBit j=true)∧(i<j→((ms[j]?).getD 0).testBit i=true∨okB b=true)
theorem AltOK.none {ms:List Nat} {rf:List Rec}:AltOK (fun _=>Option.none) ms rf:=fun i h0 okB h=>by cases h
theorem EY {Cf:Nat→Cfg} {lo:Nat→Nat} {al:Nat→Option (Nat×(Blk→Bool))} {N:Nat} (hC :∀ i,CfgOK P (Cf i)) (hN :∀ i,(Cf i).N=N) {B:Base} {E0:Env} {all:List Oper} {st:St} {df:Dl} {rf:List Rec} (hrun:RunV Cf lo al all st 0 all ⟨[],[]⟩ [] df rf) (hE:ck 0 all=true) (hck:dH (bA all []) 0 rf=true) (hal:AltOK al (bA all []) rf) {Q:Exit→Act→World→Prop}
  (hfr0 :∀ i,i<all.length→∀ n,lo i≤n→n<lo i +(Cf i).K→¬ E0.U n) (hlo :∀ i j,i<j→j<all.length→lo i +(Cf i).K≤lo j)
  (hQ :∀ E a,HRel B E→Ext E0 E→E.H=an st.H df.hp→(∀ n,E.U n→E0.U n∨∃ i,i<all.length∧lo i≤n∧n<lo i +(Cf i).K)→cY E (find (df.tm++st.tm)) a→a.tmps.size=N→a.defers=[]→Q .normal a E.w) :
  ∀ (fuel:Nat) (listed:Array Bool) (a:Act) (w:World),listed.size=all.length→unl all.length listed=fuel→
   (∀ j oj,all[j]?=some oj→listed.getD j false=true→∀ e∈oj.after,Region.binds .any e=true→listed.getD e.on false=true)→
   InvV Cf lo N B E0 st rf (fun i=>listed.getD i false) a w→wpAny P .any all.toArray Q fuel listed a w:=by
 obtain ⟨⟨more,e1,e2⟩,g1,g2,g3⟩:=vy all 0 ⟨[],[]⟩ [] df rf hrun rfl rfl rfl
 have hlen:rf.length=all.length:=by rw [e1];simpa using e2
 have full :∀ (listed:Array Bool),listed.size=all.length→Region.ready .any all.toArray listed=[]→∀ i,i<all.length→listed.getD i false=true:=by
  intro listed hsz hrd i
  induction i using Nat.strongRecOn with
  | _ i ih=>
   intro hi
   cases hb:listed.getD i false with
   | true=>rfl
   | false=>
    have hun:listed.getD i true=false:=by
     have:i<listed.size:=by omega
     simp [this] at hb ⊢
     exact hb
    have hoi:all[i]?=some all[i]:=List.getElem?_eq_getElem hi
    have:i∈Region.ready .any all.toArray listed:=mem_ready.2 ⟨hun,all[i],by simp,fun e he hbd=>by
     have:=fb all 0 hE i _ hoi e he hbd
     exact ih e.on (by omega) (by omega)⟩
    rw [hrd] at this
    cases this
 have close :∀ (listed:Array Bool) (a:Act) (w:World),listed.size=all.length→(∀ i,i<all.length→listed.getD i false=true)→InvV Cf lo N B E0 st rf (fun i=>listed.getD i false) a w→Q .normal a w:=by
  intro listed a w hsz hall hI
  obtain ⟨⟨E,hE',rfl,hX,hEH,hU,hT⟩,hs,hd⟩:=hI
  have hsel :∀ {α:Type} (us:List (List (Nat×α))) (f:Nat→Option α),us.length=all.length→bp (fun i=>listed.getD i false) f 0 us=us.foldl cS f:=fun us f hl=>by
   have h1:=ki us f 0 us.length
   rw [List.take_of_length_le (Nat.le_refl _)] at h1
   rw [←h1]
   funext k
   refine fF us 0 f f rfl (fun j u hj _=>?_)
   have hjl:j<us.length:=(List.getElem?_eq_some_iff.1 hj).1
   rw [Nat.zero_add,hall j (by omega)]
   exact (by rw [Nat.blt_eq];omega:Nat.blt j (0+us.length)=true).symm
  refine hQ E a hE' hX ?_ (fun n hn=>?_) (fun s v hv=>?_) hs hd
  ·rw [hEH,hsel _ _ (by simp [hlen]),g2]
  ·rcases hU n hn with h |⟨i,h1,_,h3,h4⟩
   ·exact .inl h
   ·exact .inr ⟨i,by omega,h3,h4⟩
  ·refine hT s v ?_
   rw [hsel _ _ (by simp [hlen]),←g1]
   exact hv
 intro fuel
 induction fuel with
 | zero=>
  intro listed a w hsz hun _ hI
  have hall :∀ i,i<all.length→listed.getD i false=true:=fun i hi=>by
   have h0 :(List.range all.length).filter (fun i=>!listed.getD i true)=[]:=List.eq_nil_of_length_eq_zero hun
   have:=List.filter_eq_nil_iff.1 h0 i (List.mem_range.2 hi)
   have hi':i<listed.size:=by omega
   simp [hi'] at this ⊢
   exact this
  refine ⟨?_,close listed a w hsz hall hI⟩
  cases hr:Region.ready .any all.toArray listed with
  | nil=>rfl
  | cons i l=>
   have hm:i∈Region.ready .any all.toArray listed:=by rw [hr];exact List.mem_cons_self
   obtain ⟨h1,o,h2,_⟩:=mem_ready.1 hm
   have hi:i<all.length:=by
    have:=(Array.getElem?_eq_some_iff.1 h2).1
    simpa using this
   have h3:=hall i hi
   have hi':i<listed.size:=by omega
   simp [hi'] at h1 h3
   rw [h1] at h3;cases h3
 | succ fuel ih=>
  intro listed a w hsz hun hclosed hI
  refine ⟨fun hr=>close listed a w hsz (full listed hsz hr) hI,fun i hi=>?_⟩
  obtain ⟨h1,o,h2,hdir⟩:=mem_ready.1 hi
  have ho:all[i]?=some o:=by simpa using h2
  have hil:i<all.length:=(List.getElem?_eq_some_iff.1 ho).1
  have his:i<listed.size:=by omega
  have hLi:listed.getD i false=false:=by simp [his] at h1 ⊢;exact h1
  obtain ⟨r,tm,H,k1,k2,k3,k4⟩:=g3 i o ho
  simp only [Nat.zero_add] at k1 k2 k3 k4
  have hget :∀ j,(listed.setIfInBounds i true).getD j false=if j=i then true else listed.getD j false:=fun j=>by
   by_cases e:j=i
   ·subst e;simp [his]
   ·simp [e,Array.getElem?_setIfInBounds_ne (Ne.symm e),Array.getD_eq_getD_getElem?]
  have hgetT :∀ j,j≠i→(listed.setIfInBounds i true).getD j true=listed.getD j true:=fun j e=>by
   simp [Array.getElem?_setIfInBounds_ne (Ne.symm e),Array.getD_eq_getD_getElem?]
  refine Fm hC hN (E0:=E0) (by rw [hlen];exact hfr0) (by rw [hlen];exact hlo) (L:=fun i=>listed.getD i false) (L':=fun j=>(listed.setIfInBounds i true).getD j false) ho k1 hLi hget k2 ?_ ?_ (fun j s hs hor=>?_) (fun h0 okB ha j s b hs hb=>⟨fun hlt=>?_,fun hgt hLj=>?_⟩) hI (fun a w hI'=>ih _ a w (by simpa using hsz) ?_ ?_ hI')
  ·rw [k3]
   have:=ki (rf.map dY) (find st.tm) 0 i
   rw [←List.map_take,] at this
   simpa using this.symm
  ·rw [k4]
   have:=ki (rf.map Rec.dh) st.H 0 i
   rw [←List.map_take] at this
   simpa using this.symm
  ·rcases hor with ⟨hlt,hLj⟩ |⟨hgt,hLj⟩
   ·rcases fP rf 0 hck j i s r hlt hs k1 with h|h
    ·simp only [Nat.zero_add] at h
     have:=cz hE hclosed i i (Nat.le_refl _) o ho hdir j h
     rw [this] at hLj;cases hLj
    ·exact h.symm
   ·rcases fP rf 0 hck i j r s hgt k1 hs with h|h
    ·simp only [Nat.zero_add] at h
     have hjl:j<all.length:=by rw [←hlen];exact (List.getElem?_eq_some_iff.1 hs).1
     have hoj:all[j]?=some all[j]:=List.getElem?_eq_getElem hjl
     have:=cz hE hclosed j j (Nat.le_refl _) _ hoj (hclosed j _ hoj hLj) i h
     rw [this] at hLi;cases hLi
    ·exact h
  ·exact cz hE hclosed i i (Nat.le_refl _) o ho hdir j ((hal i h0 okB ha j s b hs hb (by omega)).1 hlt)
  ·rcases (hal i h0 okB ha j s b hs hb (by omega)).2 hgt with h|h
   ·have hjl:j<all.length:=by rw [←hlen];exact (List.getElem?_eq_some_iff.1 hs).1
    have hoj:all[j]?=some all[j]:=List.getElem?_eq_getElem hjl
    have:=cz hE hclosed j j (Nat.le_refl _) _ hoj (hclosed j _ hoj hLj) i h
    rw [this] at hLi;cases hLi
   ·exact h
  ·have:=mD (p:=fun j=>!listed.getD j true) (q:=fun j=>!(listed.setIfInBounds i true).getD j true) (i:=i) (by simp [h1]) (by simp [his]) (fun j e=>by simp [hgetT j e]) (List.range all.length) List.nodup_range (List.mem_range.2 hil)
   unfold unl at hun ⊢
   omega
  ·intro j oj hj hlj e he hb
   rw [hget] at hlj ⊢
   by_cases e1:e.on=i
   ·rw [if_pos e1]
   ·rw [if_neg e1]
    by_cases e2:j=i
    ·subst e2
     rw [ho] at hj;cases hj
     exact hdir e he hb
    ·rw [if_neg e2] at hlj
     exact hclosed j oj hj hlj e he hb
theorem E6 {Cf:Nat→Cfg} {lo:Nat→Nat} {al:Nat→Option (Nat×(Blk→Bool))} {N:Nat} (hC :∀ i,CfgOK P (Cf i)) (hN :∀ i,(Cf i).N=N) (hP:P.follows .mixedOrders=true) {B:Base} {all:List Oper} {st:St} {df:Dl} {rf:List Rec} (hrun:RunV Cf lo al all st 0 all ⟨[],[]⟩ [] df rf) (hE:ck 0 all=true) (hck:dH (bA all []) 0 rf=true) (hal:AltOK al (bA all []) rf) {Q:Exit→Act→World→Prop}
  {E:Env} (hE':HRel B E) (hH:E.H=st.H) {a:Act} (hT:cY E (find st.tm) a) (hsz:a.tmps.size=N) (hdf:a.defers=[])
  (hfr0 :∀ i,i<all.length→∀ n,lo i≤n→n<lo i +(Cf i).K→¬ E.U n) (hlo :∀ i j,i<j→j<all.length→lo i +(Cf i).K≤lo j)
  (hQ :∀ E' a,HRel B E'→Ext E E'→E'.H=an st.H df.hp→(∀ n,E'.U n→E.U n∨∃ i,i<all.length∧lo i≤n∧n<lo i +(Cf i).K)→cY E' (find (df.tm++st.tm)) a→a.tmps.size=N→a.defers=[]→Q .normal a E'.w) (id:Nat) :
  (Code.region id all.toArray true).wp P Q a E.w:=by
 refine wp_region_any hP ?_
 obtain ⟨R,X⟩:=sH hE' { E.w with drawn:=E.w.drawn+1 } rfl rfl rfl rfl
 have hfalse :∀ i,(Array.replicate all.toArray.size false).getD i false=false:=fun i=>by
  rcases Nat.lt_or_ge i all.length with h|h
  ·simp [h]
  ·simp [h]
 have hno :∀ {α:Type} (us:List (List (Nat×α))) (f:Nat→Option α) (i:Nat),bp (fun i=>(Array.replicate all.toArray.size false).getD i false) f i us=f:=by
  intro α us
  induction us with
  | nil=>intro f i;rfl
  | cons u us ih=>intro f i;unfold bp;rw [hfalse];simp only [Bool.false_eq_true,if_false];exact ih f _
 refine EY hC hN (E0:={ E with w:={ E.w with drawn:=E.w.drawn+1 } }) hrun hE hck hal hfr0 hlo (fun E1 a1 r1 x1 h1 u1 t1 s1 d1=>hQ E1 a1 r1 (X.trans x1) h1 u1 t1 s1 d1) _ _ a _ (by simp) ?_ (fun j oj hj hl=>by rw [hfalse] at hl;cases hl) ⟨⟨_,R,rfl,Ext.refl _,?_,fun n hn=> .inl hn,fun s v hv=>?_⟩,hsz,hdf⟩
 ·unfold unl
  have :(List.range all.length).filter (fun i=>!(Array.replicate all.toArray.size false).getD i true)=List.range all.length:=List.filter_eq_self.2 fun i hi=>by
   have:=List.mem_range.1 hi
   simp [this]
  rw [this]
  simp
 ·rw [hno _ _ _];exact hH
 ·rw [hno] at hv
  exact aI X _ _ (hT s v hv)
end Go.Mir
namespace Go.Mir
open Go.RowKit
variable {P:Program}
theorem ko {E:Env} {v:V} {u:Value} (h:aa E v u):aa E (jb v) u:=by
 cases v <;> first|exact h|simpa [jb,aa] using h
theorem Kv {a:Act} {w:World} {c:Call} {o:Oper} (ho:o.op = .call c) {f:Operand} (hf:c.callee = .value f) {g:FuncId} {l:Array Value} (hfe:a.eval f = .func (.func g) #[] l)
  (hfn :∃ fn,P.funcs[g]?=some fn∧fn.body.isSome=true∧(fn.name == "runtime.NumGoroutine")=false) {R:Ending→World→Prop} (hcalls:Calls P g (c.args.toList.map a.eval++l.toList).toArray w R)
  {next:Act→World→Prop} {Q:Exit→Act→World→Prop} (hn :∀ e w',R e w'→∃ v',e = .returned v'∧next (a.put o.dst v') w'):o.wp P a w next Q:=by
 obtain ⟨fn,h1,h2,h3⟩:=hfn
 have hb :¬ fn.body=none:=by cases hb:fn.body with|none=>rw [hb] at h2;cases h2|some _=>simp
 have h4 :¬ fn.name = "runtime.NumGoroutine":=by simpa using h3
 have hrun :(execOp a.eval o).run P w = .ok (.enter g (c.args.toList.map a.eval++l.toList).toArray) w:=by
  have e :(c.args.toList.map a.eval++l.toList).toArray=#[]++c.args.map a.eval++l:=by
   apply Array.ext'
   simp
  rw [e]
  simp [execOp,ho,resolve,hf,Deferred.ofValue,hfe,invoke,callFunc,h1,h4,hb]
 unfold Oper.wp
 rw [hrun]
 simp only [Oper.upon]
 refine hcalls.mono fun e w' hh=>?_
 obtain ⟨v',rfl,h⟩:=hn e w' hh
 exact h
structure RR (B:Base) (E0:Env) (n0 N:Nat) (s:RS) (E:Env) (a:Act):Prop where
 rel:HRel B E
 ext:Ext E0 E
 h:E.H=s.hp.get
 u :∀ n,E.U n→E0.U n∨(n0≤n∧n<s.nx)
 le:n0≤s.nx
 tm:cY E s.tm.get a
 size:a.tmps.size=N
 defers:a.defers=[]
structure Came (B:Base) (E:Env) (hp':aq) (nx nx':Nat) (v:V) (v':Value) (w':World) (E':Env):Prop where
 rel:HRel B E'
 w:E'.w=w'
 h:E'.H=hp'
 ext:Ext E E'
 u :∀ n,E'.U n→E.U n∨(nx≤n∧n<nx')
 v:aa E' v v'
variable {tb:Tbl} {N:Nat} {call:Gj} {all:List Oper} {B:Base} {E0:Env} {n0:Nat}
theorem RR.put {s:RS} {E:Env} {a:Act} (hR:RR B E0 n0 N s E a) {E':Env} {hp:Tri Blk} {nx:Nat} (hrel:HRel B E') (hext:Ext E E') (hh:E'.H=hp.get) (hu :∀ n,E'.U n→E.U n∨(s.nx≤n∧n<nx)) (hle:s.nx≤nx)
  {d:Option Nat} (hd:dstIn N d=true) {v:V} {v':Value} (hv:aa E' v v') {tm:Tri V} (htm :∀ k,tm.get k=match find (bT d (jb v)) k with|some u=>some u|none=>s.tm.get k):RR B E0 n0 N ⟨tm,hp,nx⟩ E' (a.put d v'):=by
 have hle0:=hR.le
 refine ⟨hrel,hR.ext.trans hext,hh,fun n hn=>?_,Nat.le_trans hle0 hle,xG hext hR.tm hR.size hd (ko hv) (fun k u hk=>?_),by rw [ll];exact hR.size,by rw [ig];exact hR.defers⟩
 ·show E0.U n∨(n0≤n∧n<nx)
  rcases hu n hn with h|h
  ·rcases hR.u n h with h|h
   ·exact .inl h
   ·exact .inr ⟨h.1,by omega⟩
  ·exact .inr ⟨by omega,h.2⟩
 ·rw [htm] at hk
  cases hf:find (bT d (jb v)) k with
  | some x=>rw [hf] at hk;exact .inl hk
  | none=>rw [hf] at hk;exact .inr ⟨rfl,hk⟩
end Go.Mir
namespace Go.Mir
open Go.RowKit
variable {P:Program}
theorem wN {α:Type} {l:List (Nat×α)} {k:Nat} (h:memN (l.map (·.1)) k=true):find l k≠none:=by
 induction l with
 | nil=>simp [memN] at h
 | cons q l ih=>
  obtain ⟨a,b⟩:=q
  simp only [List.map_cons,memN,Bool.or_eq_true] at h
  simp only [find]
  cases hb:Nat.beq a k with
  | true=>simp
  | false=>
   simp only [cond_false]
   refine ih ?_
   rcases h with h|h
   ·rw [hb] at h;cases h
   ·exact h
def Chain:Nat→List (Nat×Cfg)→Nat→Prop
 | n,[],e=>n=e
 | n,q::r,e=>q.1=n∧∃ n2,n+q.2.K≤n2∧Chain n2 r e
theorem Chain.le :∀ {n:Nat} {l:List (Nat×Cfg)} {e:Nat},Chain n l e→n≤e
 | n,[],e,h=>Nat.le_of_eq h
 | n,q::r,e,⟨_,n2,h1,h2⟩=>by have:=h2.le;omega
theorem Chain.at :∀ {n:Nat} {l:List (Nat×Cfg)} {e:Nat},Chain n l e→∀ (j:Nat) (q:Nat×Cfg),l[j]?=some q→n≤q.1∧q.1+q.2.K≤e
 | n,[],e,_,j,q,hq=>by simp at hq
 | n,p::r,e,⟨h0,n2,h1,h2⟩,j,q,hq=>by
  have hle:=h2.le
  cases j with
  | zero=>
   simp only [List.getElem?_cons_zero,Option.some.injEq] at hq
   subst hq
   omega
  | succ j=>
   have:=h2.at j q (by simpa using hq)
   omega
theorem Chain.lt :∀ {n:Nat} {l:List (Nat×Cfg)} {e:Nat},Chain n l e→∀ (i j:Nat) (p q:Nat×Cfg),i<j→l[i]?=some p→l[j]?=some q→p.1+p.2.K≤q.1
 | n,[],e,_,i,j,p,q,_,hp,_=>by simp at hp
 | n,x::r,e,⟨h0,n2,h1,h2⟩,i,j,p,q,hij,hp,hq=>by
  cases j with
  | zero=>omega
  | succ j=>
   cases i with
   | zero=>
    simp only [List.getElem?_cons_zero,Option.some.injEq] at hp
    subst hp
    have:=(h2.at j q (by simpa using hq)).1
    omega
   | succ i=>exact h2.lt i j p q (by omega) (by simpa using hp) (by simpa using hq)
variable {tb:Tbl} {N:Nat} {call:Gj} {all:List Oper}
end Go.Mir
namespace Go.Mir
open Go.RowKit
variable {P:Program}
def Tri.toL {α:Type}:Tri α→List (Nat×α)
 | .lf=> []
 | .nd l v r=>(match v with|some x=> [(0,x)]|none=> []) ++((l.toL.map fun p=>(2*p.1+1,p.2)) ++(r.toL.map fun p=>(2*p.1+2,p.2)))
variable {tb:Tbl} {N:Nat} {call:Gj} {B:Base} {E0:Env} {n0:Nat}
def Ru (td:TD):TD:=⟨td.kind,td.size,td.bytes,td.zero,none⟩
def Gb (tb:Tbl):Tbl:=fun t=>match tb t with
 | some td=>some (Ru td)
 | none=>none
theorem Ma {tb:Tbl} (h:aO P tb):aO P (Gb tb):=fun t td ht=>by
 unfold Gb at ht
 split at ht
 case h_2=>cases ht
 rename_i td0 h0
 cases ht
 have:=h _ _ h0
 exact ⟨fun hp=>this.eqk hp,this.info,this.kind,this.zagg⟩
def DR (P:Program):Bool:=P.funcs.toList.all fun fn=>!(fn.name == "runtime.NumGoroutine")
theorem zK (h:DR P=true) (f:FuncId) (fn:Func) (hf:P.funcs[f]?=some fn) :(fn.name == "runtime.NumGoroutine")=false:=by
 have:=List.all_eq_true.1 h fn (by
  obtain ⟨hl,he⟩:=Array.getElem?_eq_some_iff.1 hf
  rw [←he]
  exact Array.mem_toList_iff.2 (Array.getElem_mem hl))
 simpa using this
end Go.Mir
namespace Go.Mir
open Go.RowKit
noncomputable section
structure N8 (α:Type) where
 a:α
 b:α
 c:α
 d:α
 e:α
 f:α
 g:α
 h:α
structure Ac (σ α:Type) where
 get:σ→α
 put:α→σ→σ
def Ac.da {α:Type}:Ac (N8 α) α:=⟨N8.a,fun x n=>N8.rec (motive:=fun _=>N8 α) (fun _ b c d e f g h=>⟨x,b,c,d,e,f,g,h⟩) n⟩
def Ac.db {α:Type}:Ac (N8 α) α:=⟨N8.b,fun x n=>N8.rec (motive:=fun _=>N8 α) (fun a _ c d e f g h=>⟨a,x,c,d,e,f,g,h⟩) n⟩
def Ac.dc {α:Type}:Ac (N8 α) α:=⟨N8.c,fun x n=>N8.rec (motive:=fun _=>N8 α) (fun a b _ d e f g h=>⟨a,b,x,d,e,f,g,h⟩) n⟩
def Ac.dd {α:Type}:Ac (N8 α) α:=⟨N8.d,fun x n=>N8.rec (motive:=fun _=>N8 α) (fun a b c _ e f g h=>⟨a,b,c,x,e,f,g,h⟩) n⟩
def Ac.de {α:Type}:Ac (N8 α) α:=⟨N8.e,fun x n=>N8.rec (motive:=fun _=>N8 α) (fun a b c d _ f g h=>⟨a,b,c,d,x,f,g,h⟩) n⟩
def Ac.df {α:Type}:Ac (N8 α) α:=⟨N8.f,fun x n=>N8.rec (motive:=fun _=>N8 α) (fun a b c d e _ g h=>⟨a,b,c,d,e,x,g,h⟩) n⟩
def Ac.dg {α:Type}:Ac (N8 α) α:=⟨N8.g,fun x n=>N8.rec (motive:=fun _=>N8 α) (fun a b c d e f _ h=>⟨a,b,c,d,e,f,x,h⟩) n⟩
def Ac.dh {α:Type}:Ac (N8 α) α:=⟨N8.h,fun x n=>N8.rec (motive:=fun _=>N8 α) (fun a b c d e f g _=>⟨a,b,c,d,e,f,g,x⟩) n⟩
def d8 {α:Type} (r:Nat):Ac (N8 α) α:=Bool.rec (motive:=fun _=>Ac (N8 α) α) (Bool.rec (motive:=fun _=>Ac (N8 α) α) (Bool.rec (motive:=fun _=>Ac (N8 α) α) (Bool.rec (motive:=fun _=>Ac (N8 α) α) (Bool.rec (motive:=fun _=>Ac (N8 α) α) (Bool.rec (motive:=fun _=>Ac (N8 α) α) (Bool.rec (motive:=fun _=>Ac (N8 α) α) (Ac.dh) Ac.dg (Nat.beq r 6)) Ac.df (Nat.beq r 5)) Ac.de (Nat.beq r 4)) Ac.dd (Nat.beq r 3)) Ac.dc (Nat.beq r 2)) Ac.db (Nat.beq r 1)) Ac.da (Nat.beq r 0)
def Ac.comp3 {s0 s1 s2 s3:Type} (f1:Ac s0 s1) (f2:Ac s1 s2) (f3:Ac s2 s3):Ac s0 s3:=
 Ac.rec (motive:=fun _=>Ac s0 s3) (fun g1 p1=>Ac.rec (motive:=fun _=>Ac s0 s3) (fun g2 p2=>Ac.rec (motive:=fun _=>Ac s0 s3) (fun g3 p3=>⟨fun s=>(g3 (g2 (g1 s))),fun x s=>(p1 (p2 (p3 x (g2 (g1 s))) (g1 s)) s)⟩) f3) f2) f1
def Ac.comp4 {s0 s1 s2 s3 s4:Type} (f1:Ac s0 s1) (f2:Ac s1 s2) (f3:Ac s2 s3) (f4:Ac s3 s4):Ac s0 s4:=
 Ac.rec (motive:=fun _=>Ac s0 s4) (fun g1 p1=>Ac.rec (motive:=fun _=>Ac s0 s4) (fun g2 p2=>Ac.rec (motive:=fun _=>Ac s0 s4) (fun g3 p3=>Ac.rec (motive:=fun _=>Ac s0 s4) (fun g4 p4=>⟨fun s=>(g4 (g3 (g2 (g1 s)))),fun x s=>(p1 (p2 (p3 (p4 x (g3 (g2 (g1 s)))) (g2 (g1 s))) (g1 s)) s)⟩) f4) f3) f2) f1
def Ac.comp6 {s0 s1 s2 s3 s4 s5 s6:Type} (f1:Ac s0 s1) (f2:Ac s1 s2) (f3:Ac s2 s3) (f4:Ac s3 s4) (f5:Ac s4 s5) (f6:Ac s5 s6):Ac s0 s6:=
 Ac.rec (motive:=fun _=>Ac s0 s6) (fun g1 p1=>Ac.rec (motive:=fun _=>Ac s0 s6) (fun g2 p2=>Ac.rec (motive:=fun _=>Ac s0 s6) (fun g3 p3=>Ac.rec (motive:=fun _=>Ac s0 s6) (fun g4 p4=>Ac.rec (motive:=fun _=>Ac s0 s6) (fun g5 p5=>Ac.rec (motive:=fun _=>Ac s0 s6) (fun g6 p6=>⟨fun s=>(g6 (g5 (g4 (g3 (g2 (g1 s)))))),fun x s=>(p1 (p2 (p3 (p4 (p5 (p6 x (g5 (g4 (g3 (g2 (g1 s)))))) (g4 (g3 (g2 (g1 s))))) (g3 (g2 (g1 s)))) (g2 (g1 s))) (g1 s)) s)⟩) f6) f5) f4) f3) f2) f1
def dig (i k:Nat):Nat:=Nat.mod (Nat.div i k) 8
abbrev T3 (α:Type):=N8 (N8 (N8 α))
abbrev T4 (α:Type):=N8 (T3 α)
abbrev T6 (α:Type):=N8 (N8 (T4 α))
def cj {α:Type} (i:Nat):Ac (T3 α) α:=Ac.comp3 (d8 (dig i 64)) (d8 (dig i 8)) (d8 (dig i 1))
def sU {α:Type} (i:Nat):Ac (T4 α) α:=Ac.comp4 (d8 (dig i 512)) (d8 (dig i 64)) (d8 (dig i 8)) (d8 (dig i 1))
def vT {α:Type} (i:Nat):Ac (T6 α) α:=Ac.comp6 (d8 (dig i 32768)) (d8 (dig i 4096)) (d8 (dig i 512)) (d8 (dig i 64)) (d8 (dig i 8)) (d8 (dig i 1))
def Cw {α:Type} (x:α):N8 α:=⟨x,x,x,x,x,x,x,x⟩
def FR {α:Type} (x:α):T3 α:=Cw (Cw (Cw x))
def OW {α:Type} (x:α):T4 α:=Cw (FR x)
def LM {α:Type} (x:α):T6 α:=Cw (Cw (OW x))
structure Ac.Law {σ α:Type} (f:Ac σ α):Prop where
 same :∀ x s,f.get (f.put x s)=x
structure Ac.Apart {σ α:Type} (f g:Ac σ α):Prop where
 l :∀ x s,g.get (f.put x s)=g.get s
theorem aL {α:Type} (r:Nat) :(d8 r:Ac (N8 α) α).Law:=by
 constructor
 intro x s
 unfold d8
 cases Nat.beq r 0
 case true=>rfl
 cases Nat.beq r 1
 case true=>rfl
 cases Nat.beq r 2
 case true=>rfl
 cases Nat.beq r 3
 case true=>rfl
 cases Nat.beq r 4
 case true=>rfl
 cases Nat.beq r 5
 case true=>rfl
 cases Nat.beq r 6
 case true=>rfl
 rfl
theorem cm {α:Type} :∀ {r s:Nat},r<8→s<8→r≠s→(d8 r:Ac (N8 α) α).Apart (d8 s):=by
 intro r s hr hs h
 constructor
 intro x n
 match r,s,hr,hs,h with
 | 0,0,_,_,h=>exact absurd rfl h
 | 0,1,_,_,h=>rfl
 | 0,2,_,_,h=>rfl
 | 0,3,_,_,h=>rfl
 | 0,4,_,_,h=>rfl
 | 0,5,_,_,h=>rfl
 | 0,6,_,_,h=>rfl
 | 0,7,_,_,h=>rfl
 | 1,0,_,_,h=>rfl
 | 1,1,_,_,h=>exact absurd rfl h
 | 1,2,_,_,h=>rfl
 | 1,3,_,_,h=>rfl
 | 1,4,_,_,h=>rfl
 | 1,5,_,_,h=>rfl
 | 1,6,_,_,h=>rfl
 | 1,7,_,_,h=>rfl
 | 2,0,_,_,h=>rfl
 | 2,1,_,_,h=>rfl
 | 2,2,_,_,h=>exact absurd rfl h
 | 2,3,_,_,h=>rfl
 | 2,4,_,_,h=>rfl
 | 2,5,_,_,h=>rfl
 | 2,6,_,_,h=>rfl
 | 2,7,_,_,h=>rfl
 | 3,0,_,_,h=>rfl
 | 3,1,_,_,h=>rfl
 | 3,2,_,_,h=>rfl
 | 3,3,_,_,h=>exact absurd rfl h
 | 3,4,_,_,h=>rfl
 | 3,5,_,_,h=>rfl
 | 3,6,_,_,h=>rfl
 | 3,7,_,_,h=>rfl
 | 4,0,_,_,h=>rfl
 | 4,1,_,_,h=>rfl
 | 4,2,_,_,h=>rfl
 | 4,3,_,_,h=>rfl
 | 4,4,_,_,h=>exact absurd rfl h
 | 4,5,_,_,h=>rfl
 | 4,6,_,_,h=>rfl
 | 4,7,_,_,h=>rfl
 | 5,0,_,_,h=>rfl
 | 5,1,_,_,h=>rfl
 | 5,2,_,_,h=>rfl
 | 5,3,_,_,h=>rfl
 | 5,4,_,_,h=>rfl
 | 5,5,_,_,h=>exact absurd rfl h
 | 5,6,_,_,h=>rfl
 | 5,7,_,_,h=>rfl
 | 6,0,_,_,h=>rfl
 | 6,1,_,_,h=>rfl
 | 6,2,_,_,h=>rfl
 | 6,3,_,_,h=>rfl
 | 6,4,_,_,h=>rfl
 | 6,5,_,_,h=>rfl
 | 6,6,_,_,h=>exact absurd rfl h
 | 6,7,_,_,h=>rfl
 | 7,0,_,_,h=>rfl
 | 7,1,_,_,h=>rfl
 | 7,2,_,_,h=>rfl
 | 7,3,_,_,h=>rfl
 | 7,4,_,_,h=>rfl
 | 7,5,_,_,h=>rfl
 | 7,6,_,_,h=>rfl
 | 7,7,_,_,h=>exact absurd rfl h
theorem EP {s0 s1 s2 s3:Type} {f1:Ac s0 s1} {f2:Ac s1 s2} {f3:Ac s2 s3} (h1:f1.Law) (h2:f2.Law) (h3:f3.Law) :(Ac.comp3 f1 f2 f3).Law:=by
 constructor
 intro x s
 show f3.get (f2.get (f1.get ((Ac.comp3 f1 f2 f3).put x s)))=x
 show f3.get (f2.get (f1.get ((f1.put (f2.put (f3.put x (f2.get (f1.get s))) (f1.get s)) s))))=x
 rw [h1.same,h2.same,h3.same]
theorem v8 {s0 s1 s2 s3:Type} {f1:Ac s0 s1} {f2:Ac s1 s2} {f3:Ac s2 s3} {g1:Ac s0 s1} {g2:Ac s1 s2} {g3:Ac s2 s3} (h:f1.Apart g1) :(Ac.comp3 f1 f2 f3).Apart (Ac.comp3 g1 g2 g3):=by
 constructor
 intro x s
 show g3.get (g2.get (g1.get ((f1.put (f2.put (f3.put x (f2.get (f1.get s))) (f1.get s)) s))))=g3.get (g2.get (g1.get (s)))
 rw [h.l]
theorem wa {s0 s1 s2 s3:Type} {f1:Ac s0 s1} {f2:Ac s1 s2} {f3:Ac s2 s3} {g2:Ac s1 s2} {g3:Ac s2 s3} (h1:f1.Law) (h:f2.Apart g2) :(Ac.comp3 f1 f2 f3).Apart (Ac.comp3 f1 g2 g3):=by
 constructor
 intro x s
 show g3.get (g2.get (f1.get ((f1.put (f2.put (f3.put x (f2.get (f1.get s))) (f1.get s)) s))))=g3.get (g2.get (f1.get (s)))
 rw [h1.same,h.l]
theorem wb {s0 s1 s2 s3:Type} {f1:Ac s0 s1} {f2:Ac s1 s2} {f3:Ac s2 s3} {g3:Ac s2 s3} (h1:f1.Law) (h2:f2.Law) (h:f3.Apart g3) :(Ac.comp3 f1 f2 f3).Apart (Ac.comp3 f1 f2 g3):=by
 constructor
 intro x s
 show g3.get (f2.get (f1.get ((f1.put (f2.put (f3.put x (f2.get (f1.get s))) (f1.get s)) s))))=g3.get (f2.get (f1.get (s)))
 rw [h1.same,h2.same,h.l]
theorem ER {s0 s1 s2 s3 s4:Type} {f1:Ac s0 s1} {f2:Ac s1 s2} {f3:Ac s2 s3} {f4:Ac s3 s4} (h1:f1.Law) (h2:f2.Law) (h3:f3.Law) (h4:f4.Law) :(Ac.comp4 f1 f2 f3 f4).Law:=by
 constructor
 intro x s
 show f4.get (f3.get (f2.get (f1.get ((Ac.comp4 f1 f2 f3 f4).put x s))))=x
 show f4.get (f3.get (f2.get (f1.get ((f1.put (f2.put (f3.put (f4.put x (f3.get (f2.get (f1.get s)))) (f2.get (f1.get s))) (f1.get s)) s)))))=x
 rw [h1.same,h2.same,h3.same,h4.same]
theorem wc {s0 s1 s2 s3 s4:Type} {f1:Ac s0 s1} {f2:Ac s1 s2} {f3:Ac s2 s3} {f4:Ac s3 s4} {g1:Ac s0 s1} {g2:Ac s1 s2} {g3:Ac s2 s3} {g4:Ac s3 s4} (h:f1.Apart g1) :(Ac.comp4 f1 f2 f3 f4).Apart (Ac.comp4 g1 g2 g3 g4):=by
 constructor
 intro x s
 show g4.get (g3.get (g2.get (g1.get ((f1.put (f2.put (f3.put (f4.put x (f3.get (f2.get (f1.get s)))) (f2.get (f1.get s))) (f1.get s)) s)))))=g4.get (g3.get (g2.get (g1.get (s))))
 rw [h.l]
theorem we {s0 s1 s2 s3 s4:Type} {f1:Ac s0 s1} {f2:Ac s1 s2} {f3:Ac s2 s3} {f4:Ac s3 s4} {g2:Ac s1 s2} {g3:Ac s2 s3} {g4:Ac s3 s4} (h1:f1.Law) (h:f2.Apart g2) :(Ac.comp4 f1 f2 f3 f4).Apart (Ac.comp4 f1 g2 g3 g4):=by
 constructor
 intro x s
 show g4.get (g3.get (g2.get (f1.get ((f1.put (f2.put (f3.put (f4.put x (f3.get (f2.get (f1.get s)))) (f2.get (f1.get s))) (f1.get s)) s)))))=g4.get (g3.get (g2.get (f1.get (s))))
 rw [h1.same,h.l]
theorem wg {s0 s1 s2 s3 s4:Type} {f1:Ac s0 s1} {f2:Ac s1 s2} {f3:Ac s2 s3} {f4:Ac s3 s4} {g3:Ac s2 s3} {g4:Ac s3 s4} (h1:f1.Law) (h2:f2.Law) (h:f3.Apart g3) :(Ac.comp4 f1 f2 f3 f4).Apart (Ac.comp4 f1 f2 g3 g4):=by
 constructor
 intro x s
 show g4.get (g3.get (f2.get (f1.get ((f1.put (f2.put (f3.put (f4.put x (f3.get (f2.get (f1.get s)))) (f2.get (f1.get s))) (f1.get s)) s)))))=g4.get (g3.get (f2.get (f1.get (s))))
 rw [h1.same,h2.same,h.l]
theorem wi {s0 s1 s2 s3 s4:Type} {f1:Ac s0 s1} {f2:Ac s1 s2} {f3:Ac s2 s3} {f4:Ac s3 s4} {g4:Ac s3 s4} (h1:f1.Law) (h2:f2.Law) (h3:f3.Law) (h:f4.Apart g4) :(Ac.comp4 f1 f2 f3 f4).Apart (Ac.comp4 f1 f2 f3 g4):=by
 constructor
 intro x s
 show g4.get (f3.get (f2.get (f1.get ((f1.put (f2.put (f3.put (f4.put x (f3.get (f2.get (f1.get s)))) (f2.get (f1.get s))) (f1.get s)) s)))))=g4.get (f3.get (f2.get (f1.get (s))))
 rw [h1.same,h2.same,h3.same,h.l]
theorem ES {s0 s1 s2 s3 s4 s5 s6:Type} {f1:Ac s0 s1} {f2:Ac s1 s2} {f3:Ac s2 s3} {f4:Ac s3 s4} {f5:Ac s4 s5} {f6:Ac s5 s6} (h1:f1.Law) (h2:f2.Law) (h3:f3.Law) (h4:f4.Law) (h5:f5.Law) (h6:f6.Law) :(Ac.comp6 f1 f2 f3 f4 f5 f6).Law:=by
 constructor
 intro x s
 show f6.get (f5.get (f4.get (f3.get (f2.get (f1.get ((Ac.comp6 f1 f2 f3 f4 f5 f6).put x s))))))=x
 show f6.get (f5.get (f4.get (f3.get (f2.get (f1.get ((f1.put (f2.put (f3.put (f4.put (f5.put (f6.put x (f5.get (f4.get (f3.get (f2.get (f1.get s)))))) (f4.get (f3.get (f2.get (f1.get s))))) (f3.get (f2.get (f1.get s)))) (f2.get (f1.get s))) (f1.get s)) s)))))))=x
 rw [h1.same,h2.same,h3.same,h4.same,h5.same,h6.same]
theorem wj {s0 s1 s2 s3 s4 s5 s6:Type} {f1:Ac s0 s1} {f2:Ac s1 s2} {f3:Ac s2 s3} {f4:Ac s3 s4} {f5:Ac s4 s5} {f6:Ac s5 s6} {g1:Ac s0 s1} {g2:Ac s1 s2} {g3:Ac s2 s3} {g4:Ac s3 s4} {g5:Ac s4 s5} {g6:Ac s5 s6} (h:f1.Apart g1) :(Ac.comp6 f1 f2 f3 f4 f5 f6).Apart (Ac.comp6 g1 g2 g3 g4 g5 g6):=by
 constructor
 intro x s
 show g6.get (g5.get (g4.get (g3.get (g2.get (g1.get ((f1.put (f2.put (f3.put (f4.put (f5.put (f6.put x (f5.get (f4.get (f3.get (f2.get (f1.get s)))))) (f4.get (f3.get (f2.get (f1.get s))))) (f3.get (f2.get (f1.get s)))) (f2.get (f1.get s))) (f1.get s)) s)))))))=g6.get (g5.get (g4.get (g3.get (g2.get (g1.get (s))))))
 rw [h.l]
theorem wk {s0 s1 s2 s3 s4 s5 s6:Type} {f1:Ac s0 s1} {f2:Ac s1 s2} {f3:Ac s2 s3} {f4:Ac s3 s4} {f5:Ac s4 s5} {f6:Ac s5 s6} {g2:Ac s1 s2} {g3:Ac s2 s3} {g4:Ac s3 s4} {g5:Ac s4 s5} {g6:Ac s5 s6} (h1:f1.Law) (h:f2.Apart g2) :(Ac.comp6 f1 f2 f3 f4 f5 f6).Apart (Ac.comp6 f1 g2 g3 g4 g5 g6):=by
 constructor
 intro x s
 show g6.get (g5.get (g4.get (g3.get (g2.get (f1.get ((f1.put (f2.put (f3.put (f4.put (f5.put (f6.put x (f5.get (f4.get (f3.get (f2.get (f1.get s)))))) (f4.get (f3.get (f2.get (f1.get s))))) (f3.get (f2.get (f1.get s)))) (f2.get (f1.get s))) (f1.get s)) s)))))))=g6.get (g5.get (g4.get (g3.get (g2.get (f1.get (s))))))
 rw [h1.same,h.l]
theorem wm {s0 s1 s2 s3 s4 s5 s6:Type} {f1:Ac s0 s1} {f2:Ac s1 s2} {f3:Ac s2 s3} {f4:Ac s3 s4} {f5:Ac s4 s5} {f6:Ac s5 s6} {g3:Ac s2 s3} {g4:Ac s3 s4} {g5:Ac s4 s5} {g6:Ac s5 s6} (h1:f1.Law) (h2:f2.Law) (h:f3.Apart g3) :(Ac.comp6 f1 f2 f3 f4 f5 f6).Apart (Ac.comp6 f1 f2 g3 g4 g5 g6):=by
 constructor
 intro x s
 show g6.get (g5.get (g4.get (g3.get (f2.get (f1.get ((f1.put (f2.put (f3.put (f4.put (f5.put (f6.put x (f5.get (f4.get (f3.get (f2.get (f1.get s)))))) (f4.get (f3.get (f2.get (f1.get s))))) (f3.get (f2.get (f1.get s)))) (f2.get (f1.get s))) (f1.get s)) s)))))))=g6.get (g5.get (g4.get (g3.get (f2.get (f1.get (s))))))
 rw [h1.same,h2.same,h.l]
theorem wo {s0 s1 s2 s3 s4 s5 s6:Type} {f1:Ac s0 s1} {f2:Ac s1 s2} {f3:Ac s2 s3} {f4:Ac s3 s4} {f5:Ac s4 s5} {f6:Ac s5 s6} {g4:Ac s3 s4} {g5:Ac s4 s5} {g6:Ac s5 s6} (h1:f1.Law) (h2:f2.Law) (h3:f3.Law) (h:f4.Apart g4) :(Ac.comp6 f1 f2 f3 f4 f5 f6).Apart (Ac.comp6 f1 f2 f3 g4 g5 g6):=by
 constructor
 intro x s
 show g6.get (g5.get (g4.get (f3.get (f2.get (f1.get ((f1.put (f2.put (f3.put (f4.put (f5.put (f6.put x (f5.get (f4.get (f3.get (f2.get (f1.get s)))))) (f4.get (f3.get (f2.get (f1.get s))))) (f3.get (f2.get (f1.get s)))) (f2.get (f1.get s))) (f1.get s)) s)))))))=g6.get (g5.get (g4.get (f3.get (f2.get (f1.get (s))))))
 rw [h1.same,h2.same,h3.same,h.l]
theorem wq {s0 s1 s2 s3 s4 s5 s6:Type} {f1:Ac s0 s1} {f2:Ac s1 s2} {f3:Ac s2 s3} {f4:Ac s3 s4} {f5:Ac s4 s5} {f6:Ac s5 s6} {g5:Ac s4 s5} {g6:Ac s5 s6} (h1:f1.Law) (h2:f2.Law) (h3:f3.Law) (h4:f4.Law) (h:f5.Apart g5) :(Ac.comp6 f1 f2 f3 f4 f5 f6).Apart (Ac.comp6 f1 f2 f3 f4 g5 g6):=by
 constructor
 intro x s
 show g6.get (g5.get (f4.get (f3.get (f2.get (f1.get ((f1.put (f2.put (f3.put (f4.put (f5.put (f6.put x (f5.get (f4.get (f3.get (f2.get (f1.get s)))))) (f4.get (f3.get (f2.get (f1.get s))))) (f3.get (f2.get (f1.get s)))) (f2.get (f1.get s))) (f1.get s)) s)))))))=g6.get (g5.get (f4.get (f3.get (f2.get (f1.get (s))))))
 rw [h1.same,h2.same,h3.same,h4.same,h.l]
theorem wu {s0 s1 s2 s3 s4 s5 s6:Type} {f1:Ac s0 s1} {f2:Ac s1 s2} {f3:Ac s2 s3} {f4:Ac s3 s4} {f5:Ac s4 s5} {f6:Ac s5 s6} {g6:Ac s5 s6} (h1:f1.Law) (h2:f2.Law) (h3:f3.Law) (h4:f4.Law) (h5:f5.Law) (h:f6.Apart g6) :(Ac.comp6 f1 f2 f3 f4 f5 f6).Apart (Ac.comp6 f1 f2 f3 f4 f5 g6):=by
 constructor
 intro x s
 show g6.get (f5.get (f4.get (f3.get (f2.get (f1.get ((f1.put (f2.put (f3.put (f4.put (f5.put (f6.put x (f5.get (f4.get (f3.get (f2.get (f1.get s)))))) (f4.get (f3.get (f2.get (f1.get s))))) (f3.get (f2.get (f1.get s)))) (f2.get (f1.get s))) (f1.get s)) s)))))))=g6.get (f5.get (f4.get (f3.get (f2.get (f1.get (s))))))
 rw [h1.same,h2.same,h3.same,h4.same,h5.same,h.l]
theorem gH {α:Type} (i:Nat) (x:α) (s:T3 α) :(cj i).get ((cj i).put x s)=x:=(EP (aL _) (aL _) (aL _)).same x s
theorem C8 {α:Type} {i j:Nat} (hi:i<512) (hj:j<512) (h:i≠j) (x:α) (s:T3 α) :(cj j).get ((cj i).put x s) =(cj j).get s:=by
 unfold cj
 by_cases e1:dig i 64=dig j 64
 case neg=>exact (v8 (cm (Nat.mod_lt _ (by decide)) (Nat.mod_lt _ (by decide)) e1)).l x s
 by_cases e2:dig i 8=dig j 8
 case neg=>rw [←e1];exact (wa (aL _) (cm (Nat.mod_lt _ (by decide)) (Nat.mod_lt _ (by decide)) e2)).l x s
 by_cases e3:dig i 1=dig j 1
 case neg=>rw [←e1,←e2];exact (wb (aL _) (aL _) (cm (Nat.mod_lt _ (by decide)) (Nat.mod_lt _ (by decide)) e3)).l x s
 exfalso
 have q1:i / 64 % 8=j / 64 % 8:=e1
 have q2:i / 8 % 8=j / 8 % 8:=e2
 have q3:i / 1 % 8=j / 1 % 8:=e3
 omega
theorem EB {α:Type} (i:Nat) (x:α) (s:T4 α) :(sU i).get ((sU i).put x s)=x:=(ER (aL _) (aL _) (aL _) (aL _)).same x s
theorem Kg {α:Type} {i j:Nat} (hi:i<4096) (hj:j<4096) (h:i≠j) (x:α) (s:T4 α) :(sU j).get ((sU i).put x s) =(sU j).get s:=by
 unfold sU
 by_cases e1:dig i 512=dig j 512
 case neg=>exact (wc (cm (Nat.mod_lt _ (by decide)) (Nat.mod_lt _ (by decide)) e1)).l x s
 by_cases e2:dig i 64=dig j 64
 case neg=>rw [←e1];exact (we (aL _) (cm (Nat.mod_lt _ (by decide)) (Nat.mod_lt _ (by decide)) e2)).l x s
 by_cases e3:dig i 8=dig j 8
 case neg=>rw [←e1,←e2];exact (wg (aL _) (aL _) (cm (Nat.mod_lt _ (by decide)) (Nat.mod_lt _ (by decide)) e3)).l x s
 by_cases e4:dig i 1=dig j 1
 case neg=>rw [←e1,←e2,←e3];exact (wi (aL _) (aL _) (aL _) (cm (Nat.mod_lt _ (by decide)) (Nat.mod_lt _ (by decide)) e4)).l x s
 exfalso
 have q1:i / 512 % 8=j / 512 % 8:=e1
 have q2:i / 64 % 8=j / 64 % 8:=e2
 have q3:i / 8 % 8=j / 8 % 8:=e3
 have q4:i / 1 % 8=j / 1 % 8:=e4
 omega
theorem EC {α:Type} (i:Nat) (x:α) (s:T6 α) :(vT i).get ((vT i).put x s)=x:=(ES (aL _) (aL _) (aL _) (aL _) (aL _) (aL _)).same x s
theorem Kh {α:Type} {i j:Nat} (hi:i<262144) (hj:j<262144) (h:i≠j) (x:α) (s:T6 α) :(vT j).get ((vT i).put x s) =(vT j).get s:=by
 unfold vT
 by_cases e1:dig i 32768=dig j 32768
 case neg=>exact (wj (cm (Nat.mod_lt _ (by decide)) (Nat.mod_lt _ (by decide)) e1)).l x s
 by_cases e2:dig i 4096=dig j 4096
 case neg=>rw [←e1];exact (wk (aL _) (cm (Nat.mod_lt _ (by decide)) (Nat.mod_lt _ (by decide)) e2)).l x s
 by_cases e3:dig i 512=dig j 512
 case neg=>rw [←e1,←e2];exact (wm (aL _) (aL _) (cm (Nat.mod_lt _ (by decide)) (Nat.mod_lt _ (by decide)) e3)).l x s
 by_cases e4:dig i 64=dig j 64
 case neg=>rw [←e1,←e2,←e3];exact (wo (aL _) (aL _) (aL _) (cm (Nat.mod_lt _ (by decide)) (Nat.mod_lt _ (by decide)) e4)).l x s
 by_cases e5:dig i 8=dig j 8
 case neg=>rw [←e1,←e2,←e3,←e4];exact (wq (aL _) (aL _) (aL _) (aL _) (cm (Nat.mod_lt _ (by decide)) (Nat.mod_lt _ (by decide)) e5)).l x s
 by_cases e6:dig i 1=dig j 1
 case neg=>rw [←e1,←e2,←e3,←e4,←e5];exact (wu (aL _) (aL _) (aL _) (aL _) (aL _) (cm (Nat.mod_lt _ (by decide)) (Nat.mod_lt _ (by decide)) e6)).l x s
 exfalso
 have q1:i / 32768 % 8=j / 32768 % 8:=e1
 have q2:i / 4096 % 8=j / 4096 % 8:=e2
 have q3:i / 512 % 8=j / 512 % 8:=e3
 have q4:i / 64 % 8=j / 64 % 8:=e4
 have q5:i / 8 % 8=j / 8 % 8:=e5
 have q6:i / 1 % 8=j / 1 % 8:=e6
 omega
theorem jN {α:Type} (r:Nat) (x:α) :(d8 r:Ac (N8 α) α).get (Cw x)=x:=by
 unfold d8
 cases Nat.beq r 0
 case true=>rfl
 cases Nat.beq r 1
 case true=>rfl
 cases Nat.beq r 2
 case true=>rfl
 cases Nat.beq r 3
 case true=>rfl
 cases Nat.beq r 4
 case true=>rfl
 cases Nat.beq r 5
 case true=>rfl
 cases Nat.beq r 6
 case true=>rfl
 rfl
theorem Gp {α:Type} (i:Nat) (x:α) :(cj i).get (FR x)=x:=by
 show (d8 _).get ((d8 _).get ((d8 _).get (FR x)))=x
 unfold FR
 rw [jN,jN,jN]
theorem Gq {α:Type} (i:Nat) (x:α) :(vT i).get (LM x)=x:=by
 show (d8 _).get ((d8 _).get ((d8 _).get ((d8 _).get ((d8 _).get ((d8 _).get (LM x))))))=x
 unfold LM OW FR
 rw [jN,jN,jN,jN,jN,jN]
end
end Go.Mir
