/- Texts of the mirror and contracts, put together. -/
import Derived.Test.YtkgplaoappjkcaaGreatPS3
namespace Go.Proofs.YtkgplaoappjkcaaGreat
open Go Go.Mir
abbrev K8:Nat:=8
def QZ (l:uU) (n:Nat):Cfg:=⟨tbl,find l,K8,n⟩
def cf8 (l:uU) (fn:Func):Cfg:=QZ l fn.ntmps
theorem bp {l:uU} (h:CtrsOK Tryz.prog K8 l) (n:Nat):CfgOK Tryz.prog (QZ l n):=⟨Eh,by show 1≤K8;decide,h⟩
def HG:Nat→List V→List V×List RowD
 | _,[]=>([],[])
 | k,.fsl t xs::r=>(.osl k k ::(HG (k+1) r).1,⟨t,xs⟩ ::(HG (k+1) r).2)
 | k,v::r=>(v ::(HG k r).1,(HG k r).2)
def Bf (x:Innings):V:= .agg (HG 0 (flat fC (.nm .Innings) x)).1
def se (x:Innings):List RowD:=(HG 0 (flat fC (.nm .Innings) x)).2
def aX (x:Innings) (p:Int):Bool:=decide (p≥1)&&decide (p≤(x.Subs.length:Int))
def QH (x:Innings) (p:Int):Bool:=x.Subs.getD (p - 1).toNat false
def aF (x:Innings) (p:Int):Bool:=aX x p&&QH x p
def cw (over:Int) (p:Phase):Bool:=decide (p.From≤IntKind.i64.wrap (over+1))&&decide (IntKind.i64.wrap (over+1)≤p.To)
def bQ (r:Rules) (over:Int):Int:=((r.Power.find? (cw over)).map Phase.Outside).getD r.Outside
def ei (r:Rules) (x:Innings):Int:=
 if !aX x x.Keeper||aF x x.Keeper||x.Keeper==x.Bowler then 17 else if x.Outside>bQ r x.Complete then 16 else 0
def zH (x:Innings) (d:Delivery):Int:=
 if d.Fielder>0 then (if !aX x d.Fielder then 3 else if aF x d.Fielder != d.Sub then 18 else 0) else 0
def zN (x:Innings) (d:Delivery):Int:=
 if d.Second>0 then (if !aX x d.Second then 3 else if aF x d.Second then 18 else 0) else 0
def cP (x:Innings) (d:Delivery):Int:=
 if zH x d != 0 then zH x d else if zN x d != 0 then zN x d
 else if d.How==4&&qN d.Fielder 0 != x.Keeper then 17 else 0
def af (x:Innings) (p:Int):Innings:=if !aX x p then x else if aF x p then x else if p==x.Bowler||p==x.Keeper then x else { x with Keeper:=p }
def bO (x:Innings) (p:Int):Int:=if !aX x p then 3 else if aF x p then 18 else if p==x.Bowler||p==x.Keeper then 17 else 0
def lJ (x:Innings) (p:Int) (on:Bool):Innings:=
 { x with Subs:=x.Subs.set (p - 1).toNat on,Keeper:=bif on&&x.Keeper==p then 0 else x.Keeper,Bowler:=bif on&&x.Bowler==p then 0 else x.Bowler }
def an (x:Innings) (p:Int) (on:Bool):Innings:=if !aX x p then x else if aF x p==on then x else lJ x p on
def de (x:Innings) (p:Int) (on:Bool):Int:=if !aX x p then 3 else if aF x p==on then 18 else 0
def j5 (x:Innings) (n:Int):Bool:=decide (n<0)||decide (n >(x.Subs.length:Int) - 2)
def am (x:Innings) (n:Int):Innings:=if j5 x n then x else { x with Outside:=n }
def cJ (x:Innings) (n:Int):Int:=if j5 x n then 16 else 0
def aj (x:Innings):Prop:=x.Batters.length≤1000000∧x.Bowlers.length≤1000000∧x.Before.length≤1000000∧x.Bowled.length≤1000000∧x.Subs.length≤1000000
def psI:Ty:= .prod (.nm .Innings) .unit
def d8:Ty:= .prod (.nm .Innings) (.prod (.int .i64) .unit)
def vQ:Ty:= .prod (.nm .Innings) (.prod (.int .i64) (.prod .bool .unit))
def psR:Ty:= .prod (.nm .Rules) (.prod (.int .i64) .unit)
def pV:Ty:= .prod (.nm .Rules) (.prod (.nm .Innings) .unit)
def DR:Ty:= .prod (.nm .Innings) (.prod (.nm .Delivery) .unit)
def mj:Den d8→PRes:=fun x=>⟨[],.bool (aX x.1 x.2.1),[]⟩
def mv:Den d8→PRes:=fun x=>⟨[],.bool (aF x.1 x.2.1),[]⟩
def mi:Den psR→PRes:=fun x=>⟨[],.int .i64 (bQ x.1 x.2.1),[]⟩
def m4:Den pV→PRes:=fun x=>⟨[],.int .i64 (ei x.1 x.2.1),[]⟩
def mr:Den DR→PRes:=fun x=>⟨[],.int .i64 (cP x.1 x.2.1),[]⟩
def eQ:Den psI→PRes:=fun x=>⟨[aj x.1],Bf x.1,se x.1⟩
def mV:Den d8→PRes:=fun x=>⟨[aj x.1],.tup [Bf (af x.1 x.2.1),.int .i64 (bO x.1 x.2.1)],se (af x.1 x.2.1)⟩
def mJ:Den vQ→PRes:=fun x=>⟨[aj x.1],.tup [Bf (an x.1 x.2.1 x.2.2.1),.int .i64 (de x.1 x.2.1 x.2.2.1)],se (an x.1 x.2.1 x.2.2.1)⟩
def mG:Den d8→PRes:=fun x=>⟨[aj x.1],.tup [Bf (am x.1 x.2.1),.int .i64 (cJ x.1 x.2.1)],se (am x.1 x.2.1)⟩
def My:Ty:= .prod (.slice .bool) .unit
def zS:Den My→PRes:=fun x=>⟨[x.1.length≤1000000],.osl 0 0,[⟨.bool,x.1⟩]⟩
def MB:Ty:= .prod (.slice (.int .u8)) .unit
def AZ:Den MB→PRes:=fun x=>⟨[x.1.length≤1000000],.osl 0 0,[⟨.int .u8,x.1⟩]⟩
def L7:Ty:= .prod (.slice (.int .i64)) .unit
def zC:Den L7→PRes:=fun x=>⟨[x.1.length≤1000000],.osl 0 0,[⟨.int .i64,x.1⟩]⟩
def k73:FuncId×Ctr:=(170,ap K8 d8 mj)
def k76:FuncId×Ctr:=(216,ap K8 d8 mj)
def k74:FuncId×Ctr:=(171,ap K8 d8 mv)
def k72:FuncId×Ctr:=(217,ap K8 d8 mv)
def k75:FuncId×Ctr:=(199,ap K8 psR mi)
def k77:FuncId×Ctr:=(226,ap K8 psR mi)
def k40:FuncId×Ctr:=(182,ap K8 pV m4)
def k41:FuncId×Ctr:=(206,ap K8 pV m4)
def k42:FuncId×Ctr:=(184,ap K8 DR mr)
def k43:FuncId×Ctr:=(209,ap K8 DR mr)
def k78:FuncId×Ctr:=(169,ap K8 psI eQ)
def k44:FuncId×Ctr:=(147,ap K8 psI eQ)
def k66:FuncId×Ctr:=(138,ap K8 d8 mV)
def k68:FuncId×Ctr:=(192,ap K8 d8 mV)
def k46:FuncId×Ctr:=(139,ap K8 vQ mJ)
def k69:FuncId×Ctr:=(193,ap K8 vQ mJ)
def k67:FuncId×Ctr:=(137,ap K8 d8 mG)
def k70:FuncId×Ctr:=(191,ap K8 d8 mG)
def k45:FuncId×Ctr:=(84,ap K8 My zS)
def k90:FuncId×Ctr:=(82,ap K8 MB AZ)
def k91:FuncId×Ctr:=(83,ap K8 L7 zC)
def ut:Ty:= .prod (.slice (.int .i64)) (.prod (.int .i64) .unit)
def cE (xs:List Int) (v:Int):Bool:=xs.contains v
def m3:Den ut→PRes:=fun x=>⟨[],.bool (cE x.1 x.2.1),[]⟩
def zf:Den ut→PRes:=fun x=>⟨[],.int .i64 (idx x.1 x.2.1 0),[]⟩
def k47:FuncId×Ctr:=(105,ap K8 ut m3)
def k79:FuncId×Ctr:=(126,ap K8 ut zf)
def GC (xs:List Int) (v:Int) (i:Nat):Prop:=i≤xs.length∧v∉xs.take i
def L79 (i:Nat):List (Lspec Nat):= [.out [true] [] [],.next (i+1) [] [],.out [false] [] []]
def J79 (xs:List Int) (v:Int) (i:Nat):St:=⟨[(0,.fsl (.int .i64) xs),(1,.int .i64 v),(7,.int .i64 xs.length),(8,.int .i64 i)],[],fun _=>none,0⟩
def T79 (xs:List Int) (v:Int):Tr:= .br (xs.contains v) (.leaf .ret ⟨[(4,.int .i64 (idx xs v 0))],[]⟩ 0) (.leaf (.ext 0) ⟨[],[]⟩ 0)
def Λ79 (xs:List Int) (v:Int):Nat→Option LoopSum:=find [(2,b9 ⟨[],[],0⟩ (J79 xs v 0) (T79 xs v))]
def su (r:Rules) (o:Int) (i:Nat):Prop:=i≤r.Power.length∧∀ p∈r.Power.take i,cw o p=false
def L75 (i:Nat):List (Lspec Nat):= [.out [true] [] [],.next (i+1) [] [],.out [false] [] []]
def T75 (r:Rules) (o:Int):Tr:= .br (r.Power.any (cw o)) (.leaf .ret ⟨[(4,.int .i64 (bQ r o))],[]⟩ 48) (.leaf (.ext 0) ⟨[(2,.ptr 0 0)],[(0,.cells (flat fC (.nm .Rules) r))]⟩ 48)
def J75 (r:Rules) (o:Int) (i:Nat):St:=⟨[(1,.int .i64 o),(2,.ptr 0 0),(8,.fsl (.nm .Phase) r.Power),(9,.int .i64 r.Power.length),(10,.int .i64 i)],[(0,.cells (flat fC (.nm .Rules) r))],fun _=>none,48⟩
def Λ75 (r:Rules) (o:Int):Nat→Option LoopSum:=find [(2,b9 ⟨[],[],48⟩ (J75 r o 0) (T75 r o))]
end Go.Proofs.YtkgplaoappjkcaaGreat
namespace Go.Proofs.YtkgplaoappjkcaaGreat
open Go Go.Mir
def wtab:List dismissal_way:=
 [{ how:=0,name:={ data:=#[78,79,84,79,85,84] },fair:=false,wide:=false,no:=false,fielder:=false,either:=false },
  { how:=1,name:={ data:=#[66,79,87,76,69,68] },fair:=true,wide:=false,no:=false,fielder:=false,either:=false },
  { how:=2,name:={ data:=#[67,65,85,71,72,84] },fair:=true,wide:=false,no:=false,fielder:=true,either:=false },
  { how:=3,name:={ data:=#[76,66,87] },fair:=true,wide:=false,no:=false,fielder:=false,either:=false },
  { how:=4,name:={ data:=#[83,84,85,77,80,69,68] },fair:=true,wide:=true,no:=false,fielder:=true,either:=false },
  { how:=5,name:={ data:=#[72,73,84,87,73,67,75,69,84] },fair:=true,wide:=true,no:=false,fielder:=false,either:=false },
  { how:=6,name:={ data:=#[82,85,78,79,85,84] },fair:=true,wide:=true,no:=true,fielder:=true,either:=true },
  { how:=7,name:={ data:=#[72,73,84,84,87,73,67,69] },fair:=true,wide:=false,no:=true,fielder:=false,either:=false },
  { how:=8,name:={ data:=#[79,66,83,84,82,85,67,84,73,78,71] },fair:=true,wide:=true,no:=true,fielder:=false,either:=true },
  { how:=9,name:={ data:=#[84,73,77,69,68,79,85,84] },fair:=false,wide:=false,no:=false,fielder:=false,either:=false },
  { how:=10,name:={ data:=#[82,69,84,73,82,69,68] },fair:=false,wide:=false,no:=false,fielder:=false,either:=false }]
def onW (w:dismissal_way) (t:Int):Bool:=(t==1&&w.fair) ||(t==2&&w.wide) ||(t==3&&w.no)
def ofW (h:Int):dismissal_way:=(wtab.find? fun w=>w.how==h).getD dismissal_way.zero
def qx (w:dismissal_way) (t:Int) (free:Bool):Bool:=onW w t&&(!free||w.how==6||w.how==7||w.how==8)
def iq (t:Int) (free:Bool):List Int:=(wtab.filter fun w=>qx w t free).map dismissal_way.how
def lm (n:Int):Bool:=decide (n≥1)&&decide (n≤11)
def fI (d:Delivery) (w:dismissal_way):Bool:=
 !((w.fielder != lm d.Fielder) ||(!w.fielder&&d.Fielder != 0))&&(d.Second==0 ||(d.How==6&&lm d.Second&&d.Second != d.Fielder))
def bW (d:Delivery) (free:Bool):Int:=
 if d.How==0 then (if d.Victim != 0 then 14 else if d.Fielder != 0||d.Second != 0||d.Sub then 15 else 0)
 else if !(iq d.Typ free).contains d.How then 13
 else if !(d.How==6||d.How==8)&&(d.Source != 0||d.Runs != 0) then 12
 else if d.Victim != 1&&(d.Victim != 2||!(ofW d.How).either) then 14
 else if !fI d (ofW d.How) then 15
 else if d.Sub&&d.How != 2&&d.How != 6 then 18
 else 0
def fX (h:Int):Bool:=h==6||h==7||h==8
def onR (h t:Int):Bool:=
 if h==1||h==2||h==3 then t==1
 else if h==4||h==5 then t==1||t==2
 else if h==7 then t==1||t==3
 else if h==6||h==8 then t==1||t==2||t==3
 else false
def xx (h:Int):Bool:=h==6
def oo (h:Int):Bool:=h==2||h==4||h==6
def cf (d:Delivery) (free:Bool):Int:=
 if d.How==0 then (if d.Victim != 0 then 14 else if d.Fielder != 0||d.Second != 0||d.Sub then 15 else 0)
 else if !onR d.How d.Typ ||(free&&!fX d.How) then 13
 else if !(d.How==6||d.How==8)&&(d.Source != 0||d.Runs != 0) then 12
 else if d.Victim != 1&&!(d.Victim==2&&(d.How==6||d.How==8)) then 14
 else if (oo d.How&&(decide (d.Fielder<1)||decide (d.Fielder>11))) ||(!oo d.How&&d.Fielder != 0) then 15
 else if d.Second != 0&&(!(d.How==6)||decide (d.Second<1)||decide (d.Second>11)||d.Second==d.Fielder) then 15
 else if d.Sub&&d.How != 2&&d.How != 6 then 18
 else 0
def pc (xs:List Int) (v:Int):Bool:=xs.contains v
def LZ:Ty:= .unit
def zO:Den LZ→PRes:=fun _=>⟨[],.osl 0 0,[⟨.nm .dismissal_way,wtab⟩]⟩
def Mo:Ty:= .prod (.nm .dismissal_way) (.prod (.int .u8) .unit)
def Aw:Den Mo→PRes:=fun x=>⟨[],.bool (onW x.1 x.2.1),[]⟩
def sU:Ty:= .prod (.int .u8) .unit
def Bb:Den sU→PRes:=fun x=>⟨[],.agg (flat fC (.nm .dismissal_way) (ofW x.1)),[]⟩
def LS:Ty:= .prod (.int .u8) (.prod .bool .unit)
def Ba:Den LS→PRes:=fun x=>⟨[],.osl 0 0,[⟨.int .u8,iq x.1 x.2.1⟩]⟩
def MS:Ty:=HR
def Ac:Den MS→PRes:=fun x=>⟨[],.bool (pc x.1 x.2.1),[]⟩
def Mh:Ty:= .prod (.int .i64) .unit
def z7:Den Mh→PRes:=fun x=>⟨[],.bool (lm x.1),[]⟩
def LV:Ty:= .prod (.nm .Delivery) (.prod (.nm .dismissal_way) .unit)
def zG:Den LV→PRes:=fun x=>⟨[],.bool (fI x.1 x.2.1),[]⟩
def psP:Ty:= .prod (.nm .Delivery) (.prod .bool .unit)
def Ax:Den psP→PRes:=fun x=>⟨[],.int .i64 (bW x.1 x.2.1),[]⟩
def zR:Den psP→PRes:=fun x=>⟨[],.int .i64 (cf x.1 x.2.1),[]⟩
def Aj:Den sU→PRes:=fun x=>⟨[],.bool (fX x.1),[]⟩
def Mf:Ty:= .prod (.int .u8) (.prod (.int .u8) .unit)
def y8:Den Mf→PRes:=fun x=>⟨[],.bool (onR x.1 x.2.1),[]⟩
def zM:Den sU→PRes:=fun x=>⟨[],.tup [.bool (oo x.1),.bool (oo x.1),.bool (xx x.1)],[]⟩
def k61:FuncId×Ctr:=(219,ap KK LZ zO)
def k62:FuncId×Ctr:=(221,ap KK Mo Aw)
def k57:FuncId×Ctr:=(200,ap KK sU Bb)
def k20:FuncId×Ctr:=(202,ap KK LS Ba)
def k63:FuncId×Ctr:=(220,ap KK HR zy)
def k21:FuncId×Ctr:=(201,ap KK MS Ac)
def k89:FuncId×Ctr:=(222,ap KK Mh z7)
def k58:FuncId×Ctr:=(203,ap KK LV zG)
def k17:FuncId×Ctr:=(183,ap KK psP Ax)
def k18:FuncId×Ctr:=(208,ap KK psP zR)
def k60:FuncId×Ctr:=(231,ap KK sU Aj)
def k59:FuncId×Ctr:=(230,ap KK Mf y8)
def k29:FuncId×Ctr:=(229,ap KK sU zM)
def J57 (h:Int) (i:Nat):St:=⟨[(0,.int .u8 h),(2,.ptr 0 0),(5,.osl 4 4),(6,.int .i64 wtab.length),(7,.int .i64 i)],
 [(4,.row 4 true (.nm .dismissal_way) wtab),(0,.cells (flat fC (.nm .dismissal_way) dismissal_way.zero))],fun _=>none,16⟩
def T57 (h:Int):Tr:= .br (wtab.any fun w=>w.how==h) (.leaf .ret ⟨[(2,.ptr 0 0)],[(0,.cells (flat fC (.nm .dismissal_way) (ofW h)))]⟩ 16)
 (.leaf (.ext 0) ⟨[(2,.ptr 0 0)],[(0,.cells (flat fC (.nm .dismissal_way) dismissal_way.zero))]⟩ 16)
def FS (h:Int) (i:Nat):Prop:=i≤11∧∀ w∈wtab.take i,(w.how==h)=false
def L57 (i:Nat):List (Lspec Nat):= [.out [true] [] [],.next (i+1) [] [],.out [false] [] []]
def Λ57 (h:Int):Nat→Option LoopSum:=find [(2,b9 ⟨[],[],16⟩ (J57 h 0) (T57 h))]
def fE (t:Int) (free:Bool) (i:Nat):List Int:=((wtab.take i).filter fun w=>qx w t free).map dismissal_way.how
def J20 (t:Int) (free:Bool) (i:Nat):St:=⟨[(0,.int .u8 t),(1,.bool free),(5,.osl 16 17),(8,.osl 8 8),(9,.int .i64 wtab.length),(10,.int .i64 i)],
 [(8,.row 8 true (.nm .dismissal_way) wtab),(16,.row 17 true (.int .u8) (fE t free i))],fun _=>none,20⟩
def T20 (t:Int) (free:Bool):Tr:= .leaf (.ext 0) ⟨[(5,.osl 16 17)],[(16,.row 17 true (.int .u8) (iq t free))]⟩ 20
def L20 (i:Nat):List (Lspec Nat):= [.next (i+1) [(17,144)] [],.next (i+1) [] [],.out [] [] []]
def vH (i:Nat):Prop:=i≤11
def Λ20 (t:Int) (free:Bool):Nat→Option LoopSum:=find [(3,b9 ⟨[],[16],20⟩ (J20 t free 0) (T20 t free))]
end Go.Proofs.YtkgplaoappjkcaaGreat
namespace Go.Proofs.YtkgplaoappjkcaaGreat
open Go Go.Mir
attribute [local irreducible] Go.Mir.RT.sat Go.Mir.evFn Go.Mir.stepObl
theorem QU :(evFn (gN [] Tryz.f219) (fun _=>none) Tryz.f219 (bh LZ ())).sat fun v' rows=>leV v' (zO ()).v∧rows =(zO ()).rows:=by
 refine cast (by kernel_rfl) (?_ :(nat_lit 0=nat_lit 0∧nat_lit 0=nat_lit 0)∧ [RowD.mk (Ty.nm Nm.dismissal_way) [dismissal_way.mk (0:Int) (ByteArray.mk #[(78:UInt8),(79:UInt8),(84:UInt8),(79:UInt8),(85:UInt8),(84:UInt8)]) false false false false false,dismissal_way.mk (1:Int) (ByteArray.mk #[(66:UInt8),(79:UInt8),(87:UInt8),(76:UInt8),(69:UInt8),(68:UInt8)]) true false false false false,dismissal_way.mk (2:Int) (ByteArray.mk #[(67:UInt8),(65:UInt8),(85:UInt8),(71:UInt8),(72:UInt8),(84:UInt8)]) true false false true false,dismissal_way.mk (3:Int) (ByteArray.mk #[(76:UInt8),(66:UInt8),(87:UInt8)]) true false false false false,dismissal_way.mk (4:Int) (ByteArray.mk #[(83:UInt8),(84:UInt8),(85:UInt8),(77:UInt8),(80:UInt8),(69:UInt8),(68:UInt8)]) true true false true false,dismissal_way.mk (5:Int) (ByteArray.mk #[(72:UInt8),(73:UInt8),(84:UInt8),(87:UInt8),(73:UInt8),(67:UInt8),(75:UInt8),(69:UInt8),(84:UInt8)]) true true false false false,dismissal_way.mk (6:Int) (ByteArray.mk #[(82:UInt8),(85:UInt8),(78:UInt8),(79:UInt8),(85:UInt8),(84:UInt8)]) true true true true true,dismissal_way.mk (7:Int) (ByteArray.mk #[(72:UInt8),(73:UInt8),(84:UInt8),(84:UInt8),(87:UInt8),(73:UInt8),(67:UInt8),(69:UInt8)]) true false true false false,dismissal_way.mk (8:Int) (ByteArray.mk #[(79:UInt8),(66:UInt8),(83:UInt8),(84:UInt8),(82:UInt8),(85:UInt8),(67:UInt8),(84:UInt8),(73:UInt8),(78:UInt8),(71:UInt8)]) true true true false true,dismissal_way.mk (9:Int) (ByteArray.mk #[(84:UInt8),(73:UInt8),(77:UInt8),(69:UInt8),(68:UInt8),(79:UInt8),(85:UInt8),(84:UInt8)]) false false false false false,dismissal_way.mk (10:Int) (ByteArray.mk #[(82:UInt8),(69:UInt8),(84:UInt8),(73:UInt8),(82:UInt8),(69:UInt8),(68:UInt8)]) false false false false false]]=[RowD.mk (Ty.nm Nm.dismissal_way) wtab])
 exact ⟨⟨rfl,rfl⟩,by kernel_rfl⟩
theorem MA:CtrOK Tryz.prog KK 219 (ap KK LZ zO):=by
 refine aK (C:=gN [] Tryz.f219) (iy CtrsOK.nil _) mixed (fn:=Tryz.f219) Tryz.func219 (by kernel_rfl) (by kernel_rfl) (by kernel_rfl) (Λ:=fun _ _=>none) ?_ ?_ ?_
 ·exact fun _ _ _ _ _ _ _ _ h=>by cases h
 ·rintro ⟨⟩
  exact of_decide_eq_true (by kernel_rfl)
 ·rintro ⟨⟩ _ _
  exact QU
theorem Ry (w:dismissal_way) (t:Int) :(evFn (gN [] Tryz.f221) (fun _=>none) Tryz.f221 (bh Mo (w,t,()))).sat fun v' rows=>leV v' (Aw (w,t,())).v∧rows =(Aw (w,t,())).rows:=by
 refine cast (by kernel_rfl) (?_ :(bif t ==(1:Int) then bif w.3 then true else bif t ==(2:Int) then bif w.4 then true else bif t ==(3:Int) then w.5 else false else bif t ==(3:Int) then w.5 else false else bif t ==(2:Int) then bif w.4 then true else bif t ==(3:Int) then w.5 else false else bif t ==(3:Int) then w.5 else false)=onW w t∧([]:List RowD)=[])
 simp only [onW];grind
theorem RQ:CtrOK Tryz.prog KK 221 (ap KK Mo Aw):=by
 refine aK (C:=gN [] Tryz.f221) (iy CtrsOK.nil _) mixed (fn:=Tryz.f221) Tryz.func221 (by kernel_rfl) (by kernel_rfl) (by kernel_rfl) (Λ:=fun _ _=>none) ?_ ?_ ?_
 ·exact fun _ _ _ _ _ _ _ _ h=>by cases h
 ·rintro ⟨w,t,⟨⟩⟩
  exact of_decide_eq_true (by kernel_rfl)
 ·rintro ⟨w,t,⟨⟩⟩ _ _
  exact Ry w t
theorem QM (n:Int) :(evFn (gN [] Tryz.f222) (fun _=>none) Tryz.f222 (bh Mh (n,()))).sat fun v' rows=>leV v' (z7 (n,())).v∧rows =(z7 (n,())).rows:=by
 refine cast (by kernel_rfl) (?_ :(bif decide (n≥(1:Int)) then decide (n≤(11:Int)) else false)=lm n∧([]:List RowD)=[])
 simp only [lm];grind
theorem SM:CtrOK Tryz.prog KK 222 (ap KK Mh z7):=by
 refine aK (C:=gN [] Tryz.f222) (iy CtrsOK.nil _) mixed (fn:=Tryz.f222) Tryz.func222 (by kernel_rfl) (by kernel_rfl) (by kernel_rfl) (Λ:=fun _ _=>none) ?_ ?_ ?_
 ·exact fun _ _ _ _ _ _ _ _ h=>by cases h
 ·rintro ⟨n,⟨⟩⟩
  exact of_decide_eq_true (by kernel_rfl)
 ·rintro ⟨n,⟨⟩⟩ _ _
  exact QM n
theorem RL (n:Int) :(evFn (gN [] Tryz.f231) (fun _=>none) Tryz.f231 (bh sU (n,()))).sat fun v' rows=>leV v' (Aj (n,())).v∧rows =(Aj (n,())).rows:=by
 refine cast (by kernel_rfl) (?_ :(bif n ==(6:Int) then true else bif n ==(7:Int) then true else n ==(8:Int))=fX n∧([]:List RowD)=[])
 simp only [fX];grind
theorem Sz:CtrOK Tryz.prog KK 231 (ap KK sU Aj):=by
 refine aK (C:=gN [] Tryz.f231) (iy CtrsOK.nil _) mixed (fn:=Tryz.f231) Tryz.func231 (by kernel_rfl) (by kernel_rfl) (by kernel_rfl) (Λ:=fun _ _=>none) ?_ ?_ ?_
 ·exact fun _ _ _ _ _ _ _ _ h=>by cases h
 ·rintro ⟨n,⟨⟩⟩
  exact of_decide_eq_true (by kernel_rfl)
 ·rintro ⟨n,⟨⟩⟩ _ _
  exact RL n
theorem RB (n:Int) (t:Int) :(evFn (gN [] Tryz.f230) (fun _=>none) Tryz.f230 (bh Mf (n,t,()))).sat fun v' rows=>leV v' (y8 (n,t,())).v∧rows =(y8 (n,t,())).rows:=by
 refine cast (by kernel_rfl) (?_ :((bif n ==(1:Int) then n ==(1:Int) else bif n ==(2:Int) then n ==(2:Int) else n ==(3:Int))=true→(t ==(1:Int))=onR n t∧([]:List RowD)=[])∧((bif n ==(1:Int) then n ==(1:Int) else bif n ==(2:Int) then n ==(2:Int) else n ==(3:Int))=false→((bif n ==(4:Int) then n ==(4:Int) else n ==(5:Int))=true→(bif t ==(1:Int) then true else t ==(2:Int))=onR n t∧([]:List RowD)=[])∧((bif n ==(4:Int) then n ==(4:Int) else n ==(5:Int))=false→((n ==(7:Int))=true→(bif t ==(1:Int) then true else t ==(3:Int))=onR n t∧([]:List RowD)=[])∧((n ==(7:Int))=false→((bif n ==(6:Int) then n ==(6:Int) else n ==(8:Int))=true→(bif t ==(1:Int) then true else bif t ==(2:Int) then true else t ==(3:Int))=onR n t∧([]:List RowD)=[])∧((bif n ==(6:Int) then n ==(6:Int) else n ==(8:Int))=false→false=onR n t∧([]:List RowD)=[])))))
 simp only [onR];grind
theorem SD:CtrOK Tryz.prog KK 230 (ap KK Mf y8):=by
 refine aK (C:=gN [] Tryz.f230) (iy CtrsOK.nil _) mixed (fn:=Tryz.f230) Tryz.func230 (by kernel_rfl) (by kernel_rfl) (by kernel_rfl) (Λ:=fun _ _=>none) ?_ ?_ ?_
 ·exact fun _ _ _ _ _ _ _ _ h=>by cases h
 ·rintro ⟨n,t,⟨⟩⟩
  exact of_decide_eq_true (by kernel_rfl)
 ·rintro ⟨n,t,⟨⟩⟩ _ _
  exact RB n t
theorem RW (n:Int) :(evFn (gN [] Tryz.f229) (fun _=>none) Tryz.f229 (bh sU (n,()))).sat fun v' rows=>leV v' (zM (n,())).v∧rows =(zM (n,())).rows:=by
 refine cast (by kernel_rfl) (?_ :((bif n ==(2:Int) then true else bif n ==(4:Int) then true else n ==(6:Int))=oo n∧(bif n ==(2:Int) then true else bif n ==(4:Int) then true else n ==(6:Int))=oo n∧(n ==(6:Int))=xx n∧True)∧([]:List RowD)=[])
 simp only [oo,xx];grind
theorem R8:CtrOK Tryz.prog KK 229 (ap KK sU zM):=by
 refine aK (C:=gN [] Tryz.f229) (iy CtrsOK.nil _) mixed (fn:=Tryz.f229) Tryz.func229 (by kernel_rfl) (by kernel_rfl) (by kernel_rfl) (Λ:=fun _ _=>none) ?_ ?_ ?_
 ·exact fun _ _ _ _ _ _ _ _ h=>by cases h
 ·rintro ⟨n,⟨⟩⟩
  exact of_decide_eq_true (by kernel_rfl)
 ·rintro ⟨n,⟨⟩⟩ _ _
  exact RW n
theorem MW:wtab.length=11:=rfl
theorem tv {α:Type} (p:α→Bool) :∀ (xs:List α) (i:Nat) (x:α),xs[i]?=some x→p x=true→(∀ y∈xs.take i,p y=false)→xs.find? p=some x
 | [],_,_,h,_,_=>by simp at h
 | y::xs,0,x,h,hp,_=>by simp at h;subst h;simp [hp]
 | y::xs,i+1,x,h,hp,hn=>by
  have h0:p y=false:=hn y (by simp)
  rw [List.find?_cons_of_neg (by simp [h0])]
  exact tv p xs i x (by simpa using h) hp (fun z hz=>hn z (by simp [hz]))
theorem ln {α:Type} {xs:List α} {i:Nat} (z:α) (h:i<xs.length):xs[i]?=some (xs.getD i z):=by
 rw [List.getD_eq_getElem?_getD,List.getElem?_eq_getElem h];rfl
theorem Pj (h:Int) (i:Nat) (hi:FS h i) :(stepObl (J57 h) (FS h) (fun i=>11 - i) i (T57 h) (bP (gN [k61] Tryz.f200) (fun _=>none) (aA Tryz.f200 0) (J57 h i)) (L57 i)).1:=by
 refine cast (by kernel_rfl) (?_ :(decide ((↑i:Int) <(↑wtab.length:Int))=true→((0:Int)≤(↑i:Int)∧(↑i:Int) <(↑wtab.length:Int))∧(((wtab.getD (↑i:Int).toNat (dflt (Ty.nm Nm.dismissal_way))).1==h)=true→(wtab.any fun w=>w.1==h)=true∧(True∧True)∧((wtab.getD (↑i:Int).toNat (dflt (Ty.nm Nm.dismissal_way))).1 =(ofW h).1∧(wtab.getD (↑i:Int).toNat (dflt (Ty.nm Nm.dismissal_way))).2 =(ofW h).2∧(wtab.getD (↑i:Int).toNat (dflt (Ty.nm Nm.dismissal_way))).3 =(ofW h).3∧(wtab.getD (↑i:Int).toNat (dflt (Ty.nm Nm.dismissal_way))).4 =(ofW h).4∧(wtab.getD (↑i:Int).toNat (dflt (Ty.nm Nm.dismissal_way))).5 =(ofW h).5∧(wtab.getD (↑i:Int).toNat (dflt (Ty.nm Nm.dismissal_way))).6 =(ofW h).6∧(wtab.getD (↑i:Int).toNat (dflt (Ty.nm Nm.dismissal_way))).7 =(ofW h).7∧True)∧True)∧(((wtab.getD (↑i:Int).toNat (dflt (Ty.nm Nm.dismissal_way))).1==h)=false→FS h (i +(1:Nat))∧(11:Nat) - (i +(1:Nat)) <(11:Nat) - i∧(h=h∧True∧True∧(↑wtab.length:Int) =(↑wtab.length:Int)∧IntKind.i64.wrap ((↑i:Int) +(1:Int)) =(↑(i +(1:Nat)):Int)∧True)∧RowD.mk (Ty.nm Nm.dismissal_way) wtab=RowD.mk (Ty.nm Nm.dismissal_way) wtab∧((0:Int) =(0:Int)∧ByteArray.empty=ByteArray.empty∧false=false∧false=false∧false=false∧false=false∧false=false∧True)∧True))∧(decide ((↑i:Int) <(↑wtab.length:Int))=false→(wtab.any fun w=>w.1==h)=false∧(True∧True)∧((0:Int) =(0:Int)∧ByteArray.empty=ByteArray.empty∧false=false∧false=false∧false=false∧false=false∧false=false∧True)∧True))
 have e :(i:Int).toNat=i:=by simp
 rw [e]
 generalize hw:wtab.getD i (dflt (Ty.nm Nm.dismissal_way))=w
 refine ⟨fun h1=>?_,fun h1=>?_⟩
 ·have h1:i<wtab.length:=by simpa using h1
  have h3:wtab[i]?=some w:=by rw [←hw];exact ln _ h1
  refine ⟨⟨by omega,by omega⟩,fun h2=>?_,fun h2=>?_⟩
  ·have h4:ofW h=w:=by
    unfold ofW
    rw [tv (fun w=>w.how==h) wtab i w h3 h2 hi.2];rfl
   have h5 :(wtab.any fun w=>w.1==h)=true:=List.any_eq_true.2 ⟨w,List.mem_of_getElem? h3,h2⟩
   rw [h4]
   exact ⟨h5,⟨trivial,trivial⟩,⟨rfl,rfl,rfl,rfl,rfl,rfl,rfl,trivial⟩,trivial⟩
  ·rw [MW] at h1
   refine ⟨⟨by omega,fun y hy=>?_⟩,by omega,⟨rfl,trivial,trivial,rfl,?_,trivial⟩,rfl,⟨rfl,rfl,rfl,rfl,rfl,rfl,rfl,trivial⟩,trivial⟩
   ·rw [List.take_add_one,h3] at hy
    rcases List.mem_append.1 hy with hy|hy
    ·exact hi.2 y hy
    ·simp at hy;subst hy;exact h2
   ·rw [dd (by omega) (by omega)];omega
 ·have h1:wtab.length≤i:=by simpa using h1
  refine ⟨?_,⟨trivial,trivial⟩,⟨rfl,rfl,rfl,rfl,rfl,rfl,rfl,trivial⟩,trivial⟩
  rw [List.any_eq_false]
  intro x hx
  have:=hi.2 x (by rw [List.take_of_length_le h1];exact hx)
  simpa using this
theorem Mr (h:Int):LoopsOK Tryz.prog Tryz.f200.ntmps [aA Tryz.f200 0] (Λ57 h):=
 .cons (L:=b9 ⟨[],[],16⟩ (J57 h 0) (T57 h)) (by kernel_rfl) (fu (iy (.cons MA .nil) _) mixed (J57 h) (fun _=>rfl) (FS h) (fun i=>11 - i) (fun _ _=>none) (fun _ _ _ _ _ h=>by cases h) (T57 h) [] [] 0 ⟨Nat.zero_le _,by simp⟩ L57 (Pj h)) .nil
theorem R1 (h:Int) :(evFn (gN [k61] Tryz.f200) (Λ57 h) Tryz.f200 (bh sU (h,()))).sat fun v' rows=>leV v' (Bb (h,())).v∧rows =(Bb (h,())).rows:=by
 refine cast (by kernel_rfl) (?_ :((cO fun x=>none)∧(h=h∧True∧True∧(↑wtab.length:Int) =(↑wtab.length:Int)∧(0:Int) =(↑(0:Nat):Int)∧True)∧RowD.mk (Ty.nm Nm.dismissal_way) wtab=RowD.mk (Ty.nm Nm.dismissal_way) wtab∧((0:Int) =(0:Int)∧ByteArray.empty=ByteArray.empty∧false=false∧false=false∧false=false∧false=false∧false=false∧True)∧True)∧((wtab.any fun w=>w.1==h)=true→((ofW h).1 =(ofW h).1∧(ofW h).2 =(ofW h).2∧(ofW h).3 =(ofW h).3∧(ofW h).4 =(ofW h).4∧(ofW h).5 =(ofW h).5∧(ofW h).6 =(ofW h).6∧(ofW h).7 =(ofW h).7∧True)∧([]:List RowD)=[])∧((wtab.any fun w=>w.1==h)=false→((0:Int) =(ofW h).1∧ByteArray.empty =(ofW h).2∧false =(ofW h).3∧false =(ofW h).4∧false =(ofW h).5∧false =(ofW h).6∧false =(ofW h).7∧True)∧([]:List RowD)=[]))
 refine ⟨⟨rfl,⟨rfl,trivial,trivial,rfl,rfl,trivial⟩,rfl,⟨rfl,rfl,rfl,rfl,rfl,rfl,rfl,trivial⟩,trivial⟩,fun _=>⟨⟨rfl,rfl,rfl,rfl,rfl,rfl,rfl,trivial⟩,rfl⟩,fun h1=>?_⟩
 have h2:ofW h=dismissal_way.zero:=by
  unfold ofW
  rw [List.find?_eq_none.2]
  ·rfl
  ·intro x hx hp
   have:=(List.any_eq_false.1 h1) x hx
   exact this hp
 rw [h2]
 exact ⟨⟨rfl,rfl,rfl,rfl,rfl,rfl,rfl,trivial⟩,rfl⟩
theorem Sm:CtrOK Tryz.prog KK 200 (ap KK sU Bb):=by
 refine aK (C:=gN [k61] Tryz.f200) (iy (.cons MA .nil) _) mixed (fn:=Tryz.f200) Tryz.func200 (by kernel_rfl) (by kernel_rfl) (by kernel_rfl) (Λ:=fun x=>Λ57 x.1) ?_ ?_ ?_
 ·rintro ⟨h,⟨⟩⟩ _ _
  exact LoopsOK.at (by kernel_rfl) (Mr h)
 ·rintro ⟨h,⟨⟩⟩
  exact of_decide_eq_true (by kernel_rfl)
 ·rintro ⟨h,⟨⟩⟩ _ _
  exact R1 h
theorem KU (w:dismissal_way) (t:Int) (free:Bool) :(bif onW w t then bif !free then true else bif w.1 ==(6:Int) then true else bif w.1 ==(7:Int) then true else w.1 ==(8:Int) else false)=qx w t free:=by
 simp only [qx];cases onW w t <;> cases free <;> simp <;> grind
theorem BJ (t:Int) (free:Bool) (i:Nat) {w:dismissal_way} (h:wtab[i]?=some w):fE t free (i+1)=fE t free i ++(bif qx w t free then [w.how] else []):=by
 unfold fE
 rw [List.take_add_one,h,List.filter_append,List.map_append]
 congr 1
 cases hf:qx w t free <;> simp [hf]
theorem Fm (t:Int) (free:Bool) (i:Nat) :(fE t free i).length≤11:=by
 unfold fE
 rw [List.length_map]
 have h1:=List.length_filter_le (fun w=>qx w t free) (wtab.take i)
 have h2 :(wtab.take i).length≤wtab.length:=List.length_take_le' _ _
 rw [MW] at h2
 omega
theorem Pu (t:Int) (free:Bool) (i:Nat) (hi:vH i) :(stepObl (J20 t free) vH (fun i=>11 - i) i (T20 t free) (bP (gN [k61,k62] Tryz.f202) (fun _=>none) (aA Tryz.f202 0) (J20 t free i)) (L20 i)).1:=by
 refine cast (by kernel_rfl) (?_ :(decide ((↑i:Int) <(↑wtab.length:Int))=true→((0:Int)≤(↑i:Int)∧(↑i:Int) <(↑wtab.length:Int))∧((bif onW (wtab.getD (↑i:Int).toNat (dflt (Ty.nm Nm.dismissal_way))) t then bif !free then true else bif (wtab.getD (↑i:Int).toNat (dflt (Ty.nm Nm.dismissal_way))).1 ==(6:Int) then true else bif (wtab.getD (↑i:Int).toNat (dflt (Ty.nm Nm.dismissal_way))).1 ==(7:Int) then true else (wtab.getD (↑i:Int).toNat (dflt (Ty.nm Nm.dismissal_way))).1 ==(8:Int) else false)=true→((fE t free i).length+[(wtab.getD (↑i:Int).toNat (dflt (Ty.nm Nm.dismissal_way))).1].length) *(1:Nat)≤(70368744177664:Nat)∧vH (i +(1:Nat))∧(11:Nat) - (i +(1:Nat)) <(11:Nat) - i∧(t=t∧free=free∧True∧True∧(↑wtab.length:Int) =(↑wtab.length:Int)∧IntKind.i64.wrap ((↑i:Int) +(1:Int)) =(↑(i +(1:Nat)):Int)∧True)∧RowD.mk (Ty.nm Nm.dismissal_way) wtab=RowD.mk (Ty.nm Nm.dismissal_way) wtab∧RowD.mk (Ty.int IntKind.u8) (fE t free i++[(wtab.getD (↑i:Int).toNat (dflt (Ty.nm Nm.dismissal_way))).1])=RowD.mk (Ty.int IntKind.u8) (fE t free (i +(1:Nat)))∧True)∧((bif onW (wtab.getD (↑i:Int).toNat (dflt (Ty.nm Nm.dismissal_way))) t then bif !free then true else bif (wtab.getD (↑i:Int).toNat (dflt (Ty.nm Nm.dismissal_way))).1 ==(6:Int) then true else bif (wtab.getD (↑i:Int).toNat (dflt (Ty.nm Nm.dismissal_way))).1 ==(7:Int) then true else (wtab.getD (↑i:Int).toNat (dflt (Ty.nm Nm.dismissal_way))).1 ==(8:Int) else false)=false→vH (i +(1:Nat))∧(11:Nat) - (i +(1:Nat)) <(11:Nat) - i∧(t=t∧free=free∧True∧True∧(↑wtab.length:Int) =(↑wtab.length:Int)∧IntKind.i64.wrap ((↑i:Int) +(1:Int)) =(↑(i +(1:Nat)):Int)∧True)∧RowD.mk (Ty.nm Nm.dismissal_way) wtab=RowD.mk (Ty.nm Nm.dismissal_way) wtab∧RowD.mk (Ty.int IntKind.u8) (fE t free i)=RowD.mk (Ty.int IntKind.u8) (fE t free (i +(1:Nat)))∧True))∧(decide ((↑i:Int) <(↑wtab.length:Int))=false→True∧(True∧True)∧RowD.mk (Ty.int IntKind.u8) (fE t free i)=RowD.mk (Ty.int IntKind.u8) (iq t free)∧True))
 have e :(i:Int).toNat=i:=by simp
 rw [e]
 generalize hw:wtab.getD i (dflt (Ty.nm Nm.dismissal_way))=w
 rw [KU]
 refine ⟨fun h1=>?_,fun h1=>?_⟩
 ·have h1:i<wtab.length:=by simpa using h1
  have h3:wtab[i]?=some w:=by rw [←hw];exact ln _ h1
  have hu:=BJ t free i h3
  rw [MW] at h1
  have hwr:IntKind.i64.wrap ((i:Int)+1) =((i+1:Nat):Int):=by rw [dd (by omega) (by omega)];omega
  refine ⟨⟨by omega,by rw [MW];omega⟩,fun h2=>?_,fun h2=>?_⟩
  ·rw [h2] at hu
   refine ⟨?_,(by unfold vH;omega),by omega,⟨rfl,rfl,trivial,trivial,rfl,hwr,trivial⟩,rfl,by rw [hu];rfl,trivial⟩
   have:=Fm t free i
   simp only [List.length_cons,List.length_nil]
   omega
  ·rw [h2] at hu
   refine ⟨(by unfold vH;omega),by omega,⟨rfl,rfl,trivial,trivial,rfl,hwr,trivial⟩,rfl,by rw [hu];simp,trivial⟩
 ·have h1:wtab.length≤i:=by simpa using h1
  have hu:fE t free i=iq t free:=by unfold fE iq;rw [List.take_of_length_le h1]
  exact ⟨trivial,⟨trivial,trivial⟩,by rw [hu],trivial⟩
theorem Ms (t:Int) (free:Bool):LoopsOK Tryz.prog Tryz.f202.ntmps [aA Tryz.f202 0] (Λ20 t free):=
 .cons (L:=b9 ⟨[],[16],20⟩ (J20 t free 0) (T20 t free)) (by kernel_rfl) (fu (iy (.cons MA (.cons RQ .nil)) _) mixed (J20 t free) (fun _=>rfl) vH (fun i=>11 - i) (fun _ _=>none) (fun _ _ _ _ _ h=>by cases h) (T20 t free) [] [16] 0 (Nat.zero_le _) L20 (Pu t free)) .nil
theorem QL (t:Int) (free:Bool) :(evFn (gN [k61,k62] Tryz.f202) (Λ20 t free) Tryz.f202 (bh LS (t,free,()))).sat fun v' rows=>leV v' (Ba (t,free,())).v∧rows =(Ba (t,free,())).rows:=by
 refine cast (by kernel_rfl) (?_ :((cO fun x=>none)∧(t=t∧free=free∧True∧True∧(↑wtab.length:Int) =(↑wtab.length:Int)∧(0:Int) =(↑(0:Nat):Int)∧True)∧RowD.mk (Ty.nm Nm.dismissal_way) wtab=RowD.mk (Ty.nm Nm.dismissal_way) wtab∧fE t free (0:Nat)=[]∧True)∧(nat_lit 0=nat_lit 0∧nat_lit 0=nat_lit 0)∧ [RowD.mk (Ty.int IntKind.u8) (iq t free)]=[RowD.mk (Ty.int IntKind.u8) (iq t free)])
 exact ⟨⟨rfl,⟨rfl,rfl,trivial,trivial,rfl,rfl,trivial⟩,rfl,rfl,trivial⟩,⟨rfl,rfl⟩,rfl⟩
theorem Se:CtrOK Tryz.prog KK 202 (ap KK LS Ba):=by
 refine aK (C:=gN [k61,k62] Tryz.f202) (iy (.cons MA (.cons RQ .nil)) _) mixed (fn:=Tryz.f202) Tryz.func202 (by kernel_rfl) (by kernel_rfl) (by kernel_rfl) (Λ:=fun x=>Λ20 x.1 x.2.1) ?_ ?_ ?_
 ·rintro ⟨t,free,⟨⟩⟩ _ _
  exact LoopsOK.at (by kernel_rfl) (Ms t free)
 ·rintro ⟨t,free,⟨⟩⟩
  exact of_decide_eq_true (by kernel_rfl)
 ·rintro ⟨t,free,⟨⟩⟩ _ _
  exact QL t free
theorem GL (xs:List Int) (v i:Int) (hi:0≤i):decide (idx xs v i≥0)=pc xs v:=by
 induction xs generalizing i with
 | nil=>simp [idx,pc]
 | cons x xs ih=>
  by_cases hv:v=x
  ·subst hv;simp [idx,pc,hi]
  ·have h1 :(v==x)=false:=by simpa using hv
   have h2:=ih (i+1) (by omega)
   simp only [idx,h1,cond_false]
   rw [h2]
   simp [pc,hv]
theorem QK (xs:List Int) (v:Int) :(evFn (gN [k63] Tryz.f201) (fun _=>none) Tryz.f201 (bh MS (xs,v,()))).sat fun v' rows=>leV v' (Ac (xs,v,())).v∧rows =(Ac (xs,v,())).rows:=by
 refine cast (by kernel_rfl) (?_:decide (idx xs v (0:Int)≥(0:Int))=pc xs v∧([]:List RowD)=[])
 exact ⟨GL xs v 0 (Int.le_refl 0),rfl⟩
theorem Sh:CtrOK Tryz.prog KK 201 (ap KK MS Ac):=by
 refine aK (C:=gN [k63] Tryz.f201) (iy (.cons Sv .nil) _) mixed (fn:=Tryz.f201) Tryz.func201 (by kernel_rfl) (by kernel_rfl) (by kernel_rfl) (Λ:=fun _ _=>none) ?_ ?_ ?_
 ·exact fun _ _ _ _ _ _ _ _ h=>by cases h
 ·rintro ⟨xs,v,⟨⟩⟩
  exact of_decide_eq_true (by kernel_rfl)
 ·rintro ⟨xs,v,⟨⟩⟩ _ _
  exact QK xs v
theorem Qu (d:Delivery) (w:dismissal_way) :(evFn (gN [k89] Tryz.f203) (fun _=>none) Tryz.f203 (bh LV (d,w,()))).sat fun v' rows=>leV v' (zG (d,w,())).v∧rows =(zG (d,w,())).rows:=by
 refine cast (by kernel_rfl) (?_ :((bif !w.6==lm d.9 then true else bif !w.6 then d.9 !=(0:Int) else false)=true→false=fI d w∧([]:List RowD)=[])∧((bif !w.6==lm d.9 then true else bif !w.6 then d.9 !=(0:Int) else false)=false→(bif d.10 ==(0:Int) then true else bif d.7 ==(6:Int) then bif lm d.10 then d.10 != d.9 else false else false)=fI d w∧([]:List RowD)=[]))
 simp only [fI];grind
theorem Sl:CtrOK Tryz.prog KK 203 (ap KK LV zG):=by
 refine aK (C:=gN [k89] Tryz.f203) (iy (.cons SM .nil) _) mixed (fn:=Tryz.f203) Tryz.func203 (by kernel_rfl) (by kernel_rfl) (by kernel_rfl) (Λ:=fun _ _=>none) ?_ ?_ ?_
 ·exact fun _ _ _ _ _ _ _ _ h=>by cases h
 ·rintro ⟨d,w,⟨⟩⟩
  exact of_decide_eq_true (by kernel_rfl)
 ·rintro ⟨d,w,⟨⟩⟩ _ _
  exact Qu d w
theorem QJ (d:Delivery) (free:Bool) :(evFn (gN [k57,k20,k21,k58] Tryz.f183) (fun _=>none) Tryz.f183 (bh psP (d,free,()))).sat fun v' rows=>leV v' (Ax (d,free,())).v∧rows =(Ax (d,free,())).rows:=by
 refine cast (by kernel_rfl) (?_ :((d.7 ==(0:Int))=true→((d.8 !=(0:Int))=true→(14:Int)=bW d free∧([]:List RowD)=[])∧((d.8 !=(0:Int))=false→((bif d.9 !=(0:Int) then true else bif d.10 !=(0:Int) then true else d.11)=true→(15:Int)=bW d free∧([]:List RowD)=[])∧((bif d.9 !=(0:Int) then true else bif d.10 !=(0:Int) then true else d.11)=false→(0:Int)=bW d free∧([]:List RowD)=[])))∧((d.7 ==(0:Int))=false→((!pc (iq d.1 free) d.7)=true→(13:Int)=bW d free∧([]:List RowD)=[])∧((!pc (iq d.1 free) d.7)=false→((bif !bif d.7 ==(6:Int) then true else d.7 ==(8:Int) then bif d.2 !=(0:Int) then true else d.3 !=(0:Int) else false)=true→(12:Int)=bW d free∧([]:List RowD)=[])∧((bif !bif d.7 ==(6:Int) then true else d.7 ==(8:Int) then bif d.2 !=(0:Int) then true else d.3 !=(0:Int) else false)=false→((bif d.8 !=(1:Int) then bif d.8 !=(2:Int) then true else !(ofW d.7).7 else false)=true→(14:Int)=bW d free∧([]:List RowD)=[])∧((bif d.8 !=(1:Int) then bif d.8 !=(2:Int) then true else !(ofW d.7).7 else false)=false→((!fI d (ofW d.7))=true→(15:Int)=bW d free∧([]:List RowD)=[])∧((!fI d (ofW d.7))=false→((bif d.11 then bif d.7 !=(2:Int) then d.7 !=(6:Int) else false else false)=true→(18:Int)=bW d free∧([]:List RowD)=[])∧((bif d.11 then bif d.7 !=(2:Int) then d.7 !=(6:Int) else false else false)=false→(0:Int)=bW d free∧([]:List RowD)=[])))))))
 simp only [bW,pc]
 repeat' first|refine And.intro ?_ ?_|intro _
 all_goals grind
theorem Rb:CtrOK Tryz.prog KK 183 (ap KK psP Ax):=by
 refine aK (C:=gN [k57,k20,k21,k58] Tryz.f183) (iy (.cons Sm (.cons Se (.cons Sh (.cons Sl .nil)))) _) mixed (fn:=Tryz.f183) Tryz.func183 (by kernel_rfl) (by kernel_rfl) (by kernel_rfl) (Λ:=fun _ _=>none) ?_ ?_ ?_
 ·exact fun _ _ _ _ _ _ _ _ h=>by cases h
 ·rintro ⟨d,free,⟨⟩⟩
  exact of_decide_eq_true (by kernel_rfl)
 ·rintro ⟨d,free,⟨⟩⟩ _ _
  exact QJ d free
theorem Rr (d:Delivery) (free:Bool) :(evFn (gN [k29,k59,k60] Tryz.f208) (fun _=>none) Tryz.f208 (bh psP (d,free,()))).sat fun v' rows=>leV v' (zR (d,free,())).v∧rows =(zR (d,free,())).rows:=by
 refine cast (by kernel_rfl) (?_ :((d.7 ==(0:Int))=true→((d.8 !=(0:Int))=true→(14:Int)=cf d free∧([]:List RowD)=[])∧((d.8 !=(0:Int))=false→((bif d.9 !=(0:Int) then true else bif d.10 !=(0:Int) then true else d.11)=true→(15:Int)=cf d free∧([]:List RowD)=[])∧((bif d.9 !=(0:Int) then true else bif d.10 !=(0:Int) then true else d.11)=false→(0:Int)=cf d free∧([]:List RowD)=[])))∧((d.7 ==(0:Int))=false→((bif !onR d.7 d.1 then true else bif free then !fX d.7 else false)=true→(13:Int)=cf d free∧([]:List RowD)=[])∧((bif !onR d.7 d.1 then true else bif free then !fX d.7 else false)=false→((bif !bif d.7 ==(6:Int) then true else d.7 ==(8:Int) then bif d.2 !=(0:Int) then true else d.3 !=(0:Int) else false)=true→(12:Int)=cf d free∧([]:List RowD)=[])∧((bif !bif d.7 ==(6:Int) then true else d.7 ==(8:Int) then bif d.2 !=(0:Int) then true else d.3 !=(0:Int) else false)=false→((bif d.8 !=(1:Int) then bif d.8 ==(2:Int) then !bif d.7 ==(6:Int) then true else d.7 ==(8:Int) else !false else false)=true→(14:Int)=cf d free∧([]:List RowD)=[])∧((bif d.8 !=(1:Int) then bif d.8 ==(2:Int) then !bif d.7 ==(6:Int) then true else d.7 ==(8:Int) else !false else false)=false→((bif oo d.7 then bif decide (d.9 <(1:Int)) then true else bif decide (d.9 >(11:Int)) then true else bif !oo d.7 then d.9 !=(0:Int) else false else bif !oo d.7 then d.9 !=(0:Int) else false)=true→(15:Int)=cf d free∧([]:List RowD)=[])∧((bif oo d.7 then bif decide (d.9 <(1:Int)) then true else bif decide (d.9 >(11:Int)) then true else bif !oo d.7 then d.9 !=(0:Int) else false else bif !oo d.7 then d.9 !=(0:Int) else false)=false→((bif d.10 !=(0:Int) then bif !xx d.7 then true else bif decide (d.10 <(1:Int)) then true else bif decide (d.10 >(11:Int)) then true else d.10==d.9 else false)=true→(15:Int)=cf d free∧([]:List RowD)=[])∧((bif d.10 !=(0:Int) then bif !xx d.7 then true else bif decide (d.10 <(1:Int)) then true else bif decide (d.10 >(11:Int)) then true else d.10==d.9 else false)=false→((bif d.11 then bif d.7 !=(2:Int) then d.7 !=(6:Int) else false else false)=true→(18:Int)=cf d free∧([]:List RowD)=[])∧((bif d.11 then bif d.7 !=(2:Int) then d.7 !=(6:Int) else false else false)=false→(0:Int)=cf d free∧([]:List RowD)=[]))))))))
 simp only [cf,xx,Bool.cond_true_left,Bool.cond_false_right,Bool.not_false]
 repeat' first|refine And.intro ?_ ?_|intro _
 all_goals first|rfl |(simp_all;done)|grind
theorem Sj:CtrOK Tryz.prog KK 208 (ap KK psP zR):=by
 refine aK (C:=gN [k29,k59,k60] Tryz.f208) (iy (.cons R8 (.cons SD (.cons Sz .nil))) _) mixed (fn:=Tryz.f208) Tryz.func208 (by kernel_rfl) (by kernel_rfl) (by kernel_rfl) (Λ:=fun _ _=>none) ?_ ?_ ?_
 ·exact fun _ _ _ _ _ _ _ _ h=>by cases h
 ·rintro ⟨d,free,⟨⟩⟩
  exact of_decide_eq_true (by kernel_rfl)
 ·rintro ⟨d,free,⟨⟩⟩ _ _
  exact Rr d free
end Go.Proofs.YtkgplaoappjkcaaGreat
namespace Go.Proofs.YtkgplaoappjkcaaGreat
open Go Go.Mir
attribute [local irreducible] Go.Mir.RT.sat Go.Mir.evFn Go.Mir.stepObl
def gl (n:Int):Prop:= -9223372036854775808≤n∧n≤9223372036854775807
theorem db {n:Int} (h:wfD (.int .i64) n):gl n:=by
 obtain ⟨S,w,cs,h⟩:=h
 cases h with|int h=>exact ⟨by have:=h.1;simpa [IntKind.min,IntKind.max,IntKind.signed,IntKind.bits] using this,by have:=h.2;simpa [IntKind.min,IntKind.max,IntKind.signed,IntKind.bits] using this⟩
theorem qJ {x:Innings} {p:Int} (hp:gl p) (h:aX x p=true):IntKind.i64.wrap (p - 1)=p - 1∧0≤p - 1∧p - 1 <(x.Subs.length:Int):=by
 simp only [aX,Bool.and_eq_true,decide_eq_true_eq] at h
 have:=hp.2
 exact ⟨dd (by omega) (by omega),by omega,by omega⟩
theorem Qt (x:Innings) (p:Int) :(evFn (cf8 [] Tryz.f170) (fun _=>none) Tryz.f170 (bh d8 (x,p,()))).sat fun v' rows=>leV v' (mj (x,p,())).v∧rows =(mj (x,p,())).rows:=by
 refine cast (by kernel_rfl) (?_ :(bif decide (p≥(1:Int)) then decide (p≤(↑x.21.length:Int)) else false)=aX x p∧([]:List RowD)=[])
 simp only [aX];grind
theorem Jt:CtrOK Tryz.prog K8 170 (ap K8 d8 mj):=by
 refine aK (C:=cf8 [] Tryz.f170) (bp (CtrsOK.nil) _) mixed (fn:=Tryz.f170) Tryz.func170 (by kernel_rfl) (by kernel_rfl) (by kernel_rfl) (Λ:=fun _ _=>none) ?_ ?_ ?_
 ·exact fun _ _ _ _ _ _ _ _ h=>by cases h
 ·rintro ⟨x,p,⟨⟩⟩
  exact of_decide_eq_true (by kernel_rfl)
 ·rintro ⟨x,p,⟨⟩⟩ hw hn
  exact Qt x p
theorem Rj (x:Innings) (p:Int) :(evFn (cf8 [] Tryz.f216) (fun _=>none) Tryz.f216 (bh d8 (x,p,()))).sat fun v' rows=>leV v' (mj (x,p,())).v∧rows =(mj (x,p,())).rows:=by
 refine cast (by kernel_rfl) (?_ :(bif decide (p≥(1:Int)) then decide (p≤(↑x.21.length:Int)) else false)=aX x p∧([]:List RowD)=[])
 simp only [aX];grind
theorem MF:CtrOK Tryz.prog K8 216 (ap K8 d8 mj):=by
 refine aK (C:=cf8 [] Tryz.f216) (bp (CtrsOK.nil) _) mixed (fn:=Tryz.f216) Tryz.func216 (by kernel_rfl) (by kernel_rfl) (by kernel_rfl) (Λ:=fun _ _=>none) ?_ ?_ ?_
 ·exact fun _ _ _ _ _ _ _ _ h=>by cases h
 ·rintro ⟨x,p,⟨⟩⟩
  exact of_decide_eq_true (by kernel_rfl)
 ·rintro ⟨x,p,⟨⟩⟩ hw hn
  exact Rj x p
theorem Rq (x:Innings) (p:Int) (hp:gl p) :(evFn (cf8 [k73] Tryz.f171) (fun _=>none) Tryz.f171 (bh d8 (x,p,()))).sat fun v' rows=>leV v' (mv (x,p,())).v∧rows =(mv (x,p,())).rows:=by
 refine cast (by kernel_rfl) (?_ :((aX x p=true→((0:Int)≤IntKind.i64.wrap (p - (1:Int))∧IntKind.i64.wrap (p - (1:Int)) <(↑x.21.length:Int))∧True)∧(aX x p=false→True))∧(true=true→(bif aX x p then x.21.getD (IntKind.i64.wrap (p - (1:Int))).toNat (dflt Ty.bool) else false)=aF x p∧([]:List RowD)=[]))
 refine ⟨⟨fun h=>⟨?_,trivial⟩,fun _=>trivial⟩,fun _=>⟨?_,rfl⟩⟩
 ·obtain ⟨e,h1,h2⟩:=qJ hp h
  rw [e];exact ⟨h1,h2⟩
 ·cases h:aX x p with
  | false=>simp [aF,h]
  | true=>
   obtain ⟨e,h1,h2⟩:=qJ hp h
   rw [e];simp only [cond_true,aF,h,Bool.true_and];rfl
theorem MZ:CtrOK Tryz.prog K8 171 (ap K8 d8 mv):=by
 refine aK (C:=cf8 [k73] Tryz.f171) (bp (.cons Jt .nil) _) mixed (fn:=Tryz.f171) Tryz.func171 (by kernel_rfl) (by kernel_rfl) (by kernel_rfl) (Λ:=fun _ _=>none) ?_ ?_ ?_
 ·exact fun _ _ _ _ _ _ _ _ h=>by cases h
 ·rintro ⟨x,p,⟨⟩⟩
  exact of_decide_eq_true (by kernel_rfl)
 ·rintro ⟨x,p,⟨⟩⟩ hw hn
  exact Rq x p (db (aY (aO hw)))
theorem Q2 (x:Innings) (p:Int) (hp:gl p) :(evFn (cf8 [] Tryz.f217) (fun _=>none) Tryz.f217 (bh d8 (x,p,()))).sat fun v' rows=>leV v' (mv (x,p,())).v∧rows =(mv (x,p,())).rows:=by
 refine cast (by kernel_rfl) (?_ :((decide (p≥(1:Int))=true→(decide (p≤(↑x.21.length:Int))=true→((0:Int)≤IntKind.i64.wrap (p - (1:Int))∧IntKind.i64.wrap (p - (1:Int)) <(↑x.21.length:Int))∧True)∧(decide (p≤(↑x.21.length:Int))=false→True))∧(decide (p≥(1:Int))=false→True))∧(true=true→(bif decide (p≥(1:Int)) then bif decide (p≤(↑x.21.length:Int)) then x.21.getD (IntKind.i64.wrap (p - (1:Int))).toNat (dflt Ty.bool) else false else false)=aF x p∧([]:List RowD)=[]))
 have hk :∀ b c:Bool,decide (p≥1)=b→decide (p≤(x.Subs.length:Int))=c→aX x p =(b&&c):=fun b c hb hc=>by simp only [aX,hb,hc]
 refine ⟨⟨fun h1=>⟨fun h2=>⟨?_,trivial⟩,fun _=>trivial⟩,fun _=>trivial⟩,fun _=>⟨?_,rfl⟩⟩
 ·obtain ⟨e,h1,h2⟩:=qJ hp (hk _ _ h1 h2)
  rw [e];exact ⟨h1,h2⟩
 ·cases h1:decide (p≥1) with
  | false=>simp only [cond_false,aF,hk _ _ h1 rfl,Bool.false_and]
  | true=>
   cases h2:decide (p≤(x.Subs.length:Int)) with
   | false=>simp only [cond_true,cond_false,aF,hk _ _ h1 h2,Bool.and_false,Bool.false_and]
   | true=>
    obtain ⟨e,h3,h4⟩:=qJ hp (hk _ _ h1 h2)
    rw [e];simp only [cond_true,aF,hk _ _ h1 h2,Bool.true_and];rfl
theorem K4:CtrOK Tryz.prog K8 217 (ap K8 d8 mv):=by
 refine aK (C:=cf8 [] Tryz.f217) (bp (CtrsOK.nil) _) mixed (fn:=Tryz.f217) Tryz.func217 (by kernel_rfl) (by kernel_rfl) (by kernel_rfl) (Λ:=fun _ _=>none) ?_ ?_ ?_
 ·exact fun _ _ _ _ _ _ _ _ h=>by cases h
 ·rintro ⟨x,p,⟨⟩⟩
  exact of_decide_eq_true (by kernel_rfl)
 ·rintro ⟨x,p,⟨⟩⟩ hw hn
  exact Q2 x p (db (aY (aO hw)))
theorem Gd {n:Nm} {x:n.T} (h:wfD (.nm n) x):wfD n.flds (n.to x):=by
 obtain ⟨S,w,cs,h⟩:=h
 cases h with|nm h=>exact ⟨_,_,_,h⟩
theorem gO {r:Rules} (h:wfD (.nm .Rules) r):r.Power.length≤aS:=
 cu (aY (aO (aO (aO (aO (aO (aO (aO (aO (aO (aO (aO (aO (aO (Gd h)))))))))))))))
theorem PJ (r:Rules) (o:Int) (hx:r.Power.length≤aS) (i:Nat) (hi:su r o i) :(stepObl (J75 r o) (su r o) (fun i=>r.Power.length - i) i (T75 r o) (bP (cf8 [] Tryz.f199) (fun _=>none) (aA Tryz.f199 0) (J75 r o i)) (L75 i)).1:=by
 refine cast (by kernel_rfl) (?_ :(decide ((↑i:Int) <(↑r.14.length:Int))=true→((0:Int)≤(↑i:Int)∧(↑i:Int) <(↑r.14.length:Int))∧((bif decide ((r.14.getD (↑i:Int).toNat (dflt (Ty.nm Nm.Phase))).1≤IntKind.i64.wrap (o +(1:Int))) then decide (IntKind.i64.wrap (o +(1:Int))≤(r.14.getD (↑i:Int).toNat (dflt (Ty.nm Nm.Phase))).2) else false)=true→r.14.any (cw o)=true∧((r.14.getD (↑i:Int).toNat (dflt (Ty.nm Nm.Phase))).3=bQ r o∧True)∧True)∧((bif decide ((r.14.getD (↑i:Int).toNat (dflt (Ty.nm Nm.Phase))).1≤IntKind.i64.wrap (o +(1:Int))) then decide (IntKind.i64.wrap (o +(1:Int))≤(r.14.getD (↑i:Int).toNat (dflt (Ty.nm Nm.Phase))).2) else false)=false→su r o (i +(1:Nat))∧r.14.length - (i +(1:Nat))<r.14.length - i∧(o=o∧True∧RowD.mk (Ty.nm Nm.Phase) r.14=RowD.mk (Ty.nm Nm.Phase) r.14∧(↑r.14.length:Int) =(↑r.14.length:Int)∧IntKind.i64.wrap ((↑i:Int) +(1:Int)) =(↑(i +(1:Nat)):Int)∧True)∧(r.1=r.1∧r.2=r.2∧r.3=r.3∧r.4=r.4∧r.5=r.5∧r.6=r.6∧r.7=r.7∧r.8=r.8∧r.9=r.9∧r.10=r.10∧r.11=r.11∧r.12=r.12∧r.13=r.13∧RowD.mk (Ty.nm Nm.Phase) r.14=RowD.mk (Ty.nm Nm.Phase) r.14∧True)∧True))∧(decide ((↑i:Int) <(↑r.14.length:Int))=false→r.14.any (cw o)=false∧(True∧True)∧(r.1=r.1∧r.2=r.2∧r.3=r.3∧r.4=r.4∧r.5=r.5∧r.6=r.6∧r.7=r.7∧r.8=r.8∧r.9=r.9∧r.10=r.10∧r.11=r.11∧r.12=r.12∧r.13=r.13∧RowD.mk (Ty.nm Nm.Phase) r.14=RowD.mk (Ty.nm Nm.Phase) r.14∧True)∧True))
 have e :(i:Int).toNat=i:=by simp
 rw [e]
 generalize hw:r.Power.getD i (dflt (Ty.nm Nm.Phase))=w
 have hc :(bif decide (w.From≤IntKind.i64.wrap (o+1)) then decide (IntKind.i64.wrap (o+1)≤w.To) else false)=cw o w:=by simp only [cw];cases decide (w.From≤IntKind.i64.wrap (o+1)) <;> rfl
 have hb:r.Power.length≤140737488355328:=hx
 refine ⟨fun h1=>?_,fun h1=>?_⟩
 ·have h1:i<r.Power.length:=by simpa using h1
  have h3:r.Power[i]?=some w:=by rw [←hw];exact ln _ h1
  refine ⟨⟨by omega,by omega⟩,fun h2=>?_,fun h2=>?_⟩
  ·have h2:cw o w=true:=by rw [←hc];exact h2
   have h4:bQ r o=w.Outside:=by
    unfold bQ
    rw [tv (cw o) r.Power i w h3 h2 hi.2];rfl
   have h5:r.Power.any (cw o)=true:=List.any_eq_true.2 ⟨w,List.mem_of_getElem? h3,h2⟩
   rw [h4]
   simp [h5]
  ·have h2:cw o w=false:=by rw [←hc];exact h2
   refine ⟨⟨by omega,fun y hy=>?_⟩,by omega,⟨rfl,trivial,rfl,rfl,?_,trivial⟩,by simp⟩
   ·rw [List.take_add_one,h3] at hy
    rcases List.mem_append.1 hy with hy|hy
    ·exact hi.2 y hy
    ·simp at hy;subst hy;exact h2
   ·rw [dd (by omega) (by omega)];omega
 ·have h1:r.Power.length≤i:=by simpa using h1
  have:r.Power.any (cw o)=false:=by
   rw [List.any_eq_false]
   intro x hx
   have:=hi.2 x (by rw [List.take_of_length_le h1];exact hx)
   simpa using this
  simp [this]
theorem OZ (r:Rules) (o:Int) (hx:r.Power.length≤aS):LoopOK Tryz.prog Tryz.f199.ntmps (aA Tryz.f199 0) (b9 ⟨[],[],48⟩ (J75 r o 0) (T75 r o)):=
 fu (bp (CtrsOK.nil) _) mixed (J75 r o) (fun _=>rfl) (su r o) (fun i=>r.Power.length - i) (fun _ _=>none) (fun _ _ _ _ _ h=>by cases h) (T75 r o) [] [] 0 (⟨Nat.zero_le _,by simp⟩) L75 (fun i hi=>PJ r o hx i hi)
theorem RG (r:Rules) (o:Int) (hx:r.Power.length≤aS) :(evFn (cf8 [] Tryz.f199) (Λ75 r o) Tryz.f199 (bh psR (r,o,()))).sat fun v' rows=>leV v' (mi (r,o,())).v∧rows =(mi (r,o,())).rows:=by
 refine cast (by kernel_rfl) (?_ :((cO fun x=>none)∧(o=o∧True∧RowD.mk (Ty.nm Nm.Phase) r.14=RowD.mk (Ty.nm Nm.Phase) r.14∧(↑r.14.length:Int) =(↑r.14.length:Int)∧(0:Int) =(↑(0:Nat):Int)∧True)∧(r.1=r.1∧r.2=r.2∧r.3=r.3∧r.4=r.4∧r.5=r.5∧r.6=r.6∧r.7=r.7∧r.8=r.8∧r.9=r.9∧r.10=r.10∧r.11=r.11∧r.12=r.12∧r.13=r.13∧RowD.mk (Ty.nm Nm.Phase) r.14=RowD.mk (Ty.nm Nm.Phase) r.14∧True)∧True)∧(r.14.any (cw o)=true→bQ r o=bQ r o∧([]:List RowD)=[])∧(r.14.any (cw o)=false→r.13=bQ r o∧([]:List RowD)=[]))
 have hN:r.Power.any (cw o)=false→bQ r o=r.Outside:=fun h1=>by
  unfold bQ
  rw [List.find?_eq_none.2 fun x hx=>(List.any_eq_false.1 h1) x hx];rfl
 refine ⟨⟨rfl,⟨rfl,trivial,rfl,rfl,rfl,trivial⟩,by simp⟩,fun _=>by simp,fun h=>by rw [hN h];simp⟩
theorem SC:CtrOK Tryz.prog K8 199 (ap K8 psR mi):=by
 refine aK (C:=cf8 [] Tryz.f199) (bp (CtrsOK.nil) _) mixed (fn:=Tryz.f199) Tryz.func199 (by kernel_rfl) (by kernel_rfl) (by kernel_rfl) (Λ:=fun x=>Λ75 x.1 x.2.1) ?_ ?_ ?_
 ·rintro ⟨r,o,⟨⟩⟩ hw hn
  exact LoopsOK.at (by kernel_rfl) (.cons (by kernel_rfl) (OZ r o (gO (aY hw))) .nil)
 ·rintro ⟨r,o,⟨⟩⟩
  exact of_decide_eq_true (by kernel_rfl)
 ·rintro ⟨r,o,⟨⟩⟩ hw hn
  exact RG r o (gO (aY hw))
theorem P6 (r:Rules) (o:Int) (hx:r.Power.length≤aS) (i:Nat) (hi:su r o i) :(stepObl (J75 r o) (su r o) (fun i=>r.Power.length - i) i (T75 r o) (bP (cf8 [] Tryz.f226) (fun _=>none) (aA Tryz.f226 0) (J75 r o i)) (L75 i)).1:=by
 refine cast (by kernel_rfl) (?_ :(decide ((↑i:Int) <(↑r.14.length:Int))=true→((0:Int)≤(↑i:Int)∧(↑i:Int) <(↑r.14.length:Int))∧((bif decide ((r.14.getD (↑i:Int).toNat (dflt (Ty.nm Nm.Phase))).1≤IntKind.i64.wrap (o +(1:Int))) then decide (IntKind.i64.wrap (o +(1:Int))≤(r.14.getD (↑i:Int).toNat (dflt (Ty.nm Nm.Phase))).2) else false)=true→r.14.any (cw o)=true∧((r.14.getD (↑i:Int).toNat (dflt (Ty.nm Nm.Phase))).3=bQ r o∧True)∧True)∧((bif decide ((r.14.getD (↑i:Int).toNat (dflt (Ty.nm Nm.Phase))).1≤IntKind.i64.wrap (o +(1:Int))) then decide (IntKind.i64.wrap (o +(1:Int))≤(r.14.getD (↑i:Int).toNat (dflt (Ty.nm Nm.Phase))).2) else false)=false→su r o (i +(1:Nat))∧r.14.length - (i +(1:Nat))<r.14.length - i∧(o=o∧True∧RowD.mk (Ty.nm Nm.Phase) r.14=RowD.mk (Ty.nm Nm.Phase) r.14∧(↑r.14.length:Int) =(↑r.14.length:Int)∧IntKind.i64.wrap ((↑i:Int) +(1:Int)) =(↑(i +(1:Nat)):Int)∧True)∧(r.1=r.1∧r.2=r.2∧r.3=r.3∧r.4=r.4∧r.5=r.5∧r.6=r.6∧r.7=r.7∧r.8=r.8∧r.9=r.9∧r.10=r.10∧r.11=r.11∧r.12=r.12∧r.13=r.13∧RowD.mk (Ty.nm Nm.Phase) r.14=RowD.mk (Ty.nm Nm.Phase) r.14∧True)∧True))∧(decide ((↑i:Int) <(↑r.14.length:Int))=false→r.14.any (cw o)=false∧(True∧True)∧(r.1=r.1∧r.2=r.2∧r.3=r.3∧r.4=r.4∧r.5=r.5∧r.6=r.6∧r.7=r.7∧r.8=r.8∧r.9=r.9∧r.10=r.10∧r.11=r.11∧r.12=r.12∧r.13=r.13∧RowD.mk (Ty.nm Nm.Phase) r.14=RowD.mk (Ty.nm Nm.Phase) r.14∧True)∧True))
 have e :(i:Int).toNat=i:=by simp
 rw [e]
 generalize hw:r.Power.getD i (dflt (Ty.nm Nm.Phase))=w
 have hc :(bif decide (w.From≤IntKind.i64.wrap (o+1)) then decide (IntKind.i64.wrap (o+1)≤w.To) else false)=cw o w:=by simp only [cw];cases decide (w.From≤IntKind.i64.wrap (o+1)) <;> rfl
 have hb:r.Power.length≤140737488355328:=hx
 refine ⟨fun h1=>?_,fun h1=>?_⟩
 ·have h1:i<r.Power.length:=by simpa using h1
  have h3:r.Power[i]?=some w:=by rw [←hw];exact ln _ h1
  refine ⟨⟨by omega,by omega⟩,fun h2=>?_,fun h2=>?_⟩
  ·have h2:cw o w=true:=by rw [←hc];exact h2
   have h4:bQ r o=w.Outside:=by
    unfold bQ
    rw [tv (cw o) r.Power i w h3 h2 hi.2];rfl
   have h5:r.Power.any (cw o)=true:=List.any_eq_true.2 ⟨w,List.mem_of_getElem? h3,h2⟩
   rw [h4]
   simp [h5]
  ·have h2:cw o w=false:=by rw [←hc];exact h2
   refine ⟨⟨by omega,fun y hy=>?_⟩,by omega,⟨rfl,trivial,rfl,rfl,?_,trivial⟩,by simp⟩
   ·rw [List.take_add_one,h3] at hy
    rcases List.mem_append.1 hy with hy|hy
    ·exact hi.2 y hy
    ·simp at hy;subst hy;exact h2
   ·rw [dd (by omega) (by omega)];omega
 ·have h1:r.Power.length≤i:=by simpa using h1
  have:r.Power.any (cw o)=false:=by
   rw [List.any_eq_false]
   intro x hx
   have:=hi.2 x (by rw [List.take_of_length_le h1];exact hx)
   simpa using this
  simp [this]
theorem Px (r:Rules) (o:Int) (hx:r.Power.length≤aS):LoopOK Tryz.prog Tryz.f226.ntmps (aA Tryz.f226 0) (b9 ⟨[],[],48⟩ (J75 r o 0) (T75 r o)):=
 fu (bp (CtrsOK.nil) _) mixed (J75 r o) (fun _=>rfl) (su r o) (fun i=>r.Power.length - i) (fun _ _=>none) (fun _ _ _ _ _ h=>by cases h) (T75 r o) [] [] 0 (⟨Nat.zero_le _,by simp⟩) L75 (fun i hi=>P6 r o hx i hi)
theorem Ra (r:Rules) (o:Int) (hx:r.Power.length≤aS) :(evFn (cf8 [] Tryz.f226) (Λ75 r o) Tryz.f226 (bh psR (r,o,()))).sat fun v' rows=>leV v' (mi (r,o,())).v∧rows =(mi (r,o,())).rows:=by
 refine cast (by kernel_rfl) (?_ :((cO fun x=>none)∧(o=o∧True∧RowD.mk (Ty.nm Nm.Phase) r.14=RowD.mk (Ty.nm Nm.Phase) r.14∧(↑r.14.length:Int) =(↑r.14.length:Int)∧(0:Int) =(↑(0:Nat):Int)∧True)∧(r.1=r.1∧r.2=r.2∧r.3=r.3∧r.4=r.4∧r.5=r.5∧r.6=r.6∧r.7=r.7∧r.8=r.8∧r.9=r.9∧r.10=r.10∧r.11=r.11∧r.12=r.12∧r.13=r.13∧RowD.mk (Ty.nm Nm.Phase) r.14=RowD.mk (Ty.nm Nm.Phase) r.14∧True)∧True)∧(r.14.any (cw o)=true→bQ r o=bQ r o∧([]:List RowD)=[])∧(r.14.any (cw o)=false→r.13=bQ r o∧([]:List RowD)=[]))
 have hN:r.Power.any (cw o)=false→bQ r o=r.Outside:=fun h1=>by
  unfold bQ
  rw [List.find?_eq_none.2 fun x hx=>(List.any_eq_false.1 h1) x hx];rfl
 refine ⟨⟨rfl,⟨rfl,trivial,rfl,rfl,rfl,trivial⟩,by simp⟩,fun _=>by simp,fun h=>by rw [hN h];simp⟩
theorem Sw:CtrOK Tryz.prog K8 226 (ap K8 psR mi):=by
 refine aK (C:=cf8 [] Tryz.f226) (bp (CtrsOK.nil) _) mixed (fn:=Tryz.f226) Tryz.func226 (by kernel_rfl) (by kernel_rfl) (by kernel_rfl) (Λ:=fun x=>Λ75 x.1 x.2.1) ?_ ?_ ?_
 ·rintro ⟨r,o,⟨⟩⟩ hw hn
  exact LoopsOK.at (by kernel_rfl) (.cons (by kernel_rfl) (Px r o (gO (aY hw))) .nil)
 ·rintro ⟨r,o,⟨⟩⟩
  exact of_decide_eq_true (by kernel_rfl)
 ·rintro ⟨r,o,⟨⟩⟩ hw hn
  exact Ra r o (gO (aY hw))
theorem Rx (r:Rules) (x:Innings) :(evFn (cf8 [k73,k74,k75] Tryz.f182) (fun _=>none) Tryz.f182 (bh pV (r,x,()))).sat fun v' rows=>leV v' (m4 (r,x,())).v∧rows =(m4 (r,x,())).rows:=by
 refine cast (by kernel_rfl) (?_ :((bif !aX x x.19 then true else bif aF x x.19 then true else x.19==x.12)=true→(17:Int)=ei r x∧([]:List RowD)=[])∧((bif !aX x x.19 then true else bif aF x x.19 then true else x.19==x.12)=false→(decide (x.20>bQ r x.7)=true→(16:Int)=ei r x∧([]:List RowD)=[])∧(decide (x.20>bQ r x.7)=false→(0:Int)=ei r x∧([]:List RowD)=[])))
 simp only [ei]
 repeat' first|refine And.intro ?_ ?_|intro _
 all_goals first|rfl|grind
theorem RK:CtrOK Tryz.prog K8 182 (ap K8 pV m4):=by
 refine aK (C:=cf8 [k73,k74,k75] Tryz.f182) (bp (.cons Jt (.cons MZ (.cons SC .nil))) _) mixed (fn:=Tryz.f182) Tryz.func182 (by kernel_rfl) (by kernel_rfl) (by kernel_rfl) (Λ:=fun _ _=>none) ?_ ?_ ?_
 ·exact fun _ _ _ _ _ _ _ _ h=>by cases h
 ·rintro ⟨r,x,⟨⟩⟩
  exact of_decide_eq_true (by kernel_rfl)
 ·rintro ⟨r,x,⟨⟩⟩ hw hn
  exact Rx r x
theorem RR (r:Rules) (x:Innings) :(evFn (cf8 [k72,k76,k77] Tryz.f206) (fun _=>none) Tryz.f206 (bh pV (r,x,()))).sat fun v' rows=>leV v' (m4 (r,x,())).v∧rows =(m4 (r,x,())).rows:=by
 refine cast (by kernel_rfl) (?_ :((bif !aX x x.19 then true else bif aF x x.19 then true else x.19==x.12)=true→(17:Int)=ei r x∧([]:List RowD)=[])∧((bif !aX x x.19 then true else bif aF x x.19 then true else x.19==x.12)=false→(decide (x.20>bQ r x.7)=true→(16:Int)=ei r x∧([]:List RowD)=[])∧(decide (x.20>bQ r x.7)=false→(0:Int)=ei r x∧([]:List RowD)=[])))
 simp only [ei]
 repeat' first|refine And.intro ?_ ?_|intro _
 all_goals first|rfl|grind
theorem SK:CtrOK Tryz.prog K8 206 (ap K8 pV m4):=by
 refine aK (C:=cf8 [k72,k76,k77] Tryz.f206) (bp (.cons K4 (.cons MF (.cons Sw .nil))) _) mixed (fn:=Tryz.f206) Tryz.func206 (by kernel_rfl) (by kernel_rfl) (by kernel_rfl) (Λ:=fun _ _=>none) ?_ ?_ ?_
 ·exact fun _ _ _ _ _ _ _ _ h=>by cases h
 ·rintro ⟨r,x,⟨⟩⟩
  exact of_decide_eq_true (by kernel_rfl)
 ·rintro ⟨r,x,⟨⟩⟩ hw hn
  exact RR r x
theorem Rc (x:Innings) (d:Delivery) :(evFn (cf8 [k73,k74] Tryz.f184) (fun _=>none) Tryz.f184 (bh DR (x,d,()))).sat fun v' rows=>leV v' (mr (x,d,())).v∧rows =(mr (x,d,())).rows:=by
 refine cast (by kernel_rfl) (?_ :((decide (d.9 >(0:Int))=true→((!aX x d.9)=true→(3:Int)=cP x d∧([]:List RowD)=[])∧((!aX x d.9)=false→((!d.11==aF x d.9)=true→(18:Int)=cP x d∧([]:List RowD)=[])∧((!d.11==aF x d.9)=false→True)))∧(decide (d.9 >(0:Int))=false→True))∧((bif decide (d.9 >(0:Int)) then bif !aX x d.9 then false else !!d.11==aF x d.9 else true)=true→((decide (d.10 >(0:Int))=true→((!aX x d.10)=true→(3:Int)=cP x d∧([]:List RowD)=[])∧((!aX x d.10)=false→(aF x d.10=true→(18:Int)=cP x d∧([]:List RowD)=[])∧(aF x d.10=false→True)))∧(decide (d.10 >(0:Int))=false→True))∧((bif decide (d.10 >(0:Int)) then bif !aX x d.10 then false else !aF x d.10 else true)=true→((bif d.7 ==(4:Int) then (if (0:Int)>d.9 then (0:Int) else d.9) != x.19 else false)=true→(17:Int)=cP x d∧([]:List RowD)=[])∧((bif d.7 ==(4:Int) then (if (0:Int)>d.9 then (0:Int) else d.9) != x.19 else false)=false→(0:Int)=cP x d∧([]:List RowD)=[]))))
 have hm:qN d.Fielder 0=if (0:Int)>d.Fielder then 0 else d.Fielder:=rfl
 simp only [cP,zH,zN,hm]
 repeat' first|refine And.intro ?_ ?_|intro _
 all_goals first|trivial|rfl|grind
theorem QB:CtrOK Tryz.prog K8 184 (ap K8 DR mr):=by
 refine aK (C:=cf8 [k73,k74] Tryz.f184) (bp (.cons Jt (.cons MZ .nil)) _) mixed (fn:=Tryz.f184) Tryz.func184 (by kernel_rfl) (by kernel_rfl) (by kernel_rfl) (Λ:=fun _ _=>none) ?_ ?_ ?_
 ·exact fun _ _ _ _ _ _ _ _ h=>by cases h
 ·rintro ⟨x,d,⟨⟩⟩
  exact of_decide_eq_true (by kernel_rfl)
 ·rintro ⟨x,d,⟨⟩⟩ hw hn
  exact Rc x d
theorem QY (x:Innings) (d:Delivery) :(evFn (cf8 [k72,k76] Tryz.f209) (fun _=>none) Tryz.f209 (bh DR (x,d,()))).sat fun v' rows=>leV v' (mr (x,d,())).v∧rows =(mr (x,d,())).rows:=by
 refine cast (by kernel_rfl) (?_ :((decide (d.9 >(0:Int))=true→((!aX x d.9)=true→(3:Int)=cP x d∧([]:List RowD)=[])∧((!aX x d.9)=false→((!aF x d.9==d.11)=true→(18:Int)=cP x d∧([]:List RowD)=[])∧((!aF x d.9==d.11)=false→True)))∧(decide (d.9 >(0:Int))=false→True))∧((bif decide (d.9 >(0:Int)) then bif !aX x d.9 then false else !!aF x d.9==d.11 else true)=true→((decide (d.10 >(0:Int))=true→((!aX x d.10)=true→(3:Int)=cP x d∧([]:List RowD)=[])∧((!aX x d.10)=false→(aF x d.10=true→(18:Int)=cP x d∧([]:List RowD)=[])∧(aF x d.10=false→True)))∧(decide (d.10 >(0:Int))=false→True))∧((bif decide (d.10 >(0:Int)) then bif !aX x d.10 then false else !aF x d.10 else true)=true→((bif d.7 ==(4:Int) then (if (0:Int)>d.9 then (0:Int) else d.9) != x.19 else false)=true→(17:Int)=cP x d∧([]:List RowD)=[])∧((bif d.7 ==(4:Int) then (if (0:Int)>d.9 then (0:Int) else d.9) != x.19 else false)=false→(0:Int)=cP x d∧([]:List RowD)=[]))))
 have hm:qN d.Fielder 0=if (0:Int)>d.Fielder then 0 else d.Fielder:=rfl
 simp only [cP,zH,zN,hm]
 repeat' first|refine And.intro ?_ ?_|intro _
 all_goals first|trivial|rfl|grind
theorem R3:CtrOK Tryz.prog K8 209 (ap K8 DR mr):=by
 refine aK (C:=cf8 [k72,k76] Tryz.f209) (bp (.cons K4 (.cons MF .nil)) _) mixed (fn:=Tryz.f209) Tryz.func209 (by kernel_rfl) (by kernel_rfl) (by kernel_rfl) (Λ:=fun _ _=>none) ?_ ?_ ?_
 ·exact fun _ _ _ _ _ _ _ _ h=>by cases h
 ·rintro ⟨x,d,⟨⟩⟩
  exact of_decide_eq_true (by kernel_rfl)
 ·rintro ⟨x,d,⟨⟩⟩ hw hn
  exact QY x d
theorem Rf (x:List Bool) (hs:x.length≤1000000) :(evFn (cf8 [] Tryz.f84) (fun _=>none) Tryz.f84 (bh My (x,()))).sat fun v' rows=>leV v' (zS (x,())).v∧rows =(zS (x,())).rows:=by
 refine cast (by kernel_rfl) (?_ :(x.isEmpty=true→(nat_lit 0=nat_lit 0∧nat_lit 0=nat_lit 0)∧ [RowD.mk Ty.bool []]=[RowD.mk Ty.bool x])∧((0:Nat)+x.length) *(1:Nat)≤(70368744177664:Nat)∧(nat_lit 0=nat_lit 0∧nat_lit 0=nat_lit 0)∧ [RowD.mk Ty.bool ([]++x)]=[RowD.mk Ty.bool x])
 refine ⟨fun h=>⟨⟨rfl,rfl⟩,?_⟩,?_,⟨rfl,rfl⟩,rfl⟩
 ·have:x=[]:=List.isEmpty_iff.1 h
  subst this;rfl
 ·omega
theorem Mz:CtrOK Tryz.prog K8 84 (ap K8 My zS):=by
 refine aK (C:=cf8 [] Tryz.f84) (bp (CtrsOK.nil) _) mixed (fn:=Tryz.f84) Tryz.func84 (by kernel_rfl) (by kernel_rfl) (by kernel_rfl) (Λ:=fun _ _=>none) ?_ ?_ ?_
 ·exact fun _ _ _ _ _ _ _ _ h=>by cases h
 ·rintro ⟨x,⟨⟩⟩
  exact of_decide_eq_true (by kernel_rfl)
 ·rintro ⟨x,⟨⟩⟩ hw hn
  exact Rf x (hn _ (List.mem_singleton.2 rfl))
theorem QX (x:List Int) (hs:x.length≤1000000) :(evFn (cf8 [] Tryz.f82) (fun _=>none) Tryz.f82 (bh MB (x,()))).sat fun v' rows=>leV v' (AZ (x,())).v∧rows =(AZ (x,())).rows:=by
 refine cast (by kernel_rfl) (?_ :(x.isEmpty=true→(nat_lit 0=nat_lit 0∧nat_lit 0=nat_lit 0)∧ [RowD.mk (Ty.int IntKind.u8) []]=[RowD.mk (Ty.int IntKind.u8) x])∧((0:Nat)+x.length) *(1:Nat)≤(70368744177664:Nat)∧(nat_lit 0=nat_lit 0∧nat_lit 0=nat_lit 0)∧ [RowD.mk (Ty.int IntKind.u8) ([]++x)]=[RowD.mk (Ty.int IntKind.u8) x])
 refine ⟨fun h=>⟨⟨rfl,rfl⟩,?_⟩,?_,⟨rfl,rfl⟩,rfl⟩
 ·have:x=[]:=List.isEmpty_iff.1 h
  subst this;rfl
 ·omega
theorem L3:CtrOK Tryz.prog K8 82 (ap K8 MB AZ):=by
 refine aK (C:=cf8 [] Tryz.f82) (bp (CtrsOK.nil) _) mixed (fn:=Tryz.f82) Tryz.func82 (by kernel_rfl) (by kernel_rfl) (by kernel_rfl) (Λ:=fun _ _=>none) ?_ ?_ ?_
 ·exact fun _ _ _ _ _ _ _ _ h=>by cases h
 ·rintro ⟨x,⟨⟩⟩
  exact of_decide_eq_true (by kernel_rfl)
 ·rintro ⟨x,⟨⟩⟩ hw hn
  exact QX x (hn _ (List.mem_singleton.2 rfl))
theorem RP (x:List Int) (hs:x.length≤1000000) :(evFn (cf8 [] Tryz.f83) (fun _=>none) Tryz.f83 (bh L7 (x,()))).sat fun v' rows=>leV v' (zC (x,())).v∧rows =(zC (x,())).rows:=by
 refine cast (by kernel_rfl) (?_ :(x.isEmpty=true→(nat_lit 0=nat_lit 0∧nat_lit 0=nat_lit 0)∧ [RowD.mk (Ty.int IntKind.i64) []]=[RowD.mk (Ty.int IntKind.i64) x])∧((0:Nat)+x.length) *(8:Nat)≤(70368744177664:Nat)∧(nat_lit 0=nat_lit 0∧nat_lit 0=nat_lit 0)∧ [RowD.mk (Ty.int IntKind.i64) ([]++x)]=[RowD.mk (Ty.int IntKind.i64) x])
 refine ⟨fun h=>⟨⟨rfl,rfl⟩,?_⟩,?_,⟨rfl,rfl⟩,rfl⟩
 ·have:x=[]:=List.isEmpty_iff.1 h
  subst this;rfl
 ·omega
theorem MN:CtrOK Tryz.prog K8 83 (ap K8 L7 zC):=by
 refine aK (C:=cf8 [] Tryz.f83) (bp (CtrsOK.nil) _) mixed (fn:=Tryz.f83) Tryz.func83 (by kernel_rfl) (by kernel_rfl) (by kernel_rfl) (Λ:=fun _ _=>none) ?_ ?_ ?_
 ·exact fun _ _ _ _ _ _ _ _ h=>by cases h
 ·rintro ⟨x,⟨⟩⟩
  exact of_decide_eq_true (by kernel_rfl)
 ·rintro ⟨x,⟨⟩⟩ hw hn
  exact RP x (hn _ (List.mem_singleton.2 rfl))
theorem RF (x:Innings) (hs:aj x) :(evFn (cf8 [k45,k90,k91] Tryz.f169) (fun _=>none) Tryz.f169 (bh psI (x,()))).sat fun v' rows=>leV v' (eQ (x,())).v∧rows =(eQ (x,())).rows:=by
 refine cast (by kernel_rfl) (?_:x.11.length≤(1000000:Nat)∧x.13.length≤(1000000:Nat)∧x.14.length≤(1000000:Nat)∧x.16.length≤(1000000:Nat)∧x.21.length≤(1000000:Nat)∧(x.1=x.1∧x.2=x.2∧x.3=x.3∧x.4=x.4∧x.5=x.5∧x.6.1=x.6.1∧x.6.2=x.6.2∧x.6.3=x.6.3∧x.6.4=x.6.4∧x.6.5=x.6.5∧x.7=x.7∧x.8=x.8∧x.9=x.9∧x.10=x.10∧(nat_lit 0=nat_lit 0∧nat_lit 0=nat_lit 0)∧x.12=x.12∧(nat_lit 1=nat_lit 1∧nat_lit 1=nat_lit 1)∧(nat_lit 2=nat_lit 2∧nat_lit 2=nat_lit 2)∧x.15=x.15∧(nat_lit 3=nat_lit 3∧nat_lit 3=nat_lit 3)∧x.17=x.17∧x.18=x.18∧x.19=x.19∧x.20=x.20∧(nat_lit 4=nat_lit 4∧nat_lit 4=nat_lit 4)∧x.22.1=x.22.1∧x.22.2.1=x.22.2.1∧x.23=x.23∧True)∧ [RowD.mk (Ty.int IntKind.u8) x.11,RowD.mk (Ty.int IntKind.i64) x.13,RowD.mk (Ty.int IntKind.i64) x.14,RowD.mk (Ty.int IntKind.i64) x.16,RowD.mk Ty.bool x.21]=[RowD.mk (Ty.int IntKind.u8) x.11,RowD.mk (Ty.int IntKind.i64) x.13,RowD.mk (Ty.int IntKind.i64) x.14,RowD.mk (Ty.int IntKind.i64) x.16,RowD.mk Ty.bool x.21])
 obtain ⟨h1,h2,h3,h4,h5⟩:=hs
 simp [h1,h2,h3,h4,h5]
theorem PS:CtrOK Tryz.prog K8 169 (ap K8 psI eQ):=by
 refine aK (C:=cf8 [k45,k90,k91] Tryz.f169) (bp (.cons Mz (.cons L3 (.cons MN .nil))) _) mixed (fn:=Tryz.f169) Tryz.func169 (by kernel_rfl) (by kernel_rfl) (by kernel_rfl) (Λ:=fun _ _=>none) ?_ ?_ ?_
 ·exact fun _ _ _ _ _ _ _ _ h=>by cases h
 ·rintro ⟨x,⟨⟩⟩
  exact of_decide_eq_true (by kernel_rfl)
 ·rintro ⟨x,⟨⟩⟩ hw hn
  exact RF x (hn _ (List.mem_singleton.2 rfl))
theorem RJ (x:Innings) (hs:aj x) :(evFn (cf8 [] Tryz.f147) (fun _=>none) Tryz.f147 (bh psI (x,()))).sat fun v' rows=>leV v' (eQ (x,())).v∧rows =(eQ (x,())).rows:=by
 refine cast (by kernel_rfl) (?_ :((0:Nat)+x.11.length) *(1:Nat)≤(70368744177664:Nat)∧((0:Nat)+x.13.length) *(8:Nat)≤(70368744177664:Nat)∧((0:Nat)+x.14.length) *(8:Nat)≤(70368744177664:Nat)∧((0:Nat)+x.16.length) *(8:Nat)≤(70368744177664:Nat)∧((0:Nat)+x.21.length) *(1:Nat)≤(70368744177664:Nat)∧(x.1=x.1∧x.2=x.2∧x.3=x.3∧x.4=x.4∧x.5=x.5∧x.6.1=x.6.1∧x.6.2=x.6.2∧x.6.3=x.6.3∧x.6.4=x.6.4∧x.6.5=x.6.5∧x.7=x.7∧x.8=x.8∧x.9=x.9∧x.10=x.10∧(nat_lit 0=nat_lit 0∧nat_lit 0=nat_lit 0)∧x.12=x.12∧(nat_lit 1=nat_lit 1∧nat_lit 1=nat_lit 1)∧(nat_lit 2=nat_lit 2∧nat_lit 2=nat_lit 2)∧x.15=x.15∧(nat_lit 3=nat_lit 3∧nat_lit 3=nat_lit 3)∧x.17=x.17∧x.18=x.18∧x.19=x.19∧x.20=x.20∧(nat_lit 4=nat_lit 4∧nat_lit 4=nat_lit 4)∧x.22.1=x.22.1∧x.22.2.1=x.22.2.1∧x.23=x.23∧True)∧ [RowD.mk (Ty.int IntKind.u8) ([]++x.11),RowD.mk (Ty.int IntKind.i64) ([]++x.13),RowD.mk (Ty.int IntKind.i64) ([]++x.14),RowD.mk (Ty.int IntKind.i64) ([]++x.16),RowD.mk Ty.bool ([]++x.21)]=[RowD.mk (Ty.int IntKind.u8) x.11,RowD.mk (Ty.int IntKind.i64) x.13,RowD.mk (Ty.int IntKind.i64) x.14,RowD.mk (Ty.int IntKind.i64) x.16,RowD.mk Ty.bool x.21])
 obtain ⟨h1,h2,h3,h4,h5⟩:=hs
 exact ⟨by omega,by omega,by omega,by omega,by omega,by simp,rfl⟩
theorem q7:CtrOK Tryz.prog K8 147 (ap K8 psI eQ):=by
 refine aK (C:=cf8 [] Tryz.f147) (bp (CtrsOK.nil) _) mixed (fn:=Tryz.f147) Tryz.func147 (by kernel_rfl) (by kernel_rfl) (by kernel_rfl) (Λ:=fun _ _=>none) ?_ ?_ ?_
 ·exact fun _ _ _ _ _ _ _ _ h=>by cases h
 ·rintro ⟨x,⟨⟩⟩
  exact of_decide_eq_true (by kernel_rfl)
 ·rintro ⟨x,⟨⟩⟩ hw hn
  exact RJ x (hn _ (List.mem_singleton.2 rfl))
theorem Q4 (x:Innings) (p:Int) (hs:aj x) :(evFn (cf8 [k73,k74,k78] Tryz.f138) (fun _=>none) Tryz.f138 (bh d8 (x,p,()))).sat fun v' rows=>leV v' (mV (x,p,())).v∧rows =(mV (x,p,())).rows:=by
 refine cast (by kernel_rfl) (?_:aj x∧((!aX x p)=true→((x.1 =(af x p).1∧x.2 =(af x p).2∧x.3 =(af x p).3∧x.4 =(af x p).4∧x.5 =(af x p).5∧x.6.1 =(af x p).6.1∧x.6.2 =(af x p).6.2∧x.6.3 =(af x p).6.3∧x.6.4 =(af x p).6.4∧x.6.5 =(af x p).6.5∧x.7 =(af x p).7∧x.8 =(af x p).8∧x.9 =(af x p).9∧x.10 =(af x p).10∧(nat_lit 0=nat_lit 0∧nat_lit 0=nat_lit 0)∧x.12 =(af x p).12∧(nat_lit 1=nat_lit 1∧nat_lit 1=nat_lit 1)∧(nat_lit 2=nat_lit 2∧nat_lit 2=nat_lit 2)∧x.15 =(af x p).15∧(nat_lit 3=nat_lit 3∧nat_lit 3=nat_lit 3)∧x.17 =(af x p).17∧x.18 =(af x p).18∧x.19 =(af x p).19∧x.20 =(af x p).20∧(nat_lit 4=nat_lit 4∧nat_lit 4=nat_lit 4)∧x.22.1 =(af x p).22.1∧x.22.2.1 =(af x p).22.2.1∧x.23 =(af x p).23∧True)∧(3:Int)=bO x p∧True)∧ [RowD.mk (Ty.int IntKind.u8) x.11,RowD.mk (Ty.int IntKind.i64) x.13,RowD.mk (Ty.int IntKind.i64) x.14,RowD.mk (Ty.int IntKind.i64) x.16,RowD.mk Ty.bool x.21]=[RowD.mk (Ty.int IntKind.u8) (af x p).11,RowD.mk (Ty.int IntKind.i64) (af x p).13,RowD.mk (Ty.int IntKind.i64) (af x p).14,RowD.mk (Ty.int IntKind.i64) (af x p).16,RowD.mk Ty.bool (af x p).21])∧((!aX x p)=false→(aF x p=true→((x.1 =(af x p).1∧x.2 =(af x p).2∧x.3 =(af x p).3∧x.4 =(af x p).4∧x.5 =(af x p).5∧x.6.1 =(af x p).6.1∧x.6.2 =(af x p).6.2∧x.6.3 =(af x p).6.3∧x.6.4 =(af x p).6.4∧x.6.5 =(af x p).6.5∧x.7 =(af x p).7∧x.8 =(af x p).8∧x.9 =(af x p).9∧x.10 =(af x p).10∧(nat_lit 0=nat_lit 0∧nat_lit 0=nat_lit 0)∧x.12 =(af x p).12∧(nat_lit 1=nat_lit 1∧nat_lit 1=nat_lit 1)∧(nat_lit 2=nat_lit 2∧nat_lit 2=nat_lit 2)∧x.15 =(af x p).15∧(nat_lit 3=nat_lit 3∧nat_lit 3=nat_lit 3)∧x.17 =(af x p).17∧x.18 =(af x p).18∧x.19 =(af x p).19∧x.20 =(af x p).20∧(nat_lit 4=nat_lit 4∧nat_lit 4=nat_lit 4)∧x.22.1 =(af x p).22.1∧x.22.2.1 =(af x p).22.2.1∧x.23 =(af x p).23∧True)∧(18:Int)=bO x p∧True)∧ [RowD.mk (Ty.int IntKind.u8) x.11,RowD.mk (Ty.int IntKind.i64) x.13,RowD.mk (Ty.int IntKind.i64) x.14,RowD.mk (Ty.int IntKind.i64) x.16,RowD.mk Ty.bool x.21]=[RowD.mk (Ty.int IntKind.u8) (af x p).11,RowD.mk (Ty.int IntKind.i64) (af x p).13,RowD.mk (Ty.int IntKind.i64) (af x p).14,RowD.mk (Ty.int IntKind.i64) (af x p).16,RowD.mk Ty.bool (af x p).21])∧(aF x p=false→((bif p==x.12 then true else p==x.19)=true→((x.1 =(af x p).1∧x.2 =(af x p).2∧x.3 =(af x p).3∧x.4 =(af x p).4∧x.5 =(af x p).5∧x.6.1 =(af x p).6.1∧x.6.2 =(af x p).6.2∧x.6.3 =(af x p).6.3∧x.6.4 =(af x p).6.4∧x.6.5 =(af x p).6.5∧x.7 =(af x p).7∧x.8 =(af x p).8∧x.9 =(af x p).9∧x.10 =(af x p).10∧(nat_lit 0=nat_lit 0∧nat_lit 0=nat_lit 0)∧x.12 =(af x p).12∧(nat_lit 1=nat_lit 1∧nat_lit 1=nat_lit 1)∧(nat_lit 2=nat_lit 2∧nat_lit 2=nat_lit 2)∧x.15 =(af x p).15∧(nat_lit 3=nat_lit 3∧nat_lit 3=nat_lit 3)∧x.17 =(af x p).17∧x.18 =(af x p).18∧x.19 =(af x p).19∧x.20 =(af x p).20∧(nat_lit 4=nat_lit 4∧nat_lit 4=nat_lit 4)∧x.22.1 =(af x p).22.1∧x.22.2.1 =(af x p).22.2.1∧x.23 =(af x p).23∧True)∧(17:Int)=bO x p∧True)∧ [RowD.mk (Ty.int IntKind.u8) x.11,RowD.mk (Ty.int IntKind.i64) x.13,RowD.mk (Ty.int IntKind.i64) x.14,RowD.mk (Ty.int IntKind.i64) x.16,RowD.mk Ty.bool x.21]=[RowD.mk (Ty.int IntKind.u8) (af x p).11,RowD.mk (Ty.int IntKind.i64) (af x p).13,RowD.mk (Ty.int IntKind.i64) (af x p).14,RowD.mk (Ty.int IntKind.i64) (af x p).16,RowD.mk Ty.bool (af x p).21])∧((bif p==x.12 then true else p==x.19)=false→((x.1 =(af x p).1∧x.2 =(af x p).2∧x.3 =(af x p).3∧x.4 =(af x p).4∧x.5 =(af x p).5∧x.6.1 =(af x p).6.1∧x.6.2 =(af x p).6.2∧x.6.3 =(af x p).6.3∧x.6.4 =(af x p).6.4∧x.6.5 =(af x p).6.5∧x.7 =(af x p).7∧x.8 =(af x p).8∧x.9 =(af x p).9∧x.10 =(af x p).10∧(nat_lit 0=nat_lit 0∧nat_lit 0=nat_lit 0)∧x.12 =(af x p).12∧(nat_lit 1=nat_lit 1∧nat_lit 1=nat_lit 1)∧(nat_lit 2=nat_lit 2∧nat_lit 2=nat_lit 2)∧x.15 =(af x p).15∧(nat_lit 3=nat_lit 3∧nat_lit 3=nat_lit 3)∧x.17 =(af x p).17∧x.18 =(af x p).18∧p =(af x p).19∧x.20 =(af x p).20∧(nat_lit 4=nat_lit 4∧nat_lit 4=nat_lit 4)∧x.22.1 =(af x p).22.1∧x.22.2.1 =(af x p).22.2.1∧x.23 =(af x p).23∧True)∧(0:Int)=bO x p∧True)∧ [RowD.mk (Ty.int IntKind.u8) x.11,RowD.mk (Ty.int IntKind.i64) x.13,RowD.mk (Ty.int IntKind.i64) x.14,RowD.mk (Ty.int IntKind.i64) x.16,RowD.mk Ty.bool x.21]=[RowD.mk (Ty.int IntKind.u8) (af x p).11,RowD.mk (Ty.int IntKind.i64) (af x p).13,RowD.mk (Ty.int IntKind.i64) (af x p).14,RowD.mk (Ty.int IntKind.i64) (af x p).16,RowD.mk Ty.bool (af x p).21]))))
 refine ⟨hs,fun h1=>?_,fun h1=>⟨fun h2=>?_,fun h2=>⟨fun h3=>?_,fun h3=>?_⟩⟩⟩
 ·have k:aX x p=false:=by simpa using h1
  have e:af x p=x:=by simp [af,k]
  have l:bO x p=3:=by simp [bO,k]
  rw [e,l];simp
 ·have k:aX x p=true:=by simpa using h1
  have e:af x p=x:=by simp [af,k,h2]
  have l:bO x p=18:=by simp [bO,k,h2]
  rw [e,l];simp
 ·have k:aX x p=true:=by simpa using h1
  have h4 :(p==x.Bowler||p==x.Keeper)=true:=by rw [←h3];cases p==x.Bowler <;> rfl
  have e:af x p=x:=by simp only [af,k,h2,h4];simp
  have l:bO x p=17:=by simp only [bO,k,h2,h4];simp
  rw [e,l];simp
 ·have k:aX x p=true:=by simpa using h1
  have h4 :(p==x.Bowler||p==x.Keeper)=false:=by rw [←h3];cases p==x.Bowler <;> rfl
  have e:af x p={ x with Keeper:=p }:=by simp only [af,k,h2,h4];simp
  have l:bO x p=0:=by simp only [bO,k,h2,h4];simp
  rw [e,l];simp
theorem SA:CtrOK Tryz.prog K8 138 (ap K8 d8 mV):=by
 refine aK (C:=cf8 [k73,k74,k78] Tryz.f138) (bp (.cons Jt (.cons MZ (.cons PS .nil))) _) mixed (fn:=Tryz.f138) Tryz.func138 (by kernel_rfl) (by kernel_rfl) (by kernel_rfl) (Λ:=fun _ _=>none) ?_ ?_ ?_
 ·exact fun _ _ _ _ _ _ _ _ h=>by cases h
 ·rintro ⟨x,p,⟨⟩⟩
  exact of_decide_eq_true (by kernel_rfl)
 ·rintro ⟨x,p,⟨⟩⟩ hw hn
  exact Q4 x p (hn _ (List.mem_singleton.2 rfl))
theorem QG (x:Innings) (p:Int) (hs:aj x) :(evFn (cf8 [k44,k72,k76] Tryz.f192) (fun _=>none) Tryz.f192 (bh d8 (x,p,()))).sat fun v' rows=>leV v' (mV (x,p,())).v∧rows =(mV (x,p,())).rows:=by
 refine cast (by kernel_rfl) (?_:aj x∧((!aX x p)=true→((x.1 =(af x p).1∧x.2 =(af x p).2∧x.3 =(af x p).3∧x.4 =(af x p).4∧x.5 =(af x p).5∧x.6.1 =(af x p).6.1∧x.6.2 =(af x p).6.2∧x.6.3 =(af x p).6.3∧x.6.4 =(af x p).6.4∧x.6.5 =(af x p).6.5∧x.7 =(af x p).7∧x.8 =(af x p).8∧x.9 =(af x p).9∧x.10 =(af x p).10∧(nat_lit 0=nat_lit 0∧nat_lit 0=nat_lit 0)∧x.12 =(af x p).12∧(nat_lit 1=nat_lit 1∧nat_lit 1=nat_lit 1)∧(nat_lit 2=nat_lit 2∧nat_lit 2=nat_lit 2)∧x.15 =(af x p).15∧(nat_lit 3=nat_lit 3∧nat_lit 3=nat_lit 3)∧x.17 =(af x p).17∧x.18 =(af x p).18∧x.19 =(af x p).19∧x.20 =(af x p).20∧(nat_lit 4=nat_lit 4∧nat_lit 4=nat_lit 4)∧x.22.1 =(af x p).22.1∧x.22.2.1 =(af x p).22.2.1∧x.23 =(af x p).23∧True)∧(3:Int)=bO x p∧True)∧ [RowD.mk (Ty.int IntKind.u8) x.11,RowD.mk (Ty.int IntKind.i64) x.13,RowD.mk (Ty.int IntKind.i64) x.14,RowD.mk (Ty.int IntKind.i64) x.16,RowD.mk Ty.bool x.21]=[RowD.mk (Ty.int IntKind.u8) (af x p).11,RowD.mk (Ty.int IntKind.i64) (af x p).13,RowD.mk (Ty.int IntKind.i64) (af x p).14,RowD.mk (Ty.int IntKind.i64) (af x p).16,RowD.mk Ty.bool (af x p).21])∧((!aX x p)=false→(aF x p=true→((x.1 =(af x p).1∧x.2 =(af x p).2∧x.3 =(af x p).3∧x.4 =(af x p).4∧x.5 =(af x p).5∧x.6.1 =(af x p).6.1∧x.6.2 =(af x p).6.2∧x.6.3 =(af x p).6.3∧x.6.4 =(af x p).6.4∧x.6.5 =(af x p).6.5∧x.7 =(af x p).7∧x.8 =(af x p).8∧x.9 =(af x p).9∧x.10 =(af x p).10∧(nat_lit 0=nat_lit 0∧nat_lit 0=nat_lit 0)∧x.12 =(af x p).12∧(nat_lit 1=nat_lit 1∧nat_lit 1=nat_lit 1)∧(nat_lit 2=nat_lit 2∧nat_lit 2=nat_lit 2)∧x.15 =(af x p).15∧(nat_lit 3=nat_lit 3∧nat_lit 3=nat_lit 3)∧x.17 =(af x p).17∧x.18 =(af x p).18∧x.19 =(af x p).19∧x.20 =(af x p).20∧(nat_lit 4=nat_lit 4∧nat_lit 4=nat_lit 4)∧x.22.1 =(af x p).22.1∧x.22.2.1 =(af x p).22.2.1∧x.23 =(af x p).23∧True)∧(18:Int)=bO x p∧True)∧ [RowD.mk (Ty.int IntKind.u8) x.11,RowD.mk (Ty.int IntKind.i64) x.13,RowD.mk (Ty.int IntKind.i64) x.14,RowD.mk (Ty.int IntKind.i64) x.16,RowD.mk Ty.bool x.21]=[RowD.mk (Ty.int IntKind.u8) (af x p).11,RowD.mk (Ty.int IntKind.i64) (af x p).13,RowD.mk (Ty.int IntKind.i64) (af x p).14,RowD.mk (Ty.int IntKind.i64) (af x p).16,RowD.mk Ty.bool (af x p).21])∧(aF x p=false→((bif p==x.12 then true else p==x.19)=true→((x.1 =(af x p).1∧x.2 =(af x p).2∧x.3 =(af x p).3∧x.4 =(af x p).4∧x.5 =(af x p).5∧x.6.1 =(af x p).6.1∧x.6.2 =(af x p).6.2∧x.6.3 =(af x p).6.3∧x.6.4 =(af x p).6.4∧x.6.5 =(af x p).6.5∧x.7 =(af x p).7∧x.8 =(af x p).8∧x.9 =(af x p).9∧x.10 =(af x p).10∧(nat_lit 0=nat_lit 0∧nat_lit 0=nat_lit 0)∧x.12 =(af x p).12∧(nat_lit 1=nat_lit 1∧nat_lit 1=nat_lit 1)∧(nat_lit 2=nat_lit 2∧nat_lit 2=nat_lit 2)∧x.15 =(af x p).15∧(nat_lit 3=nat_lit 3∧nat_lit 3=nat_lit 3)∧x.17 =(af x p).17∧x.18 =(af x p).18∧x.19 =(af x p).19∧x.20 =(af x p).20∧(nat_lit 4=nat_lit 4∧nat_lit 4=nat_lit 4)∧x.22.1 =(af x p).22.1∧x.22.2.1 =(af x p).22.2.1∧x.23 =(af x p).23∧True)∧(17:Int)=bO x p∧True)∧ [RowD.mk (Ty.int IntKind.u8) x.11,RowD.mk (Ty.int IntKind.i64) x.13,RowD.mk (Ty.int IntKind.i64) x.14,RowD.mk (Ty.int IntKind.i64) x.16,RowD.mk Ty.bool x.21]=[RowD.mk (Ty.int IntKind.u8) (af x p).11,RowD.mk (Ty.int IntKind.i64) (af x p).13,RowD.mk (Ty.int IntKind.i64) (af x p).14,RowD.mk (Ty.int IntKind.i64) (af x p).16,RowD.mk Ty.bool (af x p).21])∧((bif p==x.12 then true else p==x.19)=false→((x.1 =(af x p).1∧x.2 =(af x p).2∧x.3 =(af x p).3∧x.4 =(af x p).4∧x.5 =(af x p).5∧x.6.1 =(af x p).6.1∧x.6.2 =(af x p).6.2∧x.6.3 =(af x p).6.3∧x.6.4 =(af x p).6.4∧x.6.5 =(af x p).6.5∧x.7 =(af x p).7∧x.8 =(af x p).8∧x.9 =(af x p).9∧x.10 =(af x p).10∧(nat_lit 0=nat_lit 0∧nat_lit 0=nat_lit 0)∧x.12 =(af x p).12∧(nat_lit 1=nat_lit 1∧nat_lit 1=nat_lit 1)∧(nat_lit 2=nat_lit 2∧nat_lit 2=nat_lit 2)∧x.15 =(af x p).15∧(nat_lit 3=nat_lit 3∧nat_lit 3=nat_lit 3)∧x.17 =(af x p).17∧x.18 =(af x p).18∧p =(af x p).19∧x.20 =(af x p).20∧(nat_lit 4=nat_lit 4∧nat_lit 4=nat_lit 4)∧x.22.1 =(af x p).22.1∧x.22.2.1 =(af x p).22.2.1∧x.23 =(af x p).23∧True)∧(0:Int)=bO x p∧True)∧ [RowD.mk (Ty.int IntKind.u8) x.11,RowD.mk (Ty.int IntKind.i64) x.13,RowD.mk (Ty.int IntKind.i64) x.14,RowD.mk (Ty.int IntKind.i64) x.16,RowD.mk Ty.bool x.21]=[RowD.mk (Ty.int IntKind.u8) (af x p).11,RowD.mk (Ty.int IntKind.i64) (af x p).13,RowD.mk (Ty.int IntKind.i64) (af x p).14,RowD.mk (Ty.int IntKind.i64) (af x p).16,RowD.mk Ty.bool (af x p).21]))))
 refine ⟨hs,fun h1=>?_,fun h1=>⟨fun h2=>?_,fun h2=>⟨fun h3=>?_,fun h3=>?_⟩⟩⟩
 ·have k:aX x p=false:=by simpa using h1
  have e:af x p=x:=by simp [af,k]
  have l:bO x p=3:=by simp [bO,k]
  rw [e,l];simp
 ·have k:aX x p=true:=by simpa using h1
  have e:af x p=x:=by simp [af,k,h2]
  have l:bO x p=18:=by simp [bO,k,h2]
  rw [e,l];simp
 ·have k:aX x p=true:=by simpa using h1
  have h4 :(p==x.Bowler||p==x.Keeper)=true:=by rw [←h3];cases p==x.Bowler <;> rfl
  have e:af x p=x:=by simp only [af,k,h2,h4];simp
  have l:bO x p=17:=by simp only [bO,k,h2,h4];simp
  rw [e,l];simp
 ·have k:aX x p=true:=by simpa using h1
  have h4 :(p==x.Bowler||p==x.Keeper)=false:=by rw [←h3];cases p==x.Bowler <;> rfl
  have e:af x p={ x with Keeper:=p }:=by simp only [af,k,h2,h4];simp
  have l:bO x p=0:=by simp only [bO,k,h2,h4];simp
  rw [e,l];simp
theorem SJ:CtrOK Tryz.prog K8 192 (ap K8 d8 mV):=by
 refine aK (C:=cf8 [k44,k72,k76] Tryz.f192) (bp (.cons q7 (.cons K4 (.cons MF .nil))) _) mixed (fn:=Tryz.f192) Tryz.func192 (by kernel_rfl) (by kernel_rfl) (by kernel_rfl) (Λ:=fun _ _=>none) ?_ ?_ ?_
 ·exact fun _ _ _ _ _ _ _ _ h=>by cases h
 ·rintro ⟨x,p,⟨⟩⟩
  exact of_decide_eq_true (by kernel_rfl)
 ·rintro ⟨x,p,⟨⟩⟩ hw hn
  exact QG x p (hn _ (List.mem_singleton.2 rfl))
theorem Rg (x:Innings) (p:Int) (on:Bool) (hs:aj x) (hp:gl p) :(evFn (cf8 [k73,k74,k78] Tryz.f139) (fun _=>none) Tryz.f139 (bh vQ (x,p,on,()))).sat fun v' rows=>leV v' (mJ (x,p,on,())).v∧rows =(mJ (x,p,on,())).rows:=by
 refine cast (by kernel_rfl) (?_:aj x∧((!aX x p)=true→((x.1 =(an x p on).1∧x.2 =(an x p on).2∧x.3 =(an x p on).3∧x.4 =(an x p on).4∧x.5 =(an x p on).5∧x.6.1 =(an x p on).6.1∧x.6.2 =(an x p on).6.2∧x.6.3 =(an x p on).6.3∧x.6.4 =(an x p on).6.4∧x.6.5 =(an x p on).6.5∧x.7 =(an x p on).7∧x.8 =(an x p on).8∧x.9 =(an x p on).9∧x.10 =(an x p on).10∧(nat_lit 0=nat_lit 0∧nat_lit 0=nat_lit 0)∧x.12 =(an x p on).12∧(nat_lit 1=nat_lit 1∧nat_lit 1=nat_lit 1)∧(nat_lit 2=nat_lit 2∧nat_lit 2=nat_lit 2)∧x.15 =(an x p on).15∧(nat_lit 3=nat_lit 3∧nat_lit 3=nat_lit 3)∧x.17 =(an x p on).17∧x.18 =(an x p on).18∧x.19 =(an x p on).19∧x.20 =(an x p on).20∧(nat_lit 4=nat_lit 4∧nat_lit 4=nat_lit 4)∧x.22.1 =(an x p on).22.1∧x.22.2.1 =(an x p on).22.2.1∧x.23 =(an x p on).23∧True)∧(3:Int)=de x p on∧True)∧ [RowD.mk (Ty.int IntKind.u8) x.11,RowD.mk (Ty.int IntKind.i64) x.13,RowD.mk (Ty.int IntKind.i64) x.14,RowD.mk (Ty.int IntKind.i64) x.16,RowD.mk Ty.bool x.21]=[RowD.mk (Ty.int IntKind.u8) (an x p on).11,RowD.mk (Ty.int IntKind.i64) (an x p on).13,RowD.mk (Ty.int IntKind.i64) (an x p on).14,RowD.mk (Ty.int IntKind.i64) (an x p on).16,RowD.mk Ty.bool (an x p on).21])∧((!aX x p)=false→((aF x p==on)=true→((x.1 =(an x p on).1∧x.2 =(an x p on).2∧x.3 =(an x p on).3∧x.4 =(an x p on).4∧x.5 =(an x p on).5∧x.6.1 =(an x p on).6.1∧x.6.2 =(an x p on).6.2∧x.6.3 =(an x p on).6.3∧x.6.4 =(an x p on).6.4∧x.6.5 =(an x p on).6.5∧x.7 =(an x p on).7∧x.8 =(an x p on).8∧x.9 =(an x p on).9∧x.10 =(an x p on).10∧(nat_lit 0=nat_lit 0∧nat_lit 0=nat_lit 0)∧x.12 =(an x p on).12∧(nat_lit 1=nat_lit 1∧nat_lit 1=nat_lit 1)∧(nat_lit 2=nat_lit 2∧nat_lit 2=nat_lit 2)∧x.15 =(an x p on).15∧(nat_lit 3=nat_lit 3∧nat_lit 3=nat_lit 3)∧x.17 =(an x p on).17∧x.18 =(an x p on).18∧x.19 =(an x p on).19∧x.20 =(an x p on).20∧(nat_lit 4=nat_lit 4∧nat_lit 4=nat_lit 4)∧x.22.1 =(an x p on).22.1∧x.22.2.1 =(an x p on).22.2.1∧x.23 =(an x p on).23∧True)∧(18:Int)=de x p on∧True)∧ [RowD.mk (Ty.int IntKind.u8) x.11,RowD.mk (Ty.int IntKind.i64) x.13,RowD.mk (Ty.int IntKind.i64) x.14,RowD.mk (Ty.int IntKind.i64) x.16,RowD.mk Ty.bool x.21]=[RowD.mk (Ty.int IntKind.u8) (an x p on).11,RowD.mk (Ty.int IntKind.i64) (an x p on).13,RowD.mk (Ty.int IntKind.i64) (an x p on).14,RowD.mk (Ty.int IntKind.i64) (an x p on).16,RowD.mk Ty.bool (an x p on).21])∧((aF x p==on)=false→((0:Int)≤IntKind.i64.wrap (p - (1:Int))∧IntKind.i64.wrap (p - (1:Int)) <(↑x.21.length:Int))∧(((bif bif on then (bif bif on then x.19==p else false then x.12 else x.12)==p else false then bif bif on then x.19==p else false then x.1 else x.1 else bif bif on then x.19==p else false then x.1 else x.1) =(an x p on).1∧(bif bif on then (bif bif on then x.19==p else false then x.12 else x.12)==p else false then bif bif on then x.19==p else false then x.2 else x.2 else bif bif on then x.19==p else false then x.2 else x.2) =(an x p on).2∧(bif bif on then (bif bif on then x.19==p else false then x.12 else x.12)==p else false then bif bif on then x.19==p else false then x.3 else x.3 else bif bif on then x.19==p else false then x.3 else x.3) =(an x p on).3∧(bif bif on then (bif bif on then x.19==p else false then x.12 else x.12)==p else false then bif bif on then x.19==p else false then x.4 else x.4 else bif bif on then x.19==p else false then x.4 else x.4) =(an x p on).4∧(bif bif on then (bif bif on then x.19==p else false then x.12 else x.12)==p else false then bif bif on then x.19==p else false then x.5 else x.5 else bif bif on then x.19==p else false then x.5 else x.5) =(an x p on).5∧(bif bif on then (bif bif on then x.19==p else false then x.12 else x.12)==p else false then bif bif on then x.19==p else false then x.6.1 else x.6.1 else bif bif on then x.19==p else false then x.6.1 else x.6.1) =(an x p on).6.1∧(bif bif on then (bif bif on then x.19==p else false then x.12 else x.12)==p else false then bif bif on then x.19==p else false then x.6.2 else x.6.2 else bif bif on then x.19==p else false then x.6.2 else x.6.2) =(an x p on).6.2∧(bif bif on then (bif bif on then x.19==p else false then x.12 else x.12)==p else false then bif bif on then x.19==p else false then x.6.3 else x.6.3 else bif bif on then x.19==p else false then x.6.3 else x.6.3) =(an x p on).6.3∧(bif bif on then (bif bif on then x.19==p else false then x.12 else x.12)==p else false then bif bif on then x.19==p else false then x.6.4 else x.6.4 else bif bif on then x.19==p else false then x.6.4 else x.6.4) =(an x p on).6.4∧(bif bif on then (bif bif on then x.19==p else false then x.12 else x.12)==p else false then bif bif on then x.19==p else false then x.6.5 else x.6.5 else bif bif on then x.19==p else false then x.6.5 else x.6.5) =(an x p on).6.5∧(bif bif on then (bif bif on then x.19==p else false then x.12 else x.12)==p else false then bif bif on then x.19==p else false then x.7 else x.7 else bif bif on then x.19==p else false then x.7 else x.7) =(an x p on).7∧(bif bif on then (bif bif on then x.19==p else false then x.12 else x.12)==p else false then bif bif on then x.19==p else false then x.8 else x.8 else bif bif on then x.19==p else false then x.8 else x.8) =(an x p on).8∧(bif bif on then (bif bif on then x.19==p else false then x.12 else x.12)==p else false then bif bif on then x.19==p else false then x.9 else x.9 else bif bif on then x.19==p else false then x.9 else x.9) =(an x p on).9∧(bif bif on then (bif bif on then x.19==p else false then x.12 else x.12)==p else false then bif bif on then x.19==p else false then x.10 else x.10 else bif bif on then x.19==p else false then x.10 else x.10) =(an x p on).10∧(nat_lit 0=nat_lit 0∧nat_lit 0=nat_lit 0)∧(bif bif on then (bif bif on then x.19==p else false then x.12 else x.12)==p else false then (0:Int) else bif bif on then x.19==p else false then x.12 else x.12) =(an x p on).12∧(nat_lit 1=nat_lit 1∧nat_lit 1=nat_lit 1)∧(nat_lit 2=nat_lit 2∧nat_lit 2=nat_lit 2)∧(bif bif on then (bif bif on then x.19==p else false then x.12 else x.12)==p else false then bif bif on then x.19==p else false then x.15 else x.15 else bif bif on then x.19==p else false then x.15 else x.15) =(an x p on).15∧(nat_lit 3=nat_lit 3∧nat_lit 3=nat_lit 3)∧(bif bif on then (bif bif on then x.19==p else false then x.12 else x.12)==p else false then bif bif on then x.19==p else false then x.17 else x.17 else bif bif on then x.19==p else false then x.17 else x.17) =(an x p on).17∧(bif bif on then (bif bif on then x.19==p else false then x.12 else x.12)==p else false then bif bif on then x.19==p else false then x.18 else x.18 else bif bif on then x.19==p else false then x.18 else x.18) =(an x p on).18∧(bif bif on then (bif bif on then x.19==p else false then x.12 else x.12)==p else false then bif bif on then x.19==p else false then (0:Int) else x.19 else bif bif on then x.19==p else false then (0:Int) else x.19) =(an x p on).19∧(bif bif on then (bif bif on then x.19==p else false then x.12 else x.12)==p else false then bif bif on then x.19==p else false then x.20 else x.20 else bif bif on then x.19==p else false then x.20 else x.20) =(an x p on).20∧(nat_lit 4=nat_lit 4∧nat_lit 4=nat_lit 4)∧(bif bif on then (bif bif on then x.19==p else false then x.12 else x.12)==p else false then bif bif on then x.19==p else false then x.22.1 else x.22.1 else bif bif on then x.19==p else false then x.22.1 else x.22.1) =(an x p on).22.1∧(bif bif on then (bif bif on then x.19==p else false then x.12 else x.12)==p else false then bif bif on then x.19==p else false then x.22.2.1 else x.22.2.1 else bif bif on then x.19==p else false then x.22.2.1 else x.22.2.1) =(an x p on).22.2.1∧(bif bif on then (bif bif on then x.19==p else false then x.12 else x.12)==p else false then bif bif on then x.19==p else false then x.23 else x.23 else bif bif on then x.19==p else false then x.23 else x.23) =(an x p on).23∧True)∧(0:Int)=de x p on∧True)∧ [RowD.mk (Ty.int IntKind.u8) x.11,RowD.mk (Ty.int IntKind.i64) x.13,RowD.mk (Ty.int IntKind.i64) x.14,RowD.mk (Ty.int IntKind.i64) x.16,RowD.mk Ty.bool (x.21.set (IntKind.i64.wrap (p - (1:Int))).toNat on)]=[RowD.mk (Ty.int IntKind.u8) (an x p on).11,RowD.mk (Ty.int IntKind.i64) (an x p on).13,RowD.mk (Ty.int IntKind.i64) (an x p on).14,RowD.mk (Ty.int IntKind.i64) (an x p on).16,RowD.mk Ty.bool (an x p on).21])))
 refine ⟨hs,fun h1=>?_,fun h1=>⟨fun h2=>?_,fun h2=>?_⟩⟩
 ·have k:aX x p=false:=by simpa using h1
  have e:an x p on=x:=by simp [an,k]
  have l:de x p on=3:=by simp [de,k]
  rw [e,l];simp
 ·have k:aX x p=true:=by simpa using h1
  have e:an x p on=x:=by simp only [an,k,h2];simp
  have l:de x p on=18:=by simp only [de,k,h2];simp
  rw [e,l];simp
 ·have k:aX x p=true:=by simpa using h1
  have e:an x p on=lJ x p on:=by simp only [an,k,h2];simp
  have l:de x p on=0:=by simp only [de,k,h2];simp
  obtain ⟨ew,a,b⟩:=qJ hp k
  rw [e,l,ew]
  refine ⟨⟨a,b⟩,?_⟩
  simp only [Bool.cond_self]
  cases on with
  | false=>simp [lJ]
  | true=>cases hk :(x.Keeper==p) <;> cases hb :(x.Bowler==p) <;> simp [lJ,hk,hb]
theorem Sb:CtrOK Tryz.prog K8 139 (ap K8 vQ mJ):=by
 refine aK (C:=cf8 [k73,k74,k78] Tryz.f139) (bp (.cons Jt (.cons MZ (.cons PS .nil))) _) mixed (fn:=Tryz.f139) Tryz.func139 (by kernel_rfl) (by kernel_rfl) (by kernel_rfl) (Λ:=fun _ _=>none) ?_ ?_ ?_
 ·exact fun _ _ _ _ _ _ _ _ h=>by cases h
 ·rintro ⟨x,p,on,⟨⟩⟩
  exact of_decide_eq_true (by kernel_rfl)
 ·rintro ⟨x,p,on,⟨⟩⟩ hw hn
  exact Rg x p on (hn _ (List.mem_singleton.2 rfl)) (db (aY (aO hw)))
theorem RU (x:Innings) (p:Int) (on:Bool) (hs:aj x) (hp:gl p) :(evFn (cf8 [k44,k72,k76] Tryz.f193) (fun _=>none) Tryz.f193 (bh vQ (x,p,on,()))).sat fun v' rows=>leV v' (mJ (x,p,on,())).v∧rows =(mJ (x,p,on,())).rows:=by
 refine cast (by kernel_rfl) (?_:aj x∧((!aX x p)=true→((x.1 =(an x p on).1∧x.2 =(an x p on).2∧x.3 =(an x p on).3∧x.4 =(an x p on).4∧x.5 =(an x p on).5∧x.6.1 =(an x p on).6.1∧x.6.2 =(an x p on).6.2∧x.6.3 =(an x p on).6.3∧x.6.4 =(an x p on).6.4∧x.6.5 =(an x p on).6.5∧x.7 =(an x p on).7∧x.8 =(an x p on).8∧x.9 =(an x p on).9∧x.10 =(an x p on).10∧(nat_lit 0=nat_lit 0∧nat_lit 0=nat_lit 0)∧x.12 =(an x p on).12∧(nat_lit 1=nat_lit 1∧nat_lit 1=nat_lit 1)∧(nat_lit 2=nat_lit 2∧nat_lit 2=nat_lit 2)∧x.15 =(an x p on).15∧(nat_lit 3=nat_lit 3∧nat_lit 3=nat_lit 3)∧x.17 =(an x p on).17∧x.18 =(an x p on).18∧x.19 =(an x p on).19∧x.20 =(an x p on).20∧(nat_lit 4=nat_lit 4∧nat_lit 4=nat_lit 4)∧x.22.1 =(an x p on).22.1∧x.22.2.1 =(an x p on).22.2.1∧x.23 =(an x p on).23∧True)∧(3:Int)=de x p on∧True)∧ [RowD.mk (Ty.int IntKind.u8) x.11,RowD.mk (Ty.int IntKind.i64) x.13,RowD.mk (Ty.int IntKind.i64) x.14,RowD.mk (Ty.int IntKind.i64) x.16,RowD.mk Ty.bool x.21]=[RowD.mk (Ty.int IntKind.u8) (an x p on).11,RowD.mk (Ty.int IntKind.i64) (an x p on).13,RowD.mk (Ty.int IntKind.i64) (an x p on).14,RowD.mk (Ty.int IntKind.i64) (an x p on).16,RowD.mk Ty.bool (an x p on).21])∧((!aX x p)=false→((aF x p==on)=true→((x.1 =(an x p on).1∧x.2 =(an x p on).2∧x.3 =(an x p on).3∧x.4 =(an x p on).4∧x.5 =(an x p on).5∧x.6.1 =(an x p on).6.1∧x.6.2 =(an x p on).6.2∧x.6.3 =(an x p on).6.3∧x.6.4 =(an x p on).6.4∧x.6.5 =(an x p on).6.5∧x.7 =(an x p on).7∧x.8 =(an x p on).8∧x.9 =(an x p on).9∧x.10 =(an x p on).10∧(nat_lit 0=nat_lit 0∧nat_lit 0=nat_lit 0)∧x.12 =(an x p on).12∧(nat_lit 1=nat_lit 1∧nat_lit 1=nat_lit 1)∧(nat_lit 2=nat_lit 2∧nat_lit 2=nat_lit 2)∧x.15 =(an x p on).15∧(nat_lit 3=nat_lit 3∧nat_lit 3=nat_lit 3)∧x.17 =(an x p on).17∧x.18 =(an x p on).18∧x.19 =(an x p on).19∧x.20 =(an x p on).20∧(nat_lit 4=nat_lit 4∧nat_lit 4=nat_lit 4)∧x.22.1 =(an x p on).22.1∧x.22.2.1 =(an x p on).22.2.1∧x.23 =(an x p on).23∧True)∧(18:Int)=de x p on∧True)∧ [RowD.mk (Ty.int IntKind.u8) x.11,RowD.mk (Ty.int IntKind.i64) x.13,RowD.mk (Ty.int IntKind.i64) x.14,RowD.mk (Ty.int IntKind.i64) x.16,RowD.mk Ty.bool x.21]=[RowD.mk (Ty.int IntKind.u8) (an x p on).11,RowD.mk (Ty.int IntKind.i64) (an x p on).13,RowD.mk (Ty.int IntKind.i64) (an x p on).14,RowD.mk (Ty.int IntKind.i64) (an x p on).16,RowD.mk Ty.bool (an x p on).21])∧((aF x p==on)=false→((0:Int)≤IntKind.i64.wrap (p - (1:Int))∧IntKind.i64.wrap (p - (1:Int)) <(↑x.21.length:Int))∧(((bif bif on then (bif bif on then x.19==p else false then x.12 else x.12)==p else false then bif bif on then x.19==p else false then x.1 else x.1 else bif bif on then x.19==p else false then x.1 else x.1) =(an x p on).1∧(bif bif on then (bif bif on then x.19==p else false then x.12 else x.12)==p else false then bif bif on then x.19==p else false then x.2 else x.2 else bif bif on then x.19==p else false then x.2 else x.2) =(an x p on).2∧(bif bif on then (bif bif on then x.19==p else false then x.12 else x.12)==p else false then bif bif on then x.19==p else false then x.3 else x.3 else bif bif on then x.19==p else false then x.3 else x.3) =(an x p on).3∧(bif bif on then (bif bif on then x.19==p else false then x.12 else x.12)==p else false then bif bif on then x.19==p else false then x.4 else x.4 else bif bif on then x.19==p else false then x.4 else x.4) =(an x p on).4∧(bif bif on then (bif bif on then x.19==p else false then x.12 else x.12)==p else false then bif bif on then x.19==p else false then x.5 else x.5 else bif bif on then x.19==p else false then x.5 else x.5) =(an x p on).5∧(bif bif on then (bif bif on then x.19==p else false then x.12 else x.12)==p else false then bif bif on then x.19==p else false then x.6.1 else x.6.1 else bif bif on then x.19==p else false then x.6.1 else x.6.1) =(an x p on).6.1∧(bif bif on then (bif bif on then x.19==p else false then x.12 else x.12)==p else false then bif bif on then x.19==p else false then x.6.2 else x.6.2 else bif bif on then x.19==p else false then x.6.2 else x.6.2) =(an x p on).6.2∧(bif bif on then (bif bif on then x.19==p else false then x.12 else x.12)==p else false then bif bif on then x.19==p else false then x.6.3 else x.6.3 else bif bif on then x.19==p else false then x.6.3 else x.6.3) =(an x p on).6.3∧(bif bif on then (bif bif on then x.19==p else false then x.12 else x.12)==p else false then bif bif on then x.19==p else false then x.6.4 else x.6.4 else bif bif on then x.19==p else false then x.6.4 else x.6.4) =(an x p on).6.4∧(bif bif on then (bif bif on then x.19==p else false then x.12 else x.12)==p else false then bif bif on then x.19==p else false then x.6.5 else x.6.5 else bif bif on then x.19==p else false then x.6.5 else x.6.5) =(an x p on).6.5∧(bif bif on then (bif bif on then x.19==p else false then x.12 else x.12)==p else false then bif bif on then x.19==p else false then x.7 else x.7 else bif bif on then x.19==p else false then x.7 else x.7) =(an x p on).7∧(bif bif on then (bif bif on then x.19==p else false then x.12 else x.12)==p else false then bif bif on then x.19==p else false then x.8 else x.8 else bif bif on then x.19==p else false then x.8 else x.8) =(an x p on).8∧(bif bif on then (bif bif on then x.19==p else false then x.12 else x.12)==p else false then bif bif on then x.19==p else false then x.9 else x.9 else bif bif on then x.19==p else false then x.9 else x.9) =(an x p on).9∧(bif bif on then (bif bif on then x.19==p else false then x.12 else x.12)==p else false then bif bif on then x.19==p else false then x.10 else x.10 else bif bif on then x.19==p else false then x.10 else x.10) =(an x p on).10∧(nat_lit 0=nat_lit 0∧nat_lit 0=nat_lit 0)∧(bif bif on then (bif bif on then x.19==p else false then x.12 else x.12)==p else false then (0:Int) else bif bif on then x.19==p else false then x.12 else x.12) =(an x p on).12∧(nat_lit 1=nat_lit 1∧nat_lit 1=nat_lit 1)∧(nat_lit 2=nat_lit 2∧nat_lit 2=nat_lit 2)∧(bif bif on then (bif bif on then x.19==p else false then x.12 else x.12)==p else false then bif bif on then x.19==p else false then x.15 else x.15 else bif bif on then x.19==p else false then x.15 else x.15) =(an x p on).15∧(nat_lit 3=nat_lit 3∧nat_lit 3=nat_lit 3)∧(bif bif on then (bif bif on then x.19==p else false then x.12 else x.12)==p else false then bif bif on then x.19==p else false then x.17 else x.17 else bif bif on then x.19==p else false then x.17 else x.17) =(an x p on).17∧(bif bif on then (bif bif on then x.19==p else false then x.12 else x.12)==p else false then bif bif on then x.19==p else false then x.18 else x.18 else bif bif on then x.19==p else false then x.18 else x.18) =(an x p on).18∧(bif bif on then (bif bif on then x.19==p else false then x.12 else x.12)==p else false then bif bif on then x.19==p else false then (0:Int) else x.19 else bif bif on then x.19==p else false then (0:Int) else x.19) =(an x p on).19∧(bif bif on then (bif bif on then x.19==p else false then x.12 else x.12)==p else false then bif bif on then x.19==p else false then x.20 else x.20 else bif bif on then x.19==p else false then x.20 else x.20) =(an x p on).20∧(nat_lit 4=nat_lit 4∧nat_lit 4=nat_lit 4)∧(bif bif on then (bif bif on then x.19==p else false then x.12 else x.12)==p else false then bif bif on then x.19==p else false then x.22.1 else x.22.1 else bif bif on then x.19==p else false then x.22.1 else x.22.1) =(an x p on).22.1∧(bif bif on then (bif bif on then x.19==p else false then x.12 else x.12)==p else false then bif bif on then x.19==p else false then x.22.2.1 else x.22.2.1 else bif bif on then x.19==p else false then x.22.2.1 else x.22.2.1) =(an x p on).22.2.1∧(bif bif on then (bif bif on then x.19==p else false then x.12 else x.12)==p else false then bif bif on then x.19==p else false then x.23 else x.23 else bif bif on then x.19==p else false then x.23 else x.23) =(an x p on).23∧True)∧(0:Int)=de x p on∧True)∧ [RowD.mk (Ty.int IntKind.u8) x.11,RowD.mk (Ty.int IntKind.i64) x.13,RowD.mk (Ty.int IntKind.i64) x.14,RowD.mk (Ty.int IntKind.i64) x.16,RowD.mk Ty.bool (x.21.set (IntKind.i64.wrap (p - (1:Int))).toNat on)]=[RowD.mk (Ty.int IntKind.u8) (an x p on).11,RowD.mk (Ty.int IntKind.i64) (an x p on).13,RowD.mk (Ty.int IntKind.i64) (an x p on).14,RowD.mk (Ty.int IntKind.i64) (an x p on).16,RowD.mk Ty.bool (an x p on).21])))
 refine ⟨hs,fun h1=>?_,fun h1=>⟨fun h2=>?_,fun h2=>?_⟩⟩
 ·have k:aX x p=false:=by simpa using h1
  have e:an x p on=x:=by simp [an,k]
  have l:de x p on=3:=by simp [de,k]
  rw [e,l];simp
 ·have k:aX x p=true:=by simpa using h1
  have e:an x p on=x:=by simp only [an,k,h2];simp
  have l:de x p on=18:=by simp only [de,k,h2];simp
  rw [e,l];simp
 ·have k:aX x p=true:=by simpa using h1
  have e:an x p on=lJ x p on:=by simp only [an,k,h2];simp
  have l:de x p on=0:=by simp only [de,k,h2];simp
  obtain ⟨ew,a,b⟩:=qJ hp k
  rw [e,l,ew]
  refine ⟨⟨a,b⟩,?_⟩
  simp only [Bool.cond_self]
  cases on with
  | false=>simp [lJ]
  | true=>cases hk :(x.Keeper==p) <;> cases hb :(x.Bowler==p) <;> simp [lJ,hk,hb]
theorem Sg:CtrOK Tryz.prog K8 193 (ap K8 vQ mJ):=by
 refine aK (C:=cf8 [k44,k72,k76] Tryz.f193) (bp (.cons q7 (.cons K4 (.cons MF .nil))) _) mixed (fn:=Tryz.f193) Tryz.func193 (by kernel_rfl) (by kernel_rfl) (by kernel_rfl) (Λ:=fun _ _=>none) ?_ ?_ ?_
 ·exact fun _ _ _ _ _ _ _ _ h=>by cases h
 ·rintro ⟨x,p,on,⟨⟩⟩
  exact of_decide_eq_true (by kernel_rfl)
 ·rintro ⟨x,p,on,⟨⟩⟩ hw hn
  exact RU x p on (hn _ (List.mem_singleton.2 rfl)) (db (aY (aO hw)))
theorem QC (x:Innings) (p:Int) (hs:aj x) :(evFn (cf8 [k78] Tryz.f137) (fun _=>none) Tryz.f137 (bh d8 (x,p,()))).sat fun v' rows=>leV v' (mG (x,p,())).v∧rows =(mG (x,p,())).rows:=by
 refine cast (by kernel_rfl) (?_:aj x∧((bif decide (p <(0:Int)) then true else decide (p>IntKind.i64.wrap ((↑x.21.length:Int) - (2:Int))))=true→((x.1 =(am x p).1∧x.2 =(am x p).2∧x.3 =(am x p).3∧x.4 =(am x p).4∧x.5 =(am x p).5∧x.6.1 =(am x p).6.1∧x.6.2 =(am x p).6.2∧x.6.3 =(am x p).6.3∧x.6.4 =(am x p).6.4∧x.6.5 =(am x p).6.5∧x.7 =(am x p).7∧x.8 =(am x p).8∧x.9 =(am x p).9∧x.10 =(am x p).10∧(nat_lit 0=nat_lit 0∧nat_lit 0=nat_lit 0)∧x.12 =(am x p).12∧(nat_lit 1=nat_lit 1∧nat_lit 1=nat_lit 1)∧(nat_lit 2=nat_lit 2∧nat_lit 2=nat_lit 2)∧x.15 =(am x p).15∧(nat_lit 3=nat_lit 3∧nat_lit 3=nat_lit 3)∧x.17 =(am x p).17∧x.18 =(am x p).18∧x.19 =(am x p).19∧x.20 =(am x p).20∧(nat_lit 4=nat_lit 4∧nat_lit 4=nat_lit 4)∧x.22.1 =(am x p).22.1∧x.22.2.1 =(am x p).22.2.1∧x.23 =(am x p).23∧True)∧(16:Int)=cJ x p∧True)∧ [RowD.mk (Ty.int IntKind.u8) x.11,RowD.mk (Ty.int IntKind.i64) x.13,RowD.mk (Ty.int IntKind.i64) x.14,RowD.mk (Ty.int IntKind.i64) x.16,RowD.mk Ty.bool x.21]=[RowD.mk (Ty.int IntKind.u8) (am x p).11,RowD.mk (Ty.int IntKind.i64) (am x p).13,RowD.mk (Ty.int IntKind.i64) (am x p).14,RowD.mk (Ty.int IntKind.i64) (am x p).16,RowD.mk Ty.bool (am x p).21])∧((bif decide (p <(0:Int)) then true else decide (p>IntKind.i64.wrap ((↑x.21.length:Int) - (2:Int))))=false→((x.1 =(am x p).1∧x.2 =(am x p).2∧x.3 =(am x p).3∧x.4 =(am x p).4∧x.5 =(am x p).5∧x.6.1 =(am x p).6.1∧x.6.2 =(am x p).6.2∧x.6.3 =(am x p).6.3∧x.6.4 =(am x p).6.4∧x.6.5 =(am x p).6.5∧x.7 =(am x p).7∧x.8 =(am x p).8∧x.9 =(am x p).9∧x.10 =(am x p).10∧(nat_lit 0=nat_lit 0∧nat_lit 0=nat_lit 0)∧x.12 =(am x p).12∧(nat_lit 1=nat_lit 1∧nat_lit 1=nat_lit 1)∧(nat_lit 2=nat_lit 2∧nat_lit 2=nat_lit 2)∧x.15 =(am x p).15∧(nat_lit 3=nat_lit 3∧nat_lit 3=nat_lit 3)∧x.17 =(am x p).17∧x.18 =(am x p).18∧x.19 =(am x p).19∧p =(am x p).20∧(nat_lit 4=nat_lit 4∧nat_lit 4=nat_lit 4)∧x.22.1 =(am x p).22.1∧x.22.2.1 =(am x p).22.2.1∧x.23 =(am x p).23∧True)∧(0:Int)=cJ x p∧True)∧ [RowD.mk (Ty.int IntKind.u8) x.11,RowD.mk (Ty.int IntKind.i64) x.13,RowD.mk (Ty.int IntKind.i64) x.14,RowD.mk (Ty.int IntKind.i64) x.16,RowD.mk Ty.bool x.21]=[RowD.mk (Ty.int IntKind.u8) (am x p).11,RowD.mk (Ty.int IntKind.i64) (am x p).13,RowD.mk (Ty.int IntKind.i64) (am x p).14,RowD.mk (Ty.int IntKind.i64) (am x p).16,RowD.mk Ty.bool (am x p).21]))
 have ew:IntKind.i64.wrap ((x.Subs.length:Int) - 2) =(x.Subs.length:Int) - 2:=by
  have:=hs.2.2.2.2
  rw [dd (by omega) (by omega)]
 have hc :(bif decide (p <(0:Int)) then true else decide (p>IntKind.i64.wrap ((x.Subs.length:Int) - (2:Int))))=j5 x p:=by
  rw [ew];simp only [j5];cases decide (p<0) <;> rfl
 refine ⟨hs,fun h1=>?_,fun h1=>?_⟩
 ·have h1:j5 x p=true:=by rw [←hc];exact h1
  have e:am x p=x:=by simp [am,h1]
  have l:cJ x p=16:=by simp [cJ,h1]
  rw [e,l];simp
 ·have h1:j5 x p=false:=by rw [←hc];exact h1
  have e:am x p={ x with Outside:=p }:=by simp [am,h1]
  have l:cJ x p=0:=by simp [cJ,h1]
  rw [e,l];simp
theorem Sp:CtrOK Tryz.prog K8 137 (ap K8 d8 mG):=by
 refine aK (C:=cf8 [k78] Tryz.f137) (bp (.cons PS .nil) _) mixed (fn:=Tryz.f137) Tryz.func137 (by kernel_rfl) (by kernel_rfl) (by kernel_rfl) (Λ:=fun _ _=>none) ?_ ?_ ?_
 ·exact fun _ _ _ _ _ _ _ _ h=>by cases h
 ·rintro ⟨x,p,⟨⟩⟩
  exact of_decide_eq_true (by kernel_rfl)
 ·rintro ⟨x,p,⟨⟩⟩ hw hn
  exact QC x p (hn _ (List.mem_singleton.2 rfl))
theorem QV (x:Innings) (p:Int) (hs:aj x) :(evFn (cf8 [k44] Tryz.f191) (fun _=>none) Tryz.f191 (bh d8 (x,p,()))).sat fun v' rows=>leV v' (mG (x,p,())).v∧rows =(mG (x,p,())).rows:=by
 refine cast (by kernel_rfl) (?_:aj x∧((bif decide (p <(0:Int)) then true else decide (p>IntKind.i64.wrap ((↑x.21.length:Int) - (2:Int))))=true→((x.1 =(am x p).1∧x.2 =(am x p).2∧x.3 =(am x p).3∧x.4 =(am x p).4∧x.5 =(am x p).5∧x.6.1 =(am x p).6.1∧x.6.2 =(am x p).6.2∧x.6.3 =(am x p).6.3∧x.6.4 =(am x p).6.4∧x.6.5 =(am x p).6.5∧x.7 =(am x p).7∧x.8 =(am x p).8∧x.9 =(am x p).9∧x.10 =(am x p).10∧(nat_lit 0=nat_lit 0∧nat_lit 0=nat_lit 0)∧x.12 =(am x p).12∧(nat_lit 1=nat_lit 1∧nat_lit 1=nat_lit 1)∧(nat_lit 2=nat_lit 2∧nat_lit 2=nat_lit 2)∧x.15 =(am x p).15∧(nat_lit 3=nat_lit 3∧nat_lit 3=nat_lit 3)∧x.17 =(am x p).17∧x.18 =(am x p).18∧x.19 =(am x p).19∧x.20 =(am x p).20∧(nat_lit 4=nat_lit 4∧nat_lit 4=nat_lit 4)∧x.22.1 =(am x p).22.1∧x.22.2.1 =(am x p).22.2.1∧x.23 =(am x p).23∧True)∧(16:Int)=cJ x p∧True)∧ [RowD.mk (Ty.int IntKind.u8) x.11,RowD.mk (Ty.int IntKind.i64) x.13,RowD.mk (Ty.int IntKind.i64) x.14,RowD.mk (Ty.int IntKind.i64) x.16,RowD.mk Ty.bool x.21]=[RowD.mk (Ty.int IntKind.u8) (am x p).11,RowD.mk (Ty.int IntKind.i64) (am x p).13,RowD.mk (Ty.int IntKind.i64) (am x p).14,RowD.mk (Ty.int IntKind.i64) (am x p).16,RowD.mk Ty.bool (am x p).21])∧((bif decide (p <(0:Int)) then true else decide (p>IntKind.i64.wrap ((↑x.21.length:Int) - (2:Int))))=false→((x.1 =(am x p).1∧x.2 =(am x p).2∧x.3 =(am x p).3∧x.4 =(am x p).4∧x.5 =(am x p).5∧x.6.1 =(am x p).6.1∧x.6.2 =(am x p).6.2∧x.6.3 =(am x p).6.3∧x.6.4 =(am x p).6.4∧x.6.5 =(am x p).6.5∧x.7 =(am x p).7∧x.8 =(am x p).8∧x.9 =(am x p).9∧x.10 =(am x p).10∧(nat_lit 0=nat_lit 0∧nat_lit 0=nat_lit 0)∧x.12 =(am x p).12∧(nat_lit 1=nat_lit 1∧nat_lit 1=nat_lit 1)∧(nat_lit 2=nat_lit 2∧nat_lit 2=nat_lit 2)∧x.15 =(am x p).15∧(nat_lit 3=nat_lit 3∧nat_lit 3=nat_lit 3)∧x.17 =(am x p).17∧x.18 =(am x p).18∧x.19 =(am x p).19∧p =(am x p).20∧(nat_lit 4=nat_lit 4∧nat_lit 4=nat_lit 4)∧x.22.1 =(am x p).22.1∧x.22.2.1 =(am x p).22.2.1∧x.23 =(am x p).23∧True)∧(0:Int)=cJ x p∧True)∧ [RowD.mk (Ty.int IntKind.u8) x.11,RowD.mk (Ty.int IntKind.i64) x.13,RowD.mk (Ty.int IntKind.i64) x.14,RowD.mk (Ty.int IntKind.i64) x.16,RowD.mk Ty.bool x.21]=[RowD.mk (Ty.int IntKind.u8) (am x p).11,RowD.mk (Ty.int IntKind.i64) (am x p).13,RowD.mk (Ty.int IntKind.i64) (am x p).14,RowD.mk (Ty.int IntKind.i64) (am x p).16,RowD.mk Ty.bool (am x p).21]))
 have ew:IntKind.i64.wrap ((x.Subs.length:Int) - 2) =(x.Subs.length:Int) - 2:=by
  have:=hs.2.2.2.2
  rw [dd (by omega) (by omega)]
 have hc :(bif decide (p <(0:Int)) then true else decide (p>IntKind.i64.wrap ((x.Subs.length:Int) - (2:Int))))=j5 x p:=by
  rw [ew];simp only [j5];cases decide (p<0) <;> rfl
 refine ⟨hs,fun h1=>?_,fun h1=>?_⟩
 ·have h1:j5 x p=true:=by rw [←hc];exact h1
  have e:am x p=x:=by simp [am,h1]
  have l:cJ x p=16:=by simp [cJ,h1]
  rw [e,l];simp
 ·have h1:j5 x p=false:=by rw [←hc];exact h1
  have e:am x p={ x with Outside:=p }:=by simp [am,h1]
  have l:cJ x p=0:=by simp [cJ,h1]
  rw [e,l];simp
theorem Sy:CtrOK Tryz.prog K8 191 (ap K8 d8 mG):=by
 refine aK (C:=cf8 [k44] Tryz.f191) (bp (.cons q7 .nil) _) mixed (fn:=Tryz.f191) Tryz.func191 (by kernel_rfl) (by kernel_rfl) (by kernel_rfl) (Λ:=fun _ _=>none) ?_ ?_ ?_
 ·exact fun _ _ _ _ _ _ _ _ h=>by cases h
 ·rintro ⟨x,p,⟨⟩⟩
  exact of_decide_eq_true (by kernel_rfl)
 ·rintro ⟨x,p,⟨⟩⟩ hw hn
  exact QV x p (hn _ (List.mem_singleton.2 rfl))
end Go.Proofs.YtkgplaoappjkcaaGreat
namespace Go.Proofs.YtkgplaoappjkcaaGreat
open Go Go.Mir
attribute [local irreducible] Go.Mir.DT.sat Go.Mir.evPat Go.Mir.RT.sat Go.Mir.evFn
abbrev Is:Ty:= .slice I
abbrev JC:List (Nat×PB):= [(0,.cells [.h I,.h I,.h I,.h I,.h I,.h I,.h I,.h I,.h I,.h I,.h I,.h I,.h I,.h I,.c (.osl 1 2),.h I,.c (.osl 3 4),.c (.osl 5 6),.h .bool,.c (.osl 7 8),.h .bool,.h I,.h I,.h I,.c (.osl 9 10),.h I,.h I,.h U8]),(1,.row 2 U8),(3,.row 4 I),(5,.row 6 I),(7,.row 8 I),(9,.row 10 .bool)]
abbrev N9:Ty:=fP JC .unit
def inn (x:Den N9):Innings:=⟨x.1,x.2.1,x.2.2.1,x.2.2.2.1,x.2.2.2.2.1,⟨x.2.2.2.2.2.1,x.2.2.2.2.2.2.1,x.2.2.2.2.2.2.2.1,x.2.2.2.2.2.2.2.2.1,x.2.2.2.2.2.2.2.2.2.1⟩,x.2.2.2.2.2.2.2.2.2.2.1,x.2.2.2.2.2.2.2.2.2.2.2.1,x.2.2.2.2.2.2.2.2.2.2.2.2.1,x.2.2.2.2.2.2.2.2.2.2.2.2.2.1,x.2.2.2.2.2.2.2.2.2.2.2.2.2.2.2.2.2.2.2.2.2.2.2.1,x.2.2.2.2.2.2.2.2.2.2.2.2.2.2.1,x.2.2.2.2.2.2.2.2.2.2.2.2.2.2.2.2.2.2.2.2.2.2.2.2.1,x.2.2.2.2.2.2.2.2.2.2.2.2.2.2.2.2.2.2.2.2.2.2.2.2.2.1,x.2.2.2.2.2.2.2.2.2.2.2.2.2.2.2.1,x.2.2.2.2.2.2.2.2.2.2.2.2.2.2.2.2.2.2.2.2.2.2.2.2.2.2.1,x.2.2.2.2.2.2.2.2.2.2.2.2.2.2.2.2.1,x.2.2.2.2.2.2.2.2.2.2.2.2.2.2.2.2.2.1,x.2.2.2.2.2.2.2.2.2.2.2.2.2.2.2.2.2.2.1,x.2.2.2.2.2.2.2.2.2.2.2.2.2.2.2.2.2.2.2.1,x.2.2.2.2.2.2.2.2.2.2.2.2.2.2.2.2.2.2.2.2.2.2.2.2.2.2.2.1,(x.2.2.2.2.2.2.2.2.2.2.2.2.2.2.2.2.2.2.2.2.1,x.2.2.2.2.2.2.2.2.2.2.2.2.2.2.2.2.2.2.2.2.2.1,()),x.2.2.2.2.2.2.2.2.2.2.2.2.2.2.2.2.2.2.2.2.2.2.1⟩
def yM (y:Innings):Den N9:=(y.Side,y.Target,y.Overs,y.Runs,y.Wickets,y.Extras.Wides,y.Extras.NoBalls,y.Extras.Byes,y.Extras.LegByes,y.Extras.Penalties,y.Complete,y.InOver,y.Striker,y.Other,y.Bowler,y.Fresh,y.FreeHit,y.BallAge,y.Keeper,y.Outside,y.Reviews.1,y.Reviews.2.1,y.Ending,y.Batters,y.Bowlers,y.Before,y.Bowled,y.Subs,())
abbrev fi:Pat:=cg [.nm .Innings,I]
def aC (x:Innings) (p:Int):Bool:=decide (p≥1)&&decide (p≤(x.Batters.length:Int))
def oe:Den (tyP fi)→List Prop×Den (tyP ax):=fun x=>([],(aC x.1 x.2.1,()))
def ce (x:Innings) (p s:Int):Innings:={ x with Batters:=x.Batters.set (p - 1).toNat s }
def fm (x:Innings) (p:Int):Innings:={(if aC x p then ce x p 2 else x) with Wickets:=W (x.Wickets+1) }
abbrev M7:Pat:=⟨[(0,.c (.ptr 0 0)),(1,.h I)],JC,11⟩
abbrev F8:Pat:=⟨[],JC,11⟩
def P2:Den (tyP M7)→List Prop×Den (tyP F8):=fun x=>([],yM (fm (inn x.2) x.1))
def b8 (x:Innings):Bool:=ci x&&(x.Striker==0||x.Other==0)
def nJ:Den (tyP qIn)→List Prop×Den (tyP ax):=fun x=>([],(b8 x.1,()))
def GE (x:Innings) (p:Int):Int:=x.Batters.getD (p - 1).toNat 0
def bn (x:Innings) (p:Int):Int:=if !aC x p then 3 else if !b8 x||GE x p==1 then 4 else if GE x p==2 then 5 else 0
def qA:Den (tyP fi)→List Prop×Den (tyP be):=fun x=>([],(bn x.1 x.2.1,()))
def eC (x:Innings) (s o:Int):Innings:=
 if ci x then x else if !aC x s||!aC x o then x else if s==o then x else { ce (ce x s 1) o 1 with Striker:=s,Other:=o }
def fF (x:Innings) (s o:Int):Int:=if ci x then 1 else if !aC x s||!aC x o then 3 else if s==o then 4 else 0
def fU (x:Innings):Innings:={ x with Striker:=x.Other,Other:=x.Striker }
def fg (x:Innings) (d:Delivery):Int:=if d.How != 0 then (if d.Victim==1&&x.Striker != 0 then 1 else if d.Victim==2&&x.Other != 0 then 2 else 0) else 0
def cG (x:Innings) (d:Delivery):Innings:=if ee d then fU x else x
def cD (x:Innings) (b:Bool):Innings:=if b then { x with Striker:=0 } else { x with Other:=0 }
def aQ (x:Innings) (d:Delivery):Innings:=
 if fg x d==0 then cG x d else fm (cD (cG x d) ((fg x d==1) != ee d)) (if fg x d==1 then x.Striker else x.Other)
def gf (x:Innings) (p:Int):Innings:=if bn x p != 0 then x else if x.Striker==0 then { ce x p 1 with Striker:=p } else { ce x p 1 with Other:=p }
def iw (x:Innings) (p:Int):Innings:=if bn x p != 0 then x else fm x p
def un (s:Int):Bool:=s==0||s==3
def oA:List Int→Int→List Int
 | [],_=> []
 | s::r,i=>if un s then (i+1)::oA r (i+1) else oA r (i+1)
def QW (l:List Int):List Int:=oA l 0
def sw (x:Innings):List Int:=QW x.Batters
def jc (x:Innings):Bool:=((sw x).length:Int)==0
def bI (x:Innings) (p:Int) (hurt:Bool):Int:=
 if !aC x p then 3 else if x.Striker==0||x.Other==0 then 6 else if p != x.Striker&&p != x.Other then 4 else if hurt&&jc x then 19 else 0
def cj (x:Innings) (p:Int) (hurt:Bool):Innings:=
 if bI x p hurt != 0 then x else if hurt then ce (cD x (p==x.Striker)) p 3 else fm (cD x (p==x.Striker)) p
def lZ:FuncId×Ctr:=(157,ap KE psI eQ)
def lu:Den psI→PRes:=fun x=>⟨[aj x.1],Bf (fU x.1),se (fU x.1)⟩
def lT:FuncId×Ctr:=(213,ap KE psI lu)
abbrev vK:Pat:=cg [.nm .Innings,I,I]
abbrev vM:Pat:=cg [.nm .Innings,I,.bool]
abbrev Fx:Pat:=cg [.nm .Innings,.nm .Delivery]
abbrev q2L:Pat:=cg [.nm .Innings,I]
def xg:Den (tyP vK)→List Prop×Den (tyP q2L):=fun x=>([aj x.1],(eC x.1 x.2.1 x.2.2.1,fF x.1 x.2.1 x.2.2.1,()))
def Hj:Den (tyP Fx)→List Prop×Den (tyP qIn):=fun x=>([aj x.1],(aQ x.1 x.2.1,()))
def zz:Den (tyP qIn)→List Prop×Den (tyP qIn):=fun x=>([aj x.1],(fU x.1,()))
def rx:Den (tyP fi)→List Prop×Den (tyP q2L):=fun x=>([aj x.1],(gf x.1 x.2.1,bn x.1 x.2.1,()))
def yC:Den (tyP fi)→List Prop×Den (tyP q2L):=fun x=>([aj x.1],(iw x.1 x.2.1,bn x.1 x.2.1,()))
abbrev qIs:Pat:=⟨[(0,.c (.osl 0 1))],[(0,.row 1 I)],2⟩
def xT:Den (tyP qIn)→List Prop×Den (tyP qIs):=fun x=>([aj x.1],(sw x.1,()))
def od:Den (tyP vM)→List Prop×Den (tyP q2L):=fun x=>([aj x.1],(cj x.1 x.2.1 x.2.2.1,bI x.1 x.2.1 x.2.2.1,()))
abbrev RH:Pat:=⟨[(7,.h I),(8,.h I),(6,.h U8s)],[],0⟩
abbrev Rn:List (Lf×Pat):= [(.ret,⟨[(2,.h .bool)],[],0⟩),(.ext 0,⟨[],[],0⟩)]
def nQ (x:Int×Int×List Int×Unit):Prop:=cx (x.2.2.1,x.1,x.2.1,())
def rA (x:Int×Int×List Int×Unit):Nat:=(x.1 - x.2.1).toNat
def J3 (b:Bool):Sum (Bool×Unit) Unit:=if b then .inl (true,()) else .inr ()
def eB (x:Int×Int×List Int×Unit):Sum (Bool×Unit) Unit:=J3 (dH (x.2.2.1.drop x.2.1.toNat))
theorem M4 {x:Innings} (h:wfD (.nm .Innings) x):x.Batters.length≤aS:=
 cu (aY (aO (aO (aO (aO (aO (aO (aO (aO (aO (aO (Gd h))))))))))))
theorem fq {p:Int} (h1:1≤p) (h2:gl p):IntKind.i64.wrap (p - 1)=p - 1:=by
 obtain ⟨a,b⟩:=h2
 exact dd (by omega) (by omega)
theorem L8 (x:Innings) (hs:aj x) :(evFn (ao [k45,k90,k91] Tryz.f157) (fun _=>none) Tryz.f157 (bh psI (x,()))).sat fun v' rows=>leV v' (eQ (x,())).v∧rows =(eQ (x,())).rows:=by
 refine cast (by kernel_rfl) (?_:x.11.length≤(1000000:Nat)∧x.13.length≤(1000000:Nat)∧x.14.length≤(1000000:Nat)∧x.16.length≤(1000000:Nat)∧x.21.length≤(1000000:Nat)∧(x.1=x.1∧x.2=x.2∧x.3=x.3∧x.4=x.4∧x.5=x.5∧x.6.1=x.6.1∧x.6.2=x.6.2∧x.6.3=x.6.3∧x.6.4=x.6.4∧x.6.5=x.6.5∧x.7=x.7∧x.8=x.8∧x.9=x.9∧x.10=x.10∧(nat_lit 0=nat_lit 0∧nat_lit 0=nat_lit 0)∧x.12=x.12∧(nat_lit 1=nat_lit 1∧nat_lit 1=nat_lit 1)∧(nat_lit 2=nat_lit 2∧nat_lit 2=nat_lit 2)∧x.15=x.15∧(nat_lit 3=nat_lit 3∧nat_lit 3=nat_lit 3)∧x.17=x.17∧x.18=x.18∧x.19=x.19∧x.20=x.20∧(nat_lit 4=nat_lit 4∧nat_lit 4=nat_lit 4)∧x.22.1=x.22.1∧x.22.2.1=x.22.2.1∧x.23=x.23∧True)∧ [RowD.mk (Ty.int IntKind.u8) x.11,RowD.mk (Ty.int IntKind.i64) x.13,RowD.mk (Ty.int IntKind.i64) x.14,RowD.mk (Ty.int IntKind.i64) x.16,RowD.mk Ty.bool x.21]=[RowD.mk (Ty.int IntKind.u8) x.11,RowD.mk (Ty.int IntKind.i64) x.13,RowD.mk (Ty.int IntKind.i64) x.14,RowD.mk (Ty.int IntKind.i64) x.16,RowD.mk Ty.bool x.21])
 obtain ⟨h1,h2,h3,h4,h5⟩:=hs
 simp [h1,h2,h3,h4,h5]
theorem rv:CtrOK Tryz.prog KE 157 (ap KE psI eQ):=by
 refine aK (C:=ao [k45,k90,k91] Tryz.f157) (al (.consU Mz rfl (.consU L3 rfl (.consU MN rfl .nil))) _) mixed (fn:=Tryz.f157) Tryz.func157 (by kernel_rfl) (by kernel_rfl) (by kernel_rfl) (Λ:=fun _ _=>none) ?_ ?_ ?_
 ·exact fun _ _ _ _ _ _ _ _ h=>by cases h
 ·rintro ⟨x,⟨⟩⟩
  exact of_decide_eq_true (by kernel_rfl)
 ·rintro ⟨x,⟨⟩⟩ hw hn
  exact L8 x (hn _ (List.mem_singleton.2 rfl))
theorem I0 (x:Innings) (p:Int) :(evPat (ao [] Tryz.f159) (fun _=>none) Tryz.f159 fi ax (x,p,())).sat fun z_=>z_ =(oe (x,p,())).2:=by
 refine cast (by kernel_rfl) (?_ :(bif decide (p≥(1:Int)) then decide (p≤(↑x.11.length:Int)) else false,()) =(aC x p,()))
 grind [aC]
def jD:FuncId×Ctr:=(159,ae KE fi ax oe)
theorem p6:CtrOK Tryz.prog KE 159 (ae KE fi ax oe):=by
 refine aq (C:=ao [] Tryz.f159) (al (CtrsOK.nil) _) mixed (fn:=Tryz.f159) Tryz.func159 (by kernel_rfl) (by kernel_rfl) (by kernel_rfl) (by kernel_rfl) (by kernel_rfl) (by kernel_rfl) (Λ:=fun _ _=>none) ?_ ?_
 ·exact fun _ _ _ _ _ _ _ _ h=>by cases h
 ·rintro ⟨x,p,⟨⟩⟩ hw hn
  exact I0 x p
theorem A9 (x:Innings) (p:Int) :(evPat (ao [] Tryz.f204) (fun _=>none) Tryz.f204 fi ax (x,p,())).sat fun z_=>z_ =(oe (x,p,())).2:=by
 refine cast (by kernel_rfl) (?_ :(bif decide (p≥(1:Int)) then decide (p≤(↑x.11.length:Int)) else false,()) =(aC x p,()))
 grind [aC]
def eq:FuncId×Ctr:=(204,ae KE fi ax oe)
theorem jH:CtrOK Tryz.prog KE 204 (ae KE fi ax oe):=by
 refine aq (C:=ao [] Tryz.f204) (al (CtrsOK.nil) _) mixed (fn:=Tryz.f204) Tryz.func204 (by kernel_rfl) (by kernel_rfl) (by kernel_rfl) (by kernel_rfl) (by kernel_rfl) (by kernel_rfl) (Λ:=fun _ _=>none) ?_ ?_
 ·exact fun _ _ _ _ _ _ _ _ h=>by cases h
 ·rintro ⟨x,p,⟨⟩⟩ hw hn
  exact A9 x p
theorem Ck (p:Int) (y:Innings) (hp:gl p) :(evPat (ao [jD] Tryz.f168) (fun _=>none) Tryz.f168 M7 F8 (p,yM y)).sat fun z_=>z_ =(P2 (p,yM y)).2:=by
 refine cast (by kernel_rfl) (?_:let r1:Int:=IntKind.i64.wrap (p - (1:Int));((aC y p=true→((0:Int)≤r1∧r1 <(↑y.11.length:Int))∧True)∧(aC y p=false→True))∧(true=true→(y.1,y.2,y.3,y.4,IntKind.i64.wrap (y.5 +(1:Int)),y.6.1,y.6.2,y.6.3,y.6.4,y.6.5,y.7,y.8,y.9,y.10,y.12,y.15,y.17,y.18,y.19,y.20,y.22.1,y.22.2.1,y.23,bif aC y p then y.11.set r1.toNat (2:Int) else y.11,y.13,y.14,y.16,y.21,())=yM (fm (inn (yM y)) p)))
 intro r1
 clear_value (hr1:r1=_)
 have e1:aC y p=true→r1=p - 1:=fun h=>by
  rw [hr1]
  simp only [aC,Bool.and_eq_true,decide_eq_true_eq] at h
  exact fq h.1 hp
 refine ⟨⟨fun h=>⟨?_,trivial⟩,fun _=>trivial⟩,fun _=>?_⟩
 ·have:=e1 h
  simp only [aC,Bool.and_eq_true,decide_eq_true_eq] at h
  omega
 ·show _=yM (fm y p)
  cases h:aC y p with
  | true=>
   have e:fm y p={ ce y p 2 with Wickets:=W (y.Wickets+1) }:=by simp [fm,h,ce]
   rw [e,e1 h];rfl
  | false=>
   have e:fm y p={ y with Wickets:=W (y.Wickets+1) }:=by simp [fm,h]
   rw [e];rfl
def iV:FuncId×Ctr:=(168,ae KE M7 F8 P2)
theorem pp:CtrOK Tryz.prog KE 168 (ae KE M7 F8 P2):=by
 refine aq (C:=ao [jD] Tryz.f168) (al (.consU p6 rfl .nil) _) mixed (fn:=Tryz.f168) Tryz.func168 (by kernel_rfl) (by kernel_rfl) (by kernel_rfl) (by kernel_rfl) (by kernel_rfl) (by kernel_rfl) (Λ:=fun _ _=>none) ?_ ?_
 ·exact fun _ _ _ _ _ _ _ _ h=>by cases h
 ·rintro ⟨p,z⟩ hw hn
  exact Ck p (inn z) (db (aY hw))
theorem D9 (x:Innings) :(evPat (ao [tA] Tryz.f145) (fun _=>none) Tryz.f145 qIn ax (x,())).sat fun z_=>z_ =(nJ (x,())).2:=by
 refine cast (by kernel_rfl) (?_ :(bif ci x then bif x.9 ==(0:Int) then true else x.10 ==(0:Int) else false,()) =(b8 x,()))
 grind [b8]
def g7:FuncId×Ctr:=(145,ae KE qIn ax nJ)
theorem nC:CtrOK Tryz.prog KE 145 (ae KE qIn ax nJ):=by
 refine aq (C:=ao [tA] Tryz.f145) (al (.consU Bz rfl .nil) _) mixed (fn:=Tryz.f145) Tryz.func145 (by kernel_rfl) (by kernel_rfl) (by kernel_rfl) (by kernel_rfl) (by kernel_rfl) (by kernel_rfl) (Λ:=fun _ _=>none) ?_ ?_
 ·exact fun _ _ _ _ _ _ _ _ h=>by cases h
 ·rintro ⟨x,⟨⟩⟩ hw hn
  exact D9 x
theorem Mq (x:Innings) (p:Int) (hp:gl p) :(evPat (ao [jD,g7] Tryz.f167) (fun _=>none) Tryz.f167 fi be (x,p,())).sat fun z_=>z_ =(qA (x,p,())).2:=by
 refine cast (by kernel_rfl) (?_:let r1:Int:=IntKind.i64.wrap (p - (1:Int));let r2:Int:=x.11.getD r1.toNat (dflt (Ty.int IntKind.u8));let r3:Bool:=r2 ==(2:Int);let r4:Bool:=bif !b8 x then true else r2 ==(1:Int);((!aC x p)=true→((3:Int),()) =(bn x p,()))∧((!aC x p)=false→(((!b8 x)=true→True)∧((!b8 x)=false→((0:Int)≤r1∧r1 <(↑x.11.length:Int))∧True))∧(true=true→(r4=true→((4:Int),()) =(bn x p,()))∧(r4=false→((0:Int)≤r1∧r1 <(↑x.11.length:Int))∧(r3=true→((5:Int),()) =(bn x p,()))∧(r3=false→((0:Int),()) =(bn x p,()))))))
 intro r1 r2 r3 r4
 clear_value (hr1:r1=_) (hr2:r2=_) (hr3:r3=_) (hr4:r4=_)
 cases h:aC x p with
 | false=>simp [bn,h]
 | true=>
  have k:1≤p∧p≤x.Batters.length:=by simpa [aC] using h
  have e1:r1=p - 1:=by rw [hr1];exact fq k.1 hp
  have e2:r2=GE x p:=by rw [hr2,e1];rfl
  have b :(0:Int)≤r1∧r1 <(x.Batters.length:Int):=by omega
  refine ⟨(fun h=>by cases h),fun _=>⟨⟨fun _=>trivial,fun _=>⟨b,trivial⟩⟩,fun _=>⟨fun h4=>?_,fun h4=>⟨b,fun h3=>?_,fun h3=>?_⟩⟩⟩⟩ <;> grind [bn]
def G4:FuncId×Ctr:=(167,ae KE fi be qA)
theorem JI:CtrOK Tryz.prog KE 167 (ae KE fi be qA):=by
 refine aq (C:=ao [jD,g7] Tryz.f167) (al (.consU p6 rfl (.consU nC rfl .nil)) _) mixed (fn:=Tryz.f167) Tryz.func167 (by kernel_rfl) (by kernel_rfl) (by kernel_rfl) (by kernel_rfl) (by kernel_rfl) (by kernel_rfl) (Λ:=fun _ _=>none) ?_ ?_
 ·exact fun _ _ _ _ _ _ _ _ h=>by cases h
 ·rintro ⟨x,p,⟨⟩⟩ hw hn
  exact Mq x p (db (aY (aO hw)))
theorem Nb (x:Innings) (d:Delivery) (hs:aj x) :(evPat (ao [lZ,iV] Tryz.f163) (fun _=>none) Tryz.f163 Fx qIn (x,d,())).sat fun z_=>z_ =(Hj (x,d,())).2:=by
 refine cast (by kernel_rfl) (?_:let r1:Bool:=d.3.tmod (2:Int) !=(0:Int);let r2:Bool:=bif d.8 ==(1:Int) then x.9 !=(0:Int) else false;let r3:Bool:=bif d.8 ==(2:Int) then x.10 !=(0:Int) else false;let r4:Bool:=bif d.6 then !r1 else r1;let r5:Int:=bif r4 then x.1 else x.1;let r6:Int:=bif r4 then x.2 else x.2;let r7:Int:=bif r4 then x.3 else x.3;let r8:Int:=bif r4 then x.4 else x.4;let r9:Int:=bif r4 then x.5 else x.5;let r10:Int:=bif r4 then x.7 else x.7;let r11:Int:=bif r4 then x.8 else x.8;let r12:Int:=bif r4 then x.10 else x.9;let r13:Int:=bif r4 then x.9 else x.10;let r14:Int:=bif r4 then x.12 else x.12;let r15:Bool:=bif r4 then x.15 else x.15;let r16:Bool:=bif r4 then x.17 else x.17;let r17:Int:=bif r4 then x.18 else x.18;let r18:Int:=bif r4 then x.19 else x.19;let r19:Int:=bif r4 then x.20 else x.20;let r20:Int:=bif r4 then x.23 else x.23;let r21:Int:=bif r4 then x.6.1 else x.6.1;let r22:Int:=bif r4 then x.6.2 else x.6.2;let r23:Int:=bif r4 then x.6.3 else x.6.3;let r24:Int:=bif r4 then x.6.4 else x.6.4;let r25:Int:=bif r4 then x.6.5 else x.6.5;let r26:Int:=bif r4 then x.22.1 else x.22.1;let r27:Int:=bif r4 then x.22.2.1 else x.22.2.1;let r28:Int:=bif d.7 !=(0:Int) then bif r2 then x.9 else bif r3 then x.10 else (0:Int) else (0:Int);let r29:Int:=bif d.7 !=(0:Int) then bif r2 then (1:Int) else bif r3 then (2:Int) else (0:Int) else (0:Int);let r30:Bool:=r29 ==(0:Int);let r31:Bool:=!(r29 ==(1:Int))==r4;let r32:Int:=bif r31 then r9 else r9;let r33:Innings:=inn (bif r31 then r5 else r5,bif r31 then r6 else r6,bif r31 then r7 else r7,bif r31 then r8 else r8,r32,bif r31 then r21 else r21,bif r31 then r22 else r22,bif r31 then r23 else r23,bif r31 then r24 else r24,bif r31 then r25 else r25,bif r31 then r10 else r10,bif r31 then r11 else r11,bif r31 then (0:Int) else r12,bif r31 then r13 else (0:Int),bif r31 then r14 else r14,bif r31 then r15 else r15,bif r31 then r16 else r16,bif r31 then r17 else r17,bif r31 then r18 else r18,bif r31 then r19 else r19,bif r31 then r26 else r26,bif r31 then r27 else r27,bif r31 then r20 else r20,x.11,x.13,x.14,x.16,x.21,());let r34:Bool:=aC r33 r28;let r35:Innings:=if r34=true then ce r33 r28 (2:Int) else r33;aj x∧(2:Int)≠(0:Int)∧(r30=true→(Innings.mk r5 r6 r7 r8 r9 (Extras.mk r21 r22 r23 r24 r25) r10 r11 r12 r13 x.11 r14 x.13 x.14 r15 x.16 r16 r17 r18 r19 x.21 (r26,r27,()) r20,()) =(aQ x d,()))∧(r30=false→(Innings.mk r35.1 r35.2 r35.3 r35.4 (W (r32 +(1:Int))) r35.6 r35.7 r35.8 r35.9 r35.10 r35.11 r35.12 r35.13 r35.14 r35.15 r35.16 r35.17 r35.18 r35.19 r35.20 r35.21 r35.22 r35.23,()) =(aQ x d,())))
 intro r1 r2 r3 r4 r5 r6 r7 r8 r9 r10 r11 r12 r13 r14 r15 r16 r17 r18 r19 r20 r21 r22 r23 r24 r25 r26 r27 r28 r29 r30 r31 r32 r33 r34 r35
 clear_value (hr1:r1=_) (hr2:r2=_) (hr3:r3=_) (hr4:r4=_) (hr5:r5=_) (hr6:r6=_) (hr7:r7=_) (hr8:r8=_) (hr9:r9=_) (hr10:r10=_) (hr11:r11=_) (hr12:r12=_) (hr13:r13=_) (hr14:r14=_) (hr15:r15=_) (hr16:r16=_) (hr17:r17=_) (hr18:r18=_) (hr19:r19=_) (hr20:r20=_) (hr21:r21=_) (hr22:r22=_) (hr23:r23=_) (hr24:r24=_) (hr25:r25=_) (hr26:r26=_) (hr27:r27=_) (hr28:r28=_) (hr29:r29=_) (hr30:r30=_) (hr31:r31=_) (hr32:r32=_) (hr33:r33=_) (hr34:r34=_) (hr35:r35=_)
 simp only [Bool.cond_self] at *
 have hs4:r4=ee d:=by rw [hr4,hr1];unfold ee;cases d.Crossed <;> cases (d.Runs.tmod 2 != 0) <;> rfl
 have ho:r29=fg x d:=by rw [hr29,hr2,hr3];grind [fg]
 have hp:r28=if fg x d==1 then x.Striker else if fg x d==2 then x.Other else 0:=by rw [hr28,hr2,hr3];grind [fg]
 have h012:fg x d=0∨fg x d=1∨fg x d=2:=by grind [fg]
 subst hs4
 clear hr1 hr2 hr3 hr4 hr28 hr29
 subst hr5 hr6 hr7 hr8 hr9 hr10 hr11 hr12 hr13 hr14 hr15 hr16 hr17 hr18 hr19 hr20 hr21 hr22 hr23 hr24 hr25 hr26 hr27 hr32
 refine ⟨hs,by decide,fun h=>?_,fun h=>?_⟩
 ·have h0:fg x d=0:=by grind
  simp only [aQ,h0,cG]
  cases ee d <;> rfl
 ·have h0:fg x d=1∨fg x d=2:=by grind
  have e33:r33=cD (cG x d) ((fg x d==1) != ee d):=by
   rw [hr33,hr31,ho]
   simp only [cG,cD]
   rcases h0 with h0|h0 <;> rw [h0] <;> cases ee d <;> rfl
  have e28:r28=if fg x d==1 then x.Striker else x.Other:=by rw [hp];rcases h0 with h0|h0 <;> rw [h0] <;> rfl
  have ew:r33.Wickets=x.Wickets:=by
   rw [e33];simp only [cG,cD];cases ee d <;> cases (fg x d==1) <;> rfl
  have e0 :(fg x d==0)=false:=by rcases h0 with h0|h0 <;> rw [h0] <;> rfl
  simp only [aQ,e0]
  rw [←e33,←e28]
  simp only [fm]
  rw [←hr34,←hr35]
  rw [ew]
  rfl
def NS:FuncId×Ctr:=(163,ae KE Fx qIn Hj)
theorem Pe:CtrOK Tryz.prog KE 163 (ae KE Fx qIn Hj):=by
 refine aq (C:=ao [lZ,iV] Tryz.f163) (al (.consU rv rfl (.consU pp rfl .nil)) _) mixed (fn:=Tryz.f163) Tryz.func163 (by kernel_rfl) (by kernel_rfl) (by kernel_rfl) (by kernel_rfl) (by kernel_rfl) (by kernel_rfl) (Λ:=fun _ _=>none) ?_ ?_
 ·exact fun _ _ _ _ _ _ _ _ h=>by cases h
 ·rintro ⟨x,d,⟨⟩⟩ hw hn
  exact Nb x d (hn _ List.mem_cons_self)
theorem DV (x:Innings) (hs:aj x) :(evPat (ao [lZ] Tryz.f166) (fun _=>none) Tryz.f166 qIn qIn (x,())).sat fun z_=>z_ =(zz (x,())).2:=by
 refine cast (by kernel_rfl) (?_:aj x∧(Innings.mk x.1 x.2 x.3 x.4 x.5 x.6 x.7 x.8 x.10 x.9 x.11 x.12 x.13 x.14 x.15 x.16 x.17 x.18 x.19 x.20 x.21 x.22 x.23,()) =(fU x,()))
 exact ⟨hs,rfl⟩
def Bv:FuncId×Ctr:=(166,ae KE qIn qIn zz)
theorem IG:CtrOK Tryz.prog KE 166 (ae KE qIn qIn zz):=by
 refine aq (C:=ao [lZ] Tryz.f166) (al (.consU rv rfl .nil) _) mixed (fn:=Tryz.f166) Tryz.func166 (by kernel_rfl) (by kernel_rfl) (by kernel_rfl) (by kernel_rfl) (by kernel_rfl) (by kernel_rfl) (Λ:=fun _ _=>none) ?_ ?_
 ·exact fun _ _ _ _ _ _ _ _ h=>by cases h
 ·rintro ⟨x,⟨⟩⟩ hw hn
  exact DV x (hn _ List.mem_cons_self)
theorem HD (x:Innings) (p:Int) (hs:aj x) (hp:gl p) :(evPat (ao [lZ,G4] Tryz.f135) (fun _=>none) Tryz.f135 fi q2L (x,p,())).sat fun z_=>z_ =(rx (x,p,())).2:=by
 refine cast (by kernel_rfl) (?_:let r1:Int:=IntKind.i64.wrap (p - (1:Int));aj x∧((bn x p !=(0:Int))=true→(x,bn x p,()) =(gf x p,bn x p,()))∧((bn x p !=(0:Int))=false→((0:Int)≤r1∧r1 <(↑x.11.length:Int))∧(Innings.mk (bif x.9 ==(0:Int) then x.1 else x.1) (bif x.9 ==(0:Int) then x.2 else x.2) (bif x.9 ==(0:Int) then x.3 else x.3) (bif x.9 ==(0:Int) then x.4 else x.4) (bif x.9 ==(0:Int) then x.5 else x.5) (Extras.mk (bif x.9 ==(0:Int) then x.6.1 else x.6.1) (bif x.9 ==(0:Int) then x.6.2 else x.6.2) (bif x.9 ==(0:Int) then x.6.3 else x.6.3) (bif x.9 ==(0:Int) then x.6.4 else x.6.4) (bif x.9 ==(0:Int) then x.6.5 else x.6.5)) (bif x.9 ==(0:Int) then x.7 else x.7) (bif x.9 ==(0:Int) then x.8 else x.8) (bif x.9 ==(0:Int) then p else x.9) (bif x.9 ==(0:Int) then x.10 else p) (x.11.set r1.toNat (1:Int)) (bif x.9 ==(0:Int) then x.12 else x.12) x.13 x.14 (bif x.9 ==(0:Int) then x.15 else x.15) x.16 (bif x.9 ==(0:Int) then x.17 else x.17) (bif x.9 ==(0:Int) then x.18 else x.18) (bif x.9 ==(0:Int) then x.19 else x.19) (bif x.9 ==(0:Int) then x.20 else x.20) x.21 (bif x.9 ==(0:Int) then x.22.1 else x.22.1,bif x.9 ==(0:Int) then x.22.2.1 else x.22.2.1,()) (bif x.9 ==(0:Int) then x.23 else x.23),(0:Int),()) =(gf x p,bn x p,())))
 intro r1
 clear_value (hr1:r1=_)
 refine ⟨hs,fun h=>?_,fun h=>?_⟩
 ·simp only [gf,h];rfl
 ·have h0:bn x p=0:=by simpa using h
  have k:aC x p=true:=by grind [bn]
  have k2:1≤p∧p≤x.Batters.length:=by simpa [aC] using k
  have e1:r1=p - 1:=by rw [hr1];exact fq k2.1 hp
  refine ⟨by omega,?_⟩
  rw [h0,e1]
  simp only [gf,h0]
  cases hb:x.Striker==0 <;> rfl
def GT:FuncId×Ctr:=(135,ae KE fi q2L rx)
theorem KP:CtrOK Tryz.prog KE 135 (ae KE fi q2L rx):=by
 refine aq (C:=ao [lZ,G4] Tryz.f135) (al (.consU rv rfl (.consU JI rfl .nil)) _) mixed (fn:=Tryz.f135) Tryz.func135 (by kernel_rfl) (by kernel_rfl) (by kernel_rfl) (by kernel_rfl) (by kernel_rfl) (by kernel_rfl) (Λ:=fun _ _=>none) ?_ ?_
 ·exact fun _ _ _ _ _ _ _ _ h=>by cases h
 ·rintro ⟨x,p,⟨⟩⟩ hw hn
  exact HD x p (hn _ List.mem_cons_self) (db (aY (aO hw)))
theorem CG (x:Innings) (p:Int) (hs:aj x) (hp:gl p) :(evPat (ao [lZ,G4,iV] Tryz.f134) (fun _=>none) Tryz.f134 fi q2L (x,p,())).sat fun z_=>z_ =(yC (x,p,())).2:=by
 refine cast (by kernel_rfl) (?_:let r1:Innings:=inn (x.1,x.2,x.3,x.4,x.5,x.6.1,x.6.2,x.6.3,x.6.4,x.6.5,x.7,x.8,x.9,x.10,x.12,x.15,x.17,x.18,x.19,x.20,x.22.1,x.22.2.1,x.23,x.11,x.13,x.14,x.16,x.21,());let r2:Bool:=aC r1 p;let r3:Innings:=if r2=true then ce r1 p (2:Int) else r1;aj x∧((bn x p !=(0:Int))=true→(x,bn x p,()) =(iw x p,bn x p,()))∧((bn x p !=(0:Int))=false→(Innings.mk r3.1 r3.2 r3.3 r3.4 (W (x.5 +(1:Int))) r3.6 r3.7 r3.8 r3.9 r3.10 r3.11 r3.12 r3.13 r3.14 r3.15 r3.16 r3.17 r3.18 r3.19 r3.20 r3.21 r3.22 r3.23,(0:Int),()) =(iw x p,bn x p,())))
 intro r1 r2 r3
 clear_value (hr1:r1=_) (hr2:r2=_) (hr3:r3=_)
 refine ⟨hs,fun h=>?_,fun h=>?_⟩
 ·simp only [iw,h];rfl
 ·have h0:bn x p=0:=by simpa using h
  have k:aC x p=true:=by grind [bn]
  have e1:r1=x:=hr1
  have e2:r2=true:=by rw [hr2,e1];exact k
  have e3:r3=ce x p 2:=by rw [hr3,e2,e1];rfl
  rw [h0,e3]
  have e4:iw x p={ ce x p 2 with Wickets:=W (x.Wickets+1) }:=by simp [iw,h0,fm,k,ce]
  rw [e4]
def xy:FuncId×Ctr:=(134,ae KE fi q2L yC)
theorem DL:CtrOK Tryz.prog KE 134 (ae KE fi q2L yC):=by
 refine aq (C:=ao [lZ,G4,iV] Tryz.f134) (al (.consU rv rfl (.consU JI rfl (.consU pp rfl .nil))) _) mixed (fn:=Tryz.f134) Tryz.func134 (by kernel_rfl) (by kernel_rfl) (by kernel_rfl) (by kernel_rfl) (by kernel_rfl) (by kernel_rfl) (Λ:=fun _ _=>none) ?_ ?_
 ·exact fun _ _ _ _ _ _ _ _ h=>by cases h
 ·rintro ⟨x,p,⟨⟩⟩ hw hn
  exact CG x p (hn _ List.mem_cons_self) (db (aY (aO hw)))
theorem AV (x:Innings) (hs:aj x) :(evFn (ao [k44] Tryz.f213) (fun _=>none) Tryz.f213 (bh psI (x,()))).sat fun v' rows=>leV v' (lu (x,())).v∧rows =(lu (x,())).rows:=by
 refine cast (by kernel_rfl) (?_:aj x∧(x.1=x.1∧x.2=x.2∧x.3=x.3∧x.4=x.4∧x.5=x.5∧x.6.1=x.6.1∧x.6.2=x.6.2∧x.6.3=x.6.3∧x.6.4=x.6.4∧x.6.5=x.6.5∧x.7=x.7∧x.8=x.8∧x.10=x.10∧x.9=x.9∧(nat_lit 0=nat_lit 0∧nat_lit 0=nat_lit 0)∧x.12=x.12∧(nat_lit 1=nat_lit 1∧nat_lit 1=nat_lit 1)∧(nat_lit 2=nat_lit 2∧nat_lit 2=nat_lit 2)∧x.15=x.15∧(nat_lit 3=nat_lit 3∧nat_lit 3=nat_lit 3)∧x.17=x.17∧x.18=x.18∧x.19=x.19∧x.20=x.20∧(nat_lit 4=nat_lit 4∧nat_lit 4=nat_lit 4)∧x.22.1=x.22.1∧x.22.2.1=x.22.2.1∧x.23=x.23∧True)∧ [RowD.mk (Ty.int IntKind.u8) x.11,RowD.mk (Ty.int IntKind.i64) x.13,RowD.mk (Ty.int IntKind.i64) x.14,RowD.mk (Ty.int IntKind.i64) x.16,RowD.mk Ty.bool x.21]=[RowD.mk (Ty.int IntKind.u8) x.11,RowD.mk (Ty.int IntKind.i64) x.13,RowD.mk (Ty.int IntKind.i64) x.14,RowD.mk (Ty.int IntKind.i64) x.16,RowD.mk Ty.bool x.21])
 exact ⟨hs,by simp [fU],rfl⟩
theorem sB:CtrOK Tryz.prog KE 213 (ap KE psI lu):=by
 refine aK (C:=ao [k44] Tryz.f213) (al (.consU q7 rfl .nil) _) mixed (fn:=Tryz.f213) Tryz.func213 (by kernel_rfl) (by kernel_rfl) (by kernel_rfl) (Λ:=fun _ _=>none) ?_ ?_ ?_
 ·exact fun _ _ _ _ _ _ _ _ h=>by cases h
 ·rintro ⟨x,⟨⟩⟩
  exact of_decide_eq_true (by kernel_rfl)
 ·rintro ⟨x,⟨⟩⟩ hw hn
  exact AV x (hn _ List.mem_cons_self)
noncomputable def lpLB12:Lp:=(⟨0,ao [] Tryz.f176,(fun _=>none),(aA Tryz.f176 0),RH,Rn⟩:Lp)
theorem Ku (n:Int) (i:Int) (xs:List Int) (hi:nQ (n,i,xs,())) :(Go.Mir.stepG lpLB12 eB (fun y:Den (tyP lpLB12.q)=>nQ y∧rA y<rA (n,i,xs,())) (n,i,xs,())∧Go.Mir.stepE lpLB12 eB (n,i,xs,())=eB (n,i,xs,())):=by
 refine cast (by kernel_rfl) (?_:let r1:Bool:=xs.getD i.toNat (dflt (Ty.int IntKind.u8)) !=(0:Int);((decide (i<n)=true→((0:Int)≤i∧i <(↑xs.length:Int))∧(r1=true→True)∧(r1=false→nQ (n,IntKind.i64.wrap (i +(1:Int)),xs,())∧rA (n,IntKind.i64.wrap (i +(1:Int)),xs,())<rA (n,i,xs,())))∧(decide (i<n)=false→True))∧(bif decide (i<n) then bif r1 then Sum.inl (true,()) else eB (n,IntKind.i64.wrap (i +(1:Int)),xs,()) else Sum.inr ())=eB (n,i,xs,()))
 intro r1
 clear_value (hr1:r1=_)
 obtain ⟨h1,h2,h3,h4⟩:=hi
 simp only at h1 h2 h3 h4
 have h5 :(xs.length:Int)≤140737488355328:=by have:xs.length≤140737488355328:=h4;omega
 refine ⟨⟨fun h=>?_,fun _=>trivial⟩,?_⟩
 ·have h:i<n:=of_decide_eq_true h
  rw [bi (n:=i+1) (by omega) (by omega)]
  refine ⟨⟨h2,by omega⟩,fun _=>trivial,fun _=>⟨⟨h1,by simp only;omega,by simp only;omega,h4⟩,by simp only [rA];omega⟩⟩
 ·by_cases h:i<n
  ·rw [decide_eq_true h,cond_true,bi (n:=i+1) (by omega) (by omega)]
   have e:xs.drop i.toNat=xs.getD i.toNat (dflt (Ty.int IntKind.u8))::xs.drop (i+1).toNat:=b7 h2 (by omega) _
   rw [hr1]
   generalize xs.getD i.toNat (dflt (Ty.int IntKind.u8))=v at e ⊢
   simp only [eB,e,dH,List.any_cons]
   show _=J3 (cH v||_)
   change (bif cH v then _ else _)=_
   cases cH v <;> rfl
  ·rw [decide_eq_false h,cond_false]
   simp only [eB]
   rw [bN (l:=xs) (by omega)]
   rfl
noncomputable def Ha:LoopSum:=aI lpLB12 eB nQ
noncomputable def GV:Nat:=rid (aA Tryz.f176 0)
theorem Kb:LoopOKp Tryz.prog 0 Tryz.f176.ntmps (aA Tryz.f176 0) (aI lpLB12 eB nQ):=
 bj lpLB12 (al (CtrsOK.nil) _) mixed (fun b hb S hS=>by cases hS) eB nQ rA (fun |⟨n,i,xs,⟨⟩⟩,hi=>Ku n i xs hi)
theorem DF (x:Innings) (hx:x.Batters.length≤aS) :(evPat (ao [] Tryz.f176) (find [(GV,Ha)]) Tryz.f176 qIn ax (x,())).sat fun z_=>z_ =(lz (x,())).2:=by
 refine cast (by kernel_rfl) (?_:let r1:Bool:=isL (eB ((↑x.11.length:Int),(0:Int),x.11,()));((cO fun x=>none)∧(↑x.11.length:Int) =(↑x.11.length:Int)∧(0:Int)≤(0:Int)∧(0:Int)≤(↑x.11.length:Int)∧x.11.length≤aS)∧(r1=true→ik (dflt (Ty.bool.prod Ty.unit)) (eB ((↑x.11.length:Int),(0:Int),x.11,())) =(ci x,()))∧(r1=false→(false,()) =(ci x,())))
 intro r1
 clear_value (hr1:r1=_)
 have e:eB ((x.Batters.length:Int),0,x.Batters,())=J3 (ci x):=rfl
 try subst hr1
 rw [e]
 refine ⟨⟨rfl,rfl,Int.le_refl _,by omega,hx⟩,fun h=>?_,fun h=>?_⟩ <;> cases hf:ci x <;> rw [hf] at h <;> first|rfl|cases h
def fJ:FuncId×Ctr:=(176,ae KE qIn ax lz)
theorem ll:CtrOK Tryz.prog KE 176 (ae KE qIn ax lz):=by
 refine aq (C:=ao [] Tryz.f176) (al (CtrsOK.nil) _) mixed (fn:=Tryz.f176) Tryz.func176 (by kernel_rfl) (by kernel_rfl) (by kernel_rfl) (by kernel_rfl) (by kernel_rfl) (by kernel_rfl) (Λ:=fun x=>find [(GV,Ha)]) ?_ ?_
 ·rintro ⟨x,⟨⟩⟩ hw hn
  exact LoopsOKp.at (by kernel_rfl) (.cons (by kernel_rfl) (Kb) .nil)
 ·rintro ⟨x,⟨⟩⟩ hw hn
  exact DF x (M4 (aY hw))
theorem z6 (x:Innings) :(evPat (ao [fJ] Tryz.f197) (fun _=>none) Tryz.f197 qIn ax (x,())).sat fun z_=>z_ =(nJ (x,())).2:=by
 refine cast (by kernel_rfl) (?_ :(bif ci x then bif x.9 ==(0:Int) then true else x.10 ==(0:Int) else false,()) =(b8 x,()))
 grind [b8]
def gw:FuncId×Ctr:=(197,ae KE qIn ax nJ)
theorem mU:CtrOK Tryz.prog KE 197 (ae KE qIn ax nJ):=by
 refine aq (C:=ao [fJ] Tryz.f197) (al (.consU ll rfl .nil) _) mixed (fn:=Tryz.f197) Tryz.func197 (by kernel_rfl) (by kernel_rfl) (by kernel_rfl) (by kernel_rfl) (by kernel_rfl) (by kernel_rfl) (Λ:=fun _ _=>none) ?_ ?_
 ·exact fun _ _ _ _ _ _ _ _ h=>by cases h
 ·rintro ⟨x,⟨⟩⟩ hw hn
  exact z6 x
theorem Bg (x:Innings) (p:Int) (hp:gl p) :(evPat (ao [eq,gw] Tryz.f215) (fun _=>none) Tryz.f215 fi be (x,p,())).sat fun z_=>z_ =(qA (x,p,())).2:=by
 refine cast (by kernel_rfl) (?_:let r1:Int:=IntKind.i64.wrap (p - (1:Int));let r2:Int:=x.11.getD r1.toNat (dflt (Ty.int IntKind.u8));let r3:Bool:=r2 ==(2:Int);let r4:Bool:=bif !b8 x then true else r2 ==(1:Int);((!aC x p)=true→((3:Int),()) =(bn x p,()))∧((!aC x p)=false→(((!b8 x)=true→True)∧((!b8 x)=false→((0:Int)≤r1∧r1 <(↑x.11.length:Int))∧True))∧(true=true→(r4=true→((4:Int),()) =(bn x p,()))∧(r4=false→((0:Int)≤r1∧r1 <(↑x.11.length:Int))∧(r3=true→((5:Int),()) =(bn x p,()))∧(r3=false→((0:Int),()) =(bn x p,()))))))
 intro r1 r2 r3 r4
 clear_value (hr1:r1=_) (hr2:r2=_) (hr3:r3=_) (hr4:r4=_)
 cases h:aC x p with
 | false=>simp [bn,h]
 | true=>
  have k:1≤p∧p≤x.Batters.length:=by simpa [aC] using h
  have e1:r1=p - 1:=by rw [hr1];exact fq k.1 hp
  have e2:r2=GE x p:=by rw [hr2,e1];rfl
  have b :(0:Int)≤r1∧r1 <(x.Batters.length:Int):=by omega
  refine ⟨(fun h=>by cases h),fun _=>⟨⟨fun _=>trivial,fun _=>⟨b,trivial⟩⟩,fun _=>⟨fun h4=>?_,fun h4=>⟨b,fun h3=>?_,fun h3=>?_⟩⟩⟩⟩ <;> grind [bn]
def nR:FuncId×Ctr:=(215,ae KE fi be qA)
theorem tK:CtrOK Tryz.prog KE 215 (ae KE fi be qA):=by
 refine aq (C:=ao [eq,gw] Tryz.f215) (al (.consU jH rfl (.consU mU rfl .nil)) _) mixed (fn:=Tryz.f215) Tryz.func215 (by kernel_rfl) (by kernel_rfl) (by kernel_rfl) (by kernel_rfl) (by kernel_rfl) (by kernel_rfl) (Λ:=fun _ _=>none) ?_ ?_
 ·exact fun _ _ _ _ _ _ _ _ h=>by cases h
 ·rintro ⟨x,p,⟨⟩⟩ hw hn
  exact Bg x p (db (aY (aO hw)))
theorem BE (x:Innings) (p:Int) (hs:aj x) (hp:gl p) :(evPat (ao [k44,nR] Tryz.f189) (fun _=>none) Tryz.f189 fi q2L (x,p,())).sat fun z_=>z_ =(rx (x,p,())).2:=by
 refine cast (by kernel_rfl) (?_:let r1:Int:=IntKind.i64.wrap (p - (1:Int));aj x∧((bn x p !=(0:Int))=true→(x,bn x p,()) =(gf x p,bn x p,()))∧((bn x p !=(0:Int))=false→((0:Int)≤r1∧r1 <(↑x.11.length:Int))∧(Innings.mk (bif x.9 ==(0:Int) then x.1 else x.1) (bif x.9 ==(0:Int) then x.2 else x.2) (bif x.9 ==(0:Int) then x.3 else x.3) (bif x.9 ==(0:Int) then x.4 else x.4) (bif x.9 ==(0:Int) then x.5 else x.5) (Extras.mk (bif x.9 ==(0:Int) then x.6.1 else x.6.1) (bif x.9 ==(0:Int) then x.6.2 else x.6.2) (bif x.9 ==(0:Int) then x.6.3 else x.6.3) (bif x.9 ==(0:Int) then x.6.4 else x.6.4) (bif x.9 ==(0:Int) then x.6.5 else x.6.5)) (bif x.9 ==(0:Int) then x.7 else x.7) (bif x.9 ==(0:Int) then x.8 else x.8) (bif x.9 ==(0:Int) then p else x.9) (bif x.9 ==(0:Int) then x.10 else p) (x.11.set r1.toNat (1:Int)) (bif x.9 ==(0:Int) then x.12 else x.12) x.13 x.14 (bif x.9 ==(0:Int) then x.15 else x.15) x.16 (bif x.9 ==(0:Int) then x.17 else x.17) (bif x.9 ==(0:Int) then x.18 else x.18) (bif x.9 ==(0:Int) then x.19 else x.19) (bif x.9 ==(0:Int) then x.20 else x.20) x.21 (bif x.9 ==(0:Int) then x.22.1 else x.22.1,bif x.9 ==(0:Int) then x.22.2.1 else x.22.2.1,()) (bif x.9 ==(0:Int) then x.23 else x.23),(0:Int),()) =(gf x p,bn x p,())))
 intro r1
 clear_value (hr1:r1=_)
 refine ⟨hs,fun h=>?_,fun h=>?_⟩
 ·simp only [gf,h];rfl
 ·have h0:bn x p=0:=by simpa using h
  have k:aC x p=true:=by grind [bn]
  have k2:1≤p∧p≤x.Batters.length:=by simpa [aC] using k
  have e1:r1=p - 1:=by rw [hr1];exact fq k2.1 hp
  refine ⟨by omega,?_⟩
  rw [h0,e1]
  simp only [gf,h0]
  cases hb:x.Striker==0 <;> rfl
def xz:FuncId×Ctr:=(189,ae KE fi q2L rx)
theorem EJ:CtrOK Tryz.prog KE 189 (ae KE fi q2L rx):=by
 refine aq (C:=ao [k44,nR] Tryz.f189) (al (.consU q7 rfl (.consU tK rfl .nil)) _) mixed (fn:=Tryz.f189) Tryz.func189 (by kernel_rfl) (by kernel_rfl) (by kernel_rfl) (by kernel_rfl) (by kernel_rfl) (by kernel_rfl) (Λ:=fun _ _=>none) ?_ ?_
 ·exact fun _ _ _ _ _ _ _ _ h=>by cases h
 ·rintro ⟨x,p,⟨⟩⟩ hw hn
  exact BE x p (hn _ List.mem_cons_self) (db (aY (aO hw)))
theorem wV (x:Innings) (p:Int) (hs:aj x) (hp:gl p) :(evPat (ao [k44,nR] Tryz.f188) (fun _=>none) Tryz.f188 fi q2L (x,p,())).sat fun z_=>z_ =(yC (x,p,())).2:=by
 refine cast (by kernel_rfl) (?_:let r1:Int:=IntKind.i64.wrap (p - (1:Int));aj x∧((bn x p !=(0:Int))=true→(x,bn x p,()) =(iw x p,bn x p,()))∧((bn x p !=(0:Int))=false→((0:Int)≤r1∧r1 <(↑x.11.length:Int))∧(Innings.mk x.1 x.2 x.3 x.4 (IntKind.i64.wrap (x.5 +(1:Int))) x.6 x.7 x.8 x.9 x.10 (x.11.set r1.toNat (2:Int)) x.12 x.13 x.14 x.15 x.16 x.17 x.18 x.19 x.20 x.21 x.22 x.23,(0:Int),()) =(iw x p,bn x p,())))
 intro r1
 clear_value (hr1:r1=_)
 refine ⟨hs,fun h=>?_,fun h=>?_⟩
 ·simp only [iw,h];rfl
 ·have h0:bn x p=0:=by simpa using h
  have k:aC x p=true:=by grind [bn]
  have k2:1≤p∧p≤x.Batters.length:=by simpa [aC] using k
  have e1:r1=p - 1:=by rw [hr1];exact fq k2.1 hp
  have e4:iw x p={ ce x p 2 with Wickets:=W (x.Wickets+1) }:=by simp [iw,h0,fm,k,ce]
  refine ⟨by omega,?_⟩
  rw [h0,e1,e4];rfl
def rQ:FuncId×Ctr:=(188,ae KE fi q2L yC)
theorem AP:CtrOK Tryz.prog KE 188 (ae KE fi q2L yC):=by
 refine aq (C:=ao [k44,nR] Tryz.f188) (al (.consU q7 rfl (.consU tK rfl .nil)) _) mixed (fn:=Tryz.f188) Tryz.func188 (by kernel_rfl) (by kernel_rfl) (by kernel_rfl) (by kernel_rfl) (by kernel_rfl) (by kernel_rfl) (Λ:=fun _ _=>none) ?_ ?_
 ·exact fun _ _ _ _ _ _ _ _ h=>by cases h
 ·rintro ⟨x,p,⟨⟩⟩ hw hn
  exact wV x p (hn _ List.mem_cons_self) (db (aY (aO hw)))
theorem EZ (x:Innings) (s:Int) (o:Int) (hs:aj x) (h1:gl s) (h2:gl o) :(evPat (ao [k44,fJ,eq] Tryz.f185) (fun _=>none) Tryz.f185 vK q2L (x,s,o,())).sat fun z_=>z_ =(xg (x,s,o,())).2:=by
 refine cast (by kernel_rfl) (?_:let r1:Int:=IntKind.i64.wrap (s - (1:Int));let r2:Int:=IntKind.i64.wrap (o - (1:Int));let r3:List Int:=x.11.set r1.toNat (1:Int);aj x∧(ci x=true→(x,(1:Int),()) =(eC x s o,fF x s o,()))∧(ci x=false→((bif !aC x s then true else !aC x o)=true→(x,(3:Int),()) =(eC x s o,fF x s o,()))∧((bif !aC x s then true else !aC x o)=false→((s==o)=true→(x,(4:Int),()) =(eC x s o,fF x s o,()))∧((s==o)=false→((0:Int)≤r1∧r1 <(↑x.11.length:Int))∧((0:Int)≤r2∧r2 <(↑r3.length:Int))∧(Innings.mk x.1 x.2 x.3 x.4 x.5 x.6 x.7 x.8 s o (r3.set r2.toNat (1:Int)) x.12 x.13 x.14 x.15 x.16 x.17 x.18 x.19 x.20 x.21 x.22 x.23,(0:Int),()) =(eC x s o,fF x s o,())))))
 intro r1 r2 r3
 clear_value (hr1:r1=_) (hr2:r2=_) (hr3:r3=_)
 refine ⟨hs,fun hb=>?_,fun hb=>⟨fun hk=>?_,fun hk=>⟨fun he=>?_,fun he=>?_⟩⟩⟩
 ·simp [eC,fF,hb]
 ·have hk :(!aC x s||!aC x o)=true:=by grind
  simp only [eC,fF,hb,hk];rfl
 ·have hk :(!aC x s||!aC x o)=false:=by grind
  simp only [eC,fF,hb,hk,he];rfl
 ·have hk2 :(!aC x s||!aC x o)=false:=by grind
  have k1:1≤s∧s≤x.Batters.length:=by
   have:aC x s=true:=by grind
   simpa [aC] using this
  have k2:1≤o∧o≤x.Batters.length:=by
   have:aC x o=true:=by grind
   simpa [aC] using this
  have e1:r1=s - 1:=by rw [hr1];exact fq k1.1 h1
  have e2:r2=o - 1:=by rw [hr2];exact fq k2.1 h2
  have e3:r3 =(ce x s 1).Batters:=by rw [hr3,e1];rfl
  have e4:r3.length=x.Batters.length:=by rw [e3];simp [ce]
  refine ⟨by omega,by omega,?_⟩
  rw [e3,e2]
  simp only [eC,fF,hb,hk2,he];rfl
def Bn:FuncId×Ctr:=(185,ae KE vK q2L xg)
theorem Ih:CtrOK Tryz.prog KE 185 (ae KE vK q2L xg):=by
 refine aq (C:=ao [k44,fJ,eq] Tryz.f185) (al (.consU q7 rfl (.consU ll rfl (.consU jH rfl .nil))) _) mixed (fn:=Tryz.f185) Tryz.func185 (by kernel_rfl) (by kernel_rfl) (by kernel_rfl) (by kernel_rfl) (by kernel_rfl) (by kernel_rfl) (Λ:=fun _ _=>none) ?_ ?_
 ·exact fun _ _ _ _ _ _ _ _ h=>by cases h
 ·rintro ⟨x,s,o,⟨⟩⟩ hw hn
  exact EZ x s o (hn _ List.mem_cons_self) (db (aY (aO hw))) (db (aY (aO (aO hw))))
theorem LL (x:Innings) (s:Int) (o:Int) (hs:aj x) (h1:gl s) (h2:gl o) :(evPat (ao [lZ,tA,jD] Tryz.f131) (fun _=>none) Tryz.f131 vK q2L (x,s,o,())).sat fun z_=>z_ =(xg (x,s,o,())).2:=by
 refine cast (by kernel_rfl) (?_:let r1:Int:=IntKind.i64.wrap (s - (1:Int));let r2:Int:=IntKind.i64.wrap (o - (1:Int));let r3:List Int:=x.11.set r1.toNat (1:Int);aj x∧(ci x=true→(x,(1:Int),()) =(eC x s o,fF x s o,()))∧(ci x=false→((bif !aC x s then true else !aC x o)=true→(x,(3:Int),()) =(eC x s o,fF x s o,()))∧((bif !aC x s then true else !aC x o)=false→((s==o)=true→(x,(4:Int),()) =(eC x s o,fF x s o,()))∧((s==o)=false→((0:Int)≤r1∧r1 <(↑x.11.length:Int))∧((0:Int)≤r2∧r2 <(↑r3.length:Int))∧(Innings.mk x.1 x.2 x.3 x.4 x.5 x.6 x.7 x.8 s o (r3.set r2.toNat (1:Int)) x.12 x.13 x.14 x.15 x.16 x.17 x.18 x.19 x.20 x.21 x.22 x.23,(0:Int),()) =(eC x s o,fF x s o,())))))
 intro r1 r2 r3
 clear_value (hr1:r1=_) (hr2:r2=_) (hr3:r3=_)
 refine ⟨hs,fun hb=>?_,fun hb=>⟨fun hk=>?_,fun hk=>⟨fun he=>?_,fun he=>?_⟩⟩⟩
 ·simp [eC,fF,hb]
 ·have hk :(!aC x s||!aC x o)=true:=by grind
  simp only [eC,fF,hb,hk];rfl
 ·have hk :(!aC x s||!aC x o)=false:=by grind
  simp only [eC,fF,hb,hk,he];rfl
 ·have hk2 :(!aC x s||!aC x o)=false:=by grind
  have k1:1≤s∧s≤x.Batters.length:=by
   have:aC x s=true:=by grind
   simpa [aC] using this
  have k2:1≤o∧o≤x.Batters.length:=by
   have:aC x o=true:=by grind
   simpa [aC] using this
  have e1:r1=s - 1:=by rw [hr1];exact fq k1.1 h1
  have e2:r2=o - 1:=by rw [hr2];exact fq k2.1 h2
  have e3:r3 =(ce x s 1).Batters:=by rw [hr3,e1];rfl
  have e4:r3.length=x.Batters.length:=by rw [e3];simp [ce]
  refine ⟨by omega,by omega,?_⟩
  rw [e3,e2]
  simp only [eC,fF,hb,hk2,he];rfl
def J7:FuncId×Ctr:=(131,ae KE vK q2L xg)
theorem L4:CtrOK Tryz.prog KE 131 (ae KE vK q2L xg):=by
 refine aq (C:=ao [lZ,tA,jD] Tryz.f131) (al (.consU rv rfl (.consU Bz rfl (.consU p6 rfl .nil))) _) mixed (fn:=Tryz.f131) Tryz.func131 (by kernel_rfl) (by kernel_rfl) (by kernel_rfl) (by kernel_rfl) (by kernel_rfl) (by kernel_rfl) (Λ:=fun _ _=>none) ?_ ?_
 ·exact fun _ _ _ _ _ _ _ _ h=>by cases h
 ·rintro ⟨x,s,o,⟨⟩⟩ hw hn
  exact LL x s o (hn _ List.mem_cons_self) (db (aY (aO hw))) (db (aY (aO (aO hw))))
theorem rZ (x:Innings) (d:Delivery) (b:Bool) (p:Int):fm (cD (cG x d) b) p={ cD (cG x d) b with Batters:=(bif aC x p then x.Batters.set (p - 1).toNat 2 else x.Batters),Wickets:=W (x.Wickets+1) }:=by
 have e :(cD (cG x d) b).Batters=x.Batters∧(cD (cG x d) b).Wickets=x.Wickets:=by
  simp only [cD,cG];cases b <;> cases ee d <;> exact ⟨rfl,rfl⟩
 have k:aC (cD (cG x d) b) p=aC x p:=by unfold aC;rw [e.1]
 unfold fm
 rw [k]
 cases h:aC x p with
 | true=>simp [ce,e.1,e.2]
 | false=>simp [←e.1,e.2]
theorem HC (x:Innings) (d:Delivery) (hs:aj x) :(evPat (ao [k44,lT,eq] Tryz.f211) (fun _=>none) Tryz.f211 Fx qIn (x,d,())).sat fun z_=>z_ =(Hj (x,d,())).2:=by
 refine cast (by kernel_rfl) (?_:let r1:Bool:=!(d.3.tmod (2:Int) !=(0:Int))==d.6;let r2:Bool:=bif d.7 ==(0:Int) then true else bif d.8 ==(1:Int) then true else !d.8 ==(2:Int);let r3:Bool:=!r2;let r4:Int:=bif r2 then x.1 else x.1;let r5:Int:=bif r2 then x.2 else x.2;let r6:Int:=bif r2 then x.3 else x.3;let r7:Int:=bif r2 then x.4 else x.4;let r8:Int:=bif r2 then x.5 else x.5;let r9:Int:=bif r2 then x.7 else x.7;let r10:Int:=bif r2 then x.8 else x.8;let r11:Int:=bif r2 then x.12 else x.12;let r12:Bool:=bif r2 then x.15 else x.15;let r13:Bool:=bif r2 then x.17 else x.17;let r14:Int:=bif r2 then x.18 else x.18;let r15:Int:=bif r2 then x.19 else x.19;let r16:Int:=bif r2 then x.20 else x.20;let r17:Int:=bif r2 then x.23 else x.23;let r18:Int:=bif r3 then x.1 else x.1;let r19:Int:=bif r3 then x.2 else x.2;let r20:Int:=bif r3 then x.3 else x.3;let r21:Int:=bif r3 then x.4 else x.4;let r22:Int:=bif r3 then x.5 else x.5;let r23:Int:=bif r3 then x.7 else x.7;let r24:Int:=bif r3 then x.8 else x.8;let r25:Int:=bif r3 then x.12 else x.12;let r26:Bool:=bif r3 then x.15 else x.15;let r27:Bool:=bif r3 then x.17 else x.17;let r28:Int:=bif r3 then x.18 else x.18;let r29:Int:=bif r3 then x.19 else x.19;let r30:Int:=bif r3 then x.20 else x.20;let r31:Int:=bif r3 then x.23 else x.23;let r32:Int:=bif r2 then (0:Int) else x.9;let r33:Int:=bif r2 then x.10 else (0:Int);let r34:Int:=bif r3 then (0:Int) else x.10;let r35:Int:=bif r3 then x.9 else (0:Int);let r36:Int:=bif d.7 ==(0:Int) then (0:Int) else bif d.8 ==(1:Int) then x.9 else bif d.8 ==(2:Int) then x.10 else (0:Int);let r37:Bool:=r36 ==(0:Int);let r38:Int:=IntKind.i64.wrap (r36 - (1:Int));let r39:List Int:=x.11.set r38.toNat (2:Int);let r40:Extras:=Extras.mk (bif r2 then x.6.1 else x.6.1) (bif r2 then x.6.2 else x.6.2) (bif r2 then x.6.3 else x.6.3) (bif r2 then x.6.4 else x.6.4) (bif r2 then x.6.5 else x.6.5);let r41:Extras:=Extras.mk (bif r3 then x.6.1 else x.6.1) (bif r3 then x.6.2 else x.6.2) (bif r3 then x.6.3 else x.6.3) (bif r3 then x.6.4 else x.6.4) (bif r3 then x.6.5 else x.6.5);let r42:Bool:=aC (Innings.mk r4 r5 r6 r7 r8 r40 r9 r10 r32 r33 x.11 r11 x.13 x.14 r12 x.16 r13 r14 r15 r16 x.21 (bif r2 then x.22.1 else x.22.1,bif r2 then x.22.2.1 else x.22.2.1,()) r17) r36;let r43:Bool:=aC (Innings.mk r18 r19 r20 r21 r22 r41 r23 r24 r34 r35 x.11 r25 x.13 x.14 r26 x.16 r27 r28 r29 r30 x.21 (bif r3 then x.22.1 else x.22.1,bif r3 then x.22.2.1 else x.22.2.1,()) r31) r36;aj x∧(2:Int)≠(0:Int)∧(r1=true→aj x∧(r37=true→(Innings.mk x.1 x.2 x.3 x.4 x.5 x.6 x.7 x.8 x.10 x.9 x.11 x.12 x.13 x.14 x.15 x.16 x.17 x.18 x.19 x.20 x.21 x.22 x.23,()) =(aQ x d,()))∧(r37=false→((r43=true→((0:Int)≤r38∧r38 <(↑x.11.length:Int))∧True)∧(r43=false→True))∧(true=true→(Innings.mk r18 r19 r20 r21 (IntKind.i64.wrap (r22 +(1:Int))) r41 r23 r24 r34 r35 (bif r43 then r39 else x.11) r25 x.13 x.14 r26 x.16 r27 r28 r29 r30 x.21 (bif r3 then x.22.1 else x.22.1,bif r3 then x.22.2.1 else x.22.2.1,()) r31,()) =(aQ x d,()))))∧(r1=false→(r37=true→(x,()) =(aQ x d,()))∧(r37=false→((r42=true→((0:Int)≤r38∧r38 <(↑x.11.length:Int))∧True)∧(r42=false→True))∧(true=true→(Innings.mk r4 r5 r6 r7 (IntKind.i64.wrap (r8 +(1:Int))) r40 r9 r10 r32 r33 (bif r42 then r39 else x.11) r11 x.13 x.14 r12 x.16 r13 r14 r15 r16 x.21 (bif r2 then x.22.1 else x.22.1,bif r2 then x.22.2.1 else x.22.2.1,()) r17,()) =(aQ x d,())))))
 intro r1 r2 r3 r4 r5 r6 r7 r8 r9 r10 r11 r12 r13 r14 r15 r16 r17 r18 r19 r20 r21 r22 r23 r24 r25 r26 r27 r28 r29 r30 r31 r32 r33 r34 r35 r36 r37 r38 r39 r40 r41 r42 r43
 clear_value (hr1:r1=_) (hr2:r2=_) (hr3:r3=_) (hr4:r4=_) (hr5:r5=_) (hr6:r6=_) (hr7:r7=_) (hr8:r8=_) (hr9:r9=_) (hr10:r10=_) (hr11:r11=_) (hr12:r12=_) (hr13:r13=_) (hr14:r14=_) (hr15:r15=_) (hr16:r16=_) (hr17:r17=_) (hr18:r18=_) (hr19:r19=_) (hr20:r20=_) (hr21:r21=_) (hr22:r22=_) (hr23:r23=_) (hr24:r24=_) (hr25:r25=_) (hr26:r26=_) (hr27:r27=_) (hr28:r28=_) (hr29:r29=_) (hr30:r30=_) (hr31:r31=_) (hr32:r32=_) (hr33:r33=_) (hr34:r34=_) (hr35:r35=_) (hr36:r36=_) (hr37:r37=_) (hr38:r38=_) (hr39:r39=_) (hr40:r40=_) (hr41:r41=_) (hr42:r42=_) (hr43:r43=_)
 simp only [Bool.cond_self] at *
 have hs4:r1=ee d:=hr1
 subst hs4
 have k43:r43=aC x r36:=by rw [hr43];rfl
 have k42:r42=aC x r36:=by rw [hr42];rfl
 have ho:r37 =(fg x d==0):=by rw [hr37,hr36];grind [fg]
 have hp:r37=false→r36 =(if fg x d==1 then x.Striker else x.Other)∧r2 =(fg x d==1):=fun h=>by
  have h0 :¬ r36=0:=by grind
  rw [hr36] at h0 ⊢
  rw [hr2]
  grind [fg]
 have hb:r37=false→aC x r36=true→(0:Int)≤r38∧r38 <(x.Batters.length:Int)∧r38=r36 - 1:=fun h hk=>by
  have k2:1≤r36∧r36≤x.Batters.length:=by simpa [aC] using hk
  have e1:r38=r36 - 1:=by
   rw [hr38]
   have:=hs.1
   exact dd (by omega) (by omega)
  omega
 have hB:r37=false→(bif aC x r36 then r39 else x.Batters) =(bif aC x r36 then x.Batters.set (r36 - 1).toNat 2 else x.Batters):=fun h=>by
  cases hk:aC x r36 with
  | false=>rfl
  | true=>rw [hr39,(hb h hk).2.2]
 subst hr4 hr5 hr6 hr7 hr8 hr9 hr10 hr11 hr12 hr13 hr14 hr15 hr16 hr17 hr18 hr19 hr20 hr21 hr22 hr23 hr24 hr25 hr26 hr27 hr28 hr29 hr30 hr31
 refine ⟨hs,by decide,fun h1=>⟨hs,fun h=>?_,fun h=>⟨⟨fun hk=>?_,fun _=>trivial⟩,fun _=>?_⟩⟩,fun h1=>⟨fun h=>?_,fun h=>⟨⟨fun hk=>?_,fun _=>trivial⟩,fun _=>?_⟩⟩⟩
 ·have h0 :(fg x d==0)=true:=by rw [←ho];exact h
  simp only [aQ,h0,cG,h1];rfl
 ·rw [k43] at hk
  exact ⟨⟨(hb h hk).1,(hb h hk).2.1⟩,trivial⟩
 ·have h0 :(fg x d==0)=false:=by rw [←ho];exact h
  have e:aQ x d=fm (cD (cG x d) ((fg x d==1) != ee d)) (if fg x d==1 then x.Striker else x.Other):=by simp only [aQ,h0];rfl
  obtain ⟨p1,p2⟩:=hp h
  rw [e,rZ,←p1,←p2,←hB h,k43,h1]
  simp only [cG,h1,cD]
  subst hr32 hr33 hr34 hr35 hr3
  rw [hr41]
  cases r2 <;> rfl
 ·have h0 :(fg x d==0)=true:=by rw [←ho];exact h
  simp only [aQ,h0,cG,h1];rfl
 ·rw [k42] at hk
  exact ⟨⟨(hb h hk).1,(hb h hk).2.1⟩,trivial⟩
 ·have h0 :(fg x d==0)=false:=by rw [←ho];exact h
  have e:aQ x d=fm (cD (cG x d) ((fg x d==1) != ee d)) (if fg x d==1 then x.Striker else x.Other):=by simp only [aQ,h0];rfl
  obtain ⟨p1,p2⟩:=hp h
  rw [e,rZ,←p1,←p2,←hB h,k42,h1]
  simp only [cG,h1,cD]
  subst hr32 hr33 hr34 hr35 hr3
  rw [hr40]
  cases r2 <;> rfl
def Ga:FuncId×Ctr:=(211,ae KE Fx qIn Hj)
theorem Kw:CtrOK Tryz.prog KE 211 (ae KE Fx qIn Hj):=by
 refine aq (C:=ao [k44,lT,eq] Tryz.f211) (al (.consU q7 rfl (.consU sB rfl (.consU jH rfl .nil))) _) mixed (fn:=Tryz.f211) Tryz.func211 (by kernel_rfl) (by kernel_rfl) (by kernel_rfl) (by kernel_rfl) (by kernel_rfl) (by kernel_rfl) (Λ:=fun _ _=>none) ?_ ?_
 ·exact fun _ _ _ _ _ _ _ _ h=>by cases h
 ·rintro ⟨x,d,⟨⟩⟩ hw hn
  exact HC x d (hn _ List.mem_cons_self)
end Go.Proofs.YtkgplaoappjkcaaGreat
