/- Texts of the mirror and contracts, put together. -/
import Derived.Test.YtkgplaoappjkcaaGreatPS3
namespace Go.Proofs.YtkgplaoappjkcaaGreat
open Go Go.Mir
abbrev K8:Nat:=8
def Qu (l:tH) (n:Nat):Cfg:=⟨tbl,find l,K8,n⟩
def cf8 (l:tH) (fn:Func):Cfg:=Qu l fn.ntmps
theorem bp {l:tH} (h:CtrsOK Tryz.prog K8 l) (n:Nat):CfgOK Tryz.prog (Qu l n):=⟨FK,by show 1≤K8;decide,h⟩
def H5:Nat→List V→List V×List RowD
 | _,[]=>([],[])
 | k,.fsl t xs::r=>(.osl k k ::(H5 (k+1) r).1,⟨t,xs⟩ ::(H5 (k+1) r).2)
 | k,v::r=>(v ::(H5 k r).1,(H5 k r).2)
def CR (x:Innings):V:= .agg (H5 0 (flat fw (.nm .Innings) x)).1
def sB (x:Innings):List RowD:=(H5 0 (flat fw (.nm .Innings) x)).2
def aX (x:Innings) (p:Int):Bool:=decide (p≥1)&&decide (p≤(x.Subs.length:Int))
def RX (x:Innings) (p:Int):Bool:=x.Subs.getD (p - 1).toNat false
def aF (x:Innings) (p:Int):Bool:=aX x p&&RX x p
def cw (over:Int) (p:Phase):Bool:=decide (p.From≤IntKind.i64.wrap (over+1))&&decide (IntKind.i64.wrap (over+1)≤p.To)
def bP (r:Rules) (over:Int):Int:=((r.Power.find? (cw over)).map Phase.Outside).getD r.Outside
def ei (r:Rules) (x:Innings):Int:=
 if !aX x x.Keeper||aF x x.Keeper||x.Keeper==x.Bowler then 17 else if x.Outside>bP r x.Complete then 16 else 0
def zF (x:Innings) (d:Delivery):Int:=
 if d.Fielder>0 then (if !aX x d.Fielder then 3 else if aF x d.Fielder != d.Sub then 18 else 0) else 0
def zG (x:Innings) (d:Delivery):Int:=
 if d.Second>0 then (if !aX x d.Second then 3 else if aF x d.Second then 18 else 0) else 0
def cQ (x:Innings) (d:Delivery):Int:=
 if zF x d != 0 then zF x d else if zG x d != 0 then zG x d
 else if d.How==4&&rb d.Fielder 0 != x.Keeper then 17 else 0
def af (x:Innings) (p:Int):Innings:=if !aX x p then x else if aF x p then x else if p==x.Bowler||p==x.Keeper then x else { x with Keeper:=p }
def bO (x:Innings) (p:Int):Int:=if !aX x p then 3 else if aF x p then 18 else if p==x.Bowler||p==x.Keeper then 17 else 0
def lF (x:Innings) (p:Int) (on:Bool):Innings:=
 { x with Subs:=x.Subs.set (p - 1).toNat on,Keeper:=bif on&&x.Keeper==p then 0 else x.Keeper,Bowler:=bif on&&x.Bowler==p then 0 else x.Bowler }
def an (x:Innings) (p:Int) (on:Bool):Innings:=if !aX x p then x else if aF x p==on then x else lF x p on
def db (x:Innings) (p:Int) (on:Bool):Int:=if !aX x p then 3 else if aF x p==on then 18 else 0
def kf (x:Innings) (n:Int):Bool:=decide (n<0)||decide (n >(x.Subs.length:Int) - 2)
def am (x:Innings) (n:Int):Innings:=if kf x n then x else { x with Outside:=n }
def cJ (x:Innings) (n:Int):Int:=if kf x n then 16 else 0
def aj (x:Innings):Prop:=x.Batters.length≤1000000∧x.Bowlers.length≤1000000∧x.Before.length≤1000000∧x.Bowled.length≤1000000∧x.Subs.length≤1000000
def psI:Ty:= .prod (.nm .Innings) .unit
def eg:Ty:= .prod (.nm .Innings) (.prod (.int .i64) .unit)
def vy:Ty:= .prod (.nm .Innings) (.prod (.int .i64) (.prod .bool .unit))
def psR:Ty:= .prod (.nm .Rules) (.prod (.int .i64) .unit)
def qn:Ty:= .prod (.nm .Rules) (.prod (.nm .Innings) .unit)
def EI:Ty:= .prod (.nm .Innings) (.prod (.nm .Delivery) .unit)
def nf:Den eg→PRes:=fun x=>⟨[],.bool (aX x.1 x.2.1),[]⟩
def ng:Den eg→PRes:=fun x=>⟨[],.bool (aF x.1 x.2.1),[]⟩
def nh:Den psR→PRes:=fun x=>⟨[],.int .i64 (bP x.1 x.2.1),[]⟩
def m5:Den qn→PRes:=fun x=>⟨[],.int .i64 (ei x.1 x.2.1),[]⟩
def m6:Den EI→PRes:=fun x=>⟨[],.int .i64 (cQ x.1 x.2.1),[]⟩
def eV:Den psI→PRes:=fun x=>⟨[aj x.1],CR x.1,sB x.1⟩
def nb:Den eg→PRes:=fun x=>⟨[aj x.1],.tup [CR (af x.1 x.2.1),.int .i64 (bO x.1 x.2.1)],sB (af x.1 x.2.1)⟩
def m7:Den vy→PRes:=fun x=>⟨[aj x.1],.tup [CR (an x.1 x.2.1 x.2.2.1),.int .i64 (db x.1 x.2.1 x.2.2.1)],sB (an x.1 x.2.1 x.2.2.1)⟩
def ne:Den eg→PRes:=fun x=>⟨[aj x.1],.tup [CR (am x.1 x.2.1),.int .i64 (cJ x.1 x.2.1)],sB (am x.1 x.2.1)⟩
def MJ:Ty:= .prod (.slice .bool) .unit
def AL:Den MJ→PRes:=fun x=>⟨[x.1.length≤1000000],.osl 0 0,[⟨.bool,x.1⟩]⟩
def MO:Ty:= .prod (.slice (.int .u8)) .unit
def AZ:Den MO→PRes:=fun x=>⟨[x.1.length≤1000000],.osl 0 0,[⟨.int .u8,x.1⟩]⟩
def MP:Ty:= .prod (.slice (.int .i64)) .unit
def A0:Den MP→PRes:=fun x=>⟨[x.1.length≤1000000],.osl 0 0,[⟨.int .i64,x.1⟩]⟩
def k73:FuncId×Ctr:=(170,ap K8 eg nf)
def k76:FuncId×Ctr:=(216,ap K8 eg nf)
def k74:FuncId×Ctr:=(171,ap K8 eg ng)
def k72:FuncId×Ctr:=(217,ap K8 eg ng)
def k75:FuncId×Ctr:=(199,ap K8 psR nh)
def k77:FuncId×Ctr:=(226,ap K8 psR nh)
def k40:FuncId×Ctr:=(182,ap K8 qn m5)
def k41:FuncId×Ctr:=(206,ap K8 qn m5)
def k42:FuncId×Ctr:=(184,ap K8 EI m6)
def k43:FuncId×Ctr:=(209,ap K8 EI m6)
def k78:FuncId×Ctr:=(169,ap K8 psI eV)
def k44:FuncId×Ctr:=(147,ap K8 psI eV)
def k66:FuncId×Ctr:=(138,ap K8 eg nb)
def k68:FuncId×Ctr:=(192,ap K8 eg nb)
def k46:FuncId×Ctr:=(139,ap K8 vy m7)
def k69:FuncId×Ctr:=(193,ap K8 vy m7)
def k67:FuncId×Ctr:=(137,ap K8 eg ne)
def k70:FuncId×Ctr:=(191,ap K8 eg ne)
def k45:FuncId×Ctr:=(84,ap K8 MJ AL)
def k90:FuncId×Ctr:=(82,ap K8 MO AZ)
def k91:FuncId×Ctr:=(83,ap K8 MP A0)
def vz:Ty:= .prod (.slice (.int .i64)) (.prod (.int .i64) .unit)
def cE (xs:List Int) (v:Int):Bool:=xs.contains v
def m8:Den vz→PRes:=fun x=>⟨[],.bool (cE x.1 x.2.1),[]⟩
def AV:Den vz→PRes:=fun x=>⟨[],.int .i64 (idx x.1 x.2.1 0),[]⟩
def k47:FuncId×Ctr:=(105,ap K8 vz m8)
def k79:FuncId×Ctr:=(126,ap K8 vz AV)
def F4 (xs:List Int) (v:Int) (i:Nat):Prop:=i≤xs.length∧v∉xs.take i
def L79 (i:Nat):List (Lspec Nat):= [.out [true] [] [],.next (i+1) [] [],.out [false] [] []]
def J79 (xs:List Int) (v:Int) (i:Nat):St:=⟨[(0,.fsl (.int .i64) xs),(1,.int .i64 v),(7,.int .i64 xs.length),(8,.int .i64 i)],[],fun _=>none,0⟩
def T79 (xs:List Int) (v:Int):Tr:= .br (xs.contains v) (.leaf .ret ⟨[(4,.int .i64 (idx xs v 0))],[]⟩ 0) (.leaf (.ext 0) ⟨[],[]⟩ 0)
def Λ79 (xs:List Int) (v:Int):Nat→Option LoopSum:=find [(2,b8 ⟨[],[],0⟩ (J79 xs v 0) (T79 xs v))]
def rV (r:Rules) (o:Int) (i:Nat):Prop:=i≤r.Power.length∧∀ p∈r.Power.take i,cw o p=false
def L75 (i:Nat):List (Lspec Nat):= [.out [true] [] [],.next (i+1) [] [],.out [false] [] []]
def T75 (r:Rules) (o:Int):Tr:= .br (r.Power.any (cw o)) (.leaf .ret ⟨[(4,.int .i64 (bP r o))],[]⟩ 48) (.leaf (.ext 0) ⟨[(2,.ptr 0 0)],[(0,.cells (flat fw (.nm .Rules) r))]⟩ 48)
def J75 (r:Rules) (o:Int) (i:Nat):St:=⟨[(1,.int .i64 o),(2,.ptr 0 0),(8,.fsl (.nm .Phase) r.Power),(9,.int .i64 r.Power.length),(10,.int .i64 i)],[(0,.cells (flat fw (.nm .Rules) r))],fun _=>none,48⟩
def Λ75 (r:Rules) (o:Int):Nat→Option LoopSum:=find [(2,b8 ⟨[],[],48⟩ (J75 r o 0) (T75 r o))]
end Go.Proofs.YtkgplaoappjkcaaGreat
namespace Go.Proofs.YtkgplaoappjkcaaGreat
open Go Go.Mir
def wtab:List dismissal_way:=
 [{ how:=0,name:={ data:=#[78,79,84,79,85,84] },fair:=false,wide:=false,no:=false,fielder:=false,either:=false },
  { how:=1,name:={ data:=#[66,79,87,76,69,68] },fair:=true,wide:=false,no:=false,fielder:=false,either:=false },
  { how:=2,name:={ data:=#[67,65,85,71,72,84] },fair:=true,wide:=false,no:=false,fielder:=true,either:=false },
  { how:=3,name:={ data:=#[76,66,87] },fair:=true,wide:=false,no:=false,fielder:=false,either:=false },
  { how:=4,name:={ data:=#[83,84,85,77,80,69,68] },fair:=true,wide:=true,no:=false,fielder:=true,either:=false },
  { how:=5,name:={ data:=#[72,73,84,87,73,67,75,69,84] },fair:=true,wide:=true,no:=false,fielder:=false,either:=false },
  { how:=6,name:={ data:=#[82,85,78,79,85,84] },fair:=true,wide:=true,no:=true,fielder:=true,either:=true },
  { how:=7,name:={ data:=#[72,73,84,84,87,73,67,69] },fair:=true,wide:=false,no:=true,fielder:=false,either:=false },
  { how:=8,name:={ data:=#[79,66,83,84,82,85,67,84,73,78,71] },fair:=true,wide:=true,no:=true,fielder:=false,either:=true },
  { how:=9,name:={ data:=#[84,73,77,69,68,79,85,84] },fair:=false,wide:=false,no:=false,fielder:=false,either:=false },
  { how:=10,name:={ data:=#[82,69,84,73,82,69,68] },fair:=false,wide:=false,no:=false,fielder:=false,either:=false }]
def onW (w:dismissal_way) (t:Int):Bool:=(t==1&&w.fair) ||(t==2&&w.wide) ||(t==3&&w.no)
def ofW (h:Int):dismissal_way:=(wtab.find? fun w=>w.how==h).getD dismissal_way.zero
def pM (w:dismissal_way) (t:Int) (free:Bool):Bool:=onW w t&&(!free||w.how==6||w.how==7||w.how==8)
def iy (t:Int) (free:Bool):List Int:=(wtab.filter fun w=>pM w t free).map dismissal_way.how
def lD (n:Int):Bool:=decide (n≥1)&&decide (n≤11)
def fG (d:Delivery) (w:dismissal_way):Bool:=
 !((w.fielder != lD d.Fielder) ||(!w.fielder&&d.Fielder != 0))&&(d.Second==0 ||(d.How==6&&lD d.Second&&d.Second != d.Fielder))
def bW (d:Delivery) (free:Bool):Int:=
 if d.How==0 then (if d.Victim != 0 then 14 else if d.Fielder != 0||d.Second != 0||d.Sub then 15 else 0)
 else if !(iy d.Typ free).contains d.How then 13
 else if !(d.How==6||d.How==8)&&(d.Source != 0||d.Runs != 0) then 12
 else if d.Victim != 1&&(d.Victim != 2||!(ofW d.How).either) then 14
 else if !fG d (ofW d.How) then 15
 else if d.Sub&&d.How != 2&&d.How != 6 then 18
 else 0
def ga (h:Int):Bool:=h==6||h==7||h==8
def onR (h t:Int):Bool:=
 if h==1||h==2||h==3 then t==1
 else if h==4||h==5 then t==1||t==2
 else if h==7 then t==1||t==3
 else if h==6||h==8 then t==1||t==2||t==3
 else false
def xD (h:Int):Bool:=h==6
def ot (h:Int):Bool:=h==2||h==4||h==6
def cf (d:Delivery) (free:Bool):Int:=
 if d.How==0 then (if d.Victim != 0 then 14 else if d.Fielder != 0||d.Second != 0||d.Sub then 15 else 0)
 else if !onR d.How d.Typ ||(free&&!ga d.How) then 13
 else if !(d.How==6||d.How==8)&&(d.Source != 0||d.Runs != 0) then 12
 else if d.Victim != 1&&!(d.Victim==2&&(d.How==6||d.How==8)) then 14
 else if (ot d.How&&(decide (d.Fielder<1)||decide (d.Fielder>11))) ||(!ot d.How&&d.Fielder != 0) then 15
 else if d.Second != 0&&(!(d.How==6)||decide (d.Second<1)||decide (d.Second>11)||d.Second==d.Fielder) then 15
 else if d.Sub&&d.How != 2&&d.How != 6 then 18
 else 0
def o0 (xs:List Int) (v:Int):Bool:=xs.contains v
def ML:Ty:= .unit
def AR:Den ML→PRes:=fun _=>⟨[],.osl 0 0,[⟨.nm .dismissal_way,wtab⟩]⟩
def MM:Ty:= .prod (.nm .dismissal_way) (.prod (.int .u8) .unit)
def AS:Den MM→PRes:=fun x=>⟨[],.bool (onW x.1 x.2.1),[]⟩
def sV:Ty:= .prod (.int .u8) .unit
def AN:Den sV→PRes:=fun x=>⟨[],.agg (flat fw (.nm .dismissal_way) (ofW x.1)),[]⟩
def MH:Ty:= .prod (.int .u8) (.prod .bool .unit)
def AI:Den MH→PRes:=fun x=>⟨[],.osl 0 0,[⟨.int .u8,iy x.1 x.2.1⟩]⟩
def MI:Ty:=H6
def AJ:Den MI→PRes:=fun x=>⟨[],.bool (o0 x.1 x.2.1),[]⟩
def MN:Ty:= .prod (.int .i64) .unit
def AY:Den MN→PRes:=fun x=>⟨[],.bool (lD x.1),[]⟩
def MK:Ty:= .prod (.nm .Delivery) (.prod (.nm .dismissal_way) .unit)
def AO:Den MK→PRes:=fun x=>⟨[],.bool (fG x.1 x.2.1),[]⟩
def psP:Ty:= .prod (.nm .Delivery) (.prod .bool .unit)
def AG:Den psP→PRes:=fun x=>⟨[],.int .i64 (bW x.1 x.2.1),[]⟩
def AH:Den psP→PRes:=fun x=>⟨[],.int .i64 (cf x.1 x.2.1),[]⟩
def AQ:Den sV→PRes:=fun x=>⟨[],.bool (ga x.1),[]⟩
def MS:Ty:= .prod (.int .u8) (.prod (.int .u8) .unit)
def AP:Den MS→PRes:=fun x=>⟨[],.bool (onR x.1 x.2.1),[]⟩
def AK:Den sV→PRes:=fun x=>⟨[],.tup [.bool (ot x.1),.bool (ot x.1),.bool (xD x.1)],[]⟩
def k61:FuncId×Ctr:=(219,ap KK ML AR)
def k62:FuncId×Ctr:=(221,ap KK MM AS)
def k57:FuncId×Ctr:=(200,ap KK sV AN)
def k20:FuncId×Ctr:=(202,ap KK MH AI)
def k63:FuncId×Ctr:=(220,ap KK H6 AU)
def k21:FuncId×Ctr:=(201,ap KK MI AJ)
def k89:FuncId×Ctr:=(222,ap KK MN AY)
def k58:FuncId×Ctr:=(203,ap KK MK AO)
def k17:FuncId×Ctr:=(183,ap KK psP AG)
def k18:FuncId×Ctr:=(208,ap KK psP AH)
def k60:FuncId×Ctr:=(231,ap KK sV AQ)
def k59:FuncId×Ctr:=(230,ap KK MS AP)
def k29:FuncId×Ctr:=(229,ap KK sV AK)
def J57 (h:Int) (i:Nat):St:=⟨[(0,.int .u8 h),(2,.ptr 0 0),(5,.osl 4 4),(6,.int .i64 wtab.length),(7,.int .i64 i)],
 [(4,.row 4 true (.nm .dismissal_way) wtab),(0,.cells (flat fw (.nm .dismissal_way) dismissal_way.zero))],fun _=>none,16⟩
def T57 (h:Int):Tr:= .br (wtab.any fun w=>w.how==h) (.leaf .ret ⟨[(2,.ptr 0 0)],[(0,.cells (flat fw (.nm .dismissal_way) (ofW h)))]⟩ 16)
 (.leaf (.ext 0) ⟨[(2,.ptr 0 0)],[(0,.cells (flat fw (.nm .dismissal_way) dismissal_way.zero))]⟩ 16)
def F2 (h:Int) (i:Nat):Prop:=i≤11∧∀ w∈wtab.take i,(w.how==h)=false
def L57 (i:Nat):List (Lspec Nat):= [.out [true] [] [],.next (i+1) [] [],.out [false] [] []]
def Λ57 (h:Int):Nat→Option LoopSum:=find [(2,b8 ⟨[],[],16⟩ (J57 h 0) (T57 h))]
def fE (t:Int) (free:Bool) (i:Nat):List Int:=((wtab.take i).filter fun w=>pM w t free).map dismissal_way.how
def J20 (t:Int) (free:Bool) (i:Nat):St:=⟨[(0,.int .u8 t),(1,.bool free),(5,.osl 16 17),(8,.osl 8 8),(9,.int .i64 wtab.length),(10,.int .i64 i)],
 [(8,.row 8 true (.nm .dismissal_way) wtab),(16,.row 17 true (.int .u8) (fE t free i))],fun _=>none,20⟩
def T20 (t:Int) (free:Bool):Tr:= .leaf (.ext 0) ⟨[(5,.osl 16 17)],[(16,.row 17 true (.int .u8) (iy t free))]⟩ 20
def L20 (i:Nat):List (Lspec Nat):= [.next (i+1) [(17,144)] [],.next (i+1) [] [],.out [] [] []]
def uy (i:Nat):Prop:=i≤11
def Λ20 (t:Int) (free:Bool):Nat→Option LoopSum:=find [(3,b8 ⟨[],[16],20⟩ (J20 t free 0) (T20 t free))]
end Go.Proofs.YtkgplaoappjkcaaGreat
namespace Go.Proofs.YtkgplaoappjkcaaGreat
open Go Go.Mir
attribute [local irreducible] Go.Mir.RT.sat Go.Mir.evFn Go.Mir.stepObl
theorem Rp :(evFn (gO [] Tryz.f219) (fun _=>none) Tryz.f219 (bh ML ())).sat fun v' rows=>leV v' (AR ()).v∧rows =(AR ()).rows:=by
 refine cast (by kernel_rfl) (?_ :(nat_lit 0=nat_lit 0∧nat_lit 0=nat_lit 0)∧ [RowD.mk (Ty.nm Nm.dismissal_way) [dismissal_way.mk (0:Int) (ByteArray.mk #[(78:UInt8),(79:UInt8),(84:UInt8),(79:UInt8),(85:UInt8),(84:UInt8)]) false false false false false,dismissal_way.mk (1:Int) (ByteArray.mk #[(66:UInt8),(79:UInt8),(87:UInt8),(76:UInt8),(69:UInt8),(68:UInt8)]) true false false false false,dismissal_way.mk (2:Int) (ByteArray.mk #[(67:UInt8),(65:UInt8),(85:UInt8),(71:UInt8),(72:UInt8),(84:UInt8)]) true false false true false,dismissal_way.mk (3:Int) (ByteArray.mk #[(76:UInt8),(66:UInt8),(87:UInt8)]) true false false false false,dismissal_way.mk (4:Int) (ByteArray.mk #[(83:UInt8),(84:UInt8),(85:UInt8),(77:UInt8),(80:UInt8),(69:UInt8),(68:UInt8)]) true true false true false,dismissal_way.mk (5:Int) (ByteArray.mk #[(72:UInt8),(73:UInt8),(84:UInt8),(87:UInt8),(73:UInt8),(67:UInt8),(75:UInt8),(69:UInt8),(84:UInt8)]) true true false false false,dismissal_way.mk (6:Int) (ByteArray.mk #[(82:UInt8),(85:UInt8),(78:UInt8),(79:UInt8),(85:UInt8),(84:UInt8)]) true true true true true,dismissal_way.mk (7:Int) (ByteArray.mk #[(72:UInt8),(73:UInt8),(84:UInt8),(84:UInt8),(87:UInt8),(73:UInt8),(67:UInt8),(69:UInt8)]) true false true false false,dismissal_way.mk (8:Int) (ByteArray.mk #[(79:UInt8),(66:UInt8),(83:UInt8),(84:UInt8),(82:UInt8),(85:UInt8),(67:UInt8),(84:UInt8),(73:UInt8),(78:UInt8),(71:UInt8)]) true true true false true,dismissal_way.mk (9:Int) (ByteArray.mk #[(84:UInt8),(73:UInt8),(77:UInt8),(69:UInt8),(68:UInt8),(79:UInt8),(85:UInt8),(84:UInt8)]) false false false false false,dismissal_way.mk (10:Int) (ByteArray.mk #[(82:UInt8),(69:UInt8),(84:UInt8),(73:UInt8),(82:UInt8),(69:UInt8),(68:UInt8)]) false false false false false]]=[RowD.mk (Ty.nm Nm.dismissal_way) wtab])
 exact ⟨⟨rfl,rfl⟩,by kernel_rfl⟩
theorem Mj:CtrOK Tryz.prog KK 219 (ap KK ML AR):=by
 refine aJ (C:=gO [] Tryz.f219) (iq CtrsOK.nil _) mixed (fn:=Tryz.f219) Tryz.func219 (by kernel_rfl) (by kernel_rfl) (by kernel_rfl) (Λ:=fun _ _=>none) ?_ ?_ ?_
 ·exact fun _ _ _ _ _ _ _ _ h=>by cases h
 ·rintro ⟨⟩
  exact of_decide_eq_true (by kernel_rfl)
 ·rintro ⟨⟩ _ _
  exact Rp
theorem Rq (w:dismissal_way) (t:Int) :(evFn (gO [] Tryz.f221) (fun _=>none) Tryz.f221 (bh MM (w,t,()))).sat fun v' rows=>leV v' (AS (w,t,())).v∧rows =(AS (w,t,())).rows:=by
 refine cast (by kernel_rfl) (?_ :(bif t ==(1:Int) then bif w.3 then true else bif t ==(2:Int) then bif w.4 then true else bif t ==(3:Int) then w.5 else false else bif t ==(3:Int) then w.5 else false else bif t ==(2:Int) then bif w.4 then true else bif t ==(3:Int) then w.5 else false else bif t ==(3:Int) then w.5 else false)=onW w t∧([]:List RowD)=[])
 simp only [onW];grind
theorem QQ:CtrOK Tryz.prog KK 221 (ap KK MM AS):=by
 refine aJ (C:=gO [] Tryz.f221) (iq CtrsOK.nil _) mixed (fn:=Tryz.f221) Tryz.func221 (by kernel_rfl) (by kernel_rfl) (by kernel_rfl) (Λ:=fun _ _=>none) ?_ ?_ ?_
 ·exact fun _ _ _ _ _ _ _ _ h=>by cases h
 ·rintro ⟨w,t,⟨⟩⟩
  exact of_decide_eq_true (by kernel_rfl)
 ·rintro ⟨w,t,⟨⟩⟩ _ _
  exact Rq w t
theorem RN (n:Int) :(evFn (gO [] Tryz.f222) (fun _=>none) Tryz.f222 (bh MN (n,()))).sat fun v' rows=>leV v' (AY (n,())).v∧rows =(AY (n,())).rows:=by
 refine cast (by kernel_rfl) (?_ :(bif decide (n≥(1:Int)) then decide (n≤(11:Int)) else false)=lD n∧([]:List RowD)=[])
 simp only [lD];grind
theorem SC:CtrOK Tryz.prog KK 222 (ap KK MN AY):=by
 refine aJ (C:=gO [] Tryz.f222) (iq CtrsOK.nil _) mixed (fn:=Tryz.f222) Tryz.func222 (by kernel_rfl) (by kernel_rfl) (by kernel_rfl) (Λ:=fun _ _=>none) ?_ ?_ ?_
 ·exact fun _ _ _ _ _ _ _ _ h=>by cases h
 ·rintro ⟨n,⟨⟩⟩
  exact of_decide_eq_true (by kernel_rfl)
 ·rintro ⟨n,⟨⟩⟩ _ _
  exact RN n
theorem Ro (n:Int) :(evFn (gO [] Tryz.f231) (fun _=>none) Tryz.f231 (bh sV (n,()))).sat fun v' rows=>leV v' (AQ (n,())).v∧rows =(AQ (n,())).rows:=by
 refine cast (by kernel_rfl) (?_ :(bif n ==(6:Int) then true else bif n ==(7:Int) then true else n ==(8:Int))=ga n∧([]:List RowD)=[])
 simp only [ga];grind
theorem Sp:CtrOK Tryz.prog KK 231 (ap KK sV AQ):=by
 refine aJ (C:=gO [] Tryz.f231) (iq CtrsOK.nil _) mixed (fn:=Tryz.f231) Tryz.func231 (by kernel_rfl) (by kernel_rfl) (by kernel_rfl) (Λ:=fun _ _=>none) ?_ ?_ ?_
 ·exact fun _ _ _ _ _ _ _ _ h=>by cases h
 ·rintro ⟨n,⟨⟩⟩
  exact of_decide_eq_true (by kernel_rfl)
 ·rintro ⟨n,⟨⟩⟩ _ _
  exact Ro n
theorem Rn (n:Int) (t:Int) :(evFn (gO [] Tryz.f230) (fun _=>none) Tryz.f230 (bh MS (n,t,()))).sat fun v' rows=>leV v' (AP (n,t,())).v∧rows =(AP (n,t,())).rows:=by
 refine cast (by kernel_rfl) (?_ :((bif n ==(1:Int) then n ==(1:Int) else bif n ==(2:Int) then n ==(2:Int) else n ==(3:Int))=true→(t ==(1:Int))=onR n t∧([]:List RowD)=[])∧((bif n ==(1:Int) then n ==(1:Int) else bif n ==(2:Int) then n ==(2:Int) else n ==(3:Int))=false→((bif n ==(4:Int) then n ==(4:Int) else n ==(5:Int))=true→(bif t ==(1:Int) then true else t ==(2:Int))=onR n t∧([]:List RowD)=[])∧((bif n ==(4:Int) then n ==(4:Int) else n ==(5:Int))=false→((n ==(7:Int))=true→(bif t ==(1:Int) then true else t ==(3:Int))=onR n t∧([]:List RowD)=[])∧((n ==(7:Int))=false→((bif n ==(6:Int) then n ==(6:Int) else n ==(8:Int))=true→(bif t ==(1:Int) then true else bif t ==(2:Int) then true else t ==(3:Int))=onR n t∧([]:List RowD)=[])∧((bif n ==(6:Int) then n ==(6:Int) else n ==(8:Int))=false→false=onR n t∧([]:List RowD)=[])))))
 simp only [onR];grind
theorem So:CtrOK Tryz.prog KK 230 (ap KK MS AP):=by
 refine aJ (C:=gO [] Tryz.f230) (iq CtrsOK.nil _) mixed (fn:=Tryz.f230) Tryz.func230 (by kernel_rfl) (by kernel_rfl) (by kernel_rfl) (Λ:=fun _ _=>none) ?_ ?_ ?_
 ·exact fun _ _ _ _ _ _ _ _ h=>by cases h
 ·rintro ⟨n,t,⟨⟩⟩
  exact of_decide_eq_true (by kernel_rfl)
 ·rintro ⟨n,t,⟨⟩⟩ _ _
  exact Rn n t
theorem Q5 (n:Int) :(evFn (gO [] Tryz.f229) (fun _=>none) Tryz.f229 (bh sV (n,()))).sat fun v' rows=>leV v' (AK (n,())).v∧rows =(AK (n,())).rows:=by
 refine cast (by kernel_rfl) (?_ :((bif n ==(2:Int) then true else bif n ==(4:Int) then true else n ==(6:Int))=ot n∧(bif n ==(2:Int) then true else bif n ==(4:Int) then true else n ==(6:Int))=ot n∧(n ==(6:Int))=xD n∧True)∧([]:List RowD)=[])
 simp only [ot,xD];grind
theorem Sc:CtrOK Tryz.prog KK 229 (ap KK sV AK):=by
 refine aJ (C:=gO [] Tryz.f229) (iq CtrsOK.nil _) mixed (fn:=Tryz.f229) Tryz.func229 (by kernel_rfl) (by kernel_rfl) (by kernel_rfl) (Λ:=fun _ _=>none) ?_ ?_ ?_
 ·exact fun _ _ _ _ _ _ _ _ h=>by cases h
 ·rintro ⟨n,⟨⟩⟩
  exact of_decide_eq_true (by kernel_rfl)
 ·rintro ⟨n,⟨⟩⟩ _ _
  exact Q5 n
theorem Nr:wtab.length=11:=rfl
theorem th {α:Type} (p:α→Bool) :∀ (xs:List α) (i:Nat) (x:α),xs[i]?=some x→p x=true→(∀ y∈xs.take i,p y=false)→xs.find? p=some x
 | [],_,_,h,_,_=>by simp at h
 | y::xs,0,x,h,hp,_=>by simp at h;subst h;simp [hp]
 | y::xs,i+1,x,h,hp,hn=>by
  have h0:p y=false:=hn y (by simp)
  rw [List.find?_cons_of_neg (by simp [h0])]
  exact th p xs i x (by simpa using h) hp (fun z hz=>hn z (by simp [hz]))
theorem lh {α:Type} {xs:List α} {i:Nat} (z:α) (h:i<xs.length):xs[i]?=some (xs.getD i z):=by
 rw [List.getD_eq_getElem?_getD,List.getElem?_eq_getElem h];rfl
theorem PS (h:Int) (i:Nat) (hi:F2 h i) :(stepObl (J57 h) (F2 h) (fun i=>11 - i) i (T57 h) (bQ (gO [k61] Tryz.f200) (fun _=>none) (aA Tryz.f200 0) (J57 h i)) (L57 i)).1:=by
 refine cast (by kernel_rfl) (?_ :(decide ((↑i:Int) <(↑wtab.length:Int))=true→((0:Int)≤(↑i:Int)∧(↑i:Int) <(↑wtab.length:Int))∧(((wtab.getD (↑i:Int).toNat (dflt (Ty.nm Nm.dismissal_way))).1==h)=true→(wtab.any fun w=>w.1==h)=true∧(True∧True)∧((wtab.getD (↑i:Int).toNat (dflt (Ty.nm Nm.dismissal_way))).1 =(ofW h).1∧(wtab.getD (↑i:Int).toNat (dflt (Ty.nm Nm.dismissal_way))).2 =(ofW h).2∧(wtab.getD (↑i:Int).toNat (dflt (Ty.nm Nm.dismissal_way))).3 =(ofW h).3∧(wtab.getD (↑i:Int).toNat (dflt (Ty.nm Nm.dismissal_way))).4 =(ofW h).4∧(wtab.getD (↑i:Int).toNat (dflt (Ty.nm Nm.dismissal_way))).5 =(ofW h).5∧(wtab.getD (↑i:Int).toNat (dflt (Ty.nm Nm.dismissal_way))).6 =(ofW h).6∧(wtab.getD (↑i:Int).toNat (dflt (Ty.nm Nm.dismissal_way))).7 =(ofW h).7∧True)∧True)∧(((wtab.getD (↑i:Int).toNat (dflt (Ty.nm Nm.dismissal_way))).1==h)=false→F2 h (i +(1:Nat))∧(11:Nat) - (i +(1:Nat)) <(11:Nat) - i∧(h=h∧True∧True∧(↑wtab.length:Int) =(↑wtab.length:Int)∧IntKind.i64.wrap ((↑i:Int) +(1:Int)) =(↑(i +(1:Nat)):Int)∧True)∧RowD.mk (Ty.nm Nm.dismissal_way) wtab=RowD.mk (Ty.nm Nm.dismissal_way) wtab∧((0:Int) =(0:Int)∧ByteArray.empty=ByteArray.empty∧false=false∧false=false∧false=false∧false=false∧false=false∧True)∧True))∧(decide ((↑i:Int) <(↑wtab.length:Int))=false→(wtab.any fun w=>w.1==h)=false∧(True∧True)∧((0:Int) =(0:Int)∧ByteArray.empty=ByteArray.empty∧false=false∧false=false∧false=false∧false=false∧false=false∧True)∧True))
 have e :(i:Int).toNat=i:=by simp
 rw [e]
 generalize hw:wtab.getD i (dflt (Ty.nm Nm.dismissal_way))=w
 refine ⟨fun h1=>?_,fun h1=>?_⟩
 ·have h1:i<wtab.length:=by simpa using h1
  have h3:wtab[i]?=some w:=by rw [←hw];exact lh _ h1
  refine ⟨⟨by omega,by omega⟩,fun h2=>?_,fun h2=>?_⟩
  ·have h4:ofW h=w:=by
    unfold ofW
    rw [th (fun w=>w.how==h) wtab i w h3 h2 hi.2];rfl
   have h5 :(wtab.any fun w=>w.1==h)=true:=List.any_eq_true.2 ⟨w,List.mem_of_getElem? h3,h2⟩
   rw [h4]
   exact ⟨h5,⟨trivial,trivial⟩,⟨rfl,rfl,rfl,rfl,rfl,rfl,rfl,trivial⟩,trivial⟩
  ·rw [Nr] at h1
   refine ⟨⟨by omega,fun y hy=>?_⟩,by omega,⟨rfl,trivial,trivial,rfl,?_,trivial⟩,rfl,⟨rfl,rfl,rfl,rfl,rfl,rfl,rfl,trivial⟩,trivial⟩
   ·rw [List.take_add_one,h3] at hy
    rcases List.mem_append.1 hy with hy|hy
    ·exact hi.2 y hy
    ·simp at hy;subst hy;exact h2
   ·rw [de (by omega) (by omega)];omega
 ·have h1:wtab.length≤i:=by simpa using h1
  refine ⟨?_,⟨trivial,trivial⟩,⟨rfl,rfl,rfl,rfl,rfl,rfl,rfl,trivial⟩,trivial⟩
  rw [List.any_eq_false]
  intro x hx
  have:=hi.2 x (by rw [List.take_of_length_le h1];exact hx)
  simpa using this
theorem Ma (h:Int):LoopsOK Tryz.prog Tryz.f200.ntmps [aA Tryz.f200 0] (Λ57 h):=
 .cons (L:=b8 ⟨[],[],16⟩ (J57 h 0) (T57 h)) (by kernel_rfl) (fq (iq (.cons Mj .nil) _) mixed (J57 h) (fun _=>rfl) (F2 h) (fun i=>11 - i) (fun _ _=>none) (fun _ _ _ _ _ h=>by cases h) (T57 h) [] [] 0 ⟨Nat.zero_le _,by simp⟩ L57 (PS h)) .nil
theorem Rk (h:Int) :(evFn (gO [k61] Tryz.f200) (Λ57 h) Tryz.f200 (bh sV (h,()))).sat fun v' rows=>leV v' (AN (h,())).v∧rows =(AN (h,())).rows:=by
 refine cast (by kernel_rfl) (?_ :((cR fun x=>none)∧(h=h∧True∧True∧(↑wtab.length:Int) =(↑wtab.length:Int)∧(0:Int) =(↑(0:Nat):Int)∧True)∧RowD.mk (Ty.nm Nm.dismissal_way) wtab=RowD.mk (Ty.nm Nm.dismissal_way) wtab∧((0:Int) =(0:Int)∧ByteArray.empty=ByteArray.empty∧false=false∧false=false∧false=false∧false=false∧false=false∧True)∧True)∧((wtab.any fun w=>w.1==h)=true→((ofW h).1 =(ofW h).1∧(ofW h).2 =(ofW h).2∧(ofW h).3 =(ofW h).3∧(ofW h).4 =(ofW h).4∧(ofW h).5 =(ofW h).5∧(ofW h).6 =(ofW h).6∧(ofW h).7 =(ofW h).7∧True)∧([]:List RowD)=[])∧((wtab.any fun w=>w.1==h)=false→((0:Int) =(ofW h).1∧ByteArray.empty =(ofW h).2∧false =(ofW h).3∧false =(ofW h).4∧false =(ofW h).5∧false =(ofW h).6∧false =(ofW h).7∧True)∧([]:List RowD)=[]))
 refine ⟨⟨rfl,⟨rfl,trivial,trivial,rfl,rfl,trivial⟩,rfl,⟨rfl,rfl,rfl,rfl,rfl,rfl,rfl,trivial⟩,trivial⟩,fun _=>⟨⟨rfl,rfl,rfl,rfl,rfl,rfl,rfl,trivial⟩,rfl⟩,fun h1=>?_⟩
 have h2:ofW h=dismissal_way.zero:=by
  unfold ofW
  rw [List.find?_eq_none.2]
  ·rfl
  ·intro x hx hp
   have:=(List.any_eq_false.1 h1) x hx
   exact this hp
 rw [h2]
 exact ⟨⟨rfl,rfl,rfl,rfl,rfl,rfl,rfl,trivial⟩,rfl⟩
theorem Sm:CtrOK Tryz.prog KK 200 (ap KK sV AN):=by
 refine aJ (C:=gO [k61] Tryz.f200) (iq (.cons Mj .nil) _) mixed (fn:=Tryz.f200) Tryz.func200 (by kernel_rfl) (by kernel_rfl) (by kernel_rfl) (Λ:=fun x=>Λ57 x.1) ?_ ?_ ?_
 ·rintro ⟨h,⟨⟩⟩ _ _
  exact LoopsOK.at (by kernel_rfl) (Ma h)
 ·rintro ⟨h,⟨⟩⟩
  exact of_decide_eq_true (by kernel_rfl)
 ·rintro ⟨h,⟨⟩⟩ _ _
  exact Rk h
theorem Jr (w:dismissal_way) (t:Int) (free:Bool) :(bif onW w t then bif !free then true else bif w.1 ==(6:Int) then true else bif w.1 ==(7:Int) then true else w.1 ==(8:Int) else false)=pM w t free:=by
 simp only [pM];cases onW w t <;> cases free <;> simp <;> grind
theorem DE (t:Int) (free:Bool) (i:Nat) {w:dismissal_way} (h:wtab[i]?=some w):fE t free (i+1)=fE t free i ++(bif pM w t free then [w.how] else []):=by
 unfold fE
 rw [List.take_add_one,h,List.filter_append,List.map_append]
 congr 1
 cases hf:pM w t free <;> simp [hf]
theorem FN (t:Int) (free:Bool) (i:Nat) :(fE t free i).length≤11:=by
 unfold fE
 rw [List.length_map]
 have h1:=List.length_filter_le (fun w=>pM w t free) (wtab.take i)
 have h2 :(wtab.take i).length≤wtab.length:=List.length_take_le' _ _
 rw [Nr] at h2
 omega
theorem PR (t:Int) (free:Bool) (i:Nat) (hi:uy i) :(stepObl (J20 t free) uy (fun i=>11 - i) i (T20 t free) (bQ (gO [k61,k62] Tryz.f202) (fun _=>none) (aA Tryz.f202 0) (J20 t free i)) (L20 i)).1:=by
 refine cast (by kernel_rfl) (?_ :(decide ((↑i:Int) <(↑wtab.length:Int))=true→((0:Int)≤(↑i:Int)∧(↑i:Int) <(↑wtab.length:Int))∧((bif onW (wtab.getD (↑i:Int).toNat (dflt (Ty.nm Nm.dismissal_way))) t then bif !free then true else bif (wtab.getD (↑i:Int).toNat (dflt (Ty.nm Nm.dismissal_way))).1 ==(6:Int) then true else bif (wtab.getD (↑i:Int).toNat (dflt (Ty.nm Nm.dismissal_way))).1 ==(7:Int) then true else (wtab.getD (↑i:Int).toNat (dflt (Ty.nm Nm.dismissal_way))).1 ==(8:Int) else false)=true→((fE t free i).length+[(wtab.getD (↑i:Int).toNat (dflt (Ty.nm Nm.dismissal_way))).1].length) *(1:Nat)≤(70368744177664:Nat)∧uy (i +(1:Nat))∧(11:Nat) - (i +(1:Nat)) <(11:Nat) - i∧(t=t∧free=free∧True∧True∧(↑wtab.length:Int) =(↑wtab.length:Int)∧IntKind.i64.wrap ((↑i:Int) +(1:Int)) =(↑(i +(1:Nat)):Int)∧True)∧RowD.mk (Ty.nm Nm.dismissal_way) wtab=RowD.mk (Ty.nm Nm.dismissal_way) wtab∧RowD.mk (Ty.int IntKind.u8) (fE t free i++[(wtab.getD (↑i:Int).toNat (dflt (Ty.nm Nm.dismissal_way))).1])=RowD.mk (Ty.int IntKind.u8) (fE t free (i +(1:Nat)))∧True)∧((bif onW (wtab.getD (↑i:Int).toNat (dflt (Ty.nm Nm.dismissal_way))) t then bif !free then true else bif (wtab.getD (↑i:Int).toNat (dflt (Ty.nm Nm.dismissal_way))).1 ==(6:Int) then true else bif (wtab.getD (↑i:Int).toNat (dflt (Ty.nm Nm.dismissal_way))).1 ==(7:Int) then true else (wtab.getD (↑i:Int).toNat (dflt (Ty.nm Nm.dismissal_way))).1 ==(8:Int) else false)=false→uy (i +(1:Nat))∧(11:Nat) - (i +(1:Nat)) <(11:Nat) - i∧(t=t∧free=free∧True∧True∧(↑wtab.length:Int) =(↑wtab.length:Int)∧IntKind.i64.wrap ((↑i:Int) +(1:Int)) =(↑(i +(1:Nat)):Int)∧True)∧RowD.mk (Ty.nm Nm.dismissal_way) wtab=RowD.mk (Ty.nm Nm.dismissal_way) wtab∧RowD.mk (Ty.int IntKind.u8) (fE t free i)=RowD.mk (Ty.int IntKind.u8) (fE t free (i +(1:Nat)))∧True))∧(decide ((↑i:Int) <(↑wtab.length:Int))=false→True∧(True∧True)∧RowD.mk (Ty.int IntKind.u8) (fE t free i)=RowD.mk (Ty.int IntKind.u8) (iy t free)∧True))
 have e :(i:Int).toNat=i:=by simp
 rw [e]
 generalize hw:wtab.getD i (dflt (Ty.nm Nm.dismissal_way))=w
 rw [Jr]
 refine ⟨fun h1=>?_,fun h1=>?_⟩
 ·have h1:i<wtab.length:=by simpa using h1
  have h3:wtab[i]?=some w:=by rw [←hw];exact lh _ h1
  have hu:=DE t free i h3
  rw [Nr] at h1
  have hwr:IntKind.i64.wrap ((i:Int)+1) =((i+1:Nat):Int):=by rw [de (by omega) (by omega)];omega
  refine ⟨⟨by omega,by rw [Nr];omega⟩,fun h2=>?_,fun h2=>?_⟩
  ·rw [h2] at hu
   refine ⟨?_,(by unfold uy;omega),by omega,⟨rfl,rfl,trivial,trivial,rfl,hwr,trivial⟩,rfl,by rw [hu];rfl,trivial⟩
   have:=FN t free i
   simp only [List.length_cons,List.length_nil]
   omega
  ·rw [h2] at hu
   refine ⟨(by unfold uy;omega),by omega,⟨rfl,rfl,trivial,trivial,rfl,hwr,trivial⟩,rfl,by rw [hu];simp,trivial⟩
 ·have h1:wtab.length≤i:=by simpa using h1
  have hu:fE t free i=iy t free:=by unfold fE iy;rw [List.take_of_length_le h1]
  exact ⟨trivial,⟨trivial,trivial⟩,by rw [hu],trivial⟩
theorem L9 (t:Int) (free:Bool):LoopsOK Tryz.prog Tryz.f202.ntmps [aA Tryz.f202 0] (Λ20 t free):=
 .cons (L:=b8 ⟨[],[16],20⟩ (J20 t free 0) (T20 t free)) (by kernel_rfl) (fq (iq (.cons Mj (.cons QQ .nil)) _) mixed (J20 t free) (fun _=>rfl) uy (fun i=>11 - i) (fun _ _=>none) (fun _ _ _ _ _ h=>by cases h) (T20 t free) [] [16] 0 (Nat.zero_le _) L20 (PR t free)) .nil
theorem Q3 (t:Int) (free:Bool) :(evFn (gO [k61,k62] Tryz.f202) (Λ20 t free) Tryz.f202 (bh MH (t,free,()))).sat fun v' rows=>leV v' (AI (t,free,())).v∧rows =(AI (t,free,())).rows:=by
 refine cast (by kernel_rfl) (?_ :((cR fun x=>none)∧(t=t∧free=free∧True∧True∧(↑wtab.length:Int) =(↑wtab.length:Int)∧(0:Int) =(↑(0:Nat):Int)∧True)∧RowD.mk (Ty.nm Nm.dismissal_way) wtab=RowD.mk (Ty.nm Nm.dismissal_way) wtab∧fE t free (0:Nat)=[]∧True)∧(nat_lit 0=nat_lit 0∧nat_lit 0=nat_lit 0)∧ [RowD.mk (Ty.int IntKind.u8) (iy t free)]=[RowD.mk (Ty.int IntKind.u8) (iy t free)])
 exact ⟨⟨rfl,⟨rfl,rfl,trivial,trivial,rfl,rfl,trivial⟩,rfl,rfl,trivial⟩,⟨rfl,rfl⟩,rfl⟩
theorem Sa:CtrOK Tryz.prog KK 202 (ap KK MH AI):=by
 refine aJ (C:=gO [k61,k62] Tryz.f202) (iq (.cons Mj (.cons QQ .nil)) _) mixed (fn:=Tryz.f202) Tryz.func202 (by kernel_rfl) (by kernel_rfl) (by kernel_rfl) (Λ:=fun x=>Λ20 x.1 x.2.1) ?_ ?_ ?_
 ·rintro ⟨t,free,⟨⟩⟩ _ _
  exact LoopsOK.at (by kernel_rfl) (L9 t free)
 ·rintro ⟨t,free,⟨⟩⟩
  exact of_decide_eq_true (by kernel_rfl)
 ·rintro ⟨t,free,⟨⟩⟩ _ _
  exact Q3 t free
theorem F0 (xs:List Int) (v i:Int) (hi:0≤i):decide (idx xs v i≥0)=o0 xs v:=by
 induction xs generalizing i with
 | nil=>simp [idx,o0]
 | cons x xs ih=>
  by_cases hv:v=x
  ·subst hv;simp [idx,o0,hi]
  ·have h1 :(v==x)=false:=by simpa using hv
   have h2:=ih (i+1) (by omega)
   simp only [idx,h1,cond_false]
   rw [h2]
   simp [o0,hv]
theorem Q4 (xs:List Int) (v:Int) :(evFn (gO [k63] Tryz.f201) (fun _=>none) Tryz.f201 (bh MI (xs,v,()))).sat fun v' rows=>leV v' (AJ (xs,v,())).v∧rows =(AJ (xs,v,())).rows:=by
 refine cast (by kernel_rfl) (?_:decide (idx xs v (0:Int)≥(0:Int))=o0 xs v∧([]:List RowD)=[])
 exact ⟨F0 xs v 0 (Int.le_refl 0),rfl⟩
theorem Sb:CtrOK Tryz.prog KK 201 (ap KK MI AJ):=by
 refine aJ (C:=gO [k63] Tryz.f201) (iq (.cons Sq .nil) _) mixed (fn:=Tryz.f201) Tryz.func201 (by kernel_rfl) (by kernel_rfl) (by kernel_rfl) (Λ:=fun _ _=>none) ?_ ?_ ?_
 ·exact fun _ _ _ _ _ _ _ _ h=>by cases h
 ·rintro ⟨xs,v,⟨⟩⟩
  exact of_decide_eq_true (by kernel_rfl)
 ·rintro ⟨xs,v,⟨⟩⟩ _ _
  exact Q4 xs v
theorem Rm (d:Delivery) (w:dismissal_way) :(evFn (gO [k89] Tryz.f203) (fun _=>none) Tryz.f203 (bh MK (d,w,()))).sat fun v' rows=>leV v' (AO (d,w,())).v∧rows =(AO (d,w,())).rows:=by
 refine cast (by kernel_rfl) (?_ :((bif !w.6==lD d.9 then true else bif !w.6 then d.9 !=(0:Int) else false)=true→false=fG d w∧([]:List RowD)=[])∧((bif !w.6==lD d.9 then true else bif !w.6 then d.9 !=(0:Int) else false)=false→(bif d.10 ==(0:Int) then true else bif d.7 ==(6:Int) then bif lD d.10 then d.10 != d.9 else false else false)=fG d w∧([]:List RowD)=[]))
 simp only [fG];grind
theorem Sn:CtrOK Tryz.prog KK 203 (ap KK MK AO):=by
 refine aJ (C:=gO [k89] Tryz.f203) (iq (.cons SC .nil) _) mixed (fn:=Tryz.f203) Tryz.func203 (by kernel_rfl) (by kernel_rfl) (by kernel_rfl) (Λ:=fun _ _=>none) ?_ ?_ ?_
 ·exact fun _ _ _ _ _ _ _ _ h=>by cases h
 ·rintro ⟨d,w,⟨⟩⟩
  exact of_decide_eq_true (by kernel_rfl)
 ·rintro ⟨d,w,⟨⟩⟩ _ _
  exact Rm d w
theorem Q1 (d:Delivery) (free:Bool) :(evFn (gO [k57,k20,k21,k58] Tryz.f183) (fun _=>none) Tryz.f183 (bh psP (d,free,()))).sat fun v' rows=>leV v' (AG (d,free,())).v∧rows =(AG (d,free,())).rows:=by
 refine cast (by kernel_rfl) (?_ :((d.7 ==(0:Int))=true→((d.8 !=(0:Int))=true→(14:Int)=bW d free∧([]:List RowD)=[])∧((d.8 !=(0:Int))=false→((bif d.9 !=(0:Int) then true else bif d.10 !=(0:Int) then true else d.11)=true→(15:Int)=bW d free∧([]:List RowD)=[])∧((bif d.9 !=(0:Int) then true else bif d.10 !=(0:Int) then true else d.11)=false→(0:Int)=bW d free∧([]:List RowD)=[])))∧((d.7 ==(0:Int))=false→((!o0 (iy d.1 free) d.7)=true→(13:Int)=bW d free∧([]:List RowD)=[])∧((!o0 (iy d.1 free) d.7)=false→((bif !bif d.7 ==(6:Int) then true else d.7 ==(8:Int) then bif d.2 !=(0:Int) then true else d.3 !=(0:Int) else false)=true→(12:Int)=bW d free∧([]:List RowD)=[])∧((bif !bif d.7 ==(6:Int) then true else d.7 ==(8:Int) then bif d.2 !=(0:Int) then true else d.3 !=(0:Int) else false)=false→((bif d.8 !=(1:Int) then bif d.8 !=(2:Int) then true else !(ofW d.7).7 else false)=true→(14:Int)=bW d free∧([]:List RowD)=[])∧((bif d.8 !=(1:Int) then bif d.8 !=(2:Int) then true else !(ofW d.7).7 else false)=false→((!fG d (ofW d.7))=true→(15:Int)=bW d free∧([]:List RowD)=[])∧((!fG d (ofW d.7))=false→((bif d.11 then bif d.7 !=(2:Int) then d.7 !=(6:Int) else false else false)=true→(18:Int)=bW d free∧([]:List RowD)=[])∧((bif d.11 then bif d.7 !=(2:Int) then d.7 !=(6:Int) else false else false)=false→(0:Int)=bW d free∧([]:List RowD)=[])))))))
 simp only [bW,o0]
 repeat' first|refine And.intro ?_ ?_|intro _
 all_goals grind
theorem QN:CtrOK Tryz.prog KK 183 (ap KK psP AG):=by
 refine aJ (C:=gO [k57,k20,k21,k58] Tryz.f183) (iq (.cons Sm (.cons Sa (.cons Sb (.cons Sn .nil)))) _) mixed (fn:=Tryz.f183) Tryz.func183 (by kernel_rfl) (by kernel_rfl) (by kernel_rfl) (Λ:=fun _ _=>none) ?_ ?_ ?_
 ·exact fun _ _ _ _ _ _ _ _ h=>by cases h
 ·rintro ⟨d,free,⟨⟩⟩
  exact of_decide_eq_true (by kernel_rfl)
 ·rintro ⟨d,free,⟨⟩⟩ _ _
  exact Q1 d free
theorem Q2 (d:Delivery) (free:Bool) :(evFn (gO [k29,k59,k60] Tryz.f208) (fun _=>none) Tryz.f208 (bh psP (d,free,()))).sat fun v' rows=>leV v' (AH (d,free,())).v∧rows =(AH (d,free,())).rows:=by
 refine cast (by kernel_rfl) (?_ :((d.7 ==(0:Int))=true→((d.8 !=(0:Int))=true→(14:Int)=cf d free∧([]:List RowD)=[])∧((d.8 !=(0:Int))=false→((bif d.9 !=(0:Int) then true else bif d.10 !=(0:Int) then true else d.11)=true→(15:Int)=cf d free∧([]:List RowD)=[])∧((bif d.9 !=(0:Int) then true else bif d.10 !=(0:Int) then true else d.11)=false→(0:Int)=cf d free∧([]:List RowD)=[])))∧((d.7 ==(0:Int))=false→((bif !onR d.7 d.1 then true else bif free then !ga d.7 else false)=true→(13:Int)=cf d free∧([]:List RowD)=[])∧((bif !onR d.7 d.1 then true else bif free then !ga d.7 else false)=false→((bif !bif d.7 ==(6:Int) then true else d.7 ==(8:Int) then bif d.2 !=(0:Int) then true else d.3 !=(0:Int) else false)=true→(12:Int)=cf d free∧([]:List RowD)=[])∧((bif !bif d.7 ==(6:Int) then true else d.7 ==(8:Int) then bif d.2 !=(0:Int) then true else d.3 !=(0:Int) else false)=false→((bif d.8 !=(1:Int) then bif d.8 ==(2:Int) then !bif d.7 ==(6:Int) then true else d.7 ==(8:Int) else !false else false)=true→(14:Int)=cf d free∧([]:List RowD)=[])∧((bif d.8 !=(1:Int) then bif d.8 ==(2:Int) then !bif d.7 ==(6:Int) then true else d.7 ==(8:Int) else !false else false)=false→((bif ot d.7 then bif decide (d.9 <(1:Int)) then true else bif decide (d.9 >(11:Int)) then true else bif !ot d.7 then d.9 !=(0:Int) else false else bif !ot d.7 then d.9 !=(0:Int) else false)=true→(15:Int)=cf d free∧([]:List RowD)=[])∧((bif ot d.7 then bif decide (d.9 <(1:Int)) then true else bif decide (d.9 >(11:Int)) then true else bif !ot d.7 then d.9 !=(0:Int) else false else bif !ot d.7 then d.9 !=(0:Int) else false)=false→((bif d.10 !=(0:Int) then bif !xD d.7 then true else bif decide (d.10 <(1:Int)) then true else bif decide (d.10 >(11:Int)) then true else d.10==d.9 else false)=true→(15:Int)=cf d free∧([]:List RowD)=[])∧((bif d.10 !=(0:Int) then bif !xD d.7 then true else bif decide (d.10 <(1:Int)) then true else bif decide (d.10 >(11:Int)) then true else d.10==d.9 else false)=false→((bif d.11 then bif d.7 !=(2:Int) then d.7 !=(6:Int) else false else false)=true→(18:Int)=cf d free∧([]:List RowD)=[])∧((bif d.11 then bif d.7 !=(2:Int) then d.7 !=(6:Int) else false else false)=false→(0:Int)=cf d free∧([]:List RowD)=[]))))))))
 simp only [cf,xD,Bool.cond_true_left,Bool.cond_false_right,Bool.not_false]
 repeat' first|refine And.intro ?_ ?_|intro _
 all_goals first|rfl |(simp_all;done)|grind
theorem R9:CtrOK Tryz.prog KK 208 (ap KK psP AH):=by
 refine aJ (C:=gO [k29,k59,k60] Tryz.f208) (iq (.cons Sc (.cons So (.cons Sp .nil))) _) mixed (fn:=Tryz.f208) Tryz.func208 (by kernel_rfl) (by kernel_rfl) (by kernel_rfl) (Λ:=fun _ _=>none) ?_ ?_ ?_
 ·exact fun _ _ _ _ _ _ _ _ h=>by cases h
 ·rintro ⟨d,free,⟨⟩⟩
  exact of_decide_eq_true (by kernel_rfl)
 ·rintro ⟨d,free,⟨⟩⟩ _ _
  exact Q2 d free
end Go.Proofs.YtkgplaoappjkcaaGreat
namespace Go.Proofs.YtkgplaoappjkcaaGreat
open Go Go.Mir
attribute [local irreducible] Go.Mir.RT.sat Go.Mir.evFn Go.Mir.stepObl
def gl (n:Int):Prop:= -9223372036854775808≤n∧n≤9223372036854775807
theorem dd {n:Int} (h:wfD (.int .i64) n):gl n:=by
 obtain ⟨S,w,cs,h⟩:=h
 cases h with|int h=>exact ⟨by have:=h.1;simpa [IntKind.min,IntKind.max,IntKind.signed,IntKind.bits] using this,by have:=h.2;simpa [IntKind.min,IntKind.max,IntKind.signed,IntKind.bits] using this⟩
theorem qW {x:Innings} {p:Int} (hp:gl p) (h:aX x p=true):IntKind.i64.wrap (p - 1)=p - 1∧0≤p - 1∧p - 1 <(x.Subs.length:Int):=by
 simp only [aX,Bool.and_eq_true,decide_eq_true_eq] at h
 have:=hp.2
 exact ⟨de (by omega) (by omega),by omega,by omega⟩
theorem Ry (x:Innings) (p:Int) :(evFn (cf8 [] Tryz.f170) (fun _=>none) Tryz.f170 (bh eg (x,p,()))).sat fun v' rows=>leV v' (nf (x,p,())).v∧rows =(nf (x,p,())).rows:=by
 refine cast (by kernel_rfl) (?_ :(bif decide (p≥(1:Int)) then decide (p≤(↑x.21.length:Int)) else false)=aX x p∧([]:List RowD)=[])
 simp only [aX];grind
theorem J0:CtrOK Tryz.prog K8 170 (ap K8 eg nf):=by
 refine aJ (C:=cf8 [] Tryz.f170) (bp (CtrsOK.nil) _) mixed (fn:=Tryz.f170) Tryz.func170 (by kernel_rfl) (by kernel_rfl) (by kernel_rfl) (Λ:=fun _ _=>none) ?_ ?_ ?_
 ·exact fun _ _ _ _ _ _ _ _ h=>by cases h
 ·rintro ⟨x,p,⟨⟩⟩
  exact of_decide_eq_true (by kernel_rfl)
 ·rintro ⟨x,p,⟨⟩⟩ hw hn
  exact Ry x p
theorem RB (x:Innings) (p:Int) :(evFn (cf8 [] Tryz.f216) (fun _=>none) Tryz.f216 (bh eg (x,p,()))).sat fun v' rows=>leV v' (nf (x,p,())).v∧rows =(nf (x,p,())).rows:=by
 refine cast (by kernel_rfl) (?_ :(bif decide (p≥(1:Int)) then decide (p≤(↑x.21.length:Int)) else false)=aX x p∧([]:List RowD)=[])
 simp only [aX];grind
theorem Ml:CtrOK Tryz.prog K8 216 (ap K8 eg nf):=by
 refine aJ (C:=cf8 [] Tryz.f216) (bp (CtrsOK.nil) _) mixed (fn:=Tryz.f216) Tryz.func216 (by kernel_rfl) (by kernel_rfl) (by kernel_rfl) (Λ:=fun _ _=>none) ?_ ?_ ?_
 ·exact fun _ _ _ _ _ _ _ _ h=>by cases h
 ·rintro ⟨x,p,⟨⟩⟩
  exact of_decide_eq_true (by kernel_rfl)
 ·rintro ⟨x,p,⟨⟩⟩ hw hn
  exact RB x p
theorem Rz (x:Innings) (p:Int) (hp:gl p) :(evFn (cf8 [k73] Tryz.f171) (fun _=>none) Tryz.f171 (bh eg (x,p,()))).sat fun v' rows=>leV v' (ng (x,p,())).v∧rows =(ng (x,p,())).rows:=by
 refine cast (by kernel_rfl) (?_ :((aX x p=true→((0:Int)≤IntKind.i64.wrap (p - (1:Int))∧IntKind.i64.wrap (p - (1:Int)) <(↑x.21.length:Int))∧True)∧(aX x p=false→True))∧(true=true→(bif aX x p then x.21.getD (IntKind.i64.wrap (p - (1:Int))).toNat (dflt Ty.bool) else false)=aF x p∧([]:List RowD)=[]))
 refine ⟨⟨fun h=>⟨?_,trivial⟩,fun _=>trivial⟩,fun _=>⟨?_,rfl⟩⟩
 ·obtain ⟨e,h1,h2⟩:=qW hp h
  rw [e];exact ⟨h1,h2⟩
 ·cases h:aX x p with
  | false=>simp [aF,h]
  | true=>
   obtain ⟨e,h1,h2⟩:=qW hp h
   rw [e];simp only [cond_true,aF,h,Bool.true_and];rfl
theorem Mk:CtrOK Tryz.prog K8 171 (ap K8 eg ng):=by
 refine aJ (C:=cf8 [k73] Tryz.f171) (bp (.cons J0 .nil) _) mixed (fn:=Tryz.f171) Tryz.func171 (by kernel_rfl) (by kernel_rfl) (by kernel_rfl) (Λ:=fun _ _=>none) ?_ ?_ ?_
 ·exact fun _ _ _ _ _ _ _ _ h=>by cases h
 ·rintro ⟨x,p,⟨⟩⟩
  exact of_decide_eq_true (by kernel_rfl)
 ·rintro ⟨x,p,⟨⟩⟩ hw hn
  exact Rz x p (dd (aY (aP hw)))
theorem Rx (x:Innings) (p:Int) (hp:gl p) :(evFn (cf8 [] Tryz.f217) (fun _=>none) Tryz.f217 (bh eg (x,p,()))).sat fun v' rows=>leV v' (ng (x,p,())).v∧rows =(ng (x,p,())).rows:=by
 refine cast (by kernel_rfl) (?_ :((decide (p≥(1:Int))=true→(decide (p≤(↑x.21.length:Int))=true→((0:Int)≤IntKind.i64.wrap (p - (1:Int))∧IntKind.i64.wrap (p - (1:Int)) <(↑x.21.length:Int))∧True)∧(decide (p≤(↑x.21.length:Int))=false→True))∧(decide (p≥(1:Int))=false→True))∧(true=true→(bif decide (p≥(1:Int)) then bif decide (p≤(↑x.21.length:Int)) then x.21.getD (IntKind.i64.wrap (p - (1:Int))).toNat (dflt Ty.bool) else false else false)=aF x p∧([]:List RowD)=[]))
 have hk :∀ b c:Bool,decide (p≥1)=b→decide (p≤(x.Subs.length:Int))=c→aX x p =(b&&c):=fun b c hb hc=>by simp only [aX,hb,hc]
 refine ⟨⟨fun h1=>⟨fun h2=>⟨?_,trivial⟩,fun _=>trivial⟩,fun _=>trivial⟩,fun _=>⟨?_,rfl⟩⟩
 ·obtain ⟨e,h1,h2⟩:=qW hp (hk _ _ h1 h2)
  rw [e];exact ⟨h1,h2⟩
 ·cases h1:decide (p≥1) with
  | false=>simp only [cond_false,aF,hk _ _ h1 rfl,Bool.false_and]
  | true=>
   cases h2:decide (p≤(x.Subs.length:Int)) with
   | false=>simp only [cond_true,cond_false,aF,hk _ _ h1 h2,Bool.and_false,Bool.false_and]
   | true=>
    obtain ⟨e,h3,h4⟩:=qW hp (hk _ _ h1 h2)
    rw [e];simp only [cond_true,aF,hk _ _ h1 h2,Bool.true_and];rfl
theorem JZ:CtrOK Tryz.prog K8 217 (ap K8 eg ng):=by
 refine aJ (C:=cf8 [] Tryz.f217) (bp (CtrsOK.nil) _) mixed (fn:=Tryz.f217) Tryz.func217 (by kernel_rfl) (by kernel_rfl) (by kernel_rfl) (Λ:=fun _ _=>none) ?_ ?_ ?_
 ·exact fun _ _ _ _ _ _ _ _ h=>by cases h
 ·rintro ⟨x,p,⟨⟩⟩
  exact of_decide_eq_true (by kernel_rfl)
 ·rintro ⟨x,p,⟨⟩⟩ hw hn
  exact Rx x p (dd (aY (aP hw)))
theorem Hh {n:Nm} {x:n.T} (h:wfD (.nm n) x):wfD n.flds (n.to x):=by
 obtain ⟨S,w,cs,h⟩:=h
 cases h with|nm h=>exact ⟨_,_,_,h⟩
theorem ic {r:Rules} (h:wfD (.nm .Rules) r):r.Power.length≤aS:=
 cu (aY (aP (aP (aP (aP (aP (aP (aP (aP (aP (aP (aP (aP (aP (Hh h)))))))))))))))
theorem PU (r:Rules) (o:Int) (hx:r.Power.length≤aS) (i:Nat) (hi:rV r o i) :(stepObl (J75 r o) (rV r o) (fun i=>r.Power.length - i) i (T75 r o) (bQ (cf8 [] Tryz.f199) (fun _=>none) (aA Tryz.f199 0) (J75 r o i)) (L75 i)).1:=by
 refine cast (by kernel_rfl) (?_ :(decide ((↑i:Int) <(↑r.14.length:Int))=true→((0:Int)≤(↑i:Int)∧(↑i:Int) <(↑r.14.length:Int))∧((bif decide ((r.14.getD (↑i:Int).toNat (dflt (Ty.nm Nm.Phase))).1≤IntKind.i64.wrap (o +(1:Int))) then decide (IntKind.i64.wrap (o +(1:Int))≤(r.14.getD (↑i:Int).toNat (dflt (Ty.nm Nm.Phase))).2) else false)=true→r.14.any (cw o)=true∧((r.14.getD (↑i:Int).toNat (dflt (Ty.nm Nm.Phase))).3=bP r o∧True)∧True)∧((bif decide ((r.14.getD (↑i:Int).toNat (dflt (Ty.nm Nm.Phase))).1≤IntKind.i64.wrap (o +(1:Int))) then decide (IntKind.i64.wrap (o +(1:Int))≤(r.14.getD (↑i:Int).toNat (dflt (Ty.nm Nm.Phase))).2) else false)=false→rV r o (i +(1:Nat))∧r.14.length - (i +(1:Nat))<r.14.length - i∧(o=o∧True∧RowD.mk (Ty.nm Nm.Phase) r.14=RowD.mk (Ty.nm Nm.Phase) r.14∧(↑r.14.length:Int) =(↑r.14.length:Int)∧IntKind.i64.wrap ((↑i:Int) +(1:Int)) =(↑(i +(1:Nat)):Int)∧True)∧(r.1=r.1∧r.2=r.2∧r.3=r.3∧r.4=r.4∧r.5=r.5∧r.6=r.6∧r.7=r.7∧r.8=r.8∧r.9=r.9∧r.10=r.10∧r.11=r.11∧r.12=r.12∧r.13=r.13∧RowD.mk (Ty.nm Nm.Phase) r.14=RowD.mk (Ty.nm Nm.Phase) r.14∧True)∧True))∧(decide ((↑i:Int) <(↑r.14.length:Int))=false→r.14.any (cw o)=false∧(True∧True)∧(r.1=r.1∧r.2=r.2∧r.3=r.3∧r.4=r.4∧r.5=r.5∧r.6=r.6∧r.7=r.7∧r.8=r.8∧r.9=r.9∧r.10=r.10∧r.11=r.11∧r.12=r.12∧r.13=r.13∧RowD.mk (Ty.nm Nm.Phase) r.14=RowD.mk (Ty.nm Nm.Phase) r.14∧True)∧True))
 have e :(i:Int).toNat=i:=by simp
 rw [e]
 generalize hw:r.Power.getD i (dflt (Ty.nm Nm.Phase))=w
 have hc :(bif decide (w.From≤IntKind.i64.wrap (o+1)) then decide (IntKind.i64.wrap (o+1)≤w.To) else false)=cw o w:=by simp only [cw];cases decide (w.From≤IntKind.i64.wrap (o+1)) <;> rfl
 have hb:r.Power.length≤140737488355328:=hx
 refine ⟨fun h1=>?_,fun h1=>?_⟩
 ·have h1:i<r.Power.length:=by simpa using h1
  have h3:r.Power[i]?=some w:=by rw [←hw];exact lh _ h1
  refine ⟨⟨by omega,by omega⟩,fun h2=>?_,fun h2=>?_⟩
  ·have h2:cw o w=true:=by rw [←hc];exact h2
   have h4:bP r o=w.Outside:=by
    unfold bP
    rw [th (cw o) r.Power i w h3 h2 hi.2];rfl
   have h5:r.Power.any (cw o)=true:=List.any_eq_true.2 ⟨w,List.mem_of_getElem? h3,h2⟩
   rw [h4]
   simp [h5]
  ·have h2:cw o w=false:=by rw [←hc];exact h2
   refine ⟨⟨by omega,fun y hy=>?_⟩,by omega,⟨rfl,trivial,rfl,rfl,?_,trivial⟩,by simp⟩
   ·rw [List.take_add_one,h3] at hy
    rcases List.mem_append.1 hy with hy|hy
    ·exact hi.2 y hy
    ·simp at hy;subst hy;exact h2
   ·rw [de (by omega) (by omega)];omega
 ·have h1:r.Power.length≤i:=by simpa using h1
  have:r.Power.any (cw o)=false:=by
   rw [List.any_eq_false]
   intro x hx
   have:=hi.2 x (by rw [List.take_of_length_le h1];exact hx)
   simpa using this
  simp [this]
theorem OU (r:Rules) (o:Int) (hx:r.Power.length≤aS):LoopOK Tryz.prog Tryz.f199.ntmps (aA Tryz.f199 0) (b8 ⟨[],[],48⟩ (J75 r o 0) (T75 r o)):=
 fq (bp (CtrsOK.nil) _) mixed (J75 r o) (fun _=>rfl) (rV r o) (fun i=>r.Power.length - i) (fun _ _=>none) (fun _ _ _ _ _ h=>by cases h) (T75 r o) [] [] 0 (⟨Nat.zero_le _,by simp⟩) L75 (fun i hi=>PU r o hx i hi)
theorem RA (r:Rules) (o:Int) (hx:r.Power.length≤aS) :(evFn (cf8 [] Tryz.f199) (Λ75 r o) Tryz.f199 (bh psR (r,o,()))).sat fun v' rows=>leV v' (nh (r,o,())).v∧rows =(nh (r,o,())).rows:=by
 refine cast (by kernel_rfl) (?_ :((cR fun x=>none)∧(o=o∧True∧RowD.mk (Ty.nm Nm.Phase) r.14=RowD.mk (Ty.nm Nm.Phase) r.14∧(↑r.14.length:Int) =(↑r.14.length:Int)∧(0:Int) =(↑(0:Nat):Int)∧True)∧(r.1=r.1∧r.2=r.2∧r.3=r.3∧r.4=r.4∧r.5=r.5∧r.6=r.6∧r.7=r.7∧r.8=r.8∧r.9=r.9∧r.10=r.10∧r.11=r.11∧r.12=r.12∧r.13=r.13∧RowD.mk (Ty.nm Nm.Phase) r.14=RowD.mk (Ty.nm Nm.Phase) r.14∧True)∧True)∧(r.14.any (cw o)=true→bP r o=bP r o∧([]:List RowD)=[])∧(r.14.any (cw o)=false→r.13=bP r o∧([]:List RowD)=[]))
 have hN:r.Power.any (cw o)=false→bP r o=r.Outside:=fun h1=>by
  unfold bP
  rw [List.find?_eq_none.2 fun x hx=>(List.any_eq_false.1 h1) x hx];rfl
 refine ⟨⟨rfl,⟨rfl,trivial,rfl,rfl,rfl,trivial⟩,by simp⟩,fun _=>by simp,fun h=>by rw [hN h];simp⟩
theorem Sx:CtrOK Tryz.prog K8 199 (ap K8 psR nh):=by
 refine aJ (C:=cf8 [] Tryz.f199) (bp (CtrsOK.nil) _) mixed (fn:=Tryz.f199) Tryz.func199 (by kernel_rfl) (by kernel_rfl) (by kernel_rfl) (Λ:=fun x=>Λ75 x.1 x.2.1) ?_ ?_ ?_
 ·rintro ⟨r,o,⟨⟩⟩ hw hn
  exact LoopsOK.at (by kernel_rfl) (.cons (by kernel_rfl) (OU r o (ic (aY hw))) .nil)
 ·rintro ⟨r,o,⟨⟩⟩
  exact of_decide_eq_true (by kernel_rfl)
 ·rintro ⟨r,o,⟨⟩⟩ hw hn
  exact RA r o (ic (aY hw))
theorem PV (r:Rules) (o:Int) (hx:r.Power.length≤aS) (i:Nat) (hi:rV r o i) :(stepObl (J75 r o) (rV r o) (fun i=>r.Power.length - i) i (T75 r o) (bQ (cf8 [] Tryz.f226) (fun _=>none) (aA Tryz.f226 0) (J75 r o i)) (L75 i)).1:=by
 refine cast (by kernel_rfl) (?_ :(decide ((↑i:Int) <(↑r.14.length:Int))=true→((0:Int)≤(↑i:Int)∧(↑i:Int) <(↑r.14.length:Int))∧((bif decide ((r.14.getD (↑i:Int).toNat (dflt (Ty.nm Nm.Phase))).1≤IntKind.i64.wrap (o +(1:Int))) then decide (IntKind.i64.wrap (o +(1:Int))≤(r.14.getD (↑i:Int).toNat (dflt (Ty.nm Nm.Phase))).2) else false)=true→r.14.any (cw o)=true∧((r.14.getD (↑i:Int).toNat (dflt (Ty.nm Nm.Phase))).3=bP r o∧True)∧True)∧((bif decide ((r.14.getD (↑i:Int).toNat (dflt (Ty.nm Nm.Phase))).1≤IntKind.i64.wrap (o +(1:Int))) then decide (IntKind.i64.wrap (o +(1:Int))≤(r.14.getD (↑i:Int).toNat (dflt (Ty.nm Nm.Phase))).2) else false)=false→rV r o (i +(1:Nat))∧r.14.length - (i +(1:Nat))<r.14.length - i∧(o=o∧True∧RowD.mk (Ty.nm Nm.Phase) r.14=RowD.mk (Ty.nm Nm.Phase) r.14∧(↑r.14.length:Int) =(↑r.14.length:Int)∧IntKind.i64.wrap ((↑i:Int) +(1:Int)) =(↑(i +(1:Nat)):Int)∧True)∧(r.1=r.1∧r.2=r.2∧r.3=r.3∧r.4=r.4∧r.5=r.5∧r.6=r.6∧r.7=r.7∧r.8=r.8∧r.9=r.9∧r.10=r.10∧r.11=r.11∧r.12=r.12∧r.13=r.13∧RowD.mk (Ty.nm Nm.Phase) r.14=RowD.mk (Ty.nm Nm.Phase) r.14∧True)∧True))∧(decide ((↑i:Int) <(↑r.14.length:Int))=false→r.14.any (cw o)=false∧(True∧True)∧(r.1=r.1∧r.2=r.2∧r.3=r.3∧r.4=r.4∧r.5=r.5∧r.6=r.6∧r.7=r.7∧r.8=r.8∧r.9=r.9∧r.10=r.10∧r.11=r.11∧r.12=r.12∧r.13=r.13∧RowD.mk (Ty.nm Nm.Phase) r.14=RowD.mk (Ty.nm Nm.Phase) r.14∧True)∧True))
 have e :(i:Int).toNat=i:=by simp
 rw [e]
 generalize hw:r.Power.getD i (dflt (Ty.nm Nm.Phase))=w
 have hc :(bif decide (w.From≤IntKind.i64.wrap (o+1)) then decide (IntKind.i64.wrap (o+1)≤w.To) else false)=cw o w:=by simp only [cw];cases decide (w.From≤IntKind.i64.wrap (o+1)) <;> rfl
 have hb:r.Power.length≤140737488355328:=hx
 refine ⟨fun h1=>?_,fun h1=>?_⟩
 ·have h1:i<r.Power.length:=by simpa using h1
  have h3:r.Power[i]?=some w:=by rw [←hw];exact lh _ h1
  refine ⟨⟨by omega,by omega⟩,fun h2=>?_,fun h2=>?_⟩
  ·have h2:cw o w=true:=by rw [←hc];exact h2
   have h4:bP r o=w.Outside:=by
    unfold bP
    rw [th (cw o) r.Power i w h3 h2 hi.2];rfl
   have h5:r.Power.any (cw o)=true:=List.any_eq_true.2 ⟨w,List.mem_of_getElem? h3,h2⟩
   rw [h4]
   simp [h5]
  ·have h2:cw o w=false:=by rw [←hc];exact h2
   refine ⟨⟨by omega,fun y hy=>?_⟩,by omega,⟨rfl,trivial,rfl,rfl,?_,trivial⟩,by simp⟩
   ·rw [List.take_add_one,h3] at hy
    rcases List.mem_append.1 hy with hy|hy
    ·exact hi.2 y hy
    ·simp at hy;subst hy;exact h2
   ·rw [de (by omega) (by omega)];omega
 ·have h1:r.Power.length≤i:=by simpa using h1
  have:r.Power.any (cw o)=false:=by
   rw [List.any_eq_false]
   intro x hx
   have:=hi.2 x (by rw [List.take_of_length_le h1];exact hx)
   simpa using this
  simp [this]
theorem OV (r:Rules) (o:Int) (hx:r.Power.length≤aS):LoopOK Tryz.prog Tryz.f226.ntmps (aA Tryz.f226 0) (b8 ⟨[],[],48⟩ (J75 r o 0) (T75 r o)):=
 fq (bp (CtrsOK.nil) _) mixed (J75 r o) (fun _=>rfl) (rV r o) (fun i=>r.Power.length - i) (fun _ _=>none) (fun _ _ _ _ _ h=>by cases h) (T75 r o) [] [] 0 (⟨Nat.zero_le _,by simp⟩) L75 (fun i hi=>PV r o hx i hi)
theorem RC (r:Rules) (o:Int) (hx:r.Power.length≤aS) :(evFn (cf8 [] Tryz.f226) (Λ75 r o) Tryz.f226 (bh psR (r,o,()))).sat fun v' rows=>leV v' (nh (r,o,())).v∧rows =(nh (r,o,())).rows:=by
 refine cast (by kernel_rfl) (?_ :((cR fun x=>none)∧(o=o∧True∧RowD.mk (Ty.nm Nm.Phase) r.14=RowD.mk (Ty.nm Nm.Phase) r.14∧(↑r.14.length:Int) =(↑r.14.length:Int)∧(0:Int) =(↑(0:Nat):Int)∧True)∧(r.1=r.1∧r.2=r.2∧r.3=r.3∧r.4=r.4∧r.5=r.5∧r.6=r.6∧r.7=r.7∧r.8=r.8∧r.9=r.9∧r.10=r.10∧r.11=r.11∧r.12=r.12∧r.13=r.13∧RowD.mk (Ty.nm Nm.Phase) r.14=RowD.mk (Ty.nm Nm.Phase) r.14∧True)∧True)∧(r.14.any (cw o)=true→bP r o=bP r o∧([]:List RowD)=[])∧(r.14.any (cw o)=false→r.13=bP r o∧([]:List RowD)=[]))
 have hN:r.Power.any (cw o)=false→bP r o=r.Outside:=fun h1=>by
  unfold bP
  rw [List.find?_eq_none.2 fun x hx=>(List.any_eq_false.1 h1) x hx];rfl
 refine ⟨⟨rfl,⟨rfl,trivial,rfl,rfl,rfl,trivial⟩,by simp⟩,fun _=>by simp,fun h=>by rw [hN h];simp⟩
theorem Sy:CtrOK Tryz.prog K8 226 (ap K8 psR nh):=by
 refine aJ (C:=cf8 [] Tryz.f226) (bp (CtrsOK.nil) _) mixed (fn:=Tryz.f226) Tryz.func226 (by kernel_rfl) (by kernel_rfl) (by kernel_rfl) (Λ:=fun x=>Λ75 x.1 x.2.1) ?_ ?_ ?_
 ·rintro ⟨r,o,⟨⟩⟩ hw hn
  exact LoopsOK.at (by kernel_rfl) (.cons (by kernel_rfl) (OV r o (ic (aY hw))) .nil)
 ·rintro ⟨r,o,⟨⟩⟩
  exact of_decide_eq_true (by kernel_rfl)
 ·rintro ⟨r,o,⟨⟩⟩ hw hn
  exact RC r o (ic (aY hw))
theorem Q6 (r:Rules) (x:Innings) :(evFn (cf8 [k73,k74,k75] Tryz.f182) (fun _=>none) Tryz.f182 (bh qn (r,x,()))).sat fun v' rows=>leV v' (m5 (r,x,())).v∧rows =(m5 (r,x,())).rows:=by
 refine cast (by kernel_rfl) (?_ :((bif !aX x x.19 then true else bif aF x x.19 then true else x.19==x.12)=true→(17:Int)=ei r x∧([]:List RowD)=[])∧((bif !aX x x.19 then true else bif aF x x.19 then true else x.19==x.12)=false→(decide (x.20>bP r x.7)=true→(16:Int)=ei r x∧([]:List RowD)=[])∧(decide (x.20>bP r x.7)=false→(0:Int)=ei r x∧([]:List RowD)=[])))
 simp only [ei]
 repeat' first|refine And.intro ?_ ?_|intro _
 all_goals first|rfl|grind
theorem QO:CtrOK Tryz.prog K8 182 (ap K8 qn m5):=by
 refine aJ (C:=cf8 [k73,k74,k75] Tryz.f182) (bp (.cons J0 (.cons Mk (.cons Sx .nil))) _) mixed (fn:=Tryz.f182) Tryz.func182 (by kernel_rfl) (by kernel_rfl) (by kernel_rfl) (Λ:=fun _ _=>none) ?_ ?_ ?_
 ·exact fun _ _ _ _ _ _ _ _ h=>by cases h
 ·rintro ⟨r,x,⟨⟩⟩
  exact of_decide_eq_true (by kernel_rfl)
 ·rintro ⟨r,x,⟨⟩⟩ hw hn
  exact Q6 r x
theorem Q7 (r:Rules) (x:Innings) :(evFn (cf8 [k72,k76,k77] Tryz.f206) (fun _=>none) Tryz.f206 (bh qn (r,x,()))).sat fun v' rows=>leV v' (m5 (r,x,())).v∧rows =(m5 (r,x,())).rows:=by
 refine cast (by kernel_rfl) (?_ :((bif !aX x x.19 then true else bif aF x x.19 then true else x.19==x.12)=true→(17:Int)=ei r x∧([]:List RowD)=[])∧((bif !aX x x.19 then true else bif aF x x.19 then true else x.19==x.12)=false→(decide (x.20>bP r x.7)=true→(16:Int)=ei r x∧([]:List RowD)=[])∧(decide (x.20>bP r x.7)=false→(0:Int)=ei r x∧([]:List RowD)=[])))
 simp only [ei]
 repeat' first|refine And.intro ?_ ?_|intro _
 all_goals first|rfl|grind
theorem Se:CtrOK Tryz.prog K8 206 (ap K8 qn m5):=by
 refine aJ (C:=cf8 [k72,k76,k77] Tryz.f206) (bp (.cons JZ (.cons Ml (.cons Sy .nil))) _) mixed (fn:=Tryz.f206) Tryz.func206 (by kernel_rfl) (by kernel_rfl) (by kernel_rfl) (Λ:=fun _ _=>none) ?_ ?_ ?_
 ·exact fun _ _ _ _ _ _ _ _ h=>by cases h
 ·rintro ⟨r,x,⟨⟩⟩
  exact of_decide_eq_true (by kernel_rfl)
 ·rintro ⟨r,x,⟨⟩⟩ hw hn
  exact Q7 r x
theorem Q8 (x:Innings) (d:Delivery) :(evFn (cf8 [k73,k74] Tryz.f184) (fun _=>none) Tryz.f184 (bh EI (x,d,()))).sat fun v' rows=>leV v' (m6 (x,d,())).v∧rows =(m6 (x,d,())).rows:=by
 refine cast (by kernel_rfl) (?_ :((decide (d.9 >(0:Int))=true→((!aX x d.9)=true→(3:Int)=cQ x d∧([]:List RowD)=[])∧((!aX x d.9)=false→((!d.11==aF x d.9)=true→(18:Int)=cQ x d∧([]:List RowD)=[])∧((!d.11==aF x d.9)=false→True)))∧(decide (d.9 >(0:Int))=false→True))∧((bif decide (d.9 >(0:Int)) then bif !aX x d.9 then false else !!d.11==aF x d.9 else true)=true→((decide (d.10 >(0:Int))=true→((!aX x d.10)=true→(3:Int)=cQ x d∧([]:List RowD)=[])∧((!aX x d.10)=false→(aF x d.10=true→(18:Int)=cQ x d∧([]:List RowD)=[])∧(aF x d.10=false→True)))∧(decide (d.10 >(0:Int))=false→True))∧((bif decide (d.10 >(0:Int)) then bif !aX x d.10 then false else !aF x d.10 else true)=true→((bif d.7 ==(4:Int) then (if (0:Int)>d.9 then (0:Int) else d.9) != x.19 else false)=true→(17:Int)=cQ x d∧([]:List RowD)=[])∧((bif d.7 ==(4:Int) then (if (0:Int)>d.9 then (0:Int) else d.9) != x.19 else false)=false→(0:Int)=cQ x d∧([]:List RowD)=[]))))
 have hm:rb d.Fielder 0=if (0:Int)>d.Fielder then 0 else d.Fielder:=rfl
 simp only [cQ,zF,zG,hm]
 repeat' first|refine And.intro ?_ ?_|intro _
 all_goals first|trivial|rfl|grind
theorem QP:CtrOK Tryz.prog K8 184 (ap K8 EI m6):=by
 refine aJ (C:=cf8 [k73,k74] Tryz.f184) (bp (.cons J0 (.cons Mk .nil)) _) mixed (fn:=Tryz.f184) Tryz.func184 (by kernel_rfl) (by kernel_rfl) (by kernel_rfl) (Λ:=fun _ _=>none) ?_ ?_ ?_
 ·exact fun _ _ _ _ _ _ _ _ h=>by cases h
 ·rintro ⟨x,d,⟨⟩⟩
  exact of_decide_eq_true (by kernel_rfl)
 ·rintro ⟨x,d,⟨⟩⟩ hw hn
  exact Q8 x d
theorem Q9 (x:Innings) (d:Delivery) :(evFn (cf8 [k72,k76] Tryz.f209) (fun _=>none) Tryz.f209 (bh EI (x,d,()))).sat fun v' rows=>leV v' (m6 (x,d,())).v∧rows =(m6 (x,d,())).rows:=by
 refine cast (by kernel_rfl) (?_ :((decide (d.9 >(0:Int))=true→((!aX x d.9)=true→(3:Int)=cQ x d∧([]:List RowD)=[])∧((!aX x d.9)=false→((!aF x d.9==d.11)=true→(18:Int)=cQ x d∧([]:List RowD)=[])∧((!aF x d.9==d.11)=false→True)))∧(decide (d.9 >(0:Int))=false→True))∧((bif decide (d.9 >(0:Int)) then bif !aX x d.9 then false else !!aF x d.9==d.11 else true)=true→((decide (d.10 >(0:Int))=true→((!aX x d.10)=true→(3:Int)=cQ x d∧([]:List RowD)=[])∧((!aX x d.10)=false→(aF x d.10=true→(18:Int)=cQ x d∧([]:List RowD)=[])∧(aF x d.10=false→True)))∧(decide (d.10 >(0:Int))=false→True))∧((bif decide (d.10 >(0:Int)) then bif !aX x d.10 then false else !aF x d.10 else true)=true→((bif d.7 ==(4:Int) then (if (0:Int)>d.9 then (0:Int) else d.9) != x.19 else false)=true→(17:Int)=cQ x d∧([]:List RowD)=[])∧((bif d.7 ==(4:Int) then (if (0:Int)>d.9 then (0:Int) else d.9) != x.19 else false)=false→(0:Int)=cQ x d∧([]:List RowD)=[]))))
 have hm:rb d.Fielder 0=if (0:Int)>d.Fielder then 0 else d.Fielder:=rfl
 simp only [cQ,zF,zG,hm]
 repeat' first|refine And.intro ?_ ?_|intro _
 all_goals first|trivial|rfl|grind
theorem Sf:CtrOK Tryz.prog K8 209 (ap K8 EI m6):=by
 refine aJ (C:=cf8 [k72,k76] Tryz.f209) (bp (.cons JZ (.cons Ml .nil)) _) mixed (fn:=Tryz.f209) Tryz.func209 (by kernel_rfl) (by kernel_rfl) (by kernel_rfl) (Λ:=fun _ _=>none) ?_ ?_ ?_
 ·exact fun _ _ _ _ _ _ _ _ h=>by cases h
 ·rintro ⟨x,d,⟨⟩⟩
  exact of_decide_eq_true (by kernel_rfl)
 ·rintro ⟨x,d,⟨⟩⟩ hw hn
  exact Q9 x d
theorem Rb (x:List Bool) (hs:x.length≤1000000) :(evFn (cf8 [] Tryz.f84) (fun _=>none) Tryz.f84 (bh MJ (x,()))).sat fun v' rows=>leV v' (AL (x,())).v∧rows =(AL (x,())).rows:=by
 refine cast (by kernel_rfl) (?_ :(x.isEmpty=true→(nat_lit 0=nat_lit 0∧nat_lit 0=nat_lit 0)∧ [RowD.mk Ty.bool []]=[RowD.mk Ty.bool x])∧((0:Nat)+x.length) *(1:Nat)≤(70368744177664:Nat)∧(nat_lit 0=nat_lit 0∧nat_lit 0=nat_lit 0)∧ [RowD.mk Ty.bool ([]++x)]=[RowD.mk Ty.bool x])
 refine ⟨fun h=>⟨⟨rfl,rfl⟩,?_⟩,?_,⟨rfl,rfl⟩,rfl⟩
 ·have:x=[]:=List.isEmpty_iff.1 h
  subst this;rfl
 ·omega
theorem Mh:CtrOK Tryz.prog K8 84 (ap K8 MJ AL):=by
 refine aJ (C:=cf8 [] Tryz.f84) (bp (CtrsOK.nil) _) mixed (fn:=Tryz.f84) Tryz.func84 (by kernel_rfl) (by kernel_rfl) (by kernel_rfl) (Λ:=fun _ _=>none) ?_ ?_ ?_
 ·exact fun _ _ _ _ _ _ _ _ h=>by cases h
 ·rintro ⟨x,⟨⟩⟩
  exact of_decide_eq_true (by kernel_rfl)
 ·rintro ⟨x,⟨⟩⟩ hw hn
  exact Rb x (hn _ (List.mem_singleton.2 rfl))
theorem RO (x:List Int) (hs:x.length≤1000000) :(evFn (cf8 [] Tryz.f82) (fun _=>none) Tryz.f82 (bh MO (x,()))).sat fun v' rows=>leV v' (AZ (x,())).v∧rows =(AZ (x,())).rows:=by
 refine cast (by kernel_rfl) (?_ :(x.isEmpty=true→(nat_lit 0=nat_lit 0∧nat_lit 0=nat_lit 0)∧ [RowD.mk (Ty.int IntKind.u8) []]=[RowD.mk (Ty.int IntKind.u8) x])∧((0:Nat)+x.length) *(1:Nat)≤(70368744177664:Nat)∧(nat_lit 0=nat_lit 0∧nat_lit 0=nat_lit 0)∧ [RowD.mk (Ty.int IntKind.u8) ([]++x)]=[RowD.mk (Ty.int IntKind.u8) x])
 refine ⟨fun h=>⟨⟨rfl,rfl⟩,?_⟩,?_,⟨rfl,rfl⟩,rfl⟩
 ·have:x=[]:=List.isEmpty_iff.1 h
  subst this;rfl
 ·omega
theorem Mn:CtrOK Tryz.prog K8 82 (ap K8 MO AZ):=by
 refine aJ (C:=cf8 [] Tryz.f82) (bp (CtrsOK.nil) _) mixed (fn:=Tryz.f82) Tryz.func82 (by kernel_rfl) (by kernel_rfl) (by kernel_rfl) (Λ:=fun _ _=>none) ?_ ?_ ?_
 ·exact fun _ _ _ _ _ _ _ _ h=>by cases h
 ·rintro ⟨x,⟨⟩⟩
  exact of_decide_eq_true (by kernel_rfl)
 ·rintro ⟨x,⟨⟩⟩ hw hn
  exact RO x (hn _ (List.mem_singleton.2 rfl))
theorem RP (x:List Int) (hs:x.length≤1000000) :(evFn (cf8 [] Tryz.f83) (fun _=>none) Tryz.f83 (bh MP (x,()))).sat fun v' rows=>leV v' (A0 (x,())).v∧rows =(A0 (x,())).rows:=by
 refine cast (by kernel_rfl) (?_ :(x.isEmpty=true→(nat_lit 0=nat_lit 0∧nat_lit 0=nat_lit 0)∧ [RowD.mk (Ty.int IntKind.i64) []]=[RowD.mk (Ty.int IntKind.i64) x])∧((0:Nat)+x.length) *(8:Nat)≤(70368744177664:Nat)∧(nat_lit 0=nat_lit 0∧nat_lit 0=nat_lit 0)∧ [RowD.mk (Ty.int IntKind.i64) ([]++x)]=[RowD.mk (Ty.int IntKind.i64) x])
 refine ⟨fun h=>⟨⟨rfl,rfl⟩,?_⟩,?_,⟨rfl,rfl⟩,rfl⟩
 ·have:x=[]:=List.isEmpty_iff.1 h
  subst this;rfl
 ·omega
theorem Mo:CtrOK Tryz.prog K8 83 (ap K8 MP A0):=by
 refine aJ (C:=cf8 [] Tryz.f83) (bp (CtrsOK.nil) _) mixed (fn:=Tryz.f83) Tryz.func83 (by kernel_rfl) (by kernel_rfl) (by kernel_rfl) (Λ:=fun _ _=>none) ?_ ?_ ?_
 ·exact fun _ _ _ _ _ _ _ _ h=>by cases h
 ·rintro ⟨x,⟨⟩⟩
  exact of_decide_eq_true (by kernel_rfl)
 ·rintro ⟨x,⟨⟩⟩ hw hn
  exact RP x (hn _ (List.mem_singleton.2 rfl))
theorem RD (x:Innings) (hs:aj x) :(evFn (cf8 [k45,k90,k91] Tryz.f169) (fun _=>none) Tryz.f169 (bh psI (x,()))).sat fun v' rows=>leV v' (eV (x,())).v∧rows =(eV (x,())).rows:=by
 refine cast (by kernel_rfl) (?_:x.11.length≤(1000000:Nat)∧x.13.length≤(1000000:Nat)∧x.14.length≤(1000000:Nat)∧x.16.length≤(1000000:Nat)∧x.21.length≤(1000000:Nat)∧(x.1=x.1∧x.2=x.2∧x.3=x.3∧x.4=x.4∧x.5=x.5∧x.6.1=x.6.1∧x.6.2=x.6.2∧x.6.3=x.6.3∧x.6.4=x.6.4∧x.6.5=x.6.5∧x.7=x.7∧x.8=x.8∧x.9=x.9∧x.10=x.10∧(nat_lit 0=nat_lit 0∧nat_lit 0=nat_lit 0)∧x.12=x.12∧(nat_lit 1=nat_lit 1∧nat_lit 1=nat_lit 1)∧(nat_lit 2=nat_lit 2∧nat_lit 2=nat_lit 2)∧x.15=x.15∧(nat_lit 3=nat_lit 3∧nat_lit 3=nat_lit 3)∧x.17=x.17∧x.18=x.18∧x.19=x.19∧x.20=x.20∧(nat_lit 4=nat_lit 4∧nat_lit 4=nat_lit 4)∧x.22.1=x.22.1∧x.22.2.1=x.22.2.1∧x.23=x.23∧True)∧ [RowD.mk (Ty.int IntKind.u8) x.11,RowD.mk (Ty.int IntKind.i64) x.13,RowD.mk (Ty.int IntKind.i64) x.14,RowD.mk (Ty.int IntKind.i64) x.16,RowD.mk Ty.bool x.21]=[RowD.mk (Ty.int IntKind.u8) x.11,RowD.mk (Ty.int IntKind.i64) x.13,RowD.mk (Ty.int IntKind.i64) x.14,RowD.mk (Ty.int IntKind.i64) x.16,RowD.mk Ty.bool x.21])
 obtain ⟨h1,h2,h3,h4,h5⟩:=hs
 simp [h1,h2,h3,h4,h5]
theorem Pq:CtrOK Tryz.prog K8 169 (ap K8 psI eV):=by
 refine aJ (C:=cf8 [k45,k90,k91] Tryz.f169) (bp (.cons Mh (.cons Mn (.cons Mo .nil))) _) mixed (fn:=Tryz.f169) Tryz.func169 (by kernel_rfl) (by kernel_rfl) (by kernel_rfl) (Λ:=fun _ _=>none) ?_ ?_ ?_
 ·exact fun _ _ _ _ _ _ _ _ h=>by cases h
 ·rintro ⟨x,⟨⟩⟩
  exact of_decide_eq_true (by kernel_rfl)
 ·rintro ⟨x,⟨⟩⟩ hw hn
  exact RD x (hn _ (List.mem_singleton.2 rfl))
theorem Ra (x:Innings) (hs:aj x) :(evFn (cf8 [] Tryz.f147) (fun _=>none) Tryz.f147 (bh psI (x,()))).sat fun v' rows=>leV v' (eV (x,())).v∧rows =(eV (x,())).rows:=by
 refine cast (by kernel_rfl) (?_ :((0:Nat)+x.11.length) *(1:Nat)≤(70368744177664:Nat)∧((0:Nat)+x.13.length) *(8:Nat)≤(70368744177664:Nat)∧((0:Nat)+x.14.length) *(8:Nat)≤(70368744177664:Nat)∧((0:Nat)+x.16.length) *(8:Nat)≤(70368744177664:Nat)∧((0:Nat)+x.21.length) *(1:Nat)≤(70368744177664:Nat)∧(x.1=x.1∧x.2=x.2∧x.3=x.3∧x.4=x.4∧x.5=x.5∧x.6.1=x.6.1∧x.6.2=x.6.2∧x.6.3=x.6.3∧x.6.4=x.6.4∧x.6.5=x.6.5∧x.7=x.7∧x.8=x.8∧x.9=x.9∧x.10=x.10∧(nat_lit 0=nat_lit 0∧nat_lit 0=nat_lit 0)∧x.12=x.12∧(nat_lit 1=nat_lit 1∧nat_lit 1=nat_lit 1)∧(nat_lit 2=nat_lit 2∧nat_lit 2=nat_lit 2)∧x.15=x.15∧(nat_lit 3=nat_lit 3∧nat_lit 3=nat_lit 3)∧x.17=x.17∧x.18=x.18∧x.19=x.19∧x.20=x.20∧(nat_lit 4=nat_lit 4∧nat_lit 4=nat_lit 4)∧x.22.1=x.22.1∧x.22.2.1=x.22.2.1∧x.23=x.23∧True)∧ [RowD.mk (Ty.int IntKind.u8) ([]++x.11),RowD.mk (Ty.int IntKind.i64) ([]++x.13),RowD.mk (Ty.int IntKind.i64) ([]++x.14),RowD.mk (Ty.int IntKind.i64) ([]++x.16),RowD.mk Ty.bool ([]++x.21)]=[RowD.mk (Ty.int IntKind.u8) x.11,RowD.mk (Ty.int IntKind.i64) x.13,RowD.mk (Ty.int IntKind.i64) x.14,RowD.mk (Ty.int IntKind.i64) x.16,RowD.mk Ty.bool x.21])
 obtain ⟨h1,h2,h3,h4,h5⟩:=hs
 exact ⟨by omega,by omega,by omega,by omega,by omega,by simp,rfl⟩
theorem rg:CtrOK Tryz.prog K8 147 (ap K8 psI eV):=by
 refine aJ (C:=cf8 [] Tryz.f147) (bp (CtrsOK.nil) _) mixed (fn:=Tryz.f147) Tryz.func147 (by kernel_rfl) (by kernel_rfl) (by kernel_rfl) (Λ:=fun _ _=>none) ?_ ?_ ?_
 ·exact fun _ _ _ _ _ _ _ _ h=>by cases h
 ·rintro ⟨x,⟨⟩⟩
  exact of_decide_eq_true (by kernel_rfl)
 ·rintro ⟨x,⟨⟩⟩ hw hn
  exact Ra x (hn _ (List.mem_singleton.2 rfl))
theorem Rs (x:Innings) (p:Int) (hs:aj x) :(evFn (cf8 [k73,k74,k78] Tryz.f138) (fun _=>none) Tryz.f138 (bh eg (x,p,()))).sat fun v' rows=>leV v' (nb (x,p,())).v∧rows =(nb (x,p,())).rows:=by
 refine cast (by kernel_rfl) (?_:aj x∧((!aX x p)=true→((x.1 =(af x p).1∧x.2 =(af x p).2∧x.3 =(af x p).3∧x.4 =(af x p).4∧x.5 =(af x p).5∧x.6.1 =(af x p).6.1∧x.6.2 =(af x p).6.2∧x.6.3 =(af x p).6.3∧x.6.4 =(af x p).6.4∧x.6.5 =(af x p).6.5∧x.7 =(af x p).7∧x.8 =(af x p).8∧x.9 =(af x p).9∧x.10 =(af x p).10∧(nat_lit 0=nat_lit 0∧nat_lit 0=nat_lit 0)∧x.12 =(af x p).12∧(nat_lit 1=nat_lit 1∧nat_lit 1=nat_lit 1)∧(nat_lit 2=nat_lit 2∧nat_lit 2=nat_lit 2)∧x.15 =(af x p).15∧(nat_lit 3=nat_lit 3∧nat_lit 3=nat_lit 3)∧x.17 =(af x p).17∧x.18 =(af x p).18∧x.19 =(af x p).19∧x.20 =(af x p).20∧(nat_lit 4=nat_lit 4∧nat_lit 4=nat_lit 4)∧x.22.1 =(af x p).22.1∧x.22.2.1 =(af x p).22.2.1∧x.23 =(af x p).23∧True)∧(3:Int)=bO x p∧True)∧ [RowD.mk (Ty.int IntKind.u8) x.11,RowD.mk (Ty.int IntKind.i64) x.13,RowD.mk (Ty.int IntKind.i64) x.14,RowD.mk (Ty.int IntKind.i64) x.16,RowD.mk Ty.bool x.21]=[RowD.mk (Ty.int IntKind.u8) (af x p).11,RowD.mk (Ty.int IntKind.i64) (af x p).13,RowD.mk (Ty.int IntKind.i64) (af x p).14,RowD.mk (Ty.int IntKind.i64) (af x p).16,RowD.mk Ty.bool (af x p).21])∧((!aX x p)=false→(aF x p=true→((x.1 =(af x p).1∧x.2 =(af x p).2∧x.3 =(af x p).3∧x.4 =(af x p).4∧x.5 =(af x p).5∧x.6.1 =(af x p).6.1∧x.6.2 =(af x p).6.2∧x.6.3 =(af x p).6.3∧x.6.4 =(af x p).6.4∧x.6.5 =(af x p).6.5∧x.7 =(af x p).7∧x.8 =(af x p).8∧x.9 =(af x p).9∧x.10 =(af x p).10∧(nat_lit 0=nat_lit 0∧nat_lit 0=nat_lit 0)∧x.12 =(af x p).12∧(nat_lit 1=nat_lit 1∧nat_lit 1=nat_lit 1)∧(nat_lit 2=nat_lit 2∧nat_lit 2=nat_lit 2)∧x.15 =(af x p).15∧(nat_lit 3=nat_lit 3∧nat_lit 3=nat_lit 3)∧x.17 =(af x p).17∧x.18 =(af x p).18∧x.19 =(af x p).19∧x.20 =(af x p).20∧(nat_lit 4=nat_lit 4∧nat_lit 4=nat_lit 4)∧x.22.1 =(af x p).22.1∧x.22.2.1 =(af x p).22.2.1∧x.23 =(af x p).23∧True)∧(18:Int)=bO x p∧True)∧ [RowD.mk (Ty.int IntKind.u8) x.11,RowD.mk (Ty.int IntKind.i64) x.13,RowD.mk (Ty.int IntKind.i64) x.14,RowD.mk (Ty.int IntKind.i64) x.16,RowD.mk Ty.bool x.21]=[RowD.mk (Ty.int IntKind.u8) (af x p).11,RowD.mk (Ty.int IntKind.i64) (af x p).13,RowD.mk (Ty.int IntKind.i64) (af x p).14,RowD.mk (Ty.int IntKind.i64) (af x p).16,RowD.mk Ty.bool (af x p).21])∧(aF x p=false→((bif p==x.12 then true else p==x.19)=true→((x.1 =(af x p).1∧x.2 =(af x p).2∧x.3 =(af x p).3∧x.4 =(af x p).4∧x.5 =(af x p).5∧x.6.1 =(af x p).6.1∧x.6.2 =(af x p).6.2∧x.6.3 =(af x p).6.3∧x.6.4 =(af x p).6.4∧x.6.5 =(af x p).6.5∧x.7 =(af x p).7∧x.8 =(af x p).8∧x.9 =(af x p).9∧x.10 =(af x p).10∧(nat_lit 0=nat_lit 0∧nat_lit 0=nat_lit 0)∧x.12 =(af x p).12∧(nat_lit 1=nat_lit 1∧nat_lit 1=nat_lit 1)∧(nat_lit 2=nat_lit 2∧nat_lit 2=nat_lit 2)∧x.15 =(af x p).15∧(nat_lit 3=nat_lit 3∧nat_lit 3=nat_lit 3)∧x.17 =(af x p).17∧x.18 =(af x p).18∧x.19 =(af x p).19∧x.20 =(af x p).20∧(nat_lit 4=nat_lit 4∧nat_lit 4=nat_lit 4)∧x.22.1 =(af x p).22.1∧x.22.2.1 =(af x p).22.2.1∧x.23 =(af x p).23∧True)∧(17:Int)=bO x p∧True)∧ [RowD.mk (Ty.int IntKind.u8) x.11,RowD.mk (Ty.int IntKind.i64) x.13,RowD.mk (Ty.int IntKind.i64) x.14,RowD.mk (Ty.int IntKind.i64) x.16,RowD.mk Ty.bool x.21]=[RowD.mk (Ty.int IntKind.u8) (af x p).11,RowD.mk (Ty.int IntKind.i64) (af x p).13,RowD.mk (Ty.int IntKind.i64) (af x p).14,RowD.mk (Ty.int IntKind.i64) (af x p).16,RowD.mk Ty.bool (af x p).21])∧((bif p==x.12 then true else p==x.19)=false→((x.1 =(af x p).1∧x.2 =(af x p).2∧x.3 =(af x p).3∧x.4 =(af x p).4∧x.5 =(af x p).5∧x.6.1 =(af x p).6.1∧x.6.2 =(af x p).6.2∧x.6.3 =(af x p).6.3∧x.6.4 =(af x p).6.4∧x.6.5 =(af x p).6.5∧x.7 =(af x p).7∧x.8 =(af x p).8∧x.9 =(af x p).9∧x.10 =(af x p).10∧(nat_lit 0=nat_lit 0∧nat_lit 0=nat_lit 0)∧x.12 =(af x p).12∧(nat_lit 1=nat_lit 1∧nat_lit 1=nat_lit 1)∧(nat_lit 2=nat_lit 2∧nat_lit 2=nat_lit 2)∧x.15 =(af x p).15∧(nat_lit 3=nat_lit 3∧nat_lit 3=nat_lit 3)∧x.17 =(af x p).17∧x.18 =(af x p).18∧p =(af x p).19∧x.20 =(af x p).20∧(nat_lit 4=nat_lit 4∧nat_lit 4=nat_lit 4)∧x.22.1 =(af x p).22.1∧x.22.2.1 =(af x p).22.2.1∧x.23 =(af x p).23∧True)∧(0:Int)=bO x p∧True)∧ [RowD.mk (Ty.int IntKind.u8) x.11,RowD.mk (Ty.int IntKind.i64) x.13,RowD.mk (Ty.int IntKind.i64) x.14,RowD.mk (Ty.int IntKind.i64) x.16,RowD.mk Ty.bool x.21]=[RowD.mk (Ty.int IntKind.u8) (af x p).11,RowD.mk (Ty.int IntKind.i64) (af x p).13,RowD.mk (Ty.int IntKind.i64) (af x p).14,RowD.mk (Ty.int IntKind.i64) (af x p).16,RowD.mk Ty.bool (af x p).21]))))
 refine ⟨hs,fun h1=>?_,fun h1=>⟨fun h2=>?_,fun h2=>⟨fun h3=>?_,fun h3=>?_⟩⟩⟩
 ·have k:aX x p=false:=by simpa using h1
  have e:af x p=x:=by simp [af,k]
  have l:bO x p=3:=by simp [bO,k]
  rw [e,l];simp
 ·have k:aX x p=true:=by simpa using h1
  have e:af x p=x:=by simp [af,k,h2]
  have l:bO x p=18:=by simp [bO,k,h2]
  rw [e,l];simp
 ·have k:aX x p=true:=by simpa using h1
  have h4 :(p==x.Bowler||p==x.Keeper)=true:=by rw [←h3];cases p==x.Bowler <;> rfl
  have e:af x p=x:=by simp only [af,k,h2,h4];simp
  have l:bO x p=17:=by simp only [bO,k,h2,h4];simp
  rw [e,l];simp
 ·have k:aX x p=true:=by simpa using h1
  have h4 :(p==x.Bowler||p==x.Keeper)=false:=by rw [←h3];cases p==x.Bowler <;> rfl
  have e:af x p={ x with Keeper:=p }:=by simp only [af,k,h2,h4];simp
  have l:bO x p=0:=by simp only [bO,k,h2,h4];simp
  rw [e,l];simp
theorem Sr:CtrOK Tryz.prog K8 138 (ap K8 eg nb):=by
 refine aJ (C:=cf8 [k73,k74,k78] Tryz.f138) (bp (.cons J0 (.cons Mk (.cons Pq .nil))) _) mixed (fn:=Tryz.f138) Tryz.func138 (by kernel_rfl) (by kernel_rfl) (by kernel_rfl) (Λ:=fun _ _=>none) ?_ ?_ ?_
 ·exact fun _ _ _ _ _ _ _ _ h=>by cases h
 ·rintro ⟨x,p,⟨⟩⟩
  exact of_decide_eq_true (by kernel_rfl)
 ·rintro ⟨x,p,⟨⟩⟩ hw hn
  exact Rs x p (hn _ (List.mem_singleton.2 rfl))
theorem Ru (x:Innings) (p:Int) (hs:aj x) :(evFn (cf8 [k44,k72,k76] Tryz.f192) (fun _=>none) Tryz.f192 (bh eg (x,p,()))).sat fun v' rows=>leV v' (nb (x,p,())).v∧rows =(nb (x,p,())).rows:=by
 refine cast (by kernel_rfl) (?_:aj x∧((!aX x p)=true→((x.1 =(af x p).1∧x.2 =(af x p).2∧x.3 =(af x p).3∧x.4 =(af x p).4∧x.5 =(af x p).5∧x.6.1 =(af x p).6.1∧x.6.2 =(af x p).6.2∧x.6.3 =(af x p).6.3∧x.6.4 =(af x p).6.4∧x.6.5 =(af x p).6.5∧x.7 =(af x p).7∧x.8 =(af x p).8∧x.9 =(af x p).9∧x.10 =(af x p).10∧(nat_lit 0=nat_lit 0∧nat_lit 0=nat_lit 0)∧x.12 =(af x p).12∧(nat_lit 1=nat_lit 1∧nat_lit 1=nat_lit 1)∧(nat_lit 2=nat_lit 2∧nat_lit 2=nat_lit 2)∧x.15 =(af x p).15∧(nat_lit 3=nat_lit 3∧nat_lit 3=nat_lit 3)∧x.17 =(af x p).17∧x.18 =(af x p).18∧x.19 =(af x p).19∧x.20 =(af x p).20∧(nat_lit 4=nat_lit 4∧nat_lit 4=nat_lit 4)∧x.22.1 =(af x p).22.1∧x.22.2.1 =(af x p).22.2.1∧x.23 =(af x p).23∧True)∧(3:Int)=bO x p∧True)∧ [RowD.mk (Ty.int IntKind.u8) x.11,RowD.mk (Ty.int IntKind.i64) x.13,RowD.mk (Ty.int IntKind.i64) x.14,RowD.mk (Ty.int IntKind.i64) x.16,RowD.mk Ty.bool x.21]=[RowD.mk (Ty.int IntKind.u8) (af x p).11,RowD.mk (Ty.int IntKind.i64) (af x p).13,RowD.mk (Ty.int IntKind.i64) (af x p).14,RowD.mk (Ty.int IntKind.i64) (af x p).16,RowD.mk Ty.bool (af x p).21])∧((!aX x p)=false→(aF x p=true→((x.1 =(af x p).1∧x.2 =(af x p).2∧x.3 =(af x p).3∧x.4 =(af x p).4∧x.5 =(af x p).5∧x.6.1 =(af x p).6.1∧x.6.2 =(af x p).6.2∧x.6.3 =(af x p).6.3∧x.6.4 =(af x p).6.4∧x.6.5 =(af x p).6.5∧x.7 =(af x p).7∧x.8 =(af x p).8∧x.9 =(af x p).9∧x.10 =(af x p).10∧(nat_lit 0=nat_lit 0∧nat_lit 0=nat_lit 0)∧x.12 =(af x p).12∧(nat_lit 1=nat_lit 1∧nat_lit 1=nat_lit 1)∧(nat_lit 2=nat_lit 2∧nat_lit 2=nat_lit 2)∧x.15 =(af x p).15∧(nat_lit 3=nat_lit 3∧nat_lit 3=nat_lit 3)∧x.17 =(af x p).17∧x.18 =(af x p).18∧x.19 =(af x p).19∧x.20 =(af x p).20∧(nat_lit 4=nat_lit 4∧nat_lit 4=nat_lit 4)∧x.22.1 =(af x p).22.1∧x.22.2.1 =(af x p).22.2.1∧x.23 =(af x p).23∧True)∧(18:Int)=bO x p∧True)∧ [RowD.mk (Ty.int IntKind.u8) x.11,RowD.mk (Ty.int IntKind.i64) x.13,RowD.mk (Ty.int IntKind.i64) x.14,RowD.mk (Ty.int IntKind.i64) x.16,RowD.mk Ty.bool x.21]=[RowD.mk (Ty.int IntKind.u8) (af x p).11,RowD.mk (Ty.int IntKind.i64) (af x p).13,RowD.mk (Ty.int IntKind.i64) (af x p).14,RowD.mk (Ty.int IntKind.i64) (af x p).16,RowD.mk Ty.bool (af x p).21])∧(aF x p=false→((bif p==x.12 then true else p==x.19)=true→((x.1 =(af x p).1∧x.2 =(af x p).2∧x.3 =(af x p).3∧x.4 =(af x p).4∧x.5 =(af x p).5∧x.6.1 =(af x p).6.1∧x.6.2 =(af x p).6.2∧x.6.3 =(af x p).6.3∧x.6.4 =(af x p).6.4∧x.6.5 =(af x p).6.5∧x.7 =(af x p).7∧x.8 =(af x p).8∧x.9 =(af x p).9∧x.10 =(af x p).10∧(nat_lit 0=nat_lit 0∧nat_lit 0=nat_lit 0)∧x.12 =(af x p).12∧(nat_lit 1=nat_lit 1∧nat_lit 1=nat_lit 1)∧(nat_lit 2=nat_lit 2∧nat_lit 2=nat_lit 2)∧x.15 =(af x p).15∧(nat_lit 3=nat_lit 3∧nat_lit 3=nat_lit 3)∧x.17 =(af x p).17∧x.18 =(af x p).18∧x.19 =(af x p).19∧x.20 =(af x p).20∧(nat_lit 4=nat_lit 4∧nat_lit 4=nat_lit 4)∧x.22.1 =(af x p).22.1∧x.22.2.1 =(af x p).22.2.1∧x.23 =(af x p).23∧True)∧(17:Int)=bO x p∧True)∧ [RowD.mk (Ty.int IntKind.u8) x.11,RowD.mk (Ty.int IntKind.i64) x.13,RowD.mk (Ty.int IntKind.i64) x.14,RowD.mk (Ty.int IntKind.i64) x.16,RowD.mk Ty.bool x.21]=[RowD.mk (Ty.int IntKind.u8) (af x p).11,RowD.mk (Ty.int IntKind.i64) (af x p).13,RowD.mk (Ty.int IntKind.i64) (af x p).14,RowD.mk (Ty.int IntKind.i64) (af x p).16,RowD.mk Ty.bool (af x p).21])∧((bif p==x.12 then true else p==x.19)=false→((x.1 =(af x p).1∧x.2 =(af x p).2∧x.3 =(af x p).3∧x.4 =(af x p).4∧x.5 =(af x p).5∧x.6.1 =(af x p).6.1∧x.6.2 =(af x p).6.2∧x.6.3 =(af x p).6.3∧x.6.4 =(af x p).6.4∧x.6.5 =(af x p).6.5∧x.7 =(af x p).7∧x.8 =(af x p).8∧x.9 =(af x p).9∧x.10 =(af x p).10∧(nat_lit 0=nat_lit 0∧nat_lit 0=nat_lit 0)∧x.12 =(af x p).12∧(nat_lit 1=nat_lit 1∧nat_lit 1=nat_lit 1)∧(nat_lit 2=nat_lit 2∧nat_lit 2=nat_lit 2)∧x.15 =(af x p).15∧(nat_lit 3=nat_lit 3∧nat_lit 3=nat_lit 3)∧x.17 =(af x p).17∧x.18 =(af x p).18∧p =(af x p).19∧x.20 =(af x p).20∧(nat_lit 4=nat_lit 4∧nat_lit 4=nat_lit 4)∧x.22.1 =(af x p).22.1∧x.22.2.1 =(af x p).22.2.1∧x.23 =(af x p).23∧True)∧(0:Int)=bO x p∧True)∧ [RowD.mk (Ty.int IntKind.u8) x.11,RowD.mk (Ty.int IntKind.i64) x.13,RowD.mk (Ty.int IntKind.i64) x.14,RowD.mk (Ty.int IntKind.i64) x.16,RowD.mk Ty.bool x.21]=[RowD.mk (Ty.int IntKind.u8) (af x p).11,RowD.mk (Ty.int IntKind.i64) (af x p).13,RowD.mk (Ty.int IntKind.i64) (af x p).14,RowD.mk (Ty.int IntKind.i64) (af x p).16,RowD.mk Ty.bool (af x p).21]))))
 refine ⟨hs,fun h1=>?_,fun h1=>⟨fun h2=>?_,fun h2=>⟨fun h3=>?_,fun h3=>?_⟩⟩⟩
 ·have k:aX x p=false:=by simpa using h1
  have e:af x p=x:=by simp [af,k]
  have l:bO x p=3:=by simp [bO,k]
  rw [e,l];simp
 ·have k:aX x p=true:=by simpa using h1
  have e:af x p=x:=by simp [af,k,h2]
  have l:bO x p=18:=by simp [bO,k,h2]
  rw [e,l];simp
 ·have k:aX x p=true:=by simpa using h1
  have h4 :(p==x.Bowler||p==x.Keeper)=true:=by rw [←h3];cases p==x.Bowler <;> rfl
  have e:af x p=x:=by simp only [af,k,h2,h4];simp
  have l:bO x p=17:=by simp only [bO,k,h2,h4];simp
  rw [e,l];simp
 ·have k:aX x p=true:=by simpa using h1
  have h4 :(p==x.Bowler||p==x.Keeper)=false:=by rw [←h3];cases p==x.Bowler <;> rfl
  have e:af x p={ x with Keeper:=p }:=by simp only [af,k,h2,h4];simp
  have l:bO x p=0:=by simp only [bO,k,h2,h4];simp
  rw [e,l];simp
theorem Su:CtrOK Tryz.prog K8 192 (ap K8 eg nb):=by
 refine aJ (C:=cf8 [k44,k72,k76] Tryz.f192) (bp (.cons rg (.cons JZ (.cons Ml .nil))) _) mixed (fn:=Tryz.f192) Tryz.func192 (by kernel_rfl) (by kernel_rfl) (by kernel_rfl) (Λ:=fun _ _=>none) ?_ ?_ ?_
 ·exact fun _ _ _ _ _ _ _ _ h=>by cases h
 ·rintro ⟨x,p,⟨⟩⟩
  exact of_decide_eq_true (by kernel_rfl)
 ·rintro ⟨x,p,⟨⟩⟩ hw hn
  exact Ru x p (hn _ (List.mem_singleton.2 rfl))
theorem Rc (x:Innings) (p:Int) (on:Bool) (hs:aj x) (hp:gl p) :(evFn (cf8 [k73,k74,k78] Tryz.f139) (fun _=>none) Tryz.f139 (bh vy (x,p,on,()))).sat fun v' rows=>leV v' (m7 (x,p,on,())).v∧rows =(m7 (x,p,on,())).rows:=by
 refine cast (by kernel_rfl) (?_:aj x∧((!aX x p)=true→((x.1 =(an x p on).1∧x.2 =(an x p on).2∧x.3 =(an x p on).3∧x.4 =(an x p on).4∧x.5 =(an x p on).5∧x.6.1 =(an x p on).6.1∧x.6.2 =(an x p on).6.2∧x.6.3 =(an x p on).6.3∧x.6.4 =(an x p on).6.4∧x.6.5 =(an x p on).6.5∧x.7 =(an x p on).7∧x.8 =(an x p on).8∧x.9 =(an x p on).9∧x.10 =(an x p on).10∧(nat_lit 0=nat_lit 0∧nat_lit 0=nat_lit 0)∧x.12 =(an x p on).12∧(nat_lit 1=nat_lit 1∧nat_lit 1=nat_lit 1)∧(nat_lit 2=nat_lit 2∧nat_lit 2=nat_lit 2)∧x.15 =(an x p on).15∧(nat_lit 3=nat_lit 3∧nat_lit 3=nat_lit 3)∧x.17 =(an x p on).17∧x.18 =(an x p on).18∧x.19 =(an x p on).19∧x.20 =(an x p on).20∧(nat_lit 4=nat_lit 4∧nat_lit 4=nat_lit 4)∧x.22.1 =(an x p on).22.1∧x.22.2.1 =(an x p on).22.2.1∧x.23 =(an x p on).23∧True)∧(3:Int)=db x p on∧True)∧ [RowD.mk (Ty.int IntKind.u8) x.11,RowD.mk (Ty.int IntKind.i64) x.13,RowD.mk (Ty.int IntKind.i64) x.14,RowD.mk (Ty.int IntKind.i64) x.16,RowD.mk Ty.bool x.21]=[RowD.mk (Ty.int IntKind.u8) (an x p on).11,RowD.mk (Ty.int IntKind.i64) (an x p on).13,RowD.mk (Ty.int IntKind.i64) (an x p on).14,RowD.mk (Ty.int IntKind.i64) (an x p on).16,RowD.mk Ty.bool (an x p on).21])∧((!aX x p)=false→((aF x p==on)=true→((x.1 =(an x p on).1∧x.2 =(an x p on).2∧x.3 =(an x p on).3∧x.4 =(an x p on).4∧x.5 =(an x p on).5∧x.6.1 =(an x p on).6.1∧x.6.2 =(an x p on).6.2∧x.6.3 =(an x p on).6.3∧x.6.4 =(an x p on).6.4∧x.6.5 =(an x p on).6.5∧x.7 =(an x p on).7∧x.8 =(an x p on).8∧x.9 =(an x p on).9∧x.10 =(an x p on).10∧(nat_lit 0=nat_lit 0∧nat_lit 0=nat_lit 0)∧x.12 =(an x p on).12∧(nat_lit 1=nat_lit 1∧nat_lit 1=nat_lit 1)∧(nat_lit 2=nat_lit 2∧nat_lit 2=nat_lit 2)∧x.15 =(an x p on).15∧(nat_lit 3=nat_lit 3∧nat_lit 3=nat_lit 3)∧x.17 =(an x p on).17∧x.18 =(an x p on).18∧x.19 =(an x p on).19∧x.20 =(an x p on).20∧(nat_lit 4=nat_lit 4∧nat_lit 4=nat_lit 4)∧x.22.1 =(an x p on).22.1∧x.22.2.1 =(an x p on).22.2.1∧x.23 =(an x p on).23∧True)∧(18:Int)=db x p on∧True)∧ [RowD.mk (Ty.int IntKind.u8) x.11,RowD.mk (Ty.int IntKind.i64) x.13,RowD.mk (Ty.int IntKind.i64) x.14,RowD.mk (Ty.int IntKind.i64) x.16,RowD.mk Ty.bool x.21]=[RowD.mk (Ty.int IntKind.u8) (an x p on).11,RowD.mk (Ty.int IntKind.i64) (an x p on).13,RowD.mk (Ty.int IntKind.i64) (an x p on).14,RowD.mk (Ty.int IntKind.i64) (an x p on).16,RowD.mk Ty.bool (an x p on).21])∧((aF x p==on)=false→((0:Int)≤IntKind.i64.wrap (p - (1:Int))∧IntKind.i64.wrap (p - (1:Int)) <(↑x.21.length:Int))∧(((bif bif on then (bif bif on then x.19==p else false then x.12 else x.12)==p else false then bif bif on then x.19==p else false then x.1 else x.1 else bif bif on then x.19==p else false then x.1 else x.1) =(an x p on).1∧(bif bif on then (bif bif on then x.19==p else false then x.12 else x.12)==p else false then bif bif on then x.19==p else false then x.2 else x.2 else bif bif on then x.19==p else false then x.2 else x.2) =(an x p on).2∧(bif bif on then (bif bif on then x.19==p else false then x.12 else x.12)==p else false then bif bif on then x.19==p else false then x.3 else x.3 else bif bif on then x.19==p else false then x.3 else x.3) =(an x p on).3∧(bif bif on then (bif bif on then x.19==p else false then x.12 else x.12)==p else false then bif bif on then x.19==p else false then x.4 else x.4 else bif bif on then x.19==p else false then x.4 else x.4) =(an x p on).4∧(bif bif on then (bif bif on then x.19==p else false then x.12 else x.12)==p else false then bif bif on then x.19==p else false then x.5 else x.5 else bif bif on then x.19==p else false then x.5 else x.5) =(an x p on).5∧(bif bif on then (bif bif on then x.19==p else false then x.12 else x.12)==p else false then bif bif on then x.19==p else false then x.6.1 else x.6.1 else bif bif on then x.19==p else false then x.6.1 else x.6.1) =(an x p on).6.1∧(bif bif on then (bif bif on then x.19==p else false then x.12 else x.12)==p else false then bif bif on then x.19==p else false then x.6.2 else x.6.2 else bif bif on then x.19==p else false then x.6.2 else x.6.2) =(an x p on).6.2∧(bif bif on then (bif bif on then x.19==p else false then x.12 else x.12)==p else false then bif bif on then x.19==p else false then x.6.3 else x.6.3 else bif bif on then x.19==p else false then x.6.3 else x.6.3) =(an x p on).6.3∧(bif bif on then (bif bif on then x.19==p else false then x.12 else x.12)==p else false then bif bif on then x.19==p else false then x.6.4 else x.6.4 else bif bif on then x.19==p else false then x.6.4 else x.6.4) =(an x p on).6.4∧(bif bif on then (bif bif on then x.19==p else false then x.12 else x.12)==p else false then bif bif on then x.19==p else false then x.6.5 else x.6.5 else bif bif on then x.19==p else false then x.6.5 else x.6.5) =(an x p on).6.5∧(bif bif on then (bif bif on then x.19==p else false then x.12 else x.12)==p else false then bif bif on then x.19==p else false then x.7 else x.7 else bif bif on then x.19==p else false then x.7 else x.7) =(an x p on).7∧(bif bif on then (bif bif on then x.19==p else false then x.12 else x.12)==p else false then bif bif on then x.19==p else false then x.8 else x.8 else bif bif on then x.19==p else false then x.8 else x.8) =(an x p on).8∧(bif bif on then (bif bif on then x.19==p else false then x.12 else x.12)==p else false then bif bif on then x.19==p else false then x.9 else x.9 else bif bif on then x.19==p else false then x.9 else x.9) =(an x p on).9∧(bif bif on then (bif bif on then x.19==p else false then x.12 else x.12)==p else false then bif bif on then x.19==p else false then x.10 else x.10 else bif bif on then x.19==p else false then x.10 else x.10) =(an x p on).10∧(nat_lit 0=nat_lit 0∧nat_lit 0=nat_lit 0)∧(bif bif on then (bif bif on then x.19==p else false then x.12 else x.12)==p else false then (0:Int) else bif bif on then x.19==p else false then x.12 else x.12) =(an x p on).12∧(nat_lit 1=nat_lit 1∧nat_lit 1=nat_lit 1)∧(nat_lit 2=nat_lit 2∧nat_lit 2=nat_lit 2)∧(bif bif on then (bif bif on then x.19==p else false then x.12 else x.12)==p else false then bif bif on then x.19==p else false then x.15 else x.15 else bif bif on then x.19==p else false then x.15 else x.15) =(an x p on).15∧(nat_lit 3=nat_lit 3∧nat_lit 3=nat_lit 3)∧(bif bif on then (bif bif on then x.19==p else false then x.12 else x.12)==p else false then bif bif on then x.19==p else false then x.17 else x.17 else bif bif on then x.19==p else false then x.17 else x.17) =(an x p on).17∧(bif bif on then (bif bif on then x.19==p else false then x.12 else x.12)==p else false then bif bif on then x.19==p else false then x.18 else x.18 else bif bif on then x.19==p else false then x.18 else x.18) =(an x p on).18∧(bif bif on then (bif bif on then x.19==p else false then x.12 else x.12)==p else false then bif bif on then x.19==p else false then (0:Int) else x.19 else bif bif on then x.19==p else false then (0:Int) else x.19) =(an x p on).19∧(bif bif on then (bif bif on then x.19==p else false then x.12 else x.12)==p else false then bif bif on then x.19==p else false then x.20 else x.20 else bif bif on then x.19==p else false then x.20 else x.20) =(an x p on).20∧(nat_lit 4=nat_lit 4∧nat_lit 4=nat_lit 4)∧(bif bif on then (bif bif on then x.19==p else false then x.12 else x.12)==p else false then bif bif on then x.19==p else false then x.22.1 else x.22.1 else bif bif on then x.19==p else false then x.22.1 else x.22.1) =(an x p on).22.1∧(bif bif on then (bif bif on then x.19==p else false then x.12 else x.12)==p else false then bif bif on then x.19==p else false then x.22.2.1 else x.22.2.1 else bif bif on then x.19==p else false then x.22.2.1 else x.22.2.1) =(an x p on).22.2.1∧(bif bif on then (bif bif on then x.19==p else false then x.12 else x.12)==p else false then bif bif on then x.19==p else false then x.23 else x.23 else bif bif on then x.19==p else false then x.23 else x.23) =(an x p on).23∧True)∧(0:Int)=db x p on∧True)∧ [RowD.mk (Ty.int IntKind.u8) x.11,RowD.mk (Ty.int IntKind.i64) x.13,RowD.mk (Ty.int IntKind.i64) x.14,RowD.mk (Ty.int IntKind.i64) x.16,RowD.mk Ty.bool (x.21.set (IntKind.i64.wrap (p - (1:Int))).toNat on)]=[RowD.mk (Ty.int IntKind.u8) (an x p on).11,RowD.mk (Ty.int IntKind.i64) (an x p on).13,RowD.mk (Ty.int IntKind.i64) (an x p on).14,RowD.mk (Ty.int IntKind.i64) (an x p on).16,RowD.mk Ty.bool (an x p on).21])))
 refine ⟨hs,fun h1=>?_,fun h1=>⟨fun h2=>?_,fun h2=>?_⟩⟩
 ·have k:aX x p=false:=by simpa using h1
  have e:an x p on=x:=by simp [an,k]
  have l:db x p on=3:=by simp [db,k]
  rw [e,l];simp
 ·have k:aX x p=true:=by simpa using h1
  have e:an x p on=x:=by simp only [an,k,h2];simp
  have l:db x p on=18:=by simp only [db,k,h2];simp
  rw [e,l];simp
 ·have k:aX x p=true:=by simpa using h1
  have e:an x p on=lF x p on:=by simp only [an,k,h2];simp
  have l:db x p on=0:=by simp only [db,k,h2];simp
  obtain ⟨ew,a,b⟩:=qW hp k
  rw [e,l,ew]
  refine ⟨⟨a,b⟩,?_⟩
  simp only [Bool.cond_self]
  cases on with
  | false=>simp [lF]
  | true=>cases hk :(x.Keeper==p) <;> cases hb :(x.Bowler==p) <;> simp [lF,hk,hb]
theorem Sg:CtrOK Tryz.prog K8 139 (ap K8 vy m7):=by
 refine aJ (C:=cf8 [k73,k74,k78] Tryz.f139) (bp (.cons J0 (.cons Mk (.cons Pq .nil))) _) mixed (fn:=Tryz.f139) Tryz.func139 (by kernel_rfl) (by kernel_rfl) (by kernel_rfl) (Λ:=fun _ _=>none) ?_ ?_ ?_
 ·exact fun _ _ _ _ _ _ _ _ h=>by cases h
 ·rintro ⟨x,p,on,⟨⟩⟩
  exact of_decide_eq_true (by kernel_rfl)
 ·rintro ⟨x,p,on,⟨⟩⟩ hw hn
  exact Rc x p on (hn _ (List.mem_singleton.2 rfl)) (dd (aY (aP hw)))
theorem Rv (x:Innings) (p:Int) (on:Bool) (hs:aj x) (hp:gl p) :(evFn (cf8 [k44,k72,k76] Tryz.f193) (fun _=>none) Tryz.f193 (bh vy (x,p,on,()))).sat fun v' rows=>leV v' (m7 (x,p,on,())).v∧rows =(m7 (x,p,on,())).rows:=by
 refine cast (by kernel_rfl) (?_:aj x∧((!aX x p)=true→((x.1 =(an x p on).1∧x.2 =(an x p on).2∧x.3 =(an x p on).3∧x.4 =(an x p on).4∧x.5 =(an x p on).5∧x.6.1 =(an x p on).6.1∧x.6.2 =(an x p on).6.2∧x.6.3 =(an x p on).6.3∧x.6.4 =(an x p on).6.4∧x.6.5 =(an x p on).6.5∧x.7 =(an x p on).7∧x.8 =(an x p on).8∧x.9 =(an x p on).9∧x.10 =(an x p on).10∧(nat_lit 0=nat_lit 0∧nat_lit 0=nat_lit 0)∧x.12 =(an x p on).12∧(nat_lit 1=nat_lit 1∧nat_lit 1=nat_lit 1)∧(nat_lit 2=nat_lit 2∧nat_lit 2=nat_lit 2)∧x.15 =(an x p on).15∧(nat_lit 3=nat_lit 3∧nat_lit 3=nat_lit 3)∧x.17 =(an x p on).17∧x.18 =(an x p on).18∧x.19 =(an x p on).19∧x.20 =(an x p on).20∧(nat_lit 4=nat_lit 4∧nat_lit 4=nat_lit 4)∧x.22.1 =(an x p on).22.1∧x.22.2.1 =(an x p on).22.2.1∧x.23 =(an x p on).23∧True)∧(3:Int)=db x p on∧True)∧ [RowD.mk (Ty.int IntKind.u8) x.11,RowD.mk (Ty.int IntKind.i64) x.13,RowD.mk (Ty.int IntKind.i64) x.14,RowD.mk (Ty.int IntKind.i64) x.16,RowD.mk Ty.bool x.21]=[RowD.mk (Ty.int IntKind.u8) (an x p on).11,RowD.mk (Ty.int IntKind.i64) (an x p on).13,RowD.mk (Ty.int IntKind.i64) (an x p on).14,RowD.mk (Ty.int IntKind.i64) (an x p on).16,RowD.mk Ty.bool (an x p on).21])∧((!aX x p)=false→((aF x p==on)=true→((x.1 =(an x p on).1∧x.2 =(an x p on).2∧x.3 =(an x p on).3∧x.4 =(an x p on).4∧x.5 =(an x p on).5∧x.6.1 =(an x p on).6.1∧x.6.2 =(an x p on).6.2∧x.6.3 =(an x p on).6.3∧x.6.4 =(an x p on).6.4∧x.6.5 =(an x p on).6.5∧x.7 =(an x p on).7∧x.8 =(an x p on).8∧x.9 =(an x p on).9∧x.10 =(an x p on).10∧(nat_lit 0=nat_lit 0∧nat_lit 0=nat_lit 0)∧x.12 =(an x p on).12∧(nat_lit 1=nat_lit 1∧nat_lit 1=nat_lit 1)∧(nat_lit 2=nat_lit 2∧nat_lit 2=nat_lit 2)∧x.15 =(an x p on).15∧(nat_lit 3=nat_lit 3∧nat_lit 3=nat_lit 3)∧x.17 =(an x p on).17∧x.18 =(an x p on).18∧x.19 =(an x p on).19∧x.20 =(an x p on).20∧(nat_lit 4=nat_lit 4∧nat_lit 4=nat_lit 4)∧x.22.1 =(an x p on).22.1∧x.22.2.1 =(an x p on).22.2.1∧x.23 =(an x p on).23∧True)∧(18:Int)=db x p on∧True)∧ [RowD.mk (Ty.int IntKind.u8) x.11,RowD.mk (Ty.int IntKind.i64) x.13,RowD.mk (Ty.int IntKind.i64) x.14,RowD.mk (Ty.int IntKind.i64) x.16,RowD.mk Ty.bool x.21]=[RowD.mk (Ty.int IntKind.u8) (an x p on).11,RowD.mk (Ty.int IntKind.i64) (an x p on).13,RowD.mk (Ty.int IntKind.i64) (an x p on).14,RowD.mk (Ty.int IntKind.i64) (an x p on).16,RowD.mk Ty.bool (an x p on).21])∧((aF x p==on)=false→((0:Int)≤IntKind.i64.wrap (p - (1:Int))∧IntKind.i64.wrap (p - (1:Int)) <(↑x.21.length:Int))∧(((bif bif on then (bif bif on then x.19==p else false then x.12 else x.12)==p else false then bif bif on then x.19==p else false then x.1 else x.1 else bif bif on then x.19==p else false then x.1 else x.1) =(an x p on).1∧(bif bif on then (bif bif on then x.19==p else false then x.12 else x.12)==p else false then bif bif on then x.19==p else false then x.2 else x.2 else bif bif on then x.19==p else false then x.2 else x.2) =(an x p on).2∧(bif bif on then (bif bif on then x.19==p else false then x.12 else x.12)==p else false then bif bif on then x.19==p else false then x.3 else x.3 else bif bif on then x.19==p else false then x.3 else x.3) =(an x p on).3∧(bif bif on then (bif bif on then x.19==p else false then x.12 else x.12)==p else false then bif bif on then x.19==p else false then x.4 else x.4 else bif bif on then x.19==p else false then x.4 else x.4) =(an x p on).4∧(bif bif on then (bif bif on then x.19==p else false then x.12 else x.12)==p else false then bif bif on then x.19==p else false then x.5 else x.5 else bif bif on then x.19==p else false then x.5 else x.5) =(an x p on).5∧(bif bif on then (bif bif on then x.19==p else false then x.12 else x.12)==p else false then bif bif on then x.19==p else false then x.6.1 else x.6.1 else bif bif on then x.19==p else false then x.6.1 else x.6.1) =(an x p on).6.1∧(bif bif on then (bif bif on then x.19==p else false then x.12 else x.12)==p else false then bif bif on then x.19==p else false then x.6.2 else x.6.2 else bif bif on then x.19==p else false then x.6.2 else x.6.2) =(an x p on).6.2∧(bif bif on then (bif bif on then x.19==p else false then x.12 else x.12)==p else false then bif bif on then x.19==p else false then x.6.3 else x.6.3 else bif bif on then x.19==p else false then x.6.3 else x.6.3) =(an x p on).6.3∧(bif bif on then (bif bif on then x.19==p else false then x.12 else x.12)==p else false then bif bif on then x.19==p else false then x.6.4 else x.6.4 else bif bif on then x.19==p else false then x.6.4 else x.6.4) =(an x p on).6.4∧(bif bif on then (bif bif on then x.19==p else false then x.12 else x.12)==p else false then bif bif on then x.19==p else false then x.6.5 else x.6.5 else bif bif on then x.19==p else false then x.6.5 else x.6.5) =(an x p on).6.5∧(bif bif on then (bif bif on then x.19==p else false then x.12 else x.12)==p else false then bif bif on then x.19==p else false then x.7 else x.7 else bif bif on then x.19==p else false then x.7 else x.7) =(an x p on).7∧(bif bif on then (bif bif on then x.19==p else false then x.12 else x.12)==p else false then bif bif on then x.19==p else false then x.8 else x.8 else bif bif on then x.19==p else false then x.8 else x.8) =(an x p on).8∧(bif bif on then (bif bif on then x.19==p else false then x.12 else x.12)==p else false then bif bif on then x.19==p else false then x.9 else x.9 else bif bif on then x.19==p else false then x.9 else x.9) =(an x p on).9∧(bif bif on then (bif bif on then x.19==p else false then x.12 else x.12)==p else false then bif bif on then x.19==p else false then x.10 else x.10 else bif bif on then x.19==p else false then x.10 else x.10) =(an x p on).10∧(nat_lit 0=nat_lit 0∧nat_lit 0=nat_lit 0)∧(bif bif on then (bif bif on then x.19==p else false then x.12 else x.12)==p else false then (0:Int) else bif bif on then x.19==p else false then x.12 else x.12) =(an x p on).12∧(nat_lit 1=nat_lit 1∧nat_lit 1=nat_lit 1)∧(nat_lit 2=nat_lit 2∧nat_lit 2=nat_lit 2)∧(bif bif on then (bif bif on then x.19==p else false then x.12 else x.12)==p else false then bif bif on then x.19==p else false then x.15 else x.15 else bif bif on then x.19==p else false then x.15 else x.15) =(an x p on).15∧(nat_lit 3=nat_lit 3∧nat_lit 3=nat_lit 3)∧(bif bif on then (bif bif on then x.19==p else false then x.12 else x.12)==p else false then bif bif on then x.19==p else false then x.17 else x.17 else bif bif on then x.19==p else false then x.17 else x.17) =(an x p on).17∧(bif bif on then (bif bif on then x.19==p else false then x.12 else x.12)==p else false then bif bif on then x.19==p else false then x.18 else x.18 else bif bif on then x.19==p else false then x.18 else x.18) =(an x p on).18∧(bif bif on then (bif bif on then x.19==p else false then x.12 else x.12)==p else false then bif bif on then x.19==p else false then (0:Int) else x.19 else bif bif on then x.19==p else false then (0:Int) else x.19) =(an x p on).19∧(bif bif on then (bif bif on then x.19==p else false then x.12 else x.12)==p else false then bif bif on then x.19==p else false then x.20 else x.20 else bif bif on then x.19==p else false then x.20 else x.20) =(an x p on).20∧(nat_lit 4=nat_lit 4∧nat_lit 4=nat_lit 4)∧(bif bif on then (bif bif on then x.19==p else false then x.12 else x.12)==p else false then bif bif on then x.19==p else false then x.22.1 else x.22.1 else bif bif on then x.19==p else false then x.22.1 else x.22.1) =(an x p on).22.1∧(bif bif on then (bif bif on then x.19==p else false then x.12 else x.12)==p else false then bif bif on then x.19==p else false then x.22.2.1 else x.22.2.1 else bif bif on then x.19==p else false then x.22.2.1 else x.22.2.1) =(an x p on).22.2.1∧(bif bif on then (bif bif on then x.19==p else false then x.12 else x.12)==p else false then bif bif on then x.19==p else false then x.23 else x.23 else bif bif on then x.19==p else false then x.23 else x.23) =(an x p on).23∧True)∧(0:Int)=db x p on∧True)∧ [RowD.mk (Ty.int IntKind.u8) x.11,RowD.mk (Ty.int IntKind.i64) x.13,RowD.mk (Ty.int IntKind.i64) x.14,RowD.mk (Ty.int IntKind.i64) x.16,RowD.mk Ty.bool (x.21.set (IntKind.i64.wrap (p - (1:Int))).toNat on)]=[RowD.mk (Ty.int IntKind.u8) (an x p on).11,RowD.mk (Ty.int IntKind.i64) (an x p on).13,RowD.mk (Ty.int IntKind.i64) (an x p on).14,RowD.mk (Ty.int IntKind.i64) (an x p on).16,RowD.mk Ty.bool (an x p on).21])))
 refine ⟨hs,fun h1=>?_,fun h1=>⟨fun h2=>?_,fun h2=>?_⟩⟩
 ·have k:aX x p=false:=by simpa using h1
  have e:an x p on=x:=by simp [an,k]
  have l:db x p on=3:=by simp [db,k]
  rw [e,l];simp
 ·have k:aX x p=true:=by simpa using h1
  have e:an x p on=x:=by simp only [an,k,h2];simp
  have l:db x p on=18:=by simp only [db,k,h2];simp
  rw [e,l];simp
 ·have k:aX x p=true:=by simpa using h1
  have e:an x p on=lF x p on:=by simp only [an,k,h2];simp
  have l:db x p on=0:=by simp only [db,k,h2];simp
  obtain ⟨ew,a,b⟩:=qW hp k
  rw [e,l,ew]
  refine ⟨⟨a,b⟩,?_⟩
  simp only [Bool.cond_self]
  cases on with
  | false=>simp [lF]
  | true=>cases hk :(x.Keeper==p) <;> cases hb :(x.Bowler==p) <;> simp [lF,hk,hb]
theorem Sv:CtrOK Tryz.prog K8 193 (ap K8 vy m7):=by
 refine aJ (C:=cf8 [k44,k72,k76] Tryz.f193) (bp (.cons rg (.cons JZ (.cons Ml .nil))) _) mixed (fn:=Tryz.f193) Tryz.func193 (by kernel_rfl) (by kernel_rfl) (by kernel_rfl) (Λ:=fun _ _=>none) ?_ ?_ ?_
 ·exact fun _ _ _ _ _ _ _ _ h=>by cases h
 ·rintro ⟨x,p,on,⟨⟩⟩
  exact of_decide_eq_true (by kernel_rfl)
 ·rintro ⟨x,p,on,⟨⟩⟩ hw hn
  exact Rv x p on (hn _ (List.mem_singleton.2 rfl)) (dd (aY (aP hw)))
theorem Rt (x:Innings) (p:Int) (hs:aj x) :(evFn (cf8 [k78] Tryz.f137) (fun _=>none) Tryz.f137 (bh eg (x,p,()))).sat fun v' rows=>leV v' (ne (x,p,())).v∧rows =(ne (x,p,())).rows:=by
 refine cast (by kernel_rfl) (?_:aj x∧((bif decide (p <(0:Int)) then true else decide (p>IntKind.i64.wrap ((↑x.21.length:Int) - (2:Int))))=true→((x.1 =(am x p).1∧x.2 =(am x p).2∧x.3 =(am x p).3∧x.4 =(am x p).4∧x.5 =(am x p).5∧x.6.1 =(am x p).6.1∧x.6.2 =(am x p).6.2∧x.6.3 =(am x p).6.3∧x.6.4 =(am x p).6.4∧x.6.5 =(am x p).6.5∧x.7 =(am x p).7∧x.8 =(am x p).8∧x.9 =(am x p).9∧x.10 =(am x p).10∧(nat_lit 0=nat_lit 0∧nat_lit 0=nat_lit 0)∧x.12 =(am x p).12∧(nat_lit 1=nat_lit 1∧nat_lit 1=nat_lit 1)∧(nat_lit 2=nat_lit 2∧nat_lit 2=nat_lit 2)∧x.15 =(am x p).15∧(nat_lit 3=nat_lit 3∧nat_lit 3=nat_lit 3)∧x.17 =(am x p).17∧x.18 =(am x p).18∧x.19 =(am x p).19∧x.20 =(am x p).20∧(nat_lit 4=nat_lit 4∧nat_lit 4=nat_lit 4)∧x.22.1 =(am x p).22.1∧x.22.2.1 =(am x p).22.2.1∧x.23 =(am x p).23∧True)∧(16:Int)=cJ x p∧True)∧ [RowD.mk (Ty.int IntKind.u8) x.11,RowD.mk (Ty.int IntKind.i64) x.13,RowD.mk (Ty.int IntKind.i64) x.14,RowD.mk (Ty.int IntKind.i64) x.16,RowD.mk Ty.bool x.21]=[RowD.mk (Ty.int IntKind.u8) (am x p).11,RowD.mk (Ty.int IntKind.i64) (am x p).13,RowD.mk (Ty.int IntKind.i64) (am x p).14,RowD.mk (Ty.int IntKind.i64) (am x p).16,RowD.mk Ty.bool (am x p).21])∧((bif decide (p <(0:Int)) then true else decide (p>IntKind.i64.wrap ((↑x.21.length:Int) - (2:Int))))=false→((x.1 =(am x p).1∧x.2 =(am x p).2∧x.3 =(am x p).3∧x.4 =(am x p).4∧x.5 =(am x p).5∧x.6.1 =(am x p).6.1∧x.6.2 =(am x p).6.2∧x.6.3 =(am x p).6.3∧x.6.4 =(am x p).6.4∧x.6.5 =(am x p).6.5∧x.7 =(am x p).7∧x.8 =(am x p).8∧x.9 =(am x p).9∧x.10 =(am x p).10∧(nat_lit 0=nat_lit 0∧nat_lit 0=nat_lit 0)∧x.12 =(am x p).12∧(nat_lit 1=nat_lit 1∧nat_lit 1=nat_lit 1)∧(nat_lit 2=nat_lit 2∧nat_lit 2=nat_lit 2)∧x.15 =(am x p).15∧(nat_lit 3=nat_lit 3∧nat_lit 3=nat_lit 3)∧x.17 =(am x p).17∧x.18 =(am x p).18∧x.19 =(am x p).19∧p =(am x p).20∧(nat_lit 4=nat_lit 4∧nat_lit 4=nat_lit 4)∧x.22.1 =(am x p).22.1∧x.22.2.1 =(am x p).22.2.1∧x.23 =(am x p).23∧True)∧(0:Int)=cJ x p∧True)∧ [RowD.mk (Ty.int IntKind.u8) x.11,RowD.mk (Ty.int IntKind.i64) x.13,RowD.mk (Ty.int IntKind.i64) x.14,RowD.mk (Ty.int IntKind.i64) x.16,RowD.mk Ty.bool x.21]=[RowD.mk (Ty.int IntKind.u8) (am x p).11,RowD.mk (Ty.int IntKind.i64) (am x p).13,RowD.mk (Ty.int IntKind.i64) (am x p).14,RowD.mk (Ty.int IntKind.i64) (am x p).16,RowD.mk Ty.bool (am x p).21]))
 have ew:IntKind.i64.wrap ((x.Subs.length:Int) - 2) =(x.Subs.length:Int) - 2:=by
  have:=hs.2.2.2.2
  rw [de (by omega) (by omega)]
 have hc :(bif decide (p <(0:Int)) then true else decide (p>IntKind.i64.wrap ((x.Subs.length:Int) - (2:Int))))=kf x p:=by
  rw [ew];simp only [kf];cases decide (p<0) <;> rfl
 refine ⟨hs,fun h1=>?_,fun h1=>?_⟩
 ·have h1:kf x p=true:=by rw [←hc];exact h1
  have e:am x p=x:=by simp [am,h1]
  have l:cJ x p=16:=by simp [cJ,h1]
  rw [e,l];simp
 ·have h1:kf x p=false:=by rw [←hc];exact h1
  have e:am x p={ x with Outside:=p }:=by simp [am,h1]
  have l:cJ x p=0:=by simp [cJ,h1]
  rw [e,l];simp
theorem Ss:CtrOK Tryz.prog K8 137 (ap K8 eg ne):=by
 refine aJ (C:=cf8 [k78] Tryz.f137) (bp (.cons Pq .nil) _) mixed (fn:=Tryz.f137) Tryz.func137 (by kernel_rfl) (by kernel_rfl) (by kernel_rfl) (Λ:=fun _ _=>none) ?_ ?_ ?_
 ·exact fun _ _ _ _ _ _ _ _ h=>by cases h
 ·rintro ⟨x,p,⟨⟩⟩
  exact of_decide_eq_true (by kernel_rfl)
 ·rintro ⟨x,p,⟨⟩⟩ hw hn
  exact Rt x p (hn _ (List.mem_singleton.2 rfl))
theorem Rw (x:Innings) (p:Int) (hs:aj x) :(evFn (cf8 [k44] Tryz.f191) (fun _=>none) Tryz.f191 (bh eg (x,p,()))).sat fun v' rows=>leV v' (ne (x,p,())).v∧rows =(ne (x,p,())).rows:=by
 refine cast (by kernel_rfl) (?_:aj x∧((bif decide (p <(0:Int)) then true else decide (p>IntKind.i64.wrap ((↑x.21.length:Int) - (2:Int))))=true→((x.1 =(am x p).1∧x.2 =(am x p).2∧x.3 =(am x p).3∧x.4 =(am x p).4∧x.5 =(am x p).5∧x.6.1 =(am x p).6.1∧x.6.2 =(am x p).6.2∧x.6.3 =(am x p).6.3∧x.6.4 =(am x p).6.4∧x.6.5 =(am x p).6.5∧x.7 =(am x p).7∧x.8 =(am x p).8∧x.9 =(am x p).9∧x.10 =(am x p).10∧(nat_lit 0=nat_lit 0∧nat_lit 0=nat_lit 0)∧x.12 =(am x p).12∧(nat_lit 1=nat_lit 1∧nat_lit 1=nat_lit 1)∧(nat_lit 2=nat_lit 2∧nat_lit 2=nat_lit 2)∧x.15 =(am x p).15∧(nat_lit 3=nat_lit 3∧nat_lit 3=nat_lit 3)∧x.17 =(am x p).17∧x.18 =(am x p).18∧x.19 =(am x p).19∧x.20 =(am x p).20∧(nat_lit 4=nat_lit 4∧nat_lit 4=nat_lit 4)∧x.22.1 =(am x p).22.1∧x.22.2.1 =(am x p).22.2.1∧x.23 =(am x p).23∧True)∧(16:Int)=cJ x p∧True)∧ [RowD.mk (Ty.int IntKind.u8) x.11,RowD.mk (Ty.int IntKind.i64) x.13,RowD.mk (Ty.int IntKind.i64) x.14,RowD.mk (Ty.int IntKind.i64) x.16,RowD.mk Ty.bool x.21]=[RowD.mk (Ty.int IntKind.u8) (am x p).11,RowD.mk (Ty.int IntKind.i64) (am x p).13,RowD.mk (Ty.int IntKind.i64) (am x p).14,RowD.mk (Ty.int IntKind.i64) (am x p).16,RowD.mk Ty.bool (am x p).21])∧((bif decide (p <(0:Int)) then true else decide (p>IntKind.i64.wrap ((↑x.21.length:Int) - (2:Int))))=false→((x.1 =(am x p).1∧x.2 =(am x p).2∧x.3 =(am x p).3∧x.4 =(am x p).4∧x.5 =(am x p).5∧x.6.1 =(am x p).6.1∧x.6.2 =(am x p).6.2∧x.6.3 =(am x p).6.3∧x.6.4 =(am x p).6.4∧x.6.5 =(am x p).6.5∧x.7 =(am x p).7∧x.8 =(am x p).8∧x.9 =(am x p).9∧x.10 =(am x p).10∧(nat_lit 0=nat_lit 0∧nat_lit 0=nat_lit 0)∧x.12 =(am x p).12∧(nat_lit 1=nat_lit 1∧nat_lit 1=nat_lit 1)∧(nat_lit 2=nat_lit 2∧nat_lit 2=nat_lit 2)∧x.15 =(am x p).15∧(nat_lit 3=nat_lit 3∧nat_lit 3=nat_lit 3)∧x.17 =(am x p).17∧x.18 =(am x p).18∧x.19 =(am x p).19∧p =(am x p).20∧(nat_lit 4=nat_lit 4∧nat_lit 4=nat_lit 4)∧x.22.1 =(am x p).22.1∧x.22.2.1 =(am x p).22.2.1∧x.23 =(am x p).23∧True)∧(0:Int)=cJ x p∧True)∧ [RowD.mk (Ty.int IntKind.u8) x.11,RowD.mk (Ty.int IntKind.i64) x.13,RowD.mk (Ty.int IntKind.i64) x.14,RowD.mk (Ty.int IntKind.i64) x.16,RowD.mk Ty.bool x.21]=[RowD.mk (Ty.int IntKind.u8) (am x p).11,RowD.mk (Ty.int IntKind.i64) (am x p).13,RowD.mk (Ty.int IntKind.i64) (am x p).14,RowD.mk (Ty.int IntKind.i64) (am x p).16,RowD.mk Ty.bool (am x p).21]))
 have ew:IntKind.i64.wrap ((x.Subs.length:Int) - 2) =(x.Subs.length:Int) - 2:=by
  have:=hs.2.2.2.2
  rw [de (by omega) (by omega)]
 have hc :(bif decide (p <(0:Int)) then true else decide (p>IntKind.i64.wrap ((x.Subs.length:Int) - (2:Int))))=kf x p:=by
  rw [ew];simp only [kf];cases decide (p<0) <;> rfl
 refine ⟨hs,fun h1=>?_,fun h1=>?_⟩
 ·have h1:kf x p=true:=by rw [←hc];exact h1
  have e:am x p=x:=by simp [am,h1]
  have l:cJ x p=16:=by simp [cJ,h1]
  rw [e,l];simp
 ·have h1:kf x p=false:=by rw [←hc];exact h1
  have e:am x p={ x with Outside:=p }:=by simp [am,h1]
  have l:cJ x p=0:=by simp [cJ,h1]
  rw [e,l];simp
theorem Sw:CtrOK Tryz.prog K8 191 (ap K8 eg ne):=by
 refine aJ (C:=cf8 [k44] Tryz.f191) (bp (.cons rg .nil) _) mixed (fn:=Tryz.f191) Tryz.func191 (by kernel_rfl) (by kernel_rfl) (by kernel_rfl) (Λ:=fun _ _=>none) ?_ ?_ ?_
 ·exact fun _ _ _ _ _ _ _ _ h=>by cases h
 ·rintro ⟨x,p,⟨⟩⟩
  exact of_decide_eq_true (by kernel_rfl)
 ·rintro ⟨x,p,⟨⟩⟩ hw hn
  exact Rw x p (hn _ (List.mem_singleton.2 rfl))
end Go.Proofs.YtkgplaoappjkcaaGreat
namespace Go.Proofs.YtkgplaoappjkcaaGreat
open Go Go.Mir
attribute [local irreducible] Go.Mir.DT.sat Go.Mir.evPat Go.Mir.RT.sat Go.Mir.evFn
abbrev Is:Ty:= .slice I
abbrev Jv:List (Nat×PB):= [(0,.cells [.h I,.h I,.h I,.h I,.h I,.h I,.h I,.h I,.h I,.h I,.h I,.h I,.h I,.h I,.c (.osl 1 2),.h I,.c (.osl 3 4),.c (.osl 5 6),.h .bool,.c (.osl 7 8),.h .bool,.h I,.h I,.h I,.c (.osl 9 10),.h I,.h I,.h U8]),(1,.row 2 U8),(3,.row 4 I),(5,.row 6 I),(7,.row 8 I),(9,.row 10 .bool)]
abbrev Ox:Ty:=fQ Jv .unit
def inn (x:Den Ox):Innings:=⟨x.1,x.2.1,x.2.2.1,x.2.2.2.1,x.2.2.2.2.1,⟨x.2.2.2.2.2.1,x.2.2.2.2.2.2.1,x.2.2.2.2.2.2.2.1,x.2.2.2.2.2.2.2.2.1,x.2.2.2.2.2.2.2.2.2.1⟩,x.2.2.2.2.2.2.2.2.2.2.1,x.2.2.2.2.2.2.2.2.2.2.2.1,x.2.2.2.2.2.2.2.2.2.2.2.2.1,x.2.2.2.2.2.2.2.2.2.2.2.2.2.1,x.2.2.2.2.2.2.2.2.2.2.2.2.2.2.2.2.2.2.2.2.2.2.2.1,x.2.2.2.2.2.2.2.2.2.2.2.2.2.2.1,x.2.2.2.2.2.2.2.2.2.2.2.2.2.2.2.2.2.2.2.2.2.2.2.2.1,x.2.2.2.2.2.2.2.2.2.2.2.2.2.2.2.2.2.2.2.2.2.2.2.2.2.1,x.2.2.2.2.2.2.2.2.2.2.2.2.2.2.2.1,x.2.2.2.2.2.2.2.2.2.2.2.2.2.2.2.2.2.2.2.2.2.2.2.2.2.2.1,x.2.2.2.2.2.2.2.2.2.2.2.2.2.2.2.2.1,x.2.2.2.2.2.2.2.2.2.2.2.2.2.2.2.2.2.1,x.2.2.2.2.2.2.2.2.2.2.2.2.2.2.2.2.2.2.1,x.2.2.2.2.2.2.2.2.2.2.2.2.2.2.2.2.2.2.2.1,x.2.2.2.2.2.2.2.2.2.2.2.2.2.2.2.2.2.2.2.2.2.2.2.2.2.2.2.1,(x.2.2.2.2.2.2.2.2.2.2.2.2.2.2.2.2.2.2.2.2.1,x.2.2.2.2.2.2.2.2.2.2.2.2.2.2.2.2.2.2.2.2.2.1,()),x.2.2.2.2.2.2.2.2.2.2.2.2.2.2.2.2.2.2.2.2.2.2.1⟩
def yK (y:Innings):Den Ox:=(y.Side,y.Target,y.Overs,y.Runs,y.Wickets,y.Extras.Wides,y.Extras.NoBalls,y.Extras.Byes,y.Extras.LegByes,y.Extras.Penalties,y.Complete,y.InOver,y.Striker,y.Other,y.Bowler,y.Fresh,y.FreeHit,y.BallAge,y.Keeper,y.Outside,y.Reviews.1,y.Reviews.2.1,y.Ending,y.Batters,y.Bowlers,y.Before,y.Bowled,y.Subs,())
abbrev fi:Pat:=cg [.nm .Innings,I]
def aC (x:Innings) (p:Int):Bool:=decide (p≥1)&&decide (p≤(x.Batters.length:Int))
def ob:Den (tyP fi)→List Prop×Den (tyP ax):=fun x=>([],(aC x.1 x.2.1,()))
def cc (x:Innings) (p s:Int):Innings:={ x with Batters:=x.Batters.set (p - 1).toNat s }
def fc (x:Innings) (p:Int):Innings:={(if aC x p then cc x p 2 else x) with Wickets:=W (x.Wickets+1) }
abbrev MW:Pat:=⟨[(0,.c (.ptr 0 0)),(1,.h I)],Jv,11⟩
abbrev GV:Pat:=⟨[],Jv,11⟩
def PL:Den (tyP MW)→List Prop×Den (tyP GV):=fun x=>([],yK (fc (inn x.2) x.1))
def b9 (x:Innings):Bool:=ch x&&(x.Striker==0||x.Other==0)
def od:Den (tyP qIn)→List Prop×Den (tyP ax):=fun x=>([],(b9 x.1,()))
def FQ (x:Innings) (p:Int):Int:=x.Batters.getD (p - 1).toNat 0
def bq (x:Innings) (p:Int):Int:=if !aC x p then 3 else if !b9 x||FQ x p==1 then 4 else if FQ x p==2 then 5 else 0
def rr:Den (tyP fi)→List Prop×Den (tyP be):=fun x=>([],(bq x.1 x.2.1,()))
def eI (x:Innings) (s o:Int):Innings:=
 if ch x then x else if !aC x s||!aC x o then x else if s==o then x else { cc (cc x s 1) o 1 with Striker:=s,Other:=o }
def fL (x:Innings) (s o:Int):Int:=if ch x then 1 else if !aC x s||!aC x o then 3 else if s==o then 4 else 0
def fU (x:Innings):Innings:={ x with Striker:=x.Other,Other:=x.Striker }
def fg (x:Innings) (d:Delivery):Int:=if d.How != 0 then (if d.Victim==1&&x.Striker != 0 then 1 else if d.Victim==2&&x.Other != 0 then 2 else 0) else 0
def cG (x:Innings) (d:Delivery):Innings:=if eq d then fU x else x
def cB (x:Innings) (b:Bool):Innings:=if b then { x with Striker:=0 } else { x with Other:=0 }
def aQ (x:Innings) (d:Delivery):Innings:=
 if fg x d==0 then cG x d else fc (cB (cG x d) ((fg x d==1) != eq d)) (if fg x d==1 then x.Striker else x.Other)
def fW (x:Innings) (p:Int):Innings:=if bq x p != 0 then x else if x.Striker==0 then { cc x p 1 with Striker:=p } else { cc x p 1 with Other:=p }
def ix (x:Innings) (p:Int):Innings:=if bq x p != 0 then x else fc x p
def wg (s:Int):Bool:=s==0||s==3
def oA:List Int→Int→List Int
 | [],_=> []
 | s::r,i=>if wg s then (i+1)::oA r (i+1) else oA r (i+1)
def QJ (l:List Int):List Int:=oA l 0
def sj (x:Innings):List Int:=QJ x.Batters
def jl (x:Innings):Bool:=((sj x).length:Int)==0
def bI (x:Innings) (p:Int) (hurt:Bool):Int:=
 if !aC x p then 3 else if x.Striker==0||x.Other==0 then 6 else if p != x.Striker&&p != x.Other then 4 else if hurt&&jl x then 19 else 0
def cm (x:Innings) (p:Int) (hurt:Bool):Innings:=
 if bI x p hurt != 0 then x else if hurt then cc (cB x (p==x.Striker)) p 3 else fc (cB x (p==x.Striker)) p
def l4:FuncId×Ctr:=(157,ap KE psI eV)
def lN:Den psI→PRes:=fun x=>⟨[aj x.1],CR (fU x.1),sB (fU x.1)⟩
def lj:FuncId×Ctr:=(213,ap KE psI lN)
abbrev vE:Pat:=cg [.nm .Innings,I,I]
abbrev vD:Pat:=cg [.nm .Innings,I,.bool]
abbrev EN:Pat:=cg [.nm .Innings,.nm .Delivery]
abbrev q2L:Pat:=cg [.nm .Innings,I]
def yw:Den (tyP vE)→List Prop×Den (tyP q2L):=fun x=>([aj x.1],(eI x.1 x.2.1 x.2.2.1,fL x.1 x.2.1 x.2.2.1,()))
def IT:Den (tyP EN)→List Prop×Den (tyP qIn):=fun x=>([aj x.1],(aQ x.1 x.2.1,()))
def Ap:Den (tyP qIn)→List Prop×Den (tyP qIn):=fun x=>([aj x.1],(fU x.1,()))
def rt:Den (tyP fi)→List Prop×Den (tyP q2L):=fun x=>([aj x.1],(fW x.1 x.2.1,bq x.1 x.2.1,()))
def yA:Den (tyP fi)→List Prop×Den (tyP q2L):=fun x=>([aj x.1],(ix x.1 x.2.1,bq x.1 x.2.1,()))
abbrev qIs:Pat:=⟨[(0,.c (.osl 0 1))],[(0,.row 1 I)],2⟩
def yu:Den (tyP qIn)→List Prop×Den (tyP qIs):=fun x=>([aj x.1],(sj x.1,()))
def oc:Den (tyP vD)→List Prop×Den (tyP q2L):=fun x=>([aj x.1],(cm x.1 x.2.1 x.2.2.1,bI x.1 x.2.1 x.2.2.1,()))
abbrev QZ:Pat:=⟨[(7,.h I),(8,.h I),(6,.h U8s)],[],0⟩
abbrev R2:List (Lf×Pat):= [(.ret,⟨[(2,.h .bool)],[],0⟩),(.ext 0,⟨[],[],0⟩)]
def nD (x:Int×Int×List Int×Unit):Prop:=cx (x.2.2.1,x.1,x.2.1,())
def rc (x:Int×Int×List Int×Unit):Nat:=(x.1 - x.2.1).toNat
def I9 (b:Bool):Sum (Bool×Unit) Unit:=if b then .inl (true,()) else .inr ()
def ez (x:Int×Int×List Int×Unit):Sum (Bool×Unit) Unit:=I9 (dH (x.2.2.1.drop x.2.1.toNat))
theorem Nq {x:Innings} (h:wfD (.nm .Innings) x):x.Batters.length≤aS:=
 cu (aY (aP (aP (aP (aP (aP (aP (aP (aP (aP (aP (Hh h))))))))))))
theorem fo {p:Int} (h1:1≤p) (h2:gl p):IntKind.i64.wrap (p - 1)=p - 1:=by
 obtain ⟨a,b⟩:=h2
 exact de (by omega) (by omega)
theorem M7 (x:Innings) (hs:aj x) :(evFn (ao [k45,k90,k91] Tryz.f157) (fun _=>none) Tryz.f157 (bh psI (x,()))).sat fun v' rows=>leV v' (eV (x,())).v∧rows =(eV (x,())).rows:=by
 refine cast (by kernel_rfl) (?_:x.11.length≤(1000000:Nat)∧x.13.length≤(1000000:Nat)∧x.14.length≤(1000000:Nat)∧x.16.length≤(1000000:Nat)∧x.21.length≤(1000000:Nat)∧(x.1=x.1∧x.2=x.2∧x.3=x.3∧x.4=x.4∧x.5=x.5∧x.6.1=x.6.1∧x.6.2=x.6.2∧x.6.3=x.6.3∧x.6.4=x.6.4∧x.6.5=x.6.5∧x.7=x.7∧x.8=x.8∧x.9=x.9∧x.10=x.10∧(nat_lit 0=nat_lit 0∧nat_lit 0=nat_lit 0)∧x.12=x.12∧(nat_lit 1=nat_lit 1∧nat_lit 1=nat_lit 1)∧(nat_lit 2=nat_lit 2∧nat_lit 2=nat_lit 2)∧x.15=x.15∧(nat_lit 3=nat_lit 3∧nat_lit 3=nat_lit 3)∧x.17=x.17∧x.18=x.18∧x.19=x.19∧x.20=x.20∧(nat_lit 4=nat_lit 4∧nat_lit 4=nat_lit 4)∧x.22.1=x.22.1∧x.22.2.1=x.22.2.1∧x.23=x.23∧True)∧ [RowD.mk (Ty.int IntKind.u8) x.11,RowD.mk (Ty.int IntKind.i64) x.13,RowD.mk (Ty.int IntKind.i64) x.14,RowD.mk (Ty.int IntKind.i64) x.16,RowD.mk Ty.bool x.21]=[RowD.mk (Ty.int IntKind.u8) x.11,RowD.mk (Ty.int IntKind.i64) x.13,RowD.mk (Ty.int IntKind.i64) x.14,RowD.mk (Ty.int IntKind.i64) x.16,RowD.mk Ty.bool x.21])
 obtain ⟨h1,h2,h3,h4,h5⟩:=hs
 simp [h1,h2,h3,h4,h5]
theorem rh:CtrOK Tryz.prog KE 157 (ap KE psI eV):=by
 refine aJ (C:=ao [k45,k90,k91] Tryz.f157) (al (.consU Mh rfl (.consU Mn rfl (.consU Mo rfl .nil))) _) mixed (fn:=Tryz.f157) Tryz.func157 (by kernel_rfl) (by kernel_rfl) (by kernel_rfl) (Λ:=fun _ _=>none) ?_ ?_ ?_
 ·exact fun _ _ _ _ _ _ _ _ h=>by cases h
 ·rintro ⟨x,⟨⟩⟩
  exact of_decide_eq_true (by kernel_rfl)
 ·rintro ⟨x,⟨⟩⟩ hw hn
  exact M7 x (hn _ (List.mem_singleton.2 rfl))
theorem Id (x:Innings) (p:Int) :(evPat (ao [] Tryz.f159) (fun _=>none) Tryz.f159 fi ax (x,p,())).sat fun z_=>z_ =(ob (x,p,())).2:=by
 refine cast (by kernel_rfl) (?_ :(bif decide (p≥(1:Int)) then decide (p≤(↑x.11.length:Int)) else false,()) =(aC x p,()))
 grind [aC]
def jI:FuncId×Ctr:=(159,ae KE fi ax ob)
theorem qg:CtrOK Tryz.prog KE 159 (ae KE fi ax ob):=by
 refine aq (C:=ao [] Tryz.f159) (al (CtrsOK.nil) _) mixed (fn:=Tryz.f159) Tryz.func159 (by kernel_rfl) (by kernel_rfl) (by kernel_rfl) (by kernel_rfl) (by kernel_rfl) (by kernel_rfl) (Λ:=fun _ _=>none) ?_ ?_
 ·exact fun _ _ _ _ _ _ _ _ h=>by cases h
 ·rintro ⟨x,p,⟨⟩⟩ hw hn
  exact Id x p
theorem Ah (x:Innings) (p:Int) :(evPat (ao [] Tryz.f204) (fun _=>none) Tryz.f204 fi ax (x,p,())).sat fun z_=>z_ =(ob (x,p,())).2:=by
 refine cast (by kernel_rfl) (?_ :(bif decide (p≥(1:Int)) then decide (p≤(↑x.11.length:Int)) else false,()) =(aC x p,()))
 grind [aC]
def ed:FuncId×Ctr:=(204,ae KE fi ax ob)
theorem jN:CtrOK Tryz.prog KE 204 (ae KE fi ax ob):=by
 refine aq (C:=ao [] Tryz.f204) (al (CtrsOK.nil) _) mixed (fn:=Tryz.f204) Tryz.func204 (by kernel_rfl) (by kernel_rfl) (by kernel_rfl) (by kernel_rfl) (by kernel_rfl) (by kernel_rfl) (Λ:=fun _ _=>none) ?_ ?_
 ·exact fun _ _ _ _ _ _ _ _ h=>by cases h
 ·rintro ⟨x,p,⟨⟩⟩ hw hn
  exact Ah x p
theorem CU (p:Int) (y:Innings) (hp:gl p) :(evPat (ao [jI] Tryz.f168) (fun _=>none) Tryz.f168 MW GV (p,yK y)).sat fun z_=>z_ =(PL (p,yK y)).2:=by
 refine cast (by kernel_rfl) (?_:let r1:Int:=IntKind.i64.wrap (p - (1:Int));((aC y p=true→((0:Int)≤r1∧r1 <(↑y.11.length:Int))∧True)∧(aC y p=false→True))∧(true=true→(y.1,y.2,y.3,y.4,IntKind.i64.wrap (y.5 +(1:Int)),y.6.1,y.6.2,y.6.3,y.6.4,y.6.5,y.7,y.8,y.9,y.10,y.12,y.15,y.17,y.18,y.19,y.20,y.22.1,y.22.2.1,y.23,bif aC y p then y.11.set r1.toNat (2:Int) else y.11,y.13,y.14,y.16,y.21,())=yK (fc (inn (yK y)) p)))
 intro r1
 clear_value (hr1:r1=_)
 have e1:aC y p=true→r1=p - 1:=fun h=>by
  rw [hr1]
  simp only [aC,Bool.and_eq_true,decide_eq_true_eq] at h
  exact fo h.1 hp
 refine ⟨⟨fun h=>⟨?_,trivial⟩,fun _=>trivial⟩,fun _=>?_⟩
 ·have:=e1 h
  simp only [aC,Bool.and_eq_true,decide_eq_true_eq] at h
  omega
 ·show _=yK (fc y p)
  cases h:aC y p with
  | true=>
   have e:fc y p={ cc y p 2 with Wickets:=W (y.Wickets+1) }:=by simp [fc,h,cc]
   rw [e,e1 h];rfl
  | false=>
   have e:fc y p={ y with Wickets:=W (y.Wickets+1) }:=by simp [fc,h]
   rw [e];rfl
def iT:FuncId×Ctr:=(168,ae KE MW GV PL)
theorem pj:CtrOK Tryz.prog KE 168 (ae KE MW GV PL):=by
 refine aq (C:=ao [jI] Tryz.f168) (al (.consU qg rfl .nil) _) mixed (fn:=Tryz.f168) Tryz.func168 (by kernel_rfl) (by kernel_rfl) (by kernel_rfl) (by kernel_rfl) (by kernel_rfl) (by kernel_rfl) (Λ:=fun _ _=>none) ?_ ?_
 ·exact fun _ _ _ _ _ _ _ _ h=>by cases h
 ·rintro ⟨p,z⟩ hw hn
  exact CU p (inn z) (dd (aY hw))
theorem EW (x:Innings) :(evPat (ao [tn] Tryz.f145) (fun _=>none) Tryz.f145 qIn ax (x,())).sat fun z_=>z_ =(od (x,())).2:=by
 refine cast (by kernel_rfl) (?_ :(bif ch x then bif x.9 ==(0:Int) then true else x.10 ==(0:Int) else false,()) =(b9 x,()))
 grind [b9]
def gS:FuncId×Ctr:=(145,ae KE qIn ax od)
theorem nU:CtrOK Tryz.prog KE 145 (ae KE qIn ax od):=by
 refine aq (C:=ao [tn] Tryz.f145) (al (.consU Cg rfl .nil) _) mixed (fn:=Tryz.f145) Tryz.func145 (by kernel_rfl) (by kernel_rfl) (by kernel_rfl) (by kernel_rfl) (by kernel_rfl) (by kernel_rfl) (Λ:=fun _ _=>none) ?_ ?_
 ·exact fun _ _ _ _ _ _ _ _ h=>by cases h
 ·rintro ⟨x,⟨⟩⟩ hw hn
  exact EW x
theorem M6 (x:Innings) (p:Int) (hp:gl p) :(evPat (ao [jI,gS] Tryz.f167) (fun _=>none) Tryz.f167 fi be (x,p,())).sat fun z_=>z_ =(rr (x,p,())).2:=by
 refine cast (by kernel_rfl) (?_:let r1:Int:=IntKind.i64.wrap (p - (1:Int));let r2:Int:=x.11.getD r1.toNat (dflt (Ty.int IntKind.u8));let r3:Bool:=r2 ==(2:Int);let r4:Bool:=bif !b9 x then true else r2 ==(1:Int);((!aC x p)=true→((3:Int),()) =(bq x p,()))∧((!aC x p)=false→(((!b9 x)=true→True)∧((!b9 x)=false→((0:Int)≤r1∧r1 <(↑x.11.length:Int))∧True))∧(true=true→(r4=true→((4:Int),()) =(bq x p,()))∧(r4=false→((0:Int)≤r1∧r1 <(↑x.11.length:Int))∧(r3=true→((5:Int),()) =(bq x p,()))∧(r3=false→((0:Int),()) =(bq x p,()))))))
 intro r1 r2 r3 r4
 clear_value (hr1:r1=_) (hr2:r2=_) (hr3:r3=_) (hr4:r4=_)
 cases h:aC x p with
 | false=>simp [bq,h]
 | true=>
  have k:1≤p∧p≤x.Batters.length:=by simpa [aC] using h
  have e1:r1=p - 1:=by rw [hr1];exact fo k.1 hp
  have e2:r2=FQ x p:=by rw [hr2,e1];rfl
  have b :(0:Int)≤r1∧r1 <(x.Batters.length:Int):=by omega
  refine ⟨(fun h=>by cases h),fun _=>⟨⟨fun _=>trivial,fun _=>⟨b,trivial⟩⟩,fun _=>⟨fun h4=>?_,fun h4=>⟨b,fun h3=>?_,fun h3=>?_⟩⟩⟩⟩ <;> grind [bq]
def F8:FuncId×Ctr:=(167,ae KE fi be rr)
theorem J6:CtrOK Tryz.prog KE 167 (ae KE fi be rr):=by
 refine aq (C:=ao [jI,gS] Tryz.f167) (al (.consU qg rfl (.consU nU rfl .nil)) _) mixed (fn:=Tryz.f167) Tryz.func167 (by kernel_rfl) (by kernel_rfl) (by kernel_rfl) (by kernel_rfl) (by kernel_rfl) (by kernel_rfl) (Λ:=fun _ _=>none) ?_ ?_
 ·exact fun _ _ _ _ _ _ _ _ h=>by cases h
 ·rintro ⟨x,p,⟨⟩⟩ hw hn
  exact M6 x p (dd (aY (aP hw)))
theorem M8 (x:Innings) (d:Delivery) (hs:aj x) :(evPat (ao [l4,iT] Tryz.f163) (fun _=>none) Tryz.f163 EN qIn (x,d,())).sat fun z_=>z_ =(IT (x,d,())).2:=by
 refine cast (by kernel_rfl) (?_:let r1:Bool:=d.3.tmod (2:Int) !=(0:Int);let r2:Bool:=bif d.8 ==(1:Int) then x.9 !=(0:Int) else false;let r3:Bool:=bif d.8 ==(2:Int) then x.10 !=(0:Int) else false;let r4:Bool:=bif d.6 then !r1 else r1;let r5:Int:=bif r4 then x.1 else x.1;let r6:Int:=bif r4 then x.2 else x.2;let r7:Int:=bif r4 then x.3 else x.3;let r8:Int:=bif r4 then x.4 else x.4;let r9:Int:=bif r4 then x.5 else x.5;let r10:Int:=bif r4 then x.7 else x.7;let r11:Int:=bif r4 then x.8 else x.8;let r12:Int:=bif r4 then x.10 else x.9;let r13:Int:=bif r4 then x.9 else x.10;let r14:Int:=bif r4 then x.12 else x.12;let r15:Bool:=bif r4 then x.15 else x.15;let r16:Bool:=bif r4 then x.17 else x.17;let r17:Int:=bif r4 then x.18 else x.18;let r18:Int:=bif r4 then x.19 else x.19;let r19:Int:=bif r4 then x.20 else x.20;let r20:Int:=bif r4 then x.23 else x.23;let r21:Int:=bif r4 then x.6.1 else x.6.1;let r22:Int:=bif r4 then x.6.2 else x.6.2;let r23:Int:=bif r4 then x.6.3 else x.6.3;let r24:Int:=bif r4 then x.6.4 else x.6.4;let r25:Int:=bif r4 then x.6.5 else x.6.5;let r26:Int:=bif r4 then x.22.1 else x.22.1;let r27:Int:=bif r4 then x.22.2.1 else x.22.2.1;let r28:Int:=bif d.7 !=(0:Int) then bif r2 then x.9 else bif r3 then x.10 else (0:Int) else (0:Int);let r29:Int:=bif d.7 !=(0:Int) then bif r2 then (1:Int) else bif r3 then (2:Int) else (0:Int) else (0:Int);let r30:Bool:=r29 ==(0:Int);let r31:Bool:=!(r29 ==(1:Int))==r4;let r32:Int:=bif r31 then r9 else r9;let r33:Innings:=inn (bif r31 then r5 else r5,bif r31 then r6 else r6,bif r31 then r7 else r7,bif r31 then r8 else r8,r32,bif r31 then r21 else r21,bif r31 then r22 else r22,bif r31 then r23 else r23,bif r31 then r24 else r24,bif r31 then r25 else r25,bif r31 then r10 else r10,bif r31 then r11 else r11,bif r31 then (0:Int) else r12,bif r31 then r13 else (0:Int),bif r31 then r14 else r14,bif r31 then r15 else r15,bif r31 then r16 else r16,bif r31 then r17 else r17,bif r31 then r18 else r18,bif r31 then r19 else r19,bif r31 then r26 else r26,bif r31 then r27 else r27,bif r31 then r20 else r20,x.11,x.13,x.14,x.16,x.21,());let r34:Bool:=aC r33 r28;let r35:Innings:=if r34=true then cc r33 r28 (2:Int) else r33;aj x∧(2:Int)≠(0:Int)∧(r30=true→(Innings.mk r5 r6 r7 r8 r9 (Extras.mk r21 r22 r23 r24 r25) r10 r11 r12 r13 x.11 r14 x.13 x.14 r15 x.16 r16 r17 r18 r19 x.21 (r26,r27,()) r20,()) =(aQ x d,()))∧(r30=false→(Innings.mk r35.1 r35.2 r35.3 r35.4 (W (r32 +(1:Int))) r35.6 r35.7 r35.8 r35.9 r35.10 r35.11 r35.12 r35.13 r35.14 r35.15 r35.16 r35.17 r35.18 r35.19 r35.20 r35.21 r35.22 r35.23,()) =(aQ x d,())))
 intro r1 r2 r3 r4 r5 r6 r7 r8 r9 r10 r11 r12 r13 r14 r15 r16 r17 r18 r19 r20 r21 r22 r23 r24 r25 r26 r27 r28 r29 r30 r31 r32 r33 r34 r35
 clear_value (hr1:r1=_) (hr2:r2=_) (hr3:r3=_) (hr4:r4=_) (hr5:r5=_) (hr6:r6=_) (hr7:r7=_) (hr8:r8=_) (hr9:r9=_) (hr10:r10=_) (hr11:r11=_) (hr12:r12=_) (hr13:r13=_) (hr14:r14=_) (hr15:r15=_) (hr16:r16=_) (hr17:r17=_) (hr18:r18=_) (hr19:r19=_) (hr20:r20=_) (hr21:r21=_) (hr22:r22=_) (hr23:r23=_) (hr24:r24=_) (hr25:r25=_) (hr26:r26=_) (hr27:r27=_) (hr28:r28=_) (hr29:r29=_) (hr30:r30=_) (hr31:r31=_) (hr32:r32=_) (hr33:r33=_) (hr34:r34=_) (hr35:r35=_)
 simp only [Bool.cond_self] at *
 have hs4:r4=eq d:=by rw [hr4,hr1];unfold eq;cases d.Crossed <;> cases (d.Runs.tmod 2 != 0) <;> rfl
 have ho:r29=fg x d:=by rw [hr29,hr2,hr3];grind [fg]
 have hp:r28=if fg x d==1 then x.Striker else if fg x d==2 then x.Other else 0:=by rw [hr28,hr2,hr3];grind [fg]
 have h012:fg x d=0∨fg x d=1∨fg x d=2:=by grind [fg]
 subst hs4
 clear hr1 hr2 hr3 hr4 hr28 hr29
 subst hr5 hr6 hr7 hr8 hr9 hr10 hr11 hr12 hr13 hr14 hr15 hr16 hr17 hr18 hr19 hr20 hr21 hr22 hr23 hr24 hr25 hr26 hr27 hr32
 refine ⟨hs,by decide,fun h=>?_,fun h=>?_⟩
 ·have h0:fg x d=0:=by grind
  simp only [aQ,h0,cG]
  cases eq d <;> rfl
 ·have h0:fg x d=1∨fg x d=2:=by grind
  have e33:r33=cB (cG x d) ((fg x d==1) != eq d):=by
   rw [hr33,hr31,ho]
   simp only [cG,cB]
   rcases h0 with h0|h0 <;> rw [h0] <;> cases eq d <;> rfl
  have e28:r28=if fg x d==1 then x.Striker else x.Other:=by rw [hp];rcases h0 with h0|h0 <;> rw [h0] <;> rfl
  have ew:r33.Wickets=x.Wickets:=by
   rw [e33];simp only [cG,cB];cases eq d <;> cases (fg x d==1) <;> rfl
  have e0 :(fg x d==0)=false:=by rcases h0 with h0|h0 <;> rw [h0] <;> rfl
  simp only [aQ,e0]
  rw [←e33,←e28]
  simp only [fc]
  rw [←hr34,←hr35]
  rw [ew]
  rfl
def Nx:FuncId×Ctr:=(163,ae KE EN qIn IT)
theorem Pw:CtrOK Tryz.prog KE 163 (ae KE EN qIn IT):=by
 refine aq (C:=ao [l4,iT] Tryz.f163) (al (.consU rh rfl (.consU pj rfl .nil)) _) mixed (fn:=Tryz.f163) Tryz.func163 (by kernel_rfl) (by kernel_rfl) (by kernel_rfl) (by kernel_rfl) (by kernel_rfl) (by kernel_rfl) (Λ:=fun _ _=>none) ?_ ?_
 ·exact fun _ _ _ _ _ _ _ _ h=>by cases h
 ·rintro ⟨x,d,⟨⟩⟩ hw hn
  exact M8 x d (hn _ List.mem_cons_self)
theorem EU (x:Innings) (hs:aj x) :(evPat (ao [l4] Tryz.f166) (fun _=>none) Tryz.f166 qIn qIn (x,())).sat fun z_=>z_ =(Ap (x,())).2:=by
 refine cast (by kernel_rfl) (?_:aj x∧(Innings.mk x.1 x.2 x.3 x.4 x.5 x.6 x.7 x.8 x.10 x.9 x.11 x.12 x.13 x.14 x.15 x.16 x.17 x.18 x.19 x.20 x.21 x.22 x.23,()) =(fU x,()))
 exact ⟨hs,rfl⟩
def BM:FuncId×Ctr:=(166,ae KE qIn qIn Ap)
theorem HN:CtrOK Tryz.prog KE 166 (ae KE qIn qIn Ap):=by
 refine aq (C:=ao [l4] Tryz.f166) (al (.consU rh rfl .nil) _) mixed (fn:=Tryz.f166) Tryz.func166 (by kernel_rfl) (by kernel_rfl) (by kernel_rfl) (by kernel_rfl) (by kernel_rfl) (by kernel_rfl) (Λ:=fun _ _=>none) ?_ ?_
 ·exact fun _ _ _ _ _ _ _ _ h=>by cases h
 ·rintro ⟨x,⟨⟩⟩ hw hn
  exact EU x (hn _ List.mem_cons_self)
theorem Ic (x:Innings) (p:Int) (hs:aj x) (hp:gl p) :(evPat (ao [l4,F8] Tryz.f135) (fun _=>none) Tryz.f135 fi q2L (x,p,())).sat fun z_=>z_ =(rt (x,p,())).2:=by
 refine cast (by kernel_rfl) (?_:let r1:Int:=IntKind.i64.wrap (p - (1:Int));aj x∧((bq x p !=(0:Int))=true→(x,bq x p,()) =(fW x p,bq x p,()))∧((bq x p !=(0:Int))=false→((0:Int)≤r1∧r1 <(↑x.11.length:Int))∧(Innings.mk (bif x.9 ==(0:Int) then x.1 else x.1) (bif x.9 ==(0:Int) then x.2 else x.2) (bif x.9 ==(0:Int) then x.3 else x.3) (bif x.9 ==(0:Int) then x.4 else x.4) (bif x.9 ==(0:Int) then x.5 else x.5) (Extras.mk (bif x.9 ==(0:Int) then x.6.1 else x.6.1) (bif x.9 ==(0:Int) then x.6.2 else x.6.2) (bif x.9 ==(0:Int) then x.6.3 else x.6.3) (bif x.9 ==(0:Int) then x.6.4 else x.6.4) (bif x.9 ==(0:Int) then x.6.5 else x.6.5)) (bif x.9 ==(0:Int) then x.7 else x.7) (bif x.9 ==(0:Int) then x.8 else x.8) (bif x.9 ==(0:Int) then p else x.9) (bif x.9 ==(0:Int) then x.10 else p) (x.11.set r1.toNat (1:Int)) (bif x.9 ==(0:Int) then x.12 else x.12) x.13 x.14 (bif x.9 ==(0:Int) then x.15 else x.15) x.16 (bif x.9 ==(0:Int) then x.17 else x.17) (bif x.9 ==(0:Int) then x.18 else x.18) (bif x.9 ==(0:Int) then x.19 else x.19) (bif x.9 ==(0:Int) then x.20 else x.20) x.21 (bif x.9 ==(0:Int) then x.22.1 else x.22.1,bif x.9 ==(0:Int) then x.22.2.1 else x.22.2.1,()) (bif x.9 ==(0:Int) then x.23 else x.23),(0:Int),()) =(fW x p,bq x p,())))
 intro r1
 clear_value (hr1:r1=_)
 refine ⟨hs,fun h=>?_,fun h=>?_⟩
 ·simp only [fW,h];rfl
 ·have h0:bq x p=0:=by simpa using h
  have k:aC x p=true:=by grind [bq]
  have k2:1≤p∧p≤x.Batters.length:=by simpa [aC] using k
  have e1:r1=p - 1:=by rw [hr1];exact fo k2.1 hp
  refine ⟨by omega,?_⟩
  rw [h0,e1]
  simp only [fW,h0]
  cases hb:x.Striker==0 <;> rfl
def F7:FuncId×Ctr:=(135,ae KE fi q2L rt)
theorem J5:CtrOK Tryz.prog KE 135 (ae KE fi q2L rt):=by
 refine aq (C:=ao [l4,F8] Tryz.f135) (al (.consU rh rfl (.consU J6 rfl .nil)) _) mixed (fn:=Tryz.f135) Tryz.func135 (by kernel_rfl) (by kernel_rfl) (by kernel_rfl) (by kernel_rfl) (by kernel_rfl) (by kernel_rfl) (Λ:=fun _ _=>none) ?_ ?_
 ·exact fun _ _ _ _ _ _ _ _ h=>by cases h
 ·rintro ⟨x,p,⟨⟩⟩ hw hn
  exact Ic x p (hn _ List.mem_cons_self) (dd (aY (aP hw)))
theorem CV (x:Innings) (p:Int) (hs:aj x) (hp:gl p) :(evPat (ao [l4,F8,iT] Tryz.f134) (fun _=>none) Tryz.f134 fi q2L (x,p,())).sat fun z_=>z_ =(yA (x,p,())).2:=by
 refine cast (by kernel_rfl) (?_:let r1:Innings:=inn (x.1,x.2,x.3,x.4,x.5,x.6.1,x.6.2,x.6.3,x.6.4,x.6.5,x.7,x.8,x.9,x.10,x.12,x.15,x.17,x.18,x.19,x.20,x.22.1,x.22.2.1,x.23,x.11,x.13,x.14,x.16,x.21,());let r2:Bool:=aC r1 p;let r3:Innings:=if r2=true then cc r1 p (2:Int) else r1;aj x∧((bq x p !=(0:Int))=true→(x,bq x p,()) =(ix x p,bq x p,()))∧((bq x p !=(0:Int))=false→(Innings.mk r3.1 r3.2 r3.3 r3.4 (W (x.5 +(1:Int))) r3.6 r3.7 r3.8 r3.9 r3.10 r3.11 r3.12 r3.13 r3.14 r3.15 r3.16 r3.17 r3.18 r3.19 r3.20 r3.21 r3.22 r3.23,(0:Int),()) =(ix x p,bq x p,())))
 intro r1 r2 r3
 clear_value (hr1:r1=_) (hr2:r2=_) (hr3:r3=_)
 refine ⟨hs,fun h=>?_,fun h=>?_⟩
 ·simp only [ix,h];rfl
 ·have h0:bq x p=0:=by simpa using h
  have k:aC x p=true:=by grind [bq]
  have e1:r1=x:=hr1
  have e2:r2=true:=by rw [hr2,e1];exact k
  have e3:r3=cc x p 2:=by rw [hr3,e2,e1];rfl
  rw [h0,e3]
  have e4:ix x p={ cc x p 2 with Wickets:=W (x.Wickets+1) }:=by simp [ix,h0,fc,k,cc]
  rw [e4]
def xE:FuncId×Ctr:=(134,ae KE fi q2L yA)
theorem Ej:CtrOK Tryz.prog KE 134 (ae KE fi q2L yA):=by
 refine aq (C:=ao [l4,F8,iT] Tryz.f134) (al (.consU rh rfl (.consU J6 rfl (.consU pj rfl .nil))) _) mixed (fn:=Tryz.f134) Tryz.func134 (by kernel_rfl) (by kernel_rfl) (by kernel_rfl) (by kernel_rfl) (by kernel_rfl) (by kernel_rfl) (Λ:=fun _ _=>none) ?_ ?_
 ·exact fun _ _ _ _ _ _ _ _ h=>by cases h
 ·rintro ⟨x,p,⟨⟩⟩ hw hn
  exact CV x p (hn _ List.mem_cons_self) (dd (aY (aP hw)))
theorem Ae (x:Innings) (hs:aj x) :(evFn (ao [k44] Tryz.f213) (fun _=>none) Tryz.f213 (bh psI (x,()))).sat fun v' rows=>leV v' (lN (x,())).v∧rows =(lN (x,())).rows:=by
 refine cast (by kernel_rfl) (?_:aj x∧(x.1=x.1∧x.2=x.2∧x.3=x.3∧x.4=x.4∧x.5=x.5∧x.6.1=x.6.1∧x.6.2=x.6.2∧x.6.3=x.6.3∧x.6.4=x.6.4∧x.6.5=x.6.5∧x.7=x.7∧x.8=x.8∧x.10=x.10∧x.9=x.9∧(nat_lit 0=nat_lit 0∧nat_lit 0=nat_lit 0)∧x.12=x.12∧(nat_lit 1=nat_lit 1∧nat_lit 1=nat_lit 1)∧(nat_lit 2=nat_lit 2∧nat_lit 2=nat_lit 2)∧x.15=x.15∧(nat_lit 3=nat_lit 3∧nat_lit 3=nat_lit 3)∧x.17=x.17∧x.18=x.18∧x.19=x.19∧x.20=x.20∧(nat_lit 4=nat_lit 4∧nat_lit 4=nat_lit 4)∧x.22.1=x.22.1∧x.22.2.1=x.22.2.1∧x.23=x.23∧True)∧ [RowD.mk (Ty.int IntKind.u8) x.11,RowD.mk (Ty.int IntKind.i64) x.13,RowD.mk (Ty.int IntKind.i64) x.14,RowD.mk (Ty.int IntKind.i64) x.16,RowD.mk Ty.bool x.21]=[RowD.mk (Ty.int IntKind.u8) x.11,RowD.mk (Ty.int IntKind.i64) x.13,RowD.mk (Ty.int IntKind.i64) x.14,RowD.mk (Ty.int IntKind.i64) x.16,RowD.mk Ty.bool x.21])
 exact ⟨hs,by simp [fU],rfl⟩
theorem sm:CtrOK Tryz.prog KE 213 (ap KE psI lN):=by
 refine aJ (C:=ao [k44] Tryz.f213) (al (.consU rg rfl .nil) _) mixed (fn:=Tryz.f213) Tryz.func213 (by kernel_rfl) (by kernel_rfl) (by kernel_rfl) (Λ:=fun _ _=>none) ?_ ?_ ?_
 ·exact fun _ _ _ _ _ _ _ _ h=>by cases h
 ·rintro ⟨x,⟨⟩⟩
  exact of_decide_eq_true (by kernel_rfl)
 ·rintro ⟨x,⟨⟩⟩ hw hn
  exact Ae x (hn _ List.mem_cons_self)
noncomputable def lpLB12:Lp:=(⟨0,ao [] Tryz.f176,(fun _=>none),(aA Tryz.f176 0),QZ,R2⟩:Lp)
theorem Lz (n:Int) (i:Int) (xs:List Int) (hi:nD (n,i,xs,())) :(Go.Mir.stepG lpLB12 ez (fun y:Den (tyP lpLB12.q)=>nD y∧rc y<rc (n,i,xs,())) (n,i,xs,())∧Go.Mir.stepE lpLB12 ez (n,i,xs,())=ez (n,i,xs,())):=by
 refine cast (by kernel_rfl) (?_:let r1:Bool:=xs.getD i.toNat (dflt (Ty.int IntKind.u8)) !=(0:Int);((decide (i<n)=true→((0:Int)≤i∧i <(↑xs.length:Int))∧(r1=true→True)∧(r1=false→nD (n,IntKind.i64.wrap (i +(1:Int)),xs,())∧rc (n,IntKind.i64.wrap (i +(1:Int)),xs,())<rc (n,i,xs,())))∧(decide (i<n)=false→True))∧(bif decide (i<n) then bif r1 then Sum.inl (true,()) else ez (n,IntKind.i64.wrap (i +(1:Int)),xs,()) else Sum.inr ())=ez (n,i,xs,()))
 intro r1
 clear_value (hr1:r1=_)
 obtain ⟨h1,h2,h3,h4⟩:=hi
 simp only at h1 h2 h3 h4
 have h5 :(xs.length:Int)≤140737488355328:=by have:xs.length≤140737488355328:=h4;omega
 refine ⟨⟨fun h=>?_,fun _=>trivial⟩,?_⟩
 ·have h:i<n:=of_decide_eq_true h
  rw [bi (n:=i+1) (by omega) (by omega)]
  refine ⟨⟨h2,by omega⟩,fun _=>trivial,fun _=>⟨⟨h1,by simp only;omega,by simp only;omega,h4⟩,by simp only [rc];omega⟩⟩
 ·by_cases h:i<n
  ·rw [decide_eq_true h,cond_true,bi (n:=i+1) (by omega) (by omega)]
   have e:xs.drop i.toNat=xs.getD i.toNat (dflt (Ty.int IntKind.u8))::xs.drop (i+1).toNat:=b7 h2 (by omega) _
   rw [hr1]
   generalize xs.getD i.toNat (dflt (Ty.int IntKind.u8))=v at e ⊢
   simp only [ez,e,dH,List.any_cons]
   show _=I9 (cH v||_)
   change (bif cH v then _ else _)=_
   cases cH v <;> rfl
  ·rw [decide_eq_false h,cond_false]
   simp only [ez]
   rw [bK (l:=xs) (by omega)]
   rfl
noncomputable def Hc:LoopSum:=aI lpLB12 ez nD
noncomputable def G8:Nat:=rid (aA Tryz.f176 0)
theorem JV:LoopOKp Tryz.prog 0 Tryz.f176.ntmps (aA Tryz.f176 0) (aI lpLB12 ez nD):=
 bj lpLB12 (al (CtrsOK.nil) _) mixed (fun b hb S hS=>by cases hS) ez nD rc (fun |⟨n,i,xs,⟨⟩⟩,hi=>Lz n i xs hi)
theorem Dd (x:Innings) (hx:x.Batters.length≤aS) :(evPat (ao [] Tryz.f176) (find [(G8,Hc)]) Tryz.f176 qIn ax (x,())).sat fun z_=>z_ =(lK (x,())).2:=by
 refine cast (by kernel_rfl) (?_:let r1:Bool:=isL (ez ((↑x.11.length:Int),(0:Int),x.11,()));((cR fun x=>none)∧(↑x.11.length:Int) =(↑x.11.length:Int)∧(0:Int)≤(0:Int)∧(0:Int)≤(↑x.11.length:Int)∧x.11.length≤aS)∧(r1=true→ij (dflt (Ty.bool.prod Ty.unit)) (ez ((↑x.11.length:Int),(0:Int),x.11,())) =(ch x,()))∧(r1=false→(false,()) =(ch x,())))
 intro r1
 clear_value (hr1:r1=_)
 have e:ez ((x.Batters.length:Int),0,x.Batters,())=I9 (ch x):=rfl
 try subst hr1
 rw [e]
 refine ⟨⟨rfl,rfl,Int.le_refl _,by omega,hx⟩,fun h=>?_,fun h=>?_⟩ <;> cases hf:ch x <;> rw [hf] at h <;> first|rfl|cases h
def fH:FuncId×Ctr:=(176,ae KE qIn ax lK)
theorem lu:CtrOK Tryz.prog KE 176 (ae KE qIn ax lK):=by
 refine aq (C:=ao [] Tryz.f176) (al (CtrsOK.nil) _) mixed (fn:=Tryz.f176) Tryz.func176 (by kernel_rfl) (by kernel_rfl) (by kernel_rfl) (by kernel_rfl) (by kernel_rfl) (by kernel_rfl) (Λ:=fun x=>find [(G8,Hc)]) ?_ ?_
 ·rintro ⟨x,⟨⟩⟩ hw hn
  exact LoopsOKp.at (by kernel_rfl) (.cons (by kernel_rfl) (JV) .nil)
 ·rintro ⟨x,⟨⟩⟩ hw hn
  exact Dd x (Nq (aY hw))
theorem Ag (x:Innings) :(evPat (ao [fH] Tryz.f197) (fun _=>none) Tryz.f197 qIn ax (x,())).sat fun z_=>z_ =(od (x,())).2:=by
 refine cast (by kernel_rfl) (?_ :(bif ch x then bif x.9 ==(0:Int) then true else x.10 ==(0:Int) else false,()) =(b9 x,()))
 grind [b9]
def gv:FuncId×Ctr:=(197,ae KE qIn ax od)
theorem mR:CtrOK Tryz.prog KE 197 (ae KE qIn ax od):=by
 refine aq (C:=ao [fH] Tryz.f197) (al (.consU lu rfl .nil) _) mixed (fn:=Tryz.f197) Tryz.func197 (by kernel_rfl) (by kernel_rfl) (by kernel_rfl) (by kernel_rfl) (by kernel_rfl) (by kernel_rfl) (Λ:=fun _ _=>none) ?_ ?_
 ·exact fun _ _ _ _ _ _ _ _ h=>by cases h
 ·rintro ⟨x,⟨⟩⟩ hw hn
  exact Ag x
theorem Df (x:Innings) (p:Int) (hp:gl p) :(evPat (ao [ed,gv] Tryz.f215) (fun _=>none) Tryz.f215 fi be (x,p,())).sat fun z_=>z_ =(rr (x,p,())).2:=by
 refine cast (by kernel_rfl) (?_:let r1:Int:=IntKind.i64.wrap (p - (1:Int));let r2:Int:=x.11.getD r1.toNat (dflt (Ty.int IntKind.u8));let r3:Bool:=r2 ==(2:Int);let r4:Bool:=bif !b9 x then true else r2 ==(1:Int);((!aC x p)=true→((3:Int),()) =(bq x p,()))∧((!aC x p)=false→(((!b9 x)=true→True)∧((!b9 x)=false→((0:Int)≤r1∧r1 <(↑x.11.length:Int))∧True))∧(true=true→(r4=true→((4:Int),()) =(bq x p,()))∧(r4=false→((0:Int)≤r1∧r1 <(↑x.11.length:Int))∧(r3=true→((5:Int),()) =(bq x p,()))∧(r3=false→((0:Int),()) =(bq x p,()))))))
 intro r1 r2 r3 r4
 clear_value (hr1:r1=_) (hr2:r2=_) (hr3:r3=_) (hr4:r4=_)
 cases h:aC x p with
 | false=>simp [bq,h]
 | true=>
  have k:1≤p∧p≤x.Batters.length:=by simpa [aC] using h
  have e1:r1=p - 1:=by rw [hr1];exact fo k.1 hp
  have e2:r2=FQ x p:=by rw [hr2,e1];rfl
  have b :(0:Int)≤r1∧r1 <(x.Batters.length:Int):=by omega
  refine ⟨(fun h=>by cases h),fun _=>⟨⟨fun _=>trivial,fun _=>⟨b,trivial⟩⟩,fun _=>⟨fun h4=>?_,fun h4=>⟨b,fun h3=>?_,fun h3=>?_⟩⟩⟩⟩ <;> grind [bq]
def nI:FuncId×Ctr:=(215,ae KE fi be rr)
theorem vi:CtrOK Tryz.prog KE 215 (ae KE fi be rr):=by
 refine aq (C:=ao [ed,gv] Tryz.f215) (al (.consU jN rfl (.consU mR rfl .nil)) _) mixed (fn:=Tryz.f215) Tryz.func215 (by kernel_rfl) (by kernel_rfl) (by kernel_rfl) (by kernel_rfl) (by kernel_rfl) (by kernel_rfl) (Λ:=fun _ _=>none) ?_ ?_
 ·exact fun _ _ _ _ _ _ _ _ h=>by cases h
 ·rintro ⟨x,p,⟨⟩⟩ hw hn
  exact Df x p (dd (aY (aP hw)))
theorem De (x:Innings) (p:Int) (hs:aj x) (hp:gl p) :(evPat (ao [k44,nI] Tryz.f189) (fun _=>none) Tryz.f189 fi q2L (x,p,())).sat fun z_=>z_ =(rt (x,p,())).2:=by
 refine cast (by kernel_rfl) (?_:let r1:Int:=IntKind.i64.wrap (p - (1:Int));aj x∧((bq x p !=(0:Int))=true→(x,bq x p,()) =(fW x p,bq x p,()))∧((bq x p !=(0:Int))=false→((0:Int)≤r1∧r1 <(↑x.11.length:Int))∧(Innings.mk (bif x.9 ==(0:Int) then x.1 else x.1) (bif x.9 ==(0:Int) then x.2 else x.2) (bif x.9 ==(0:Int) then x.3 else x.3) (bif x.9 ==(0:Int) then x.4 else x.4) (bif x.9 ==(0:Int) then x.5 else x.5) (Extras.mk (bif x.9 ==(0:Int) then x.6.1 else x.6.1) (bif x.9 ==(0:Int) then x.6.2 else x.6.2) (bif x.9 ==(0:Int) then x.6.3 else x.6.3) (bif x.9 ==(0:Int) then x.6.4 else x.6.4) (bif x.9 ==(0:Int) then x.6.5 else x.6.5)) (bif x.9 ==(0:Int) then x.7 else x.7) (bif x.9 ==(0:Int) then x.8 else x.8) (bif x.9 ==(0:Int) then p else x.9) (bif x.9 ==(0:Int) then x.10 else p) (x.11.set r1.toNat (1:Int)) (bif x.9 ==(0:Int) then x.12 else x.12) x.13 x.14 (bif x.9 ==(0:Int) then x.15 else x.15) x.16 (bif x.9 ==(0:Int) then x.17 else x.17) (bif x.9 ==(0:Int) then x.18 else x.18) (bif x.9 ==(0:Int) then x.19 else x.19) (bif x.9 ==(0:Int) then x.20 else x.20) x.21 (bif x.9 ==(0:Int) then x.22.1 else x.22.1,bif x.9 ==(0:Int) then x.22.2.1 else x.22.2.1,()) (bif x.9 ==(0:Int) then x.23 else x.23),(0:Int),()) =(fW x p,bq x p,())))
 intro r1
 clear_value (hr1:r1=_)
 refine ⟨hs,fun h=>?_,fun h=>?_⟩
 ·simp only [fW,h];rfl
 ·have h0:bq x p=0:=by simpa using h
  have k:aC x p=true:=by grind [bq]
  have k2:1≤p∧p≤x.Batters.length:=by simpa [aC] using k
  have e1:r1=p - 1:=by rw [hr1];exact fo k2.1 hp
  refine ⟨by omega,?_⟩
  rw [h0,e1]
  simp only [fW,h0]
  cases hb:x.Striker==0 <;> rfl
def xQ:FuncId×Ctr:=(189,ae KE fi q2L rt)
theorem Ey:CtrOK Tryz.prog KE 189 (ae KE fi q2L rt):=by
 refine aq (C:=ao [k44,nI] Tryz.f189) (al (.consU rg rfl (.consU vi rfl .nil)) _) mixed (fn:=Tryz.f189) Tryz.func189 (by kernel_rfl) (by kernel_rfl) (by kernel_rfl) (by kernel_rfl) (by kernel_rfl) (by kernel_rfl) (Λ:=fun _ _=>none) ?_ ?_
 ·exact fun _ _ _ _ _ _ _ _ h=>by cases h
 ·rintro ⟨x,p,⟨⟩⟩ hw hn
  exact De x p (hn _ List.mem_cons_self) (dd (aY (aP hw)))
theorem wX (x:Innings) (p:Int) (hs:aj x) (hp:gl p) :(evPat (ao [k44,nI] Tryz.f188) (fun _=>none) Tryz.f188 fi q2L (x,p,())).sat fun z_=>z_ =(yA (x,p,())).2:=by
 refine cast (by kernel_rfl) (?_:let r1:Int:=IntKind.i64.wrap (p - (1:Int));aj x∧((bq x p !=(0:Int))=true→(x,bq x p,()) =(ix x p,bq x p,()))∧((bq x p !=(0:Int))=false→((0:Int)≤r1∧r1 <(↑x.11.length:Int))∧(Innings.mk x.1 x.2 x.3 x.4 (IntKind.i64.wrap (x.5 +(1:Int))) x.6 x.7 x.8 x.9 x.10 (x.11.set r1.toNat (2:Int)) x.12 x.13 x.14 x.15 x.16 x.17 x.18 x.19 x.20 x.21 x.22 x.23,(0:Int),()) =(ix x p,bq x p,())))
 intro r1
 clear_value (hr1:r1=_)
 refine ⟨hs,fun h=>?_,fun h=>?_⟩
 ·simp only [ix,h];rfl
 ·have h0:bq x p=0:=by simpa using h
  have k:aC x p=true:=by grind [bq]
  have k2:1≤p∧p≤x.Batters.length:=by simpa [aC] using k
  have e1:r1=p - 1:=by rw [hr1];exact fo k2.1 hp
  have e4:ix x p={ cc x p 2 with Wickets:=W (x.Wickets+1) }:=by simp [ix,h0,fc,k,cc]
  refine ⟨by omega,?_⟩
  rw [h0,e1,e4];rfl
def se:FuncId×Ctr:=(188,ae KE fi q2L yA)
theorem zP:CtrOK Tryz.prog KE 188 (ae KE fi q2L yA):=by
 refine aq (C:=ao [k44,nI] Tryz.f188) (al (.consU rg rfl (.consU vi rfl .nil)) _) mixed (fn:=Tryz.f188) Tryz.func188 (by kernel_rfl) (by kernel_rfl) (by kernel_rfl) (by kernel_rfl) (by kernel_rfl) (by kernel_rfl) (Λ:=fun _ _=>none) ?_ ?_
 ·exact fun _ _ _ _ _ _ _ _ h=>by cases h
 ·rintro ⟨x,p,⟨⟩⟩ hw hn
  exact wX x p (hn _ List.mem_cons_self) (dd (aY (aP hw)))
theorem E8 (x:Innings) (s:Int) (o:Int) (hs:aj x) (h1:gl s) (h2:gl o) :(evPat (ao [k44,fH,ed] Tryz.f185) (fun _=>none) Tryz.f185 vE q2L (x,s,o,())).sat fun z_=>z_ =(yw (x,s,o,())).2:=by
 refine cast (by kernel_rfl) (?_:let r1:Int:=IntKind.i64.wrap (s - (1:Int));let r2:Int:=IntKind.i64.wrap (o - (1:Int));let r3:List Int:=x.11.set r1.toNat (1:Int);aj x∧(ch x=true→(x,(1:Int),()) =(eI x s o,fL x s o,()))∧(ch x=false→((bif !aC x s then true else !aC x o)=true→(x,(3:Int),()) =(eI x s o,fL x s o,()))∧((bif !aC x s then true else !aC x o)=false→((s==o)=true→(x,(4:Int),()) =(eI x s o,fL x s o,()))∧((s==o)=false→((0:Int)≤r1∧r1 <(↑x.11.length:Int))∧((0:Int)≤r2∧r2 <(↑r3.length:Int))∧(Innings.mk x.1 x.2 x.3 x.4 x.5 x.6 x.7 x.8 s o (r3.set r2.toNat (1:Int)) x.12 x.13 x.14 x.15 x.16 x.17 x.18 x.19 x.20 x.21 x.22 x.23,(0:Int),()) =(eI x s o,fL x s o,())))))
 intro r1 r2 r3
 clear_value (hr1:r1=_) (hr2:r2=_) (hr3:r3=_)
 refine ⟨hs,fun hb=>?_,fun hb=>⟨fun hk=>?_,fun hk=>⟨fun he=>?_,fun he=>?_⟩⟩⟩
 ·simp [eI,fL,hb]
 ·have hk :(!aC x s||!aC x o)=true:=by grind
  simp only [eI,fL,hb,hk];rfl
 ·have hk :(!aC x s||!aC x o)=false:=by grind
  simp only [eI,fL,hb,hk,he];rfl
 ·have hk2 :(!aC x s||!aC x o)=false:=by grind
  have k1:1≤s∧s≤x.Batters.length:=by
   have:aC x s=true:=by grind
   simpa [aC] using this
  have k2:1≤o∧o≤x.Batters.length:=by
   have:aC x o=true:=by grind
   simpa [aC] using this
  have e1:r1=s - 1:=by rw [hr1];exact fo k1.1 h1
  have e2:r2=o - 1:=by rw [hr2];exact fo k2.1 h2
  have e3:r3 =(cc x s 1).Batters:=by rw [hr3,e1];rfl
  have e4:r3.length=x.Batters.length:=by rw [e3];simp [cc]
  refine ⟨by omega,by omega,?_⟩
  rw [e3,e2]
  simp only [eI,fL,hb,hk2,he];rfl
def BT:FuncId×Ctr:=(185,ae KE vE q2L yw)
theorem HT:CtrOK Tryz.prog KE 185 (ae KE vE q2L yw):=by
 refine aq (C:=ao [k44,fH,ed] Tryz.f185) (al (.consU rg rfl (.consU lu rfl (.consU jN rfl .nil))) _) mixed (fn:=Tryz.f185) Tryz.func185 (by kernel_rfl) (by kernel_rfl) (by kernel_rfl) (by kernel_rfl) (by kernel_rfl) (by kernel_rfl) (Λ:=fun _ _=>none) ?_ ?_
 ·exact fun _ _ _ _ _ _ _ _ h=>by cases h
 ·rintro ⟨x,s,o,⟨⟩⟩ hw hn
  exact E8 x s o (hn _ List.mem_cons_self) (dd (aY (aP hw))) (dd (aY (aP (aP hw))))
theorem KR (x:Innings) (s:Int) (o:Int) (hs:aj x) (h1:gl s) (h2:gl o) :(evPat (ao [l4,tn,jI] Tryz.f131) (fun _=>none) Tryz.f131 vE q2L (x,s,o,())).sat fun z_=>z_ =(yw (x,s,o,())).2:=by
 refine cast (by kernel_rfl) (?_:let r1:Int:=IntKind.i64.wrap (s - (1:Int));let r2:Int:=IntKind.i64.wrap (o - (1:Int));let r3:List Int:=x.11.set r1.toNat (1:Int);aj x∧(ch x=true→(x,(1:Int),()) =(eI x s o,fL x s o,()))∧(ch x=false→((bif !aC x s then true else !aC x o)=true→(x,(3:Int),()) =(eI x s o,fL x s o,()))∧((bif !aC x s then true else !aC x o)=false→((s==o)=true→(x,(4:Int),()) =(eI x s o,fL x s o,()))∧((s==o)=false→((0:Int)≤r1∧r1 <(↑x.11.length:Int))∧((0:Int)≤r2∧r2 <(↑r3.length:Int))∧(Innings.mk x.1 x.2 x.3 x.4 x.5 x.6 x.7 x.8 s o (r3.set r2.toNat (1:Int)) x.12 x.13 x.14 x.15 x.16 x.17 x.18 x.19 x.20 x.21 x.22 x.23,(0:Int),()) =(eI x s o,fL x s o,())))))
 intro r1 r2 r3
 clear_value (hr1:r1=_) (hr2:r2=_) (hr3:r3=_)
 refine ⟨hs,fun hb=>?_,fun hb=>⟨fun hk=>?_,fun hk=>⟨fun he=>?_,fun he=>?_⟩⟩⟩
 ·simp [eI,fL,hb]
 ·have hk :(!aC x s||!aC x o)=true:=by grind
  simp only [eI,fL,hb,hk];rfl
 ·have hk :(!aC x s||!aC x o)=false:=by grind
  simp only [eI,fL,hb,hk,he];rfl
 ·have hk2 :(!aC x s||!aC x o)=false:=by grind
  have k1:1≤s∧s≤x.Batters.length:=by
   have:aC x s=true:=by grind
   simpa [aC] using this
  have k2:1≤o∧o≤x.Batters.length:=by
   have:aC x o=true:=by grind
   simpa [aC] using this
  have e1:r1=s - 1:=by rw [hr1];exact fo k1.1 h1
  have e2:r2=o - 1:=by rw [hr2];exact fo k2.1 h2
  have e3:r3 =(cc x s 1).Batters:=by rw [hr3,e1];rfl
  have e4:r3.length=x.Batters.length:=by rw [e3];simp [cc]
  refine ⟨by omega,by omega,?_⟩
  rw [e3,e2]
  simp only [eI,fL,hb,hk2,he];rfl
def JG:FuncId×Ctr:=(131,ae KE vE q2L yw)
theorem Mx:CtrOK Tryz.prog KE 131 (ae KE vE q2L yw):=by
 refine aq (C:=ao [l4,tn,jI] Tryz.f131) (al (.consU rh rfl (.consU Cg rfl (.consU qg rfl .nil))) _) mixed (fn:=Tryz.f131) Tryz.func131 (by kernel_rfl) (by kernel_rfl) (by kernel_rfl) (by kernel_rfl) (by kernel_rfl) (by kernel_rfl) (Λ:=fun _ _=>none) ?_ ?_
 ·exact fun _ _ _ _ _ _ _ _ h=>by cases h
 ·rintro ⟨x,s,o,⟨⟩⟩ hw hn
  exact KR x s o (hn _ List.mem_cons_self) (dd (aY (aP hw))) (dd (aY (aP (aP hw))))
theorem rN (x:Innings) (d:Delivery) (b:Bool) (p:Int):fc (cB (cG x d) b) p={ cB (cG x d) b with Batters:=(bif aC x p then x.Batters.set (p - 1).toNat 2 else x.Batters),Wickets:=W (x.Wickets+1) }:=by
 have e :(cB (cG x d) b).Batters=x.Batters∧(cB (cG x d) b).Wickets=x.Wickets:=by
  simp only [cB,cG];cases b <;> cases eq d <;> exact ⟨rfl,rfl⟩
 have k:aC (cB (cG x d) b) p=aC x p:=by unfold aC;rw [e.1]
 unfold fc
 rw [k]
 cases h:aC x p with
 | true=>simp [cc,e.1,e.2]
 | false=>simp [←e.1,e.2]
theorem IC (x:Innings) (d:Delivery) (hs:aj x) :(evPat (ao [k44,lj,ed] Tryz.f211) (fun _=>none) Tryz.f211 EN qIn (x,d,())).sat fun z_=>z_ =(IT (x,d,())).2:=by
 refine cast (by kernel_rfl) (?_:let r1:Bool:=!(d.3.tmod (2:Int) !=(0:Int))==d.6;let r2:Bool:=bif d.7 ==(0:Int) then true else bif d.8 ==(1:Int) then true else !d.8 ==(2:Int);let r3:Bool:=!r2;let r4:Int:=bif r2 then x.1 else x.1;let r5:Int:=bif r2 then x.2 else x.2;let r6:Int:=bif r2 then x.3 else x.3;let r7:Int:=bif r2 then x.4 else x.4;let r8:Int:=bif r2 then x.5 else x.5;let r9:Int:=bif r2 then x.7 else x.7;let r10:Int:=bif r2 then x.8 else x.8;let r11:Int:=bif r2 then x.12 else x.12;let r12:Bool:=bif r2 then x.15 else x.15;let r13:Bool:=bif r2 then x.17 else x.17;let r14:Int:=bif r2 then x.18 else x.18;let r15:Int:=bif r2 then x.19 else x.19;let r16:Int:=bif r2 then x.20 else x.20;let r17:Int:=bif r2 then x.23 else x.23;let r18:Int:=bif r3 then x.1 else x.1;let r19:Int:=bif r3 then x.2 else x.2;let r20:Int:=bif r3 then x.3 else x.3;let r21:Int:=bif r3 then x.4 else x.4;let r22:Int:=bif r3 then x.5 else x.5;let r23:Int:=bif r3 then x.7 else x.7;let r24:Int:=bif r3 then x.8 else x.8;let r25:Int:=bif r3 then x.12 else x.12;let r26:Bool:=bif r3 then x.15 else x.15;let r27:Bool:=bif r3 then x.17 else x.17;let r28:Int:=bif r3 then x.18 else x.18;let r29:Int:=bif r3 then x.19 else x.19;let r30:Int:=bif r3 then x.20 else x.20;let r31:Int:=bif r3 then x.23 else x.23;let r32:Int:=bif r2 then (0:Int) else x.9;let r33:Int:=bif r2 then x.10 else (0:Int);let r34:Int:=bif r3 then (0:Int) else x.10;let r35:Int:=bif r3 then x.9 else (0:Int);let r36:Int:=bif d.7 ==(0:Int) then (0:Int) else bif d.8 ==(1:Int) then x.9 else bif d.8 ==(2:Int) then x.10 else (0:Int);let r37:Bool:=r36 ==(0:Int);let r38:Int:=IntKind.i64.wrap (r36 - (1:Int));let r39:List Int:=x.11.set r38.toNat (2:Int);let r40:Extras:=Extras.mk (bif r2 then x.6.1 else x.6.1) (bif r2 then x.6.2 else x.6.2) (bif r2 then x.6.3 else x.6.3) (bif r2 then x.6.4 else x.6.4) (bif r2 then x.6.5 else x.6.5);let r41:Extras:=Extras.mk (bif r3 then x.6.1 else x.6.1) (bif r3 then x.6.2 else x.6.2) (bif r3 then x.6.3 else x.6.3) (bif r3 then x.6.4 else x.6.4) (bif r3 then x.6.5 else x.6.5);let r42:Bool:=aC (Innings.mk r4 r5 r6 r7 r8 r40 r9 r10 r32 r33 x.11 r11 x.13 x.14 r12 x.16 r13 r14 r15 r16 x.21 (bif r2 then x.22.1 else x.22.1,bif r2 then x.22.2.1 else x.22.2.1,()) r17) r36;let r43:Bool:=aC (Innings.mk r18 r19 r20 r21 r22 r41 r23 r24 r34 r35 x.11 r25 x.13 x.14 r26 x.16 r27 r28 r29 r30 x.21 (bif r3 then x.22.1 else x.22.1,bif r3 then x.22.2.1 else x.22.2.1,()) r31) r36;aj x∧(2:Int)≠(0:Int)∧(r1=true→aj x∧(r37=true→(Innings.mk x.1 x.2 x.3 x.4 x.5 x.6 x.7 x.8 x.10 x.9 x.11 x.12 x.13 x.14 x.15 x.16 x.17 x.18 x.19 x.20 x.21 x.22 x.23,()) =(aQ x d,()))∧(r37=false→((r43=true→((0:Int)≤r38∧r38 <(↑x.11.length:Int))∧True)∧(r43=false→True))∧(true=true→(Innings.mk r18 r19 r20 r21 (IntKind.i64.wrap (r22 +(1:Int))) r41 r23 r24 r34 r35 (bif r43 then r39 else x.11) r25 x.13 x.14 r26 x.16 r27 r28 r29 r30 x.21 (bif r3 then x.22.1 else x.22.1,bif r3 then x.22.2.1 else x.22.2.1,()) r31,()) =(aQ x d,()))))∧(r1=false→(r37=true→(x,()) =(aQ x d,()))∧(r37=false→((r42=true→((0:Int)≤r38∧r38 <(↑x.11.length:Int))∧True)∧(r42=false→True))∧(true=true→(Innings.mk r4 r5 r6 r7 (IntKind.i64.wrap (r8 +(1:Int))) r40 r9 r10 r32 r33 (bif r42 then r39 else x.11) r11 x.13 x.14 r12 x.16 r13 r14 r15 r16 x.21 (bif r2 then x.22.1 else x.22.1,bif r2 then x.22.2.1 else x.22.2.1,()) r17,()) =(aQ x d,())))))
 intro r1 r2 r3 r4 r5 r6 r7 r8 r9 r10 r11 r12 r13 r14 r15 r16 r17 r18 r19 r20 r21 r22 r23 r24 r25 r26 r27 r28 r29 r30 r31 r32 r33 r34 r35 r36 r37 r38 r39 r40 r41 r42 r43
 clear_value (hr1:r1=_) (hr2:r2=_) (hr3:r3=_) (hr4:r4=_) (hr5:r5=_) (hr6:r6=_) (hr7:r7=_) (hr8:r8=_) (hr9:r9=_) (hr10:r10=_) (hr11:r11=_) (hr12:r12=_) (hr13:r13=_) (hr14:r14=_) (hr15:r15=_) (hr16:r16=_) (hr17:r17=_) (hr18:r18=_) (hr19:r19=_) (hr20:r20=_) (hr21:r21=_) (hr22:r22=_) (hr23:r23=_) (hr24:r24=_) (hr25:r25=_) (hr26:r26=_) (hr27:r27=_) (hr28:r28=_) (hr29:r29=_) (hr30:r30=_) (hr31:r31=_) (hr32:r32=_) (hr33:r33=_) (hr34:r34=_) (hr35:r35=_) (hr36:r36=_) (hr37:r37=_) (hr38:r38=_) (hr39:r39=_) (hr40:r40=_) (hr41:r41=_) (hr42:r42=_) (hr43:r43=_)
 simp only [Bool.cond_self] at *
 have hs4:r1=eq d:=hr1
 subst hs4
 have k43:r43=aC x r36:=by rw [hr43];rfl
 have k42:r42=aC x r36:=by rw [hr42];rfl
 have ho:r37 =(fg x d==0):=by rw [hr37,hr36];grind [fg]
 have hp:r37=false→r36 =(if fg x d==1 then x.Striker else x.Other)∧r2 =(fg x d==1):=fun h=>by
  have h0 :¬ r36=0:=by grind
  rw [hr36] at h0 ⊢
  rw [hr2]
  grind [fg]
 have hb:r37=false→aC x r36=true→(0:Int)≤r38∧r38 <(x.Batters.length:Int)∧r38=r36 - 1:=fun h hk=>by
  have k2:1≤r36∧r36≤x.Batters.length:=by simpa [aC] using hk
  have e1:r38=r36 - 1:=by
   rw [hr38]
   have:=hs.1
   exact de (by omega) (by omega)
  omega
 have hB:r37=false→(bif aC x r36 then r39 else x.Batters) =(bif aC x r36 then x.Batters.set (r36 - 1).toNat 2 else x.Batters):=fun h=>by
  cases hk:aC x r36 with
  | false=>rfl
  | true=>rw [hr39,(hb h hk).2.2]
 subst hr4 hr5 hr6 hr7 hr8 hr9 hr10 hr11 hr12 hr13 hr14 hr15 hr16 hr17 hr18 hr19 hr20 hr21 hr22 hr23 hr24 hr25 hr26 hr27 hr28 hr29 hr30 hr31
 refine ⟨hs,by decide,fun h1=>⟨hs,fun h=>?_,fun h=>⟨⟨fun hk=>?_,fun _=>trivial⟩,fun _=>?_⟩⟩,fun h1=>⟨fun h=>?_,fun h=>⟨⟨fun hk=>?_,fun _=>trivial⟩,fun _=>?_⟩⟩⟩
 ·have h0 :(fg x d==0)=true:=by rw [←ho];exact h
  simp only [aQ,h0,cG,h1];rfl
 ·rw [k43] at hk
  exact ⟨⟨(hb h hk).1,(hb h hk).2.1⟩,trivial⟩
 ·have h0 :(fg x d==0)=false:=by rw [←ho];exact h
  have e:aQ x d=fc (cB (cG x d) ((fg x d==1) != eq d)) (if fg x d==1 then x.Striker else x.Other):=by simp only [aQ,h0];rfl
  obtain ⟨p1,p2⟩:=hp h
  rw [e,rN,←p1,←p2,←hB h,k43,h1]
  simp only [cG,h1,cB]
  subst hr32 hr33 hr34 hr35 hr3
  rw [hr41]
  cases r2 <;> rfl
 ·have h0 :(fg x d==0)=true:=by rw [←ho];exact h
  simp only [aQ,h0,cG,h1];rfl
 ·rw [k42] at hk
  exact ⟨⟨(hb h hk).1,(hb h hk).2.1⟩,trivial⟩
 ·have h0 :(fg x d==0)=false:=by rw [←ho];exact h
  have e:aQ x d=fc (cB (cG x d) ((fg x d==1) != eq d)) (if fg x d==1 then x.Striker else x.Other):=by simp only [aQ,h0];rfl
  obtain ⟨p1,p2⟩:=hp h
  rw [e,rN,←p1,←p2,←hB h,k42,h1]
  simp only [cG,h1,cB]
  subst hr32 hr33 hr34 hr35 hr3
  rw [hr40]
  cases r2 <;> rfl
def Gk:FuncId×Ctr:=(211,ae KE EN qIn IT)
theorem Kh:CtrOK Tryz.prog KE 211 (ae KE EN qIn IT):=by
 refine aq (C:=ao [k44,lj,ed] Tryz.f211) (al (.consU rg rfl (.consU sm rfl (.consU jN rfl .nil))) _) mixed (fn:=Tryz.f211) Tryz.func211 (by kernel_rfl) (by kernel_rfl) (by kernel_rfl) (by kernel_rfl) (by kernel_rfl) (by kernel_rfl) (Λ:=fun _ _=>none) ?_ ?_
 ·exact fun _ _ _ _ _ _ _ _ h=>by cases h
 ·rintro ⟨x,d,⟨⟩⟩ hw hn
  exact IC x d (hn _ List.mem_cons_self)
end Go.Proofs.YtkgplaoappjkcaaGreat
