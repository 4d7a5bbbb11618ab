/- Texts of the mirror and contracts, put together. -/
import Derived.Test.YtkgplaoappjkcaaGreatPT3
namespace Go.Proofs.YtkgplaoappjkcaaGreat
open Go Go.Mir
def wtab:List dismissal_way:=
 [{ how:=0,name:={ data:=#[78,79,84,79,85,84] },fair:=false,wide:=false,no:=false,fielder:=false,either:=false },
  { how:=1,name:={ data:=#[66,79,87,76,69,68] },fair:=true,wide:=false,no:=false,fielder:=false,either:=false },
  { how:=2,name:={ data:=#[67,65,85,71,72,84] },fair:=true,wide:=false,no:=false,fielder:=true,either:=false },
  { how:=3,name:={ data:=#[76,66,87] },fair:=true,wide:=false,no:=false,fielder:=false,either:=false },
  { how:=4,name:={ data:=#[83,84,85,77,80,69,68] },fair:=true,wide:=true,no:=false,fielder:=true,either:=false },
  { how:=5,name:={ data:=#[72,73,84,87,73,67,75,69,84] },fair:=true,wide:=true,no:=false,fielder:=false,either:=false },
  { how:=6,name:={ data:=#[82,85,78,79,85,84] },fair:=true,wide:=true,no:=true,fielder:=true,either:=true },
  { how:=7,name:={ data:=#[72,73,84,84,87,73,67,69] },fair:=true,wide:=false,no:=true,fielder:=false,either:=false },
  { how:=8,name:={ data:=#[79,66,83,84,82,85,67,84,73,78,71] },fair:=true,wide:=true,no:=true,fielder:=false,either:=true },
  { how:=9,name:={ data:=#[84,73,77,69,68,79,85,84] },fair:=false,wide:=false,no:=false,fielder:=false,either:=false },
  { how:=10,name:={ data:=#[82,69,84,73,82,69,68] },fair:=false,wide:=false,no:=false,fielder:=false,either:=false }]
def onW (w:dismissal_way) (t:Int):Bool:=(t==1&&w.fair) ||(t==2&&w.wide) ||(t==3&&w.no)
def ofW (h:Int):dismissal_way:=(wtab.find? fun w=>w.how==h).getD dismissal_way.zero
def q8 (w:dismissal_way) (t:Int) (free:Bool):Bool:=onW w t&&(!free||w.how==6||w.how==7||w.how==8)
def mF (t:Int) (free:Bool):List Int:=(wtab.filter fun w=>q8 w t free).map dismissal_way.how
def ll (n:Int):Bool:=decide (n≥1)&&decide (n≤11)
def fK (d:Delivery) (w:dismissal_way):Bool:=
 !((w.fielder != ll d.Fielder) ||(!w.fielder&&d.Fielder != 0))&&(d.Second==0 ||(d.How==6&&ll d.Second&&d.Second != d.Fielder))
def bN (d:Delivery) (free:Bool):Int:=
 if d.How==0 then (if d.Victim != 0 then 14 else if d.Fielder != 0||d.Second != 0||d.Sub then 15 else 0)
 else if !(mF d.Typ free).contains d.How then 13
 else if !(d.How==6||d.How==8)&&(d.Source != 0||d.Runs != 0) then 12
 else if d.Victim != 1&&(d.Victim != 2||!(ofW d.How).either) then 14
 else if !fK d (ofW d.How) then 15
 else if d.Sub&&d.How != 2&&d.How != 6 then 18
 else 0
def Nh (h:Int):Bool:=h==6
def Ny (h:Int):Bool:=h==2||h==4||h==6
def wh (xs:List Int) (v:Int):Bool:=xs.contains v
def JU:Ty:= .unit
def xH:Den JU→PRes:=fun _=>⟨[],.osl 0 0,[⟨.nm .dismissal_way,wtab⟩]⟩
def JV:Ty:= .prod (.nm .dismissal_way) (.prod (.int .u8) .unit)
def xI:Den JV→PRes:=fun x=>⟨[],.bool (onW x.1 x.2.1),[]⟩
def EY:Ty:= .prod (.int .u8) .unit
def xF:Den EY→PRes:=fun x=>⟨[],.agg (flat fh (.nm .dismissal_way) (ofW x.1)),[]⟩
def JQ:Ty:= .prod (.int .u8) (.prod .bool .unit)
def xu:Den JQ→PRes:=fun x=>⟨[],.osl 0 0,[⟨.int .u8,mF x.1 x.2.1⟩]⟩
def JR:Ty:=EZ
def xw:Den JR→PRes:=fun x=>⟨[],.bool (wh x.1 x.2.1),[]⟩
def JW:Ty:= .prod (.int .i64) .unit
def xU:Den JW→PRes:=fun x=>⟨[],.bool (ll x.1),[]⟩
def JT:Ty:= .prod (.nm .Delivery) (.prod (.nm .dismissal_way) .unit)
def xG:Den JT→PRes:=fun x=>⟨[],.bool (fK x.1 x.2.1),[]⟩
def psP:Ty:= .prod (.nm .Delivery) (.prod .bool .unit)
def xt:Den psP→PRes:=fun x=>⟨[],.int .i64 (bN x.1 x.2.1),[]⟩
def Mq:Den EY→PRes:=fun x=>⟨[],.tup [.bool (Ny x.1),.bool (Ny x.1),.bool (Nh x.1)],[]⟩
def k61:FuncId×Ctr:=(219,aq KK JU xH)
def k62:FuncId×Ctr:=(221,aq KK JV xI)
def k57:FuncId×Ctr:=(200,aq KK EY xF)
def k20:FuncId×Ctr:=(202,aq KK JQ xu)
def k63:FuncId×Ctr:=(220,aq KK EZ xJ)
def k21:FuncId×Ctr:=(201,aq KK JR xw)
def k89:FuncId×Ctr:=(222,aq KK JW xU)
def k58:FuncId×Ctr:=(203,aq KK JT xG)
def k17:FuncId×Ctr:=(183,aq KK psP xt)
def k29:FuncId×Ctr:=(229,aq KK EY Mq)
def J57 (h:Int) (i:Nat):St:=⟨[(0,.int .u8 h),(2,.ptr 0 0),(5,.osl 4 4),(6,.int .i64 wtab.length),(7,.int .i64 i)],
 [(4,.row 4 true (.nm .dismissal_way) wtab),(0,.cells (flat fh (.nm .dismissal_way) dismissal_way.zero))],fun _=>none,16⟩
def T57 (h:Int):Tr:= .br (wtab.any fun w=>w.how==h) (.leaf .ret ⟨[(2,.ptr 0 0)],[(0,.cells (flat fh (.nm .dismissal_way) (ofW h)))]⟩ 16)
 (.leaf (.ext 0) ⟨[(2,.ptr 0 0)],[(0,.cells (flat fh (.nm .dismissal_way) dismissal_way.zero))]⟩ 16)
def CR (h:Int) (i:Nat):Prop:=i≤11∧∀ w∈wtab.take i,(w.how==h)=false
def L57 (i:Nat):List (Lspec Nat):= [.out [true] [] [],.next (i+1) [] [],.out [false] [] []]
def Λ57 (h:Int):Nat→Option LoopSum:=find [(2,cw ⟨[],[],16⟩ (J57 h 0) (T57 h))]
def eY (t:Int) (free:Bool) (i:Nat):List Int:=((wtab.take i).filter fun w=>q8 w t free).map dismissal_way.how
def J20 (t:Int) (free:Bool) (i:Nat):St:=⟨[(0,.int .u8 t),(1,.bool free),(5,.osl 16 17),(8,.osl 8 8),(9,.int .i64 wtab.length),(10,.int .i64 i)],
 [(8,.row 8 true (.nm .dismissal_way) wtab),(16,.row 17 true (.int .u8) (eY t free i))],fun _=>none,20⟩
def T20 (t:Int) (free:Bool):Tr:= .leaf (.ext 0) ⟨[(5,.osl 16 17)],[(16,.row 17 true (.int .u8) (mF t free))]⟩ 20
def L20 (i:Nat):List (Lspec Nat):= [.next (i+1) [(17,144)] [],.next (i+1) [] [],.out [] [] []]
def rk (i:Nat):Prop:=i≤11
def Λ20 (t:Int) (free:Bool):Nat→Option LoopSum:=find [(3,cw ⟨[],[16],20⟩ (J20 t free 0) (T20 t free))]
end Go.Proofs.YtkgplaoappjkcaaGreat
namespace Go.Proofs.YtkgplaoappjkcaaGreat
open Go Go.Mir
attribute [local irreducible] Go.Mir.RT.sat Go.Mir.evFn Go.Mir.stepObl
theorem NN :(evFn (kj [] Tryz.f219) (fun _=>none) Tryz.f219 (bk JU ())).sat fun v' rows=>leV v' (xH ()).v∧rows =(xH ()).rows:=by
 refine cast (by kernel_rfl) (?_ :(nat_lit 0=nat_lit 0∧nat_lit 0=nat_lit 0)∧ [RowD.mk (Ty.nm Nm.dismissal_way) [dismissal_way.mk (0:Int) (ByteArray.mk #[(78:UInt8),(79:UInt8),(84:UInt8),(79:UInt8),(85:UInt8),(84:UInt8)]) false false false false false,dismissal_way.mk (1:Int) (ByteArray.mk #[(66:UInt8),(79:UInt8),(87:UInt8),(76:UInt8),(69:UInt8),(68:UInt8)]) true false false false false,dismissal_way.mk (2:Int) (ByteArray.mk #[(67:UInt8),(65:UInt8),(85:UInt8),(71:UInt8),(72:UInt8),(84:UInt8)]) true false false true false,dismissal_way.mk (3:Int) (ByteArray.mk #[(76:UInt8),(66:UInt8),(87:UInt8)]) true false false false false,dismissal_way.mk (4:Int) (ByteArray.mk #[(83:UInt8),(84:UInt8),(85:UInt8),(77:UInt8),(80:UInt8),(69:UInt8),(68:UInt8)]) true true false true false,dismissal_way.mk (5:Int) (ByteArray.mk #[(72:UInt8),(73:UInt8),(84:UInt8),(87:UInt8),(73:UInt8),(67:UInt8),(75:UInt8),(69:UInt8),(84:UInt8)]) true true false false false,dismissal_way.mk (6:Int) (ByteArray.mk #[(82:UInt8),(85:UInt8),(78:UInt8),(79:UInt8),(85:UInt8),(84:UInt8)]) true true true true true,dismissal_way.mk (7:Int) (ByteArray.mk #[(72:UInt8),(73:UInt8),(84:UInt8),(84:UInt8),(87:UInt8),(73:UInt8),(67:UInt8),(69:UInt8)]) true false true false false,dismissal_way.mk (8:Int) (ByteArray.mk #[(79:UInt8),(66:UInt8),(83:UInt8),(84:UInt8),(82:UInt8),(85:UInt8),(67:UInt8),(84:UInt8),(73:UInt8),(78:UInt8),(71:UInt8)]) true true true false true,dismissal_way.mk (9:Int) (ByteArray.mk #[(84:UInt8),(73:UInt8),(77:UInt8),(69:UInt8),(68:UInt8),(79:UInt8),(85:UInt8),(84:UInt8)]) false false false false false,dismissal_way.mk (10:Int) (ByteArray.mk #[(82:UInt8),(69:UInt8),(84:UInt8),(73:UInt8),(82:UInt8),(69:UInt8),(68:UInt8)]) false false false false false]]=[RowD.mk (Ty.nm Nm.dismissal_way) wtab])
 exact ⟨⟨rfl,rfl⟩,by kernel_rfl⟩
theorem Js:CtrOK Tryz.prog KK 219 (aq KK JU xH):=by
 refine aS (C:=kj [] Tryz.f219) (j7 CtrsOK.nil _) mixed (fn:=Tryz.f219) Tryz.func219 (by kernel_rfl) (by kernel_rfl) (by kernel_rfl) (Λ:=fun _ _=>none) ?_ ?_ ?_
 ·exact fun _ _ _ _ _ _ _ _ h=>by cases h
 ·rintro ⟨⟩
  exact of_decide_eq_true (by kernel_rfl)
 ·rintro ⟨⟩ _ _
  exact NN
theorem NO (w:dismissal_way) (t:Int) :(evFn (kj [] Tryz.f221) (fun _=>none) Tryz.f221 (bk JV (w,t,()))).sat fun v' rows=>leV v' (xI (w,t,())).v∧rows =(xI (w,t,())).rows:=by
 refine cast (by kernel_rfl) (?_ :(bif t ==(1:Int) then bif w.3 then true else bif t ==(2:Int) then bif w.4 then true else bif t ==(3:Int) then w.5 else false else bif t ==(3:Int) then w.5 else false else bif t ==(2:Int) then bif w.4 then true else bif t ==(3:Int) then w.5 else false else bif t ==(3:Int) then w.5 else false)=onW w t∧([]:List RowD)=[])
 simp only [onW];grind
theorem Nt:CtrOK Tryz.prog KK 221 (aq KK JV xI):=by
 refine aS (C:=kj [] Tryz.f221) (j7 CtrsOK.nil _) mixed (fn:=Tryz.f221) Tryz.func221 (by kernel_rfl) (by kernel_rfl) (by kernel_rfl) (Λ:=fun _ _=>none) ?_ ?_ ?_
 ·exact fun _ _ _ _ _ _ _ _ h=>by cases h
 ·rintro ⟨w,t,⟨⟩⟩
  exact of_decide_eq_true (by kernel_rfl)
 ·rintro ⟨w,t,⟨⟩⟩ _ _
  exact NO w t
theorem N3 (n:Int) :(evFn (kj [] Tryz.f222) (fun _=>none) Tryz.f222 (bk JW (n,()))).sat fun v' rows=>leV v' (xU (n,())).v∧rows =(xU (n,())).rows:=by
 refine cast (by kernel_rfl) (?_ :(bif decide (n≥(1:Int)) then decide (n≤(11:Int)) else false)=ll n∧([]:List RowD)=[])
 simp only [ll];grind
theorem OI:CtrOK Tryz.prog KK 222 (aq KK JW xU):=by
 refine aS (C:=kj [] Tryz.f222) (j7 CtrsOK.nil _) mixed (fn:=Tryz.f222) Tryz.func222 (by kernel_rfl) (by kernel_rfl) (by kernel_rfl) (Λ:=fun _ _=>none) ?_ ?_ ?_
 ·exact fun _ _ _ _ _ _ _ _ h=>by cases h
 ·rintro ⟨n,⟨⟩⟩
  exact of_decide_eq_true (by kernel_rfl)
 ·rintro ⟨n,⟨⟩⟩ _ _
  exact N3 n
theorem Ky:wtab.length=11:=rfl
theorem vU {α:Type} (p:α→Bool) :∀ (xs:List α) (i:Nat) (x:α),xs[i]?=some x→p x=true→(∀ y∈xs.take i,p y=false)→xs.find? p=some x
 | [],_,_,h,_,_=>by simp at h
 | y::xs,0,x,h,hp,_=>by simp at h;subst h;simp [hp]
 | y::xs,i+1,x,h,hp,hn=>by
  have h0:p y=false:=hn y (by simp)
  rw [List.find?_cons_of_neg (by simp [h0])]
  exact vU p xs i x (by simpa using h) hp (fun z hz=>hn z (by simp [hz]))
theorem nv {α:Type} {xs:List α} {i:Nat} (z:α) (h:i<xs.length):xs[i]?=some (xs.getD i z):=by
 rw [List.getD_eq_getElem?_getD,List.getElem?_eq_getElem h];rfl
theorem Ms (h:Int) (i:Nat) (hi:CR h i) :(stepObl (J57 h) (CR h) (fun i=>11 - i) i (T57 h) (bm (kj [k61] Tryz.f200) (fun _=>none) (aB Tryz.f200 0) (J57 h i)) (L57 i)).1:=by
 refine cast (by kernel_rfl) (?_ :(decide ((↑i:Int) <(↑wtab.length:Int))=true→((0:Int)≤(↑i:Int)∧(↑i:Int) <(↑wtab.length:Int))∧(((wtab.getD (↑i:Int).toNat (dflt (Ty.nm Nm.dismissal_way))).1==h)=true→(wtab.any fun w=>w.1==h)=true∧(True∧True)∧((wtab.getD (↑i:Int).toNat (dflt (Ty.nm Nm.dismissal_way))).1 =(ofW h).1∧(wtab.getD (↑i:Int).toNat (dflt (Ty.nm Nm.dismissal_way))).2 =(ofW h).2∧(wtab.getD (↑i:Int).toNat (dflt (Ty.nm Nm.dismissal_way))).3 =(ofW h).3∧(wtab.getD (↑i:Int).toNat (dflt (Ty.nm Nm.dismissal_way))).4 =(ofW h).4∧(wtab.getD (↑i:Int).toNat (dflt (Ty.nm Nm.dismissal_way))).5 =(ofW h).5∧(wtab.getD (↑i:Int).toNat (dflt (Ty.nm Nm.dismissal_way))).6 =(ofW h).6∧(wtab.getD (↑i:Int).toNat (dflt (Ty.nm Nm.dismissal_way))).7 =(ofW h).7∧True)∧True)∧(((wtab.getD (↑i:Int).toNat (dflt (Ty.nm Nm.dismissal_way))).1==h)=false→CR h (i +(1:Nat))∧(11:Nat) - (i +(1:Nat)) <(11:Nat) - i∧(h=h∧True∧True∧(↑wtab.length:Int) =(↑wtab.length:Int)∧IntKind.i64.wrap ((↑i:Int) +(1:Int)) =(↑(i +(1:Nat)):Int)∧True)∧RowD.mk (Ty.nm Nm.dismissal_way) wtab=RowD.mk (Ty.nm Nm.dismissal_way) wtab∧((0:Int) =(0:Int)∧ByteArray.empty=ByteArray.empty∧false=false∧false=false∧false=false∧false=false∧false=false∧True)∧True))∧(decide ((↑i:Int) <(↑wtab.length:Int))=false→(wtab.any fun w=>w.1==h)=false∧(True∧True)∧((0:Int) =(0:Int)∧ByteArray.empty=ByteArray.empty∧false=false∧false=false∧false=false∧false=false∧false=false∧True)∧True))
 have e :(i:Int).toNat=i:=by simp
 rw [e]
 generalize hw:wtab.getD i (dflt (Ty.nm Nm.dismissal_way))=w
 refine ⟨fun h1=>?_,fun h1=>?_⟩
 ·have h1:i<wtab.length:=by simpa using h1
  have h3:wtab[i]?=some w:=by rw [←hw];exact nv _ h1
  refine ⟨⟨by omega,by omega⟩,fun h2=>?_,fun h2=>?_⟩
  ·have h4:ofW h=w:=by
    unfold ofW
    rw [vU (fun w=>w.how==h) wtab i w h3 h2 hi.2];rfl
   have h5 :(wtab.any fun w=>w.1==h)=true:=List.any_eq_true.2 ⟨w,List.mem_of_getElem? h3,h2⟩
   rw [h4]
   exact ⟨h5,⟨trivial,trivial⟩,⟨rfl,rfl,rfl,rfl,rfl,rfl,rfl,trivial⟩,trivial⟩
  ·rw [Ky] at h1
   refine ⟨⟨by omega,fun y hy=>?_⟩,by omega,⟨rfl,trivial,trivial,rfl,?_,trivial⟩,rfl,⟨rfl,rfl,rfl,rfl,rfl,rfl,rfl,trivial⟩,trivial⟩
   ·rw [List.take_add_one,h3] at hy
    rcases List.mem_append.1 hy with hy|hy
    ·exact hi.2 y hy
    ·simp at hy;subst hy;exact h2
   ·rw [eZ (by omega) (by omega)];omega
 ·have h1:wtab.length≤i:=by simpa using h1
  refine ⟨?_,⟨trivial,trivial⟩,⟨rfl,rfl,rfl,rfl,rfl,rfl,rfl,trivial⟩,trivial⟩
  rw [List.any_eq_false]
  intro x hx
  have:=hi.2 x (by rw [List.take_of_length_le h1];exact hx)
  simpa using this
theorem Jk (h:Int):LoopsOK Tryz.prog Tryz.f200.ntmps [aB Tryz.f200 0] (Λ57 h):=
 .cons (L:=cw ⟨[],[],16⟩ (J57 h 0) (T57 h)) (by kernel_rfl) (iM (j7 (.cons Js .nil) _) mixed (J57 h) (fun _=>rfl) (CR h) (fun i=>11 - i) (fun _ _=>none) (fun _ _ _ _ _ h=>by cases h) (T57 h) [] [] 0 ⟨Nat.zero_le _,by simp⟩ L57 (Ms h)) .nil
theorem NL (h:Int) :(evFn (kj [k61] Tryz.f200) (Λ57 h) Tryz.f200 (bk EY (h,()))).sat fun v' rows=>leV v' (xF (h,())).v∧rows =(xF (h,())).rows:=by
 refine cast (by kernel_rfl) (?_ :((cx fun x=>none)∧(h=h∧True∧True∧(↑wtab.length:Int) =(↑wtab.length:Int)∧(0:Int) =(↑(0:Nat):Int)∧True)∧RowD.mk (Ty.nm Nm.dismissal_way) wtab=RowD.mk (Ty.nm Nm.dismissal_way) wtab∧((0:Int) =(0:Int)∧ByteArray.empty=ByteArray.empty∧false=false∧false=false∧false=false∧false=false∧false=false∧True)∧True)∧((wtab.any fun w=>w.1==h)=true→((ofW h).1 =(ofW h).1∧(ofW h).2 =(ofW h).2∧(ofW h).3 =(ofW h).3∧(ofW h).4 =(ofW h).4∧(ofW h).5 =(ofW h).5∧(ofW h).6 =(ofW h).6∧(ofW h).7 =(ofW h).7∧True)∧([]:List RowD)=[])∧((wtab.any fun w=>w.1==h)=false→((0:Int) =(ofW h).1∧ByteArray.empty =(ofW h).2∧false =(ofW h).3∧false =(ofW h).4∧false =(ofW h).5∧false =(ofW h).6∧false =(ofW h).7∧True)∧([]:List RowD)=[]))
 refine ⟨⟨rfl,⟨rfl,trivial,trivial,rfl,rfl,trivial⟩,rfl,⟨rfl,rfl,rfl,rfl,rfl,rfl,rfl,trivial⟩,trivial⟩,fun _=>⟨⟨rfl,rfl,rfl,rfl,rfl,rfl,rfl,trivial⟩,rfl⟩,fun h1=>?_⟩
 have h2:ofW h=dismissal_way.zero:=by
  unfold ofW
  rw [List.find?_eq_none.2]
  ·rfl
  ·intro x hx hp
   have:=(List.any_eq_false.1 h1) x hx
   exact this hp
 rw [h2]
 exact ⟨⟨rfl,rfl,rfl,rfl,rfl,rfl,rfl,trivial⟩,rfl⟩
theorem Oy:CtrOK Tryz.prog KK 200 (aq KK EY xF):=by
 refine aS (C:=kj [k61] Tryz.f200) (j7 (.cons Js .nil) _) mixed (fn:=Tryz.f200) Tryz.func200 (by kernel_rfl) (by kernel_rfl) (by kernel_rfl) (Λ:=fun x=>Λ57 x.1) ?_ ?_ ?_
 ·rintro ⟨h,⟨⟩⟩ _ _
  exact LoopsOK.at (by kernel_rfl) (Jk h)
 ·rintro ⟨h,⟨⟩⟩
  exact of_decide_eq_true (by kernel_rfl)
 ·rintro ⟨h,⟨⟩⟩ _ _
  exact NL h
theorem Gb (w:dismissal_way) (t:Int) (free:Bool) :(bif onW w t then bif !free then true else bif w.1 ==(6:Int) then true else bif w.1 ==(7:Int) then true else w.1 ==(8:Int) else false)=q8 w t free:=by
 simp only [q8];cases onW w t <;> cases free <;> simp <;> grind
theorem AB (t:Int) (free:Bool) (i:Nat) {w:dismissal_way} (h:wtab[i]?=some w):eY t free (i+1)=eY t free i ++(bif q8 w t free then [w.how] else []):=by
 unfold eY
 rw [List.take_add_one,h,List.filter_append,List.map_append]
 congr 1
 cases hf:q8 w t free <;> simp [hf]
theorem Cy (t:Int) (free:Bool) (i:Nat) :(eY t free i).length≤11:=by
 unfold eY
 rw [List.length_map]
 have h1:=List.length_filter_le (fun w=>q8 w t free) (wtab.take i)
 have h2 :(wtab.take i).length≤wtab.length:=List.length_take_le' _ _
 rw [Ky] at h2
 omega
theorem Mr (t:Int) (free:Bool) (i:Nat) (hi:rk i) :(stepObl (J20 t free) rk (fun i=>11 - i) i (T20 t free) (bm (kj [k61,k62] Tryz.f202) (fun _=>none) (aB Tryz.f202 0) (J20 t free i)) (L20 i)).1:=by
 refine cast (by kernel_rfl) (?_ :(decide ((↑i:Int) <(↑wtab.length:Int))=true→((0:Int)≤(↑i:Int)∧(↑i:Int) <(↑wtab.length:Int))∧((bif onW (wtab.getD (↑i:Int).toNat (dflt (Ty.nm Nm.dismissal_way))) t then bif !free then true else bif (wtab.getD (↑i:Int).toNat (dflt (Ty.nm Nm.dismissal_way))).1 ==(6:Int) then true else bif (wtab.getD (↑i:Int).toNat (dflt (Ty.nm Nm.dismissal_way))).1 ==(7:Int) then true else (wtab.getD (↑i:Int).toNat (dflt (Ty.nm Nm.dismissal_way))).1 ==(8:Int) else false)=true→((eY t free i).length+[(wtab.getD (↑i:Int).toNat (dflt (Ty.nm Nm.dismissal_way))).1].length) *(1:Nat)≤(70368744177664:Nat)∧rk (i +(1:Nat))∧(11:Nat) - (i +(1:Nat)) <(11:Nat) - i∧(t=t∧free=free∧True∧True∧(↑wtab.length:Int) =(↑wtab.length:Int)∧IntKind.i64.wrap ((↑i:Int) +(1:Int)) =(↑(i +(1:Nat)):Int)∧True)∧RowD.mk (Ty.nm Nm.dismissal_way) wtab=RowD.mk (Ty.nm Nm.dismissal_way) wtab∧RowD.mk (Ty.int IntKind.u8) (eY t free i++[(wtab.getD (↑i:Int).toNat (dflt (Ty.nm Nm.dismissal_way))).1])=RowD.mk (Ty.int IntKind.u8) (eY t free (i +(1:Nat)))∧True)∧((bif onW (wtab.getD (↑i:Int).toNat (dflt (Ty.nm Nm.dismissal_way))) t then bif !free then true else bif (wtab.getD (↑i:Int).toNat (dflt (Ty.nm Nm.dismissal_way))).1 ==(6:Int) then true else bif (wtab.getD (↑i:Int).toNat (dflt (Ty.nm Nm.dismissal_way))).1 ==(7:Int) then true else (wtab.getD (↑i:Int).toNat (dflt (Ty.nm Nm.dismissal_way))).1 ==(8:Int) else false)=false→rk (i +(1:Nat))∧(11:Nat) - (i +(1:Nat)) <(11:Nat) - i∧(t=t∧free=free∧True∧True∧(↑wtab.length:Int) =(↑wtab.length:Int)∧IntKind.i64.wrap ((↑i:Int) +(1:Int)) =(↑(i +(1:Nat)):Int)∧True)∧RowD.mk (Ty.nm Nm.dismissal_way) wtab=RowD.mk (Ty.nm Nm.dismissal_way) wtab∧RowD.mk (Ty.int IntKind.u8) (eY t free i)=RowD.mk (Ty.int IntKind.u8) (eY t free (i +(1:Nat)))∧True))∧(decide ((↑i:Int) <(↑wtab.length:Int))=false→True∧(True∧True)∧RowD.mk (Ty.int IntKind.u8) (eY t free i)=RowD.mk (Ty.int IntKind.u8) (mF t free)∧True))
 have e :(i:Int).toNat=i:=by simp
 rw [e]
 generalize hw:wtab.getD i (dflt (Ty.nm Nm.dismissal_way))=w
 rw [Gb]
 refine ⟨fun h1=>?_,fun h1=>?_⟩
 ·have h1:i<wtab.length:=by simpa using h1
  have h3:wtab[i]?=some w:=by rw [←hw];exact nv _ h1
  have hu:=AB t free i h3
  rw [Ky] at h1
  have hwr:IntKind.i64.wrap ((i:Int)+1) =((i+1:Nat):Int):=by rw [eZ (by omega) (by omega)];omega
  refine ⟨⟨by omega,by rw [Ky];omega⟩,fun h2=>?_,fun h2=>?_⟩
  ·rw [h2] at hu
   refine ⟨?_,(by unfold rk;omega),by omega,⟨rfl,rfl,trivial,trivial,rfl,hwr,trivial⟩,rfl,by rw [hu];rfl,trivial⟩
   have:=Cy t free i
   simp only [List.length_cons,List.length_nil]
   omega
  ·rw [h2] at hu
   refine ⟨(by unfold rk;omega),by omega,⟨rfl,rfl,trivial,trivial,rfl,hwr,trivial⟩,rfl,by rw [hu];simp,trivial⟩
 ·have h1:wtab.length≤i:=by simpa using h1
  have hu:eY t free i=mF t free:=by unfold eY mF;rw [List.take_of_length_le h1]
  exact ⟨trivial,⟨trivial,trivial⟩,by rw [hu],trivial⟩
theorem Jj (t:Int) (free:Bool):LoopsOK Tryz.prog Tryz.f202.ntmps [aB Tryz.f202 0] (Λ20 t free):=
 .cons (L:=cw ⟨[],[16],20⟩ (J20 t free 0) (T20 t free)) (by kernel_rfl) (iM (j7 (.cons Js (.cons Nt .nil)) _) mixed (J20 t free) (fun _=>rfl) rk (fun i=>11 - i) (fun _ _=>none) (fun _ _ _ _ _ h=>by cases h) (T20 t free) [] [16] 0 (Nat.zero_le _) L20 (Mr t free)) .nil
theorem NB (t:Int) (free:Bool) :(evFn (kj [k61,k62] Tryz.f202) (Λ20 t free) Tryz.f202 (bk JQ (t,free,()))).sat fun v' rows=>leV v' (xu (t,free,())).v∧rows =(xu (t,free,())).rows:=by
 refine cast (by kernel_rfl) (?_ :((cx fun x=>none)∧(t=t∧free=free∧True∧True∧(↑wtab.length:Int) =(↑wtab.length:Int)∧(0:Int) =(↑(0:Nat):Int)∧True)∧RowD.mk (Ty.nm Nm.dismissal_way) wtab=RowD.mk (Ty.nm Nm.dismissal_way) wtab∧eY t free (0:Nat)=[]∧True)∧(nat_lit 0=nat_lit 0∧nat_lit 0=nat_lit 0)∧ [RowD.mk (Ty.int IntKind.u8) (mF t free)]=[RowD.mk (Ty.int IntKind.u8) (mF t free)])
 exact ⟨⟨rfl,⟨rfl,rfl,trivial,trivial,rfl,rfl,trivial⟩,rfl,rfl,trivial⟩,⟨rfl,rfl⟩,rfl⟩
theorem Or:CtrOK Tryz.prog KK 202 (aq KK JQ xu):=by
 refine aS (C:=kj [k61,k62] Tryz.f202) (j7 (.cons Js (.cons Nt .nil)) _) mixed (fn:=Tryz.f202) Tryz.func202 (by kernel_rfl) (by kernel_rfl) (by kernel_rfl) (Λ:=fun x=>Λ20 x.1 x.2.1) ?_ ?_ ?_
 ·rintro ⟨t,free,⟨⟩⟩ _ _
  exact LoopsOK.at (by kernel_rfl) (Jj t free)
 ·rintro ⟨t,free,⟨⟩⟩
  exact of_decide_eq_true (by kernel_rfl)
 ·rintro ⟨t,free,⟨⟩⟩ _ _
  exact NB t free
theorem CM (xs:List Int) (v i:Int) (hi:0≤i):decide (idx xs v i≥0)=wh xs v:=by
 induction xs generalizing i with
 | nil=>simp [idx,wh]
 | cons x xs ih=>
  by_cases hv:v=x
  ·subst hv;simp [idx,wh,hi]
  ·have h1 :(v==x)=false:=by simpa using hv
   have h2:=ih (i+1) (by omega)
   simp only [idx,h1,cond_false]
   rw [h2]
   simp [wh,hv]
theorem NC (xs:List Int) (v:Int) :(evFn (kj [k63] Tryz.f201) (fun _=>none) Tryz.f201 (bk JR (xs,v,()))).sat fun v' rows=>leV v' (xw (xs,v,())).v∧rows =(xw (xs,v,())).rows:=by
 refine cast (by kernel_rfl) (?_:decide (idx xs v (0:Int)≥(0:Int))=wh xs v∧([]:List RowD)=[])
 exact ⟨CM xs v 0 (Int.le_refl 0),rfl⟩
theorem Ot:CtrOK Tryz.prog KK 201 (aq KK JR xw):=by
 refine aS (C:=kj [k63] Tryz.f201) (j7 (.cons OA .nil) _) mixed (fn:=Tryz.f201) Tryz.func201 (by kernel_rfl) (by kernel_rfl) (by kernel_rfl) (Λ:=fun _ _=>none) ?_ ?_ ?_
 ·exact fun _ _ _ _ _ _ _ _ h=>by cases h
 ·rintro ⟨xs,v,⟨⟩⟩
  exact of_decide_eq_true (by kernel_rfl)
 ·rintro ⟨xs,v,⟨⟩⟩ _ _
  exact NC xs v
theorem NM (d:Delivery) (w:dismissal_way) :(evFn (kj [k89] Tryz.f203) (fun _=>none) Tryz.f203 (bk JT (d,w,()))).sat fun v' rows=>leV v' (xG (d,w,())).v∧rows =(xG (d,w,())).rows:=by
 refine cast (by kernel_rfl) (?_ :((bif !w.6==ll d.9 then true else bif !w.6 then d.9 !=(0:Int) else false)=true→false=fK d w∧([]:List RowD)=[])∧((bif !w.6==ll d.9 then true else bif !w.6 then d.9 !=(0:Int) else false)=false→(bif d.10 ==(0:Int) then true else bif d.7 ==(6:Int) then bif ll d.10 then d.10 != d.9 else false else false)=fK d w∧([]:List RowD)=[]))
 simp only [fK];grind
theorem Oz:CtrOK Tryz.prog KK 203 (aq KK JT xG):=by
 refine aS (C:=kj [k89] Tryz.f203) (j7 (.cons OI .nil) _) mixed (fn:=Tryz.f203) Tryz.func203 (by kernel_rfl) (by kernel_rfl) (by kernel_rfl) (Λ:=fun _ _=>none) ?_ ?_ ?_
 ·exact fun _ _ _ _ _ _ _ _ h=>by cases h
 ·rintro ⟨d,w,⟨⟩⟩
  exact of_decide_eq_true (by kernel_rfl)
 ·rintro ⟨d,w,⟨⟩⟩ _ _
  exact NM d w
theorem NA (d:Delivery) (free:Bool) :(evFn (kj [k57,k20,k21,k58] Tryz.f183) (fun _=>none) Tryz.f183 (bk psP (d,free,()))).sat fun v' rows=>leV v' (xt (d,free,())).v∧rows =(xt (d,free,())).rows:=by
 refine cast (by kernel_rfl) (?_ :((d.7 ==(0:Int))=true→((d.8 !=(0:Int))=true→(14:Int)=bN d free∧([]:List RowD)=[])∧((d.8 !=(0:Int))=false→((bif d.9 !=(0:Int) then true else bif d.10 !=(0:Int) then true else d.11)=true→(15:Int)=bN d free∧([]:List RowD)=[])∧((bif d.9 !=(0:Int) then true else bif d.10 !=(0:Int) then true else d.11)=false→(0:Int)=bN d free∧([]:List RowD)=[])))∧((d.7 ==(0:Int))=false→((!wh (mF d.1 free) d.7)=true→(13:Int)=bN d free∧([]:List RowD)=[])∧((!wh (mF d.1 free) d.7)=false→((bif !bif d.7 ==(6:Int) then true else d.7 ==(8:Int) then bif d.2 !=(0:Int) then true else d.3 !=(0:Int) else false)=true→(12:Int)=bN d free∧([]:List RowD)=[])∧((bif !bif d.7 ==(6:Int) then true else d.7 ==(8:Int) then bif d.2 !=(0:Int) then true else d.3 !=(0:Int) else false)=false→((bif d.8 !=(1:Int) then bif d.8 !=(2:Int) then true else !(ofW d.7).7 else false)=true→(14:Int)=bN d free∧([]:List RowD)=[])∧((bif d.8 !=(1:Int) then bif d.8 !=(2:Int) then true else !(ofW d.7).7 else false)=false→((!fK d (ofW d.7))=true→(15:Int)=bN d free∧([]:List RowD)=[])∧((!fK d (ofW d.7))=false→((bif d.11 then bif d.7 !=(2:Int) then d.7 !=(6:Int) else false else false)=true→(18:Int)=bN d free∧([]:List RowD)=[])∧((bif d.11 then bif d.7 !=(2:Int) then d.7 !=(6:Int) else false else false)=false→(0:Int)=bN d free∧([]:List RowD)=[])))))))
 simp only [bN,wh]
 repeat' first|refine And.intro ?_ ?_|intro _
 all_goals grind
theorem Nq:CtrOK Tryz.prog KK 183 (aq KK psP xt):=by
 refine aS (C:=kj [k57,k20,k21,k58] Tryz.f183) (j7 (.cons Oy (.cons Or (.cons Ot (.cons Oz .nil)))) _) mixed (fn:=Tryz.f183) Tryz.func183 (by kernel_rfl) (by kernel_rfl) (by kernel_rfl) (Λ:=fun _ _=>none) ?_ ?_ ?_
 ·exact fun _ _ _ _ _ _ _ _ h=>by cases h
 ·rintro ⟨d,free,⟨⟩⟩
  exact of_decide_eq_true (by kernel_rfl)
 ·rintro ⟨d,free,⟨⟩⟩ _ _
  exact NA d free
end Go.Proofs.YtkgplaoappjkcaaGreat
namespace Go.Proofs.YtkgplaoappjkcaaGreat
open Go Go.Mir
attribute [local irreducible] Go.Mir.RT.sat Go.Mir.evFn Go.Mir.stepObl
def kU (n:Int):Prop:= -9223372036854775808≤n∧n≤9223372036854775807
theorem gv {n:Int} (h:wfD (.int .i64) n):kU n:=by
 obtain ⟨S,w,cs,h⟩:=h
 cases h with|int h=>exact ⟨by have:=h.1;simpa [IntKind.min,IntKind.max,IntKind.signed,IntKind.bits] using this,by have:=h.2;simpa [IntKind.min,IntKind.max,IntKind.signed,IntKind.bits] using this⟩
theorem A6 {x:Innings} {p:Int} (hp:kU p) (h:bj x p=true):IntKind.i64.wrap (p - 1)=p - 1∧0≤p - 1∧p - 1 <(x.Subs.length:Int):=by
 simp only [bj,Bool.and_eq_true,decide_eq_true_eq] at h
 have:=hp.2
 exact ⟨eZ (by omega) (by omega),by omega,by omega⟩
theorem NT (x:Innings) (p:Int) :(evFn (cf8 [] Tryz.f170) (fun _=>none) Tryz.f170 (bk jh (x,p,()))).sat fun v' rows=>leV v' (xM (x,p,())).v∧rows =(xM (x,p,())).rows:=by
 refine cast (by kernel_rfl) (?_ :(bif decide (p≥(1:Int)) then decide (p≤(↑x.21.length:Int)) else false)=bj x p∧([]:List RowD)=[])
 simp only [bj];grind
theorem G3:CtrOK Tryz.prog K8 170 (aq K8 jh xM):=by
 refine aS (C:=cf8 [] Tryz.f170) (bu (CtrsOK.nil) _) mixed (fn:=Tryz.f170) Tryz.func170 (by kernel_rfl) (by kernel_rfl) (by kernel_rfl) (Λ:=fun _ _=>none) ?_ ?_ ?_
 ·exact fun _ _ _ _ _ _ _ _ h=>by cases h
 ·rintro ⟨x,p,⟨⟩⟩
  exact of_decide_eq_true (by kernel_rfl)
 ·rintro ⟨x,p,⟨⟩⟩ hw hn
  exact NT x p
theorem NU (x:Innings) (p:Int) (hp:kU p) :(evFn (cf8 [k73] Tryz.f171) (fun _=>none) Tryz.f171 (bk jh (x,p,()))).sat fun v' rows=>leV v' (xN (x,p,())).v∧rows =(xN (x,p,())).rows:=by
 refine cast (by kernel_rfl) (?_ :((bj x p=true→((0:Int)≤IntKind.i64.wrap (p - (1:Int))∧IntKind.i64.wrap (p - (1:Int)) <(↑x.21.length:Int))∧True)∧(bj x p=false→True))∧(true=true→(bif bj x p then x.21.getD (IntKind.i64.wrap (p - (1:Int))).toNat (dflt Ty.bool) else false)=aO x p∧([]:List RowD)=[]))
 refine ⟨⟨fun h=>⟨?_,trivial⟩,fun _=>trivial⟩,fun _=>⟨?_,rfl⟩⟩
 ·obtain ⟨e,h1,h2⟩:=A6 hp h
  rw [e];exact ⟨h1,h2⟩
 ·cases h:bj x p with
  | false=>simp [aO,h]
  | true=>
   obtain ⟨e,h1,h2⟩:=A6 hp h
   rw [e];simp only [cond_true,aO,h,Bool.true_and];rfl
theorem Jt:CtrOK Tryz.prog K8 171 (aq K8 jh xN):=by
 refine aS (C:=cf8 [k73] Tryz.f171) (bu (.cons G3 .nil) _) mixed (fn:=Tryz.f171) Tryz.func171 (by kernel_rfl) (by kernel_rfl) (by kernel_rfl) (Λ:=fun _ _=>none) ?_ ?_ ?_
 ·exact fun _ _ _ _ _ _ _ _ h=>by cases h
 ·rintro ⟨x,p,⟨⟩⟩
  exact of_decide_eq_true (by kernel_rfl)
 ·rintro ⟨x,p,⟨⟩⟩ hw hn
  exact NU x p (gv (bg (aX hw)))
theorem IT {n:Nm} {x:n.T} (h:wfD (.nm n) x):wfD n.flds (n.to x):=by
 obtain ⟨S,w,cs,h⟩:=h
 cases h with|nm h=>exact ⟨_,_,_,h⟩
theorem oc {r:Rules} (h:wfD (.nm .Rules) r):r.Power.length≤aI:=
 ce (bg (aX (aX (aX (aX (aX (aX (aX (aX (aX (aX (aX (aX (aX (IT h)))))))))))))))
theorem Mu (r:Rules) (o:Int) (hx:r.Power.length≤aI) (i:Nat) (hi:CT r o i) :(stepObl (J75 r o) (CT r o) (fun i=>r.Power.length - i) i (T75 r o) (bm (cf8 [] Tryz.f199) (fun _=>none) (aB Tryz.f199 0) (J75 r o i)) (L75 i)).1:=by
 refine cast (by kernel_rfl) (?_ :(decide ((↑i:Int) <(↑r.14.length:Int))=true→((0:Int)≤(↑i:Int)∧(↑i:Int) <(↑r.14.length:Int))∧((bif decide ((r.14.getD (↑i:Int).toNat (dflt (Ty.nm Nm.Phase))).1≤IntKind.i64.wrap (o +(1:Int))) then decide (IntKind.i64.wrap (o +(1:Int))≤(r.14.getD (↑i:Int).toNat (dflt (Ty.nm Nm.Phase))).2) else false)=true→r.14.any (eB o)=true∧((r.14.getD (↑i:Int).toNat (dflt (Ty.nm Nm.Phase))).3=cO r o∧True)∧True)∧((bif decide ((r.14.getD (↑i:Int).toNat (dflt (Ty.nm Nm.Phase))).1≤IntKind.i64.wrap (o +(1:Int))) then decide (IntKind.i64.wrap (o +(1:Int))≤(r.14.getD (↑i:Int).toNat (dflt (Ty.nm Nm.Phase))).2) else false)=false→CT r o (i +(1:Nat))∧r.14.length - (i +(1:Nat))<r.14.length - i∧(o=o∧True∧RowD.mk (Ty.nm Nm.Phase) r.14=RowD.mk (Ty.nm Nm.Phase) r.14∧(↑r.14.length:Int) =(↑r.14.length:Int)∧IntKind.i64.wrap ((↑i:Int) +(1:Int)) =(↑(i +(1:Nat)):Int)∧True)∧(r.1=r.1∧r.2=r.2∧r.3=r.3∧r.4=r.4∧r.5=r.5∧r.6=r.6∧r.7=r.7∧r.8=r.8∧r.9=r.9∧r.10=r.10∧r.11=r.11∧r.12=r.12∧r.13=r.13∧RowD.mk (Ty.nm Nm.Phase) r.14=RowD.mk (Ty.nm Nm.Phase) r.14∧True)∧True))∧(decide ((↑i:Int) <(↑r.14.length:Int))=false→r.14.any (eB o)=false∧(True∧True)∧(r.1=r.1∧r.2=r.2∧r.3=r.3∧r.4=r.4∧r.5=r.5∧r.6=r.6∧r.7=r.7∧r.8=r.8∧r.9=r.9∧r.10=r.10∧r.11=r.11∧r.12=r.12∧r.13=r.13∧RowD.mk (Ty.nm Nm.Phase) r.14=RowD.mk (Ty.nm Nm.Phase) r.14∧True)∧True))
 have e :(i:Int).toNat=i:=by simp
 rw [e]
 generalize hw:r.Power.getD i (dflt (Ty.nm Nm.Phase))=w
 have hc :(bif decide (w.From≤IntKind.i64.wrap (o+1)) then decide (IntKind.i64.wrap (o+1)≤w.To) else false)=eB o w:=by simp only [eB];cases decide (w.From≤IntKind.i64.wrap (o+1)) <;> rfl
 have hb:r.Power.length≤140737488355328:=hx
 refine ⟨fun h1=>?_,fun h1=>?_⟩
 ·have h1:i<r.Power.length:=by simpa using h1
  have h3:r.Power[i]?=some w:=by rw [←hw];exact nv _ h1
  refine ⟨⟨by omega,by omega⟩,fun h2=>?_,fun h2=>?_⟩
  ·have h2:eB o w=true:=by rw [←hc];exact h2
   have h4:cO r o=w.Outside:=by
    unfold cO
    rw [vU (eB o) r.Power i w h3 h2 hi.2];rfl
   have h5:r.Power.any (eB o)=true:=List.any_eq_true.2 ⟨w,List.mem_of_getElem? h3,h2⟩
   rw [h4]
   simp [h5]
  ·have h2:eB o w=false:=by rw [←hc];exact h2
   refine ⟨⟨by omega,fun y hy=>?_⟩,by omega,⟨rfl,trivial,rfl,rfl,?_,trivial⟩,by simp⟩
   ·rw [List.take_add_one,h3] at hy
    rcases List.mem_append.1 hy with hy|hy
    ·exact hi.2 y hy
    ·simp at hy;subst hy;exact h2
   ·rw [eZ (by omega) (by omega)];omega
 ·have h1:r.Power.length≤i:=by simpa using h1
  have:r.Power.any (eB o)=false:=by
   rw [List.any_eq_false]
   intro x hx
   have:=hi.2 x (by rw [List.take_of_length_le h1];exact hx)
   simpa using this
  simp [this]
theorem LL (r:Rules) (o:Int) (hx:r.Power.length≤aI):LoopOK Tryz.prog Tryz.f199.ntmps (aB Tryz.f199 0) (cw ⟨[],[],48⟩ (J75 r o 0) (T75 r o)):=
 iM (bu (CtrsOK.nil) _) mixed (J75 r o) (fun _=>rfl) (CT r o) (fun i=>r.Power.length - i) (fun _ _=>none) (fun _ _ _ _ _ h=>by cases h) (T75 r o) [] [] 0 (⟨Nat.zero_le _,by simp⟩) L75 (fun i hi=>Mu r o hx i hi)
theorem NV (r:Rules) (o:Int) (hx:r.Power.length≤aI) :(evFn (cf8 [] Tryz.f199) (Λ75 r o) Tryz.f199 (bk psR (r,o,()))).sat fun v' rows=>leV v' (xO (r,o,())).v∧rows =(xO (r,o,())).rows:=by
 refine cast (by kernel_rfl) (?_ :((cx fun x=>none)∧(o=o∧True∧RowD.mk (Ty.nm Nm.Phase) r.14=RowD.mk (Ty.nm Nm.Phase) r.14∧(↑r.14.length:Int) =(↑r.14.length:Int)∧(0:Int) =(↑(0:Nat):Int)∧True)∧(r.1=r.1∧r.2=r.2∧r.3=r.3∧r.4=r.4∧r.5=r.5∧r.6=r.6∧r.7=r.7∧r.8=r.8∧r.9=r.9∧r.10=r.10∧r.11=r.11∧r.12=r.12∧r.13=r.13∧RowD.mk (Ty.nm Nm.Phase) r.14=RowD.mk (Ty.nm Nm.Phase) r.14∧True)∧True)∧(r.14.any (eB o)=true→cO r o=cO r o∧([]:List RowD)=[])∧(r.14.any (eB o)=false→r.13=cO r o∧([]:List RowD)=[]))
 have hN:r.Power.any (eB o)=false→cO r o=r.Outside:=fun h1=>by
  unfold cO
  rw [List.find?_eq_none.2 fun x hx=>(List.any_eq_false.1 h1) x hx];rfl
 refine ⟨⟨rfl,⟨rfl,trivial,rfl,rfl,rfl,trivial⟩,by simp⟩,fun _=>by simp,fun h=>by rw [hN h];simp⟩
theorem OD:CtrOK Tryz.prog K8 199 (aq K8 psR xO):=by
 refine aS (C:=cf8 [] Tryz.f199) (bu (CtrsOK.nil) _) mixed (fn:=Tryz.f199) Tryz.func199 (by kernel_rfl) (by kernel_rfl) (by kernel_rfl) (Λ:=fun x=>Λ75 x.1 x.2.1) ?_ ?_ ?_
 ·rintro ⟨r,o,⟨⟩⟩ hw hn
  exact LoopsOK.at (by kernel_rfl) (.cons (by kernel_rfl) (LL r o (oc (bg hw))) .nil)
 ·rintro ⟨r,o,⟨⟩⟩
  exact of_decide_eq_true (by kernel_rfl)
 ·rintro ⟨r,o,⟨⟩⟩ hw hn
  exact NV r o (oc (bg hw))
theorem ND (r:Rules) (x:Innings) :(evFn (cf8 [k73,k74,k75] Tryz.f182) (fun _=>none) Tryz.f182 (bk zE (r,x,()))).sat fun v' rows=>leV v' (xx (r,x,())).v∧rows =(xx (r,x,())).rows:=by
 refine cast (by kernel_rfl) (?_ :((bif !bj x x.19 then true else bif aO x x.19 then true else x.19==x.12)=true→(17:Int)=jS r x∧([]:List RowD)=[])∧((bif !bj x x.19 then true else bif aO x x.19 then true else x.19==x.12)=false→(decide (x.20>cO r x.7)=true→(16:Int)=jS r x∧([]:List RowD)=[])∧(decide (x.20>cO r x.7)=false→(0:Int)=jS r x∧([]:List RowD)=[])))
 simp only [jS]
 repeat' first|refine And.intro ?_ ?_|intro _
 all_goals first|rfl|grind
theorem Nr:CtrOK Tryz.prog K8 182 (aq K8 zE xx):=by
 refine aS (C:=cf8 [k73,k74,k75] Tryz.f182) (bu (.cons G3 (.cons Jt (.cons OD .nil))) _) mixed (fn:=Tryz.f182) Tryz.func182 (by kernel_rfl) (by kernel_rfl) (by kernel_rfl) (Λ:=fun _ _=>none) ?_ ?_ ?_
 ·exact fun _ _ _ _ _ _ _ _ h=>by cases h
 ·rintro ⟨r,x,⟨⟩⟩
  exact of_decide_eq_true (by kernel_rfl)
 ·rintro ⟨r,x,⟨⟩⟩ hw hn
  exact ND r x
theorem NE (x:Innings) (d:Delivery) :(evFn (cf8 [k73,k74] Tryz.f184) (fun _=>none) Tryz.f184 (bk J1 (x,d,()))).sat fun v' rows=>leV v' (xy (x,d,())).v∧rows =(xy (x,d,())).rows:=by
 refine cast (by kernel_rfl) (?_ :((decide (d.9 >(0:Int))=true→((!bj x d.9)=true→(3:Int)=ib x d∧([]:List RowD)=[])∧((!bj x d.9)=false→((!d.11==aO x d.9)=true→(18:Int)=ib x d∧([]:List RowD)=[])∧((!d.11==aO x d.9)=false→True)))∧(decide (d.9 >(0:Int))=false→True))∧((bif decide (d.9 >(0:Int)) then bif !bj x d.9 then false else !!d.11==aO x d.9 else true)=true→((decide (d.10 >(0:Int))=true→((!bj x d.10)=true→(3:Int)=ib x d∧([]:List RowD)=[])∧((!bj x d.10)=false→(aO x d.10=true→(18:Int)=ib x d∧([]:List RowD)=[])∧(aO x d.10=false→True)))∧(decide (d.10 >(0:Int))=false→True))∧((bif decide (d.10 >(0:Int)) then bif !bj x d.10 then false else !aO x d.10 else true)=true→((bif d.7 ==(4:Int) then (if (0:Int)>d.9 then (0:Int) else d.9) != x.19 else false)=true→(17:Int)=ib x d∧([]:List RowD)=[])∧((bif d.7 ==(4:Int) then (if (0:Int)>d.9 then (0:Int) else d.9) != x.19 else false)=false→(0:Int)=ib x d∧([]:List RowD)=[]))))
 have hm:ko d.Fielder 0=if (0:Int)>d.Fielder then 0 else d.Fielder:=rfl
 simp only [ib,Bi,Bj,hm]
 repeat' first|refine And.intro ?_ ?_|intro _
 all_goals first|trivial|rfl|grind
theorem Ns:CtrOK Tryz.prog K8 184 (aq K8 J1 xy):=by
 refine aS (C:=cf8 [k73,k74] Tryz.f184) (bu (.cons G3 (.cons Jt .nil)) _) mixed (fn:=Tryz.f184) Tryz.func184 (by kernel_rfl) (by kernel_rfl) (by kernel_rfl) (Λ:=fun _ _=>none) ?_ ?_ ?_
 ·exact fun _ _ _ _ _ _ _ _ h=>by cases h
 ·rintro ⟨x,d,⟨⟩⟩
  exact of_decide_eq_true (by kernel_rfl)
 ·rintro ⟨x,d,⟨⟩⟩ hw hn
  exact NE x d
theorem NF (x:List Bool) (hs:x.length≤1000000) :(evFn (cf8 [] Tryz.f84) (fun _=>none) Tryz.f84 (bk JS (x,()))).sat fun v' rows=>leV v' (xz (x,())).v∧rows =(xz (x,())).rows:=by
 refine cast (by kernel_rfl) (?_ :(x.isEmpty=true→(nat_lit 0=nat_lit 0∧nat_lit 0=nat_lit 0)∧ [RowD.mk Ty.bool []]=[RowD.mk Ty.bool x])∧((0:Nat)+x.length) *(1:Nat)≤(70368744177664:Nat)∧(nat_lit 0=nat_lit 0∧nat_lit 0=nat_lit 0)∧ [RowD.mk Ty.bool ([]++x)]=[RowD.mk Ty.bool x])
 refine ⟨fun h=>⟨⟨rfl,rfl⟩,?_⟩,?_,⟨rfl,rfl⟩,rfl⟩
 ·have:x=[]:=List.isEmpty_iff.1 h
  subst this;rfl
 ·omega
theorem Jq:CtrOK Tryz.prog K8 84 (aq K8 JS xz):=by
 refine aS (C:=cf8 [] Tryz.f84) (bu (CtrsOK.nil) _) mixed (fn:=Tryz.f84) Tryz.func84 (by kernel_rfl) (by kernel_rfl) (by kernel_rfl) (Λ:=fun _ _=>none) ?_ ?_ ?_
 ·exact fun _ _ _ _ _ _ _ _ h=>by cases h
 ·rintro ⟨x,⟨⟩⟩
  exact of_decide_eq_true (by kernel_rfl)
 ·rintro ⟨x,⟨⟩⟩ hw hn
  exact NF x (hn _ (List.mem_singleton.2 rfl))
theorem N4 (x:List Int) (hs:x.length≤1000000) :(evFn (cf8 [] Tryz.f82) (fun _=>none) Tryz.f82 (bk JX (x,()))).sat fun v' rows=>leV v' (xV (x,())).v∧rows =(xV (x,())).rows:=by
 refine cast (by kernel_rfl) (?_ :(x.isEmpty=true→(nat_lit 0=nat_lit 0∧nat_lit 0=nat_lit 0)∧ [RowD.mk (Ty.int IntKind.u8) []]=[RowD.mk (Ty.int IntKind.u8) x])∧((0:Nat)+x.length) *(1:Nat)≤(70368744177664:Nat)∧(nat_lit 0=nat_lit 0∧nat_lit 0=nat_lit 0)∧ [RowD.mk (Ty.int IntKind.u8) ([]++x)]=[RowD.mk (Ty.int IntKind.u8) x])
 refine ⟨fun h=>⟨⟨rfl,rfl⟩,?_⟩,?_,⟨rfl,rfl⟩,rfl⟩
 ·have:x=[]:=List.isEmpty_iff.1 h
  subst this;rfl
 ·omega
theorem Ju:CtrOK Tryz.prog K8 82 (aq K8 JX xV):=by
 refine aS (C:=cf8 [] Tryz.f82) (bu (CtrsOK.nil) _) mixed (fn:=Tryz.f82) Tryz.func82 (by kernel_rfl) (by kernel_rfl) (by kernel_rfl) (Λ:=fun _ _=>none) ?_ ?_ ?_
 ·exact fun _ _ _ _ _ _ _ _ h=>by cases h
 ·rintro ⟨x,⟨⟩⟩
  exact of_decide_eq_true (by kernel_rfl)
 ·rintro ⟨x,⟨⟩⟩ hw hn
  exact N4 x (hn _ (List.mem_singleton.2 rfl))
theorem N5 (x:List Int) (hs:x.length≤1000000) :(evFn (cf8 [] Tryz.f83) (fun _=>none) Tryz.f83 (bk JY (x,()))).sat fun v' rows=>leV v' (xW (x,())).v∧rows =(xW (x,())).rows:=by
 refine cast (by kernel_rfl) (?_ :(x.isEmpty=true→(nat_lit 0=nat_lit 0∧nat_lit 0=nat_lit 0)∧ [RowD.mk (Ty.int IntKind.i64) []]=[RowD.mk (Ty.int IntKind.i64) x])∧((0:Nat)+x.length) *(8:Nat)≤(70368744177664:Nat)∧(nat_lit 0=nat_lit 0∧nat_lit 0=nat_lit 0)∧ [RowD.mk (Ty.int IntKind.i64) ([]++x)]=[RowD.mk (Ty.int IntKind.i64) x])
 refine ⟨fun h=>⟨⟨rfl,rfl⟩,?_⟩,?_,⟨rfl,rfl⟩,rfl⟩
 ·have:x=[]:=List.isEmpty_iff.1 h
  subst this;rfl
 ·omega
theorem Jv:CtrOK Tryz.prog K8 83 (aq K8 JY xW):=by
 refine aS (C:=cf8 [] Tryz.f83) (bu (CtrsOK.nil) _) mixed (fn:=Tryz.f83) Tryz.func83 (by kernel_rfl) (by kernel_rfl) (by kernel_rfl) (Λ:=fun _ _=>none) ?_ ?_ ?_
 ·exact fun _ _ _ _ _ _ _ _ h=>by cases h
 ·rintro ⟨x,⟨⟩⟩
  exact of_decide_eq_true (by kernel_rfl)
 ·rintro ⟨x,⟨⟩⟩ hw hn
  exact N5 x (hn _ (List.mem_singleton.2 rfl))
theorem NW (x:Innings) (hs:ah x) :(evFn (cf8 [k45,k90,k91] Tryz.f169) (fun _=>none) Tryz.f169 (bk psI (x,()))).sat fun v' rows=>leV v' (gt (x,())).v∧rows =(gt (x,())).rows:=by
 refine cast (by kernel_rfl) (?_:x.11.length≤(1000000:Nat)∧x.13.length≤(1000000:Nat)∧x.14.length≤(1000000:Nat)∧x.16.length≤(1000000:Nat)∧x.21.length≤(1000000:Nat)∧(x.1=x.1∧x.2=x.2∧x.3=x.3∧x.4=x.4∧x.5=x.5∧x.6.1=x.6.1∧x.6.2=x.6.2∧x.6.3=x.6.3∧x.6.4=x.6.4∧x.6.5=x.6.5∧x.7=x.7∧x.8=x.8∧x.9=x.9∧x.10=x.10∧(nat_lit 0=nat_lit 0∧nat_lit 0=nat_lit 0)∧x.12=x.12∧(nat_lit 1=nat_lit 1∧nat_lit 1=nat_lit 1)∧(nat_lit 2=nat_lit 2∧nat_lit 2=nat_lit 2)∧x.15=x.15∧(nat_lit 3=nat_lit 3∧nat_lit 3=nat_lit 3)∧x.17=x.17∧x.18=x.18∧x.19=x.19∧x.20=x.20∧(nat_lit 4=nat_lit 4∧nat_lit 4=nat_lit 4)∧x.22.1=x.22.1∧x.22.2.1=x.22.2.1∧x.23=x.23∧True)∧ [RowD.mk (Ty.int IntKind.u8) x.11,RowD.mk (Ty.int IntKind.i64) x.13,RowD.mk (Ty.int IntKind.i64) x.14,RowD.mk (Ty.int IntKind.i64) x.16,RowD.mk Ty.bool x.21]=[RowD.mk (Ty.int IntKind.u8) x.11,RowD.mk (Ty.int IntKind.i64) x.13,RowD.mk (Ty.int IntKind.i64) x.14,RowD.mk (Ty.int IntKind.i64) x.16,RowD.mk Ty.bool x.21])
 obtain ⟨h1,h2,h3,h4,h5⟩:=hs
 simp [h1,h2,h3,h4,h5]
theorem L2:CtrOK Tryz.prog K8 169 (aq K8 psI gt):=by
 refine aS (C:=cf8 [k45,k90,k91] Tryz.f169) (bu (.cons Jq (.cons Ju (.cons Jv .nil))) _) mixed (fn:=Tryz.f169) Tryz.func169 (by kernel_rfl) (by kernel_rfl) (by kernel_rfl) (Λ:=fun _ _=>none) ?_ ?_ ?_
 ·exact fun _ _ _ _ _ _ _ _ h=>by cases h
 ·rintro ⟨x,⟨⟩⟩
  exact of_decide_eq_true (by kernel_rfl)
 ·rintro ⟨x,⟨⟩⟩ hw hn
  exact NW x (hn _ (List.mem_singleton.2 rfl))
theorem NQ (x:Innings) (p:Int) (hs:ah x) :(evFn (cf8 [k73,k74,k78] Tryz.f138) (fun _=>none) Tryz.f138 (bk jh (x,p,()))).sat fun v' rows=>leV v' (xK (x,p,())).v∧rows =(xK (x,p,())).rows:=by
 refine cast (by kernel_rfl) (?_:ah x∧((!bj x p)=true→((x.1 =(ai x p).1∧x.2 =(ai x p).2∧x.3 =(ai x p).3∧x.4 =(ai x p).4∧x.5 =(ai x p).5∧x.6.1 =(ai x p).6.1∧x.6.2 =(ai x p).6.2∧x.6.3 =(ai x p).6.3∧x.6.4 =(ai x p).6.4∧x.6.5 =(ai x p).6.5∧x.7 =(ai x p).7∧x.8 =(ai x p).8∧x.9 =(ai x p).9∧x.10 =(ai x p).10∧(nat_lit 0=nat_lit 0∧nat_lit 0=nat_lit 0)∧x.12 =(ai x p).12∧(nat_lit 1=nat_lit 1∧nat_lit 1=nat_lit 1)∧(nat_lit 2=nat_lit 2∧nat_lit 2=nat_lit 2)∧x.15 =(ai x p).15∧(nat_lit 3=nat_lit 3∧nat_lit 3=nat_lit 3)∧x.17 =(ai x p).17∧x.18 =(ai x p).18∧x.19 =(ai x p).19∧x.20 =(ai x p).20∧(nat_lit 4=nat_lit 4∧nat_lit 4=nat_lit 4)∧x.22.1 =(ai x p).22.1∧x.22.2.1 =(ai x p).22.2.1∧x.23 =(ai x p).23∧True)∧(3:Int)=da x p∧True)∧ [RowD.mk (Ty.int IntKind.u8) x.11,RowD.mk (Ty.int IntKind.i64) x.13,RowD.mk (Ty.int IntKind.i64) x.14,RowD.mk (Ty.int IntKind.i64) x.16,RowD.mk Ty.bool x.21]=[RowD.mk (Ty.int IntKind.u8) (ai x p).11,RowD.mk (Ty.int IntKind.i64) (ai x p).13,RowD.mk (Ty.int IntKind.i64) (ai x p).14,RowD.mk (Ty.int IntKind.i64) (ai x p).16,RowD.mk Ty.bool (ai x p).21])∧((!bj x p)=false→(aO x p=true→((x.1 =(ai x p).1∧x.2 =(ai x p).2∧x.3 =(ai x p).3∧x.4 =(ai x p).4∧x.5 =(ai x p).5∧x.6.1 =(ai x p).6.1∧x.6.2 =(ai x p).6.2∧x.6.3 =(ai x p).6.3∧x.6.4 =(ai x p).6.4∧x.6.5 =(ai x p).6.5∧x.7 =(ai x p).7∧x.8 =(ai x p).8∧x.9 =(ai x p).9∧x.10 =(ai x p).10∧(nat_lit 0=nat_lit 0∧nat_lit 0=nat_lit 0)∧x.12 =(ai x p).12∧(nat_lit 1=nat_lit 1∧nat_lit 1=nat_lit 1)∧(nat_lit 2=nat_lit 2∧nat_lit 2=nat_lit 2)∧x.15 =(ai x p).15∧(nat_lit 3=nat_lit 3∧nat_lit 3=nat_lit 3)∧x.17 =(ai x p).17∧x.18 =(ai x p).18∧x.19 =(ai x p).19∧x.20 =(ai x p).20∧(nat_lit 4=nat_lit 4∧nat_lit 4=nat_lit 4)∧x.22.1 =(ai x p).22.1∧x.22.2.1 =(ai x p).22.2.1∧x.23 =(ai x p).23∧True)∧(18:Int)=da x p∧True)∧ [RowD.mk (Ty.int IntKind.u8) x.11,RowD.mk (Ty.int IntKind.i64) x.13,RowD.mk (Ty.int IntKind.i64) x.14,RowD.mk (Ty.int IntKind.i64) x.16,RowD.mk Ty.bool x.21]=[RowD.mk (Ty.int IntKind.u8) (ai x p).11,RowD.mk (Ty.int IntKind.i64) (ai x p).13,RowD.mk (Ty.int IntKind.i64) (ai x p).14,RowD.mk (Ty.int IntKind.i64) (ai x p).16,RowD.mk Ty.bool (ai x p).21])∧(aO x p=false→((bif p==x.12 then true else p==x.19)=true→((x.1 =(ai x p).1∧x.2 =(ai x p).2∧x.3 =(ai x p).3∧x.4 =(ai x p).4∧x.5 =(ai x p).5∧x.6.1 =(ai x p).6.1∧x.6.2 =(ai x p).6.2∧x.6.3 =(ai x p).6.3∧x.6.4 =(ai x p).6.4∧x.6.5 =(ai x p).6.5∧x.7 =(ai x p).7∧x.8 =(ai x p).8∧x.9 =(ai x p).9∧x.10 =(ai x p).10∧(nat_lit 0=nat_lit 0∧nat_lit 0=nat_lit 0)∧x.12 =(ai x p).12∧(nat_lit 1=nat_lit 1∧nat_lit 1=nat_lit 1)∧(nat_lit 2=nat_lit 2∧nat_lit 2=nat_lit 2)∧x.15 =(ai x p).15∧(nat_lit 3=nat_lit 3∧nat_lit 3=nat_lit 3)∧x.17 =(ai x p).17∧x.18 =(ai x p).18∧x.19 =(ai x p).19∧x.20 =(ai x p).20∧(nat_lit 4=nat_lit 4∧nat_lit 4=nat_lit 4)∧x.22.1 =(ai x p).22.1∧x.22.2.1 =(ai x p).22.2.1∧x.23 =(ai x p).23∧True)∧(17:Int)=da x p∧True)∧ [RowD.mk (Ty.int IntKind.u8) x.11,RowD.mk (Ty.int IntKind.i64) x.13,RowD.mk (Ty.int IntKind.i64) x.14,RowD.mk (Ty.int IntKind.i64) x.16,RowD.mk Ty.bool x.21]=[RowD.mk (Ty.int IntKind.u8) (ai x p).11,RowD.mk (Ty.int IntKind.i64) (ai x p).13,RowD.mk (Ty.int IntKind.i64) (ai x p).14,RowD.mk (Ty.int IntKind.i64) (ai x p).16,RowD.mk Ty.bool (ai x p).21])∧((bif p==x.12 then true else p==x.19)=false→((x.1 =(ai x p).1∧x.2 =(ai x p).2∧x.3 =(ai x p).3∧x.4 =(ai x p).4∧x.5 =(ai x p).5∧x.6.1 =(ai x p).6.1∧x.6.2 =(ai x p).6.2∧x.6.3 =(ai x p).6.3∧x.6.4 =(ai x p).6.4∧x.6.5 =(ai x p).6.5∧x.7 =(ai x p).7∧x.8 =(ai x p).8∧x.9 =(ai x p).9∧x.10 =(ai x p).10∧(nat_lit 0=nat_lit 0∧nat_lit 0=nat_lit 0)∧x.12 =(ai x p).12∧(nat_lit 1=nat_lit 1∧nat_lit 1=nat_lit 1)∧(nat_lit 2=nat_lit 2∧nat_lit 2=nat_lit 2)∧x.15 =(ai x p).15∧(nat_lit 3=nat_lit 3∧nat_lit 3=nat_lit 3)∧x.17 =(ai x p).17∧x.18 =(ai x p).18∧p =(ai x p).19∧x.20 =(ai x p).20∧(nat_lit 4=nat_lit 4∧nat_lit 4=nat_lit 4)∧x.22.1 =(ai x p).22.1∧x.22.2.1 =(ai x p).22.2.1∧x.23 =(ai x p).23∧True)∧(0:Int)=da x p∧True)∧ [RowD.mk (Ty.int IntKind.u8) x.11,RowD.mk (Ty.int IntKind.i64) x.13,RowD.mk (Ty.int IntKind.i64) x.14,RowD.mk (Ty.int IntKind.i64) x.16,RowD.mk Ty.bool x.21]=[RowD.mk (Ty.int IntKind.u8) (ai x p).11,RowD.mk (Ty.int IntKind.i64) (ai x p).13,RowD.mk (Ty.int IntKind.i64) (ai x p).14,RowD.mk (Ty.int IntKind.i64) (ai x p).16,RowD.mk Ty.bool (ai x p).21]))))
 refine ⟨hs,fun h1=>?_,fun h1=>⟨fun h2=>?_,fun h2=>⟨fun h3=>?_,fun h3=>?_⟩⟩⟩
 ·have k:bj x p=false:=by simpa using h1
  have e:ai x p=x:=by simp [ai,k]
  have l:da x p=3:=by simp [da,k]
  rw [e,l];simp
 ·have k:bj x p=true:=by simpa using h1
  have e:ai x p=x:=by simp [ai,k,h2]
  have l:da x p=18:=by simp [da,k,h2]
  rw [e,l];simp
 ·have k:bj x p=true:=by simpa using h1
  have h4 :(p==x.Bowler||p==x.Keeper)=true:=by rw [←h3];cases p==x.Bowler <;> rfl
  have e:ai x p=x:=by simp only [ai,k,h2,h4];simp
  have l:da x p=17:=by simp only [da,k,h2,h4];simp
  rw [e,l];simp
 ·have k:bj x p=true:=by simpa using h1
  have h4 :(p==x.Bowler||p==x.Keeper)=false:=by rw [←h3];cases p==x.Bowler <;> rfl
  have e:ai x p={ x with Keeper:=p }:=by simp only [ai,k,h2,h4];simp
  have l:da x p=0:=by simp only [da,k,h2,h4];simp
  rw [e,l];simp
theorem OB:CtrOK Tryz.prog K8 138 (aq K8 jh xK):=by
 refine aS (C:=cf8 [k73,k74,k78] Tryz.f138) (bu (.cons G3 (.cons Jt (.cons L2 .nil))) _) mixed (fn:=Tryz.f138) Tryz.func138 (by kernel_rfl) (by kernel_rfl) (by kernel_rfl) (Λ:=fun _ _=>none) ?_ ?_ ?_
 ·exact fun _ _ _ _ _ _ _ _ h=>by cases h
 ·rintro ⟨x,p,⟨⟩⟩
  exact of_decide_eq_true (by kernel_rfl)
 ·rintro ⟨x,p,⟨⟩⟩ hw hn
  exact NQ x p (hn _ (List.mem_singleton.2 rfl))
theorem NG (x:Innings) (p:Int) (on:Bool) (hs:ah x) (hp:kU p) :(evFn (cf8 [k73,k74,k78] Tryz.f139) (fun _=>none) Tryz.f139 (bk DH (x,p,on,()))).sat fun v' rows=>leV v' (xA (x,p,on,())).v∧rows =(xA (x,p,on,())).rows:=by
 refine cast (by kernel_rfl) (?_:ah x∧((!bj x p)=true→((x.1 =(ay x p on).1∧x.2 =(ay x p on).2∧x.3 =(ay x p on).3∧x.4 =(ay x p on).4∧x.5 =(ay x p on).5∧x.6.1 =(ay x p on).6.1∧x.6.2 =(ay x p on).6.2∧x.6.3 =(ay x p on).6.3∧x.6.4 =(ay x p on).6.4∧x.6.5 =(ay x p on).6.5∧x.7 =(ay x p on).7∧x.8 =(ay x p on).8∧x.9 =(ay x p on).9∧x.10 =(ay x p on).10∧(nat_lit 0=nat_lit 0∧nat_lit 0=nat_lit 0)∧x.12 =(ay x p on).12∧(nat_lit 1=nat_lit 1∧nat_lit 1=nat_lit 1)∧(nat_lit 2=nat_lit 2∧nat_lit 2=nat_lit 2)∧x.15 =(ay x p on).15∧(nat_lit 3=nat_lit 3∧nat_lit 3=nat_lit 3)∧x.17 =(ay x p on).17∧x.18 =(ay x p on).18∧x.19 =(ay x p on).19∧x.20 =(ay x p on).20∧(nat_lit 4=nat_lit 4∧nat_lit 4=nat_lit 4)∧x.22.1 =(ay x p on).22.1∧x.22.2.1 =(ay x p on).22.2.1∧x.23 =(ay x p on).23∧True)∧(3:Int)=gu x p on∧True)∧ [RowD.mk (Ty.int IntKind.u8) x.11,RowD.mk (Ty.int IntKind.i64) x.13,RowD.mk (Ty.int IntKind.i64) x.14,RowD.mk (Ty.int IntKind.i64) x.16,RowD.mk Ty.bool x.21]=[RowD.mk (Ty.int IntKind.u8) (ay x p on).11,RowD.mk (Ty.int IntKind.i64) (ay x p on).13,RowD.mk (Ty.int IntKind.i64) (ay x p on).14,RowD.mk (Ty.int IntKind.i64) (ay x p on).16,RowD.mk Ty.bool (ay x p on).21])∧((!bj x p)=false→((aO x p==on)=true→((x.1 =(ay x p on).1∧x.2 =(ay x p on).2∧x.3 =(ay x p on).3∧x.4 =(ay x p on).4∧x.5 =(ay x p on).5∧x.6.1 =(ay x p on).6.1∧x.6.2 =(ay x p on).6.2∧x.6.3 =(ay x p on).6.3∧x.6.4 =(ay x p on).6.4∧x.6.5 =(ay x p on).6.5∧x.7 =(ay x p on).7∧x.8 =(ay x p on).8∧x.9 =(ay x p on).9∧x.10 =(ay x p on).10∧(nat_lit 0=nat_lit 0∧nat_lit 0=nat_lit 0)∧x.12 =(ay x p on).12∧(nat_lit 1=nat_lit 1∧nat_lit 1=nat_lit 1)∧(nat_lit 2=nat_lit 2∧nat_lit 2=nat_lit 2)∧x.15 =(ay x p on).15∧(nat_lit 3=nat_lit 3∧nat_lit 3=nat_lit 3)∧x.17 =(ay x p on).17∧x.18 =(ay x p on).18∧x.19 =(ay x p on).19∧x.20 =(ay x p on).20∧(nat_lit 4=nat_lit 4∧nat_lit 4=nat_lit 4)∧x.22.1 =(ay x p on).22.1∧x.22.2.1 =(ay x p on).22.2.1∧x.23 =(ay x p on).23∧True)∧(18:Int)=gu x p on∧True)∧ [RowD.mk (Ty.int IntKind.u8) x.11,RowD.mk (Ty.int IntKind.i64) x.13,RowD.mk (Ty.int IntKind.i64) x.14,RowD.mk (Ty.int IntKind.i64) x.16,RowD.mk Ty.bool x.21]=[RowD.mk (Ty.int IntKind.u8) (ay x p on).11,RowD.mk (Ty.int IntKind.i64) (ay x p on).13,RowD.mk (Ty.int IntKind.i64) (ay x p on).14,RowD.mk (Ty.int IntKind.i64) (ay x p on).16,RowD.mk Ty.bool (ay x p on).21])∧((aO x p==on)=false→((0:Int)≤IntKind.i64.wrap (p - (1:Int))∧IntKind.i64.wrap (p - (1:Int)) <(↑x.21.length:Int))∧(((bif bif on then (bif bif on then x.19==p else false then x.12 else x.12)==p else false then bif bif on then x.19==p else false then x.1 else x.1 else bif bif on then x.19==p else false then x.1 else x.1) =(ay x p on).1∧(bif bif on then (bif bif on then x.19==p else false then x.12 else x.12)==p else false then bif bif on then x.19==p else false then x.2 else x.2 else bif bif on then x.19==p else false then x.2 else x.2) =(ay x p on).2∧(bif bif on then (bif bif on then x.19==p else false then x.12 else x.12)==p else false then bif bif on then x.19==p else false then x.3 else x.3 else bif bif on then x.19==p else false then x.3 else x.3) =(ay x p on).3∧(bif bif on then (bif bif on then x.19==p else false then x.12 else x.12)==p else false then bif bif on then x.19==p else false then x.4 else x.4 else bif bif on then x.19==p else false then x.4 else x.4) =(ay x p on).4∧(bif bif on then (bif bif on then x.19==p else false then x.12 else x.12)==p else false then bif bif on then x.19==p else false then x.5 else x.5 else bif bif on then x.19==p else false then x.5 else x.5) =(ay x p on).5∧(bif bif on then (bif bif on then x.19==p else false then x.12 else x.12)==p else false then bif bif on then x.19==p else false then x.6.1 else x.6.1 else bif bif on then x.19==p else false then x.6.1 else x.6.1) =(ay x p on).6.1∧(bif bif on then (bif bif on then x.19==p else false then x.12 else x.12)==p else false then bif bif on then x.19==p else false then x.6.2 else x.6.2 else bif bif on then x.19==p else false then x.6.2 else x.6.2) =(ay x p on).6.2∧(bif bif on then (bif bif on then x.19==p else false then x.12 else x.12)==p else false then bif bif on then x.19==p else false then x.6.3 else x.6.3 else bif bif on then x.19==p else false then x.6.3 else x.6.3) =(ay x p on).6.3∧(bif bif on then (bif bif on then x.19==p else false then x.12 else x.12)==p else false then bif bif on then x.19==p else false then x.6.4 else x.6.4 else bif bif on then x.19==p else false then x.6.4 else x.6.4) =(ay x p on).6.4∧(bif bif on then (bif bif on then x.19==p else false then x.12 else x.12)==p else false then bif bif on then x.19==p else false then x.6.5 else x.6.5 else bif bif on then x.19==p else false then x.6.5 else x.6.5) =(ay x p on).6.5∧(bif bif on then (bif bif on then x.19==p else false then x.12 else x.12)==p else false then bif bif on then x.19==p else false then x.7 else x.7 else bif bif on then x.19==p else false then x.7 else x.7) =(ay x p on).7∧(bif bif on then (bif bif on then x.19==p else false then x.12 else x.12)==p else false then bif bif on then x.19==p else false then x.8 else x.8 else bif bif on then x.19==p else false then x.8 else x.8) =(ay x p on).8∧(bif bif on then (bif bif on then x.19==p else false then x.12 else x.12)==p else false then bif bif on then x.19==p else false then x.9 else x.9 else bif bif on then x.19==p else false then x.9 else x.9) =(ay x p on).9∧(bif bif on then (bif bif on then x.19==p else false then x.12 else x.12)==p else false then bif bif on then x.19==p else false then x.10 else x.10 else bif bif on then x.19==p else false then x.10 else x.10) =(ay x p on).10∧(nat_lit 0=nat_lit 0∧nat_lit 0=nat_lit 0)∧(bif bif on then (bif bif on then x.19==p else false then x.12 else x.12)==p else false then (0:Int) else bif bif on then x.19==p else false then x.12 else x.12) =(ay x p on).12∧(nat_lit 1=nat_lit 1∧nat_lit 1=nat_lit 1)∧(nat_lit 2=nat_lit 2∧nat_lit 2=nat_lit 2)∧(bif bif on then (bif bif on then x.19==p else false then x.12 else x.12)==p else false then bif bif on then x.19==p else false then x.15 else x.15 else bif bif on then x.19==p else false then x.15 else x.15) =(ay x p on).15∧(nat_lit 3=nat_lit 3∧nat_lit 3=nat_lit 3)∧(bif bif on then (bif bif on then x.19==p else false then x.12 else x.12)==p else false then bif bif on then x.19==p else false then x.17 else x.17 else bif bif on then x.19==p else false then x.17 else x.17) =(ay x p on).17∧(bif bif on then (bif bif on then x.19==p else false then x.12 else x.12)==p else false then bif bif on then x.19==p else false then x.18 else x.18 else bif bif on then x.19==p else false then x.18 else x.18) =(ay x p on).18∧(bif bif on then (bif bif on then x.19==p else false then x.12 else x.12)==p else false then bif bif on then x.19==p else false then (0:Int) else x.19 else bif bif on then x.19==p else false then (0:Int) else x.19) =(ay x p on).19∧(bif bif on then (bif bif on then x.19==p else false then x.12 else x.12)==p else false then bif bif on then x.19==p else false then x.20 else x.20 else bif bif on then x.19==p else false then x.20 else x.20) =(ay x p on).20∧(nat_lit 4=nat_lit 4∧nat_lit 4=nat_lit 4)∧(bif bif on then (bif bif on then x.19==p else false then x.12 else x.12)==p else false then bif bif on then x.19==p else false then x.22.1 else x.22.1 else bif bif on then x.19==p else false then x.22.1 else x.22.1) =(ay x p on).22.1∧(bif bif on then (bif bif on then x.19==p else false then x.12 else x.12)==p else false then bif bif on then x.19==p else false then x.22.2.1 else x.22.2.1 else bif bif on then x.19==p else false then x.22.2.1 else x.22.2.1) =(ay x p on).22.2.1∧(bif bif on then (bif bif on then x.19==p else false then x.12 else x.12)==p else false then bif bif on then x.19==p else false then x.23 else x.23 else bif bif on then x.19==p else false then x.23 else x.23) =(ay x p on).23∧True)∧(0:Int)=gu x p on∧True)∧ [RowD.mk (Ty.int IntKind.u8) x.11,RowD.mk (Ty.int IntKind.i64) x.13,RowD.mk (Ty.int IntKind.i64) x.14,RowD.mk (Ty.int IntKind.i64) x.16,RowD.mk Ty.bool (x.21.set (IntKind.i64.wrap (p - (1:Int))).toNat on)]=[RowD.mk (Ty.int IntKind.u8) (ay x p on).11,RowD.mk (Ty.int IntKind.i64) (ay x p on).13,RowD.mk (Ty.int IntKind.i64) (ay x p on).14,RowD.mk (Ty.int IntKind.i64) (ay x p on).16,RowD.mk Ty.bool (ay x p on).21])))
 refine ⟨hs,fun h1=>?_,fun h1=>⟨fun h2=>?_,fun h2=>?_⟩⟩
 ·have k:bj x p=false:=by simpa using h1
  have e:ay x p on=x:=by simp [ay,k]
  have l:gu x p on=3:=by simp [gu,k]
  rw [e,l];simp
 ·have k:bj x p=true:=by simpa using h1
  have e:ay x p on=x:=by simp only [ay,k,h2];simp
  have l:gu x p on=18:=by simp only [gu,k,h2];simp
  rw [e,l];simp
 ·have k:bj x p=true:=by simpa using h1
  have e:ay x p on=oP x p on:=by simp only [ay,k,h2];simp
  have l:gu x p on=0:=by simp only [gu,k,h2];simp
  obtain ⟨ew,a,b⟩:=A6 hp k
  rw [e,l,ew]
  refine ⟨⟨a,b⟩,?_⟩
  simp only [Bool.cond_self]
  cases on with
  | false=>simp [oP]
  | true=>cases hk :(x.Keeper==p) <;> cases hb :(x.Bowler==p) <;> simp [oP,hk,hb]
theorem Ou:CtrOK Tryz.prog K8 139 (aq K8 DH xA):=by
 refine aS (C:=cf8 [k73,k74,k78] Tryz.f139) (bu (.cons G3 (.cons Jt (.cons L2 .nil))) _) mixed (fn:=Tryz.f139) Tryz.func139 (by kernel_rfl) (by kernel_rfl) (by kernel_rfl) (Λ:=fun _ _=>none) ?_ ?_ ?_
 ·exact fun _ _ _ _ _ _ _ _ h=>by cases h
 ·rintro ⟨x,p,on,⟨⟩⟩
  exact of_decide_eq_true (by kernel_rfl)
 ·rintro ⟨x,p,on,⟨⟩⟩ hw hn
  exact NG x p on (hn _ (List.mem_singleton.2 rfl)) (gv (bg (aX hw)))
theorem NR (x:Innings) (p:Int) (hs:ah x) :(evFn (cf8 [k78] Tryz.f137) (fun _=>none) Tryz.f137 (bk jh (x,p,()))).sat fun v' rows=>leV v' (xL (x,p,())).v∧rows =(xL (x,p,())).rows:=by
 refine cast (by kernel_rfl) (?_:ah x∧((bif decide (p <(0:Int)) then true else decide (p>IntKind.i64.wrap ((↑x.21.length:Int) - (2:Int))))=true→((x.1 =(au x p).1∧x.2 =(au x p).2∧x.3 =(au x p).3∧x.4 =(au x p).4∧x.5 =(au x p).5∧x.6.1 =(au x p).6.1∧x.6.2 =(au x p).6.2∧x.6.3 =(au x p).6.3∧x.6.4 =(au x p).6.4∧x.6.5 =(au x p).6.5∧x.7 =(au x p).7∧x.8 =(au x p).8∧x.9 =(au x p).9∧x.10 =(au x p).10∧(nat_lit 0=nat_lit 0∧nat_lit 0=nat_lit 0)∧x.12 =(au x p).12∧(nat_lit 1=nat_lit 1∧nat_lit 1=nat_lit 1)∧(nat_lit 2=nat_lit 2∧nat_lit 2=nat_lit 2)∧x.15 =(au x p).15∧(nat_lit 3=nat_lit 3∧nat_lit 3=nat_lit 3)∧x.17 =(au x p).17∧x.18 =(au x p).18∧x.19 =(au x p).19∧x.20 =(au x p).20∧(nat_lit 4=nat_lit 4∧nat_lit 4=nat_lit 4)∧x.22.1 =(au x p).22.1∧x.22.2.1 =(au x p).22.2.1∧x.23 =(au x p).23∧True)∧(16:Int)=fy x p∧True)∧ [RowD.mk (Ty.int IntKind.u8) x.11,RowD.mk (Ty.int IntKind.i64) x.13,RowD.mk (Ty.int IntKind.i64) x.14,RowD.mk (Ty.int IntKind.i64) x.16,RowD.mk Ty.bool x.21]=[RowD.mk (Ty.int IntKind.u8) (au x p).11,RowD.mk (Ty.int IntKind.i64) (au x p).13,RowD.mk (Ty.int IntKind.i64) (au x p).14,RowD.mk (Ty.int IntKind.i64) (au x p).16,RowD.mk Ty.bool (au x p).21])∧((bif decide (p <(0:Int)) then true else decide (p>IntKind.i64.wrap ((↑x.21.length:Int) - (2:Int))))=false→((x.1 =(au x p).1∧x.2 =(au x p).2∧x.3 =(au x p).3∧x.4 =(au x p).4∧x.5 =(au x p).5∧x.6.1 =(au x p).6.1∧x.6.2 =(au x p).6.2∧x.6.3 =(au x p).6.3∧x.6.4 =(au x p).6.4∧x.6.5 =(au x p).6.5∧x.7 =(au x p).7∧x.8 =(au x p).8∧x.9 =(au x p).9∧x.10 =(au x p).10∧(nat_lit 0=nat_lit 0∧nat_lit 0=nat_lit 0)∧x.12 =(au x p).12∧(nat_lit 1=nat_lit 1∧nat_lit 1=nat_lit 1)∧(nat_lit 2=nat_lit 2∧nat_lit 2=nat_lit 2)∧x.15 =(au x p).15∧(nat_lit 3=nat_lit 3∧nat_lit 3=nat_lit 3)∧x.17 =(au x p).17∧x.18 =(au x p).18∧x.19 =(au x p).19∧p =(au x p).20∧(nat_lit 4=nat_lit 4∧nat_lit 4=nat_lit 4)∧x.22.1 =(au x p).22.1∧x.22.2.1 =(au x p).22.2.1∧x.23 =(au x p).23∧True)∧(0:Int)=fy x p∧True)∧ [RowD.mk (Ty.int IntKind.u8) x.11,RowD.mk (Ty.int IntKind.i64) x.13,RowD.mk (Ty.int IntKind.i64) x.14,RowD.mk (Ty.int IntKind.i64) x.16,RowD.mk Ty.bool x.21]=[RowD.mk (Ty.int IntKind.u8) (au x p).11,RowD.mk (Ty.int IntKind.i64) (au x p).13,RowD.mk (Ty.int IntKind.i64) (au x p).14,RowD.mk (Ty.int IntKind.i64) (au x p).16,RowD.mk Ty.bool (au x p).21]))
 have ew:IntKind.i64.wrap ((x.Subs.length:Int) - 2) =(x.Subs.length:Int) - 2:=by
  have:=hs.2.2.2.2
  rw [eZ (by omega) (by omega)]
 have hc :(bif decide (p <(0:Int)) then true else decide (p>IntKind.i64.wrap ((x.Subs.length:Int) - (2:Int))))=oW x p:=by
  rw [ew];simp only [oW];cases decide (p<0) <;> rfl
 refine ⟨hs,fun h1=>?_,fun h1=>?_⟩
 ·have h1:oW x p=true:=by rw [←hc];exact h1
  have e:au x p=x:=by simp [au,h1]
  have l:fy x p=16:=by simp [fy,h1]
  rw [e,l];simp
 ·have h1:oW x p=false:=by rw [←hc];exact h1
  have e:au x p={ x with Outside:=p }:=by simp [au,h1]
  have l:fy x p=0:=by simp [fy,h1]
  rw [e,l];simp
theorem OC:CtrOK Tryz.prog K8 137 (aq K8 jh xL):=by
 refine aS (C:=cf8 [k78] Tryz.f137) (bu (.cons L2 .nil) _) mixed (fn:=Tryz.f137) Tryz.func137 (by kernel_rfl) (by kernel_rfl) (by kernel_rfl) (Λ:=fun _ _=>none) ?_ ?_ ?_
 ·exact fun _ _ _ _ _ _ _ _ h=>by cases h
 ·rintro ⟨x,p,⟨⟩⟩
  exact of_decide_eq_true (by kernel_rfl)
 ·rintro ⟨x,p,⟨⟩⟩ hw hn
  exact NR x p (hn _ (List.mem_singleton.2 rfl))
end Go.Proofs.YtkgplaoappjkcaaGreat
namespace Go.Proofs.YtkgplaoappjkcaaGreat
open Go Go.Mir
attribute [local irreducible] Go.Mir.DT.sat Go.Mir.evPat Go.Mir.RT.sat Go.Mir.evFn
abbrev Is:Ty:= .slice I
abbrev Gh:List (Nat×PB):= [(0,.cells [.h I,.h I,.h I,.h I,.h I,.h I,.h I,.h I,.h I,.h I,.h I,.h I,.h I,.h I,.c (.osl 1 2),.h I,.c (.osl 3 4),.c (.osl 5 6),.h .bool,.c (.osl 7 8),.h .bool,.h I,.h I,.h I,.c (.osl 9 10),.h I,.h I,.h U8]),(1,.row 2 U8),(3,.row 4 I),(5,.row 6 I),(7,.row 8 I),(9,.row 10 .bool)]
abbrev Lr:Ty:=fj Gh .unit
def inn (x:Den Lr):Innings:=⟨x.1,x.2.1,x.2.2.1,x.2.2.2.1,x.2.2.2.2.1,⟨x.2.2.2.2.2.1,x.2.2.2.2.2.2.1,x.2.2.2.2.2.2.2.1,x.2.2.2.2.2.2.2.2.1,x.2.2.2.2.2.2.2.2.2.1⟩,x.2.2.2.2.2.2.2.2.2.2.1,x.2.2.2.2.2.2.2.2.2.2.2.1,x.2.2.2.2.2.2.2.2.2.2.2.2.1,x.2.2.2.2.2.2.2.2.2.2.2.2.2.1,x.2.2.2.2.2.2.2.2.2.2.2.2.2.2.2.2.2.2.2.2.2.2.2.1,x.2.2.2.2.2.2.2.2.2.2.2.2.2.2.1,x.2.2.2.2.2.2.2.2.2.2.2.2.2.2.2.2.2.2.2.2.2.2.2.2.1,x.2.2.2.2.2.2.2.2.2.2.2.2.2.2.2.2.2.2.2.2.2.2.2.2.2.1,x.2.2.2.2.2.2.2.2.2.2.2.2.2.2.2.1,x.2.2.2.2.2.2.2.2.2.2.2.2.2.2.2.2.2.2.2.2.2.2.2.2.2.2.1,x.2.2.2.2.2.2.2.2.2.2.2.2.2.2.2.2.1,x.2.2.2.2.2.2.2.2.2.2.2.2.2.2.2.2.2.1,x.2.2.2.2.2.2.2.2.2.2.2.2.2.2.2.2.2.2.1,x.2.2.2.2.2.2.2.2.2.2.2.2.2.2.2.2.2.2.2.1,x.2.2.2.2.2.2.2.2.2.2.2.2.2.2.2.2.2.2.2.2.2.2.2.2.2.2.2.1,(x.2.2.2.2.2.2.2.2.2.2.2.2.2.2.2.2.2.2.2.2.1,x.2.2.2.2.2.2.2.2.2.2.2.2.2.2.2.2.2.2.2.2.2.1,()),x.2.2.2.2.2.2.2.2.2.2.2.2.2.2.2.2.2.2.2.2.2.2.1⟩
def vm (y:Innings):Den Lr:=(y.Side,y.Target,y.Overs,y.Runs,y.Wickets,y.Extras.Wides,y.Extras.NoBalls,y.Extras.Byes,y.Extras.LegByes,y.Extras.Penalties,y.Complete,y.InOver,y.Striker,y.Other,y.Bowler,y.Fresh,y.FreeHit,y.BallAge,y.Keeper,y.Outside,y.Reviews.1,y.Reviews.2.1,y.Ending,y.Batters,y.Bowlers,y.Before,y.Bowled,y.Subs,())
abbrev jj:Pat:=bG [.nm .Innings,I]
def aL (x:Innings) (p:Int):Bool:=decide (p≥1)&&decide (p≤(x.Batters.length:Int))
def xe:Den (tyP jj)→List Prop×Den (tyP aw):=fun x=>([],(aL x.1 x.2.1,()))
def cg (x:Innings) (p s:Int):Innings:={ x with Batters:=x.Batters.set (p - 1).toNat s }
def gw (x:Innings) (p:Int):Innings:={(if aL x p then cg x p 2 else x) with Wickets:=W (x.Wickets+1) }
abbrev J8:Pat:=⟨[(0,.c (.ptr 0 0)),(1,.h I)],Gh,11⟩
abbrev DN:Pat:=⟨[],Gh,11⟩
def Mg:Den (tyP J8)→List Prop×Den (tyP DN):=fun x=>([],vm (gw (inn x.2) x.1))
def dg (x:Innings):Bool:=fJ x&&(x.Striker==0||x.Other==0)
def xn:Den (tyP qIn)→List Prop×Den (tyP aw):=fun x=>([],(dg x.1,()))
def FR (x:Innings) (p:Int):Int:=x.Batters.getD (p - 1).toNat 0
def bF (x:Innings) (p:Int):Int:=if !aL x p then 3 else if !dg x||FR x p==1 then 4 else if FR x p==2 then 5 else 0
def B5:Den (tyP jj)→List Prop×Den (tyP bt):=fun x=>([],(bF x.1 x.2.1,()))
def je (x:Innings) (s o:Int):Innings:=
 if fJ x then x else if !aL x s||!aL x o then x else if s==o then x else { cg (cg x s 1) o 1 with Striker:=s,Other:=o }
def lj (x:Innings) (s o:Int):Int:=if fJ x then 1 else if !aL x s||!aL x o then 3 else if s==o then 4 else 0
def ju (x:Innings):Innings:={ x with Striker:=x.Other,Other:=x.Striker }
def jP (x:Innings) (d:Delivery):Int:=if d.How != 0 then (if d.Victim==1&&x.Striker != 0 then 1 else if d.Victim==2&&x.Other != 0 then 2 else 0) else 0
def iW (x:Innings) (d:Delivery):Innings:=if lD d then ju x else x
def dY (x:Innings) (b:Bool):Innings:=if b then { x with Striker:=0 } else { x with Other:=0 }
def cK (x:Innings) (d:Delivery):Innings:=
 if jP x d==0 then iW x d else gw (dY (iW x d) ((jP x d==1) != lD d)) (if jP x d==1 then x.Striker else x.Other)
def jy (x:Innings) (p:Int):Innings:=if bF x p != 0 then x else if x.Striker==0 then { cg x p 1 with Striker:=p } else { cg x p 1 with Other:=p }
def mD (x:Innings) (p:Int):Innings:=if bF x p != 0 then x else gw x p
def D6 (s:Int):Bool:=s==0||s==3
def rz:List Int→Int→List Int
 | [],_=> []
 | s::r,i=>if D6 s then (i+1)::rz r (i+1) else rz r (i+1)
def Nl (l:List Int):List Int:=rz l 0
def yW (x:Innings):List Int:=Nl x.Batters
def lc (x:Innings):Bool:=((yW x).length:Int)==0
def ch (x:Innings) (p:Int) (hurt:Bool):Int:=
 if !aL x p then 3 else if x.Striker==0||x.Other==0 then 6 else if p != x.Striker&&p != x.Other then 4 else if hurt&&lc x then 19 else 0
def dC (x:Innings) (p:Int) (hurt:Bool):Innings:=
 if ch x p hurt != 0 then x else if hurt then cg (dY x (p==x.Striker)) p 3 else gw (dY x (p==x.Striker)) p
def ka:FuncId×Ctr:=(157,aq KE psI gt)
abbrev DW:Pat:=bG [.nm .Innings,I,I]
abbrev DV:Pat:=bG [.nm .Innings,I,.bool]
abbrev Kb:Pat:=bG [.nm .Innings,.nm .Delivery]
abbrev q2L:Pat:=bG [.nm .Innings,I]
def Ie:Den (tyP DW)→List Prop×Den (tyP q2L):=fun x=>([ah x.1],(je x.1 x.2.1 x.2.2.1,lj x.1 x.2.1 x.2.2.1,()))
def Ml:Den (tyP Kb)→List Prop×Den (tyP qIn):=fun x=>([ah x.1],(cK x.1 x.2.1,()))
def w8:Den (tyP qIn)→List Prop×Den (tyP qIn):=fun x=>([ah x.1],(ju x.1,()))
def B8:Den (tyP jj)→List Prop×Den (tyP q2L):=fun x=>([ah x.1],(jy x.1 x.2.1,bF x.1 x.2.1,()))
def Il:Den (tyP jj)→List Prop×Den (tyP q2L):=fun x=>([ah x.1],(mD x.1 x.2.1,bF x.1 x.2.1,()))
abbrev qIs:Pat:=⟨[(0,.c (.osl 0 1))],[(0,.row 1 I)],2⟩
def Ib:Den (tyP qIn)→List Prop×Den (tyP qIs):=fun x=>([ah x.1],(yW x.1,()))
def xi:Den (tyP DV)→List Prop×Den (tyP q2L):=fun x=>([ah x.1],(dC x.1 x.2.1 x.2.2.1,ch x.1 x.2.1 x.2.2.1,()))
theorem lP {p:Int} (h1:1≤p) (h2:kU p):IntKind.i64.wrap (p - 1)=p - 1:=by
 obtain ⟨a,b⟩:=h2
 exact eZ (by omega) (by omega)
theorem Kk (x:Innings) (hs:ah x) :(evFn (al [k45,k90,k91] Tryz.f157) (fun _=>none) Tryz.f157 (bk psI (x,()))).sat fun v' rows=>leV v' (gt (x,())).v∧rows =(gt (x,())).rows:=by
 refine cast (by kernel_rfl) (?_:x.11.length≤(1000000:Nat)∧x.13.length≤(1000000:Nat)∧x.14.length≤(1000000:Nat)∧x.16.length≤(1000000:Nat)∧x.21.length≤(1000000:Nat)∧(x.1=x.1∧x.2=x.2∧x.3=x.3∧x.4=x.4∧x.5=x.5∧x.6.1=x.6.1∧x.6.2=x.6.2∧x.6.3=x.6.3∧x.6.4=x.6.4∧x.6.5=x.6.5∧x.7=x.7∧x.8=x.8∧x.9=x.9∧x.10=x.10∧(nat_lit 0=nat_lit 0∧nat_lit 0=nat_lit 0)∧x.12=x.12∧(nat_lit 1=nat_lit 1∧nat_lit 1=nat_lit 1)∧(nat_lit 2=nat_lit 2∧nat_lit 2=nat_lit 2)∧x.15=x.15∧(nat_lit 3=nat_lit 3∧nat_lit 3=nat_lit 3)∧x.17=x.17∧x.18=x.18∧x.19=x.19∧x.20=x.20∧(nat_lit 4=nat_lit 4∧nat_lit 4=nat_lit 4)∧x.22.1=x.22.1∧x.22.2.1=x.22.2.1∧x.23=x.23∧True)∧ [RowD.mk (Ty.int IntKind.u8) x.11,RowD.mk (Ty.int IntKind.i64) x.13,RowD.mk (Ty.int IntKind.i64) x.14,RowD.mk (Ty.int IntKind.i64) x.16,RowD.mk Ty.bool x.21]=[RowD.mk (Ty.int IntKind.u8) x.11,RowD.mk (Ty.int IntKind.i64) x.13,RowD.mk (Ty.int IntKind.i64) x.14,RowD.mk (Ty.int IntKind.i64) x.16,RowD.mk Ty.bool x.21])
 obtain ⟨h1,h2,h3,h4,h5⟩:=hs
 simp [h1,h2,h3,h4,h5]
theorem oL:CtrOK Tryz.prog KE 157 (aq KE psI gt):=by
 refine aS (C:=al [k45,k90,k91] Tryz.f157) (aj (.consU Jq rfl (.consU Ju rfl (.consU Jv rfl .nil))) _) mixed (fn:=Tryz.f157) Tryz.func157 (by kernel_rfl) (by kernel_rfl) (by kernel_rfl) (Λ:=fun _ _=>none) ?_ ?_ ?_
 ·exact fun _ _ _ _ _ _ _ _ h=>by cases h
 ·rintro ⟨x,⟨⟩⟩
  exact of_decide_eq_true (by kernel_rfl)
 ·rintro ⟨x,⟨⟩⟩ hw hn
  exact Kk x (hn _ (List.mem_singleton.2 rfl))
theorem Fa (x:Innings) (p:Int) :(evPat (al [] Tryz.f159) (fun _=>none) Tryz.f159 jj aw (x,p,())).sat fun z_=>z_ =(xe (x,p,())).2:=by
 refine cast (by kernel_rfl) (?_ :(bif decide (p≥(1:Int)) then decide (p≤(↑x.11.length:Int)) else false,()) =(aL x p,()))
 grind [aL]
def iK:FuncId×Ctr:=(159,af KE jj aw xe)
theorem nQ:CtrOK Tryz.prog KE 159 (af KE jj aw xe):=by
 refine ar (C:=al [] Tryz.f159) (aj (CtrsOK.nil) _) mixed (fn:=Tryz.f159) Tryz.func159 (by kernel_rfl) (by kernel_rfl) (by kernel_rfl) (by kernel_rfl) (by kernel_rfl) (by kernel_rfl) (Λ:=fun _ _=>none) ?_ ?_
 ·exact fun _ _ _ _ _ _ _ _ h=>by cases h
 ·rintro ⟨x,p,⟨⟩⟩ hw hn
  exact Fa x p
theorem zX (p:Int) (y:Innings) (hp:kU p) :(evPat (al [iK] Tryz.f168) (fun _=>none) Tryz.f168 J8 DN (p,vm y)).sat fun z_=>z_ =(Mg (p,vm y)).2:=by
 refine cast (by kernel_rfl) (?_:let r1:Int:=IntKind.i64.wrap (p - (1:Int));((aL y p=true→((0:Int)≤r1∧r1 <(↑y.11.length:Int))∧True)∧(aL y p=false→True))∧(true=true→(y.1,y.2,y.3,y.4,IntKind.i64.wrap (y.5 +(1:Int)),y.6.1,y.6.2,y.6.3,y.6.4,y.6.5,y.7,y.8,y.9,y.10,y.12,y.15,y.17,y.18,y.19,y.20,y.22.1,y.22.2.1,y.23,bif aL y p then y.11.set r1.toNat (2:Int) else y.11,y.13,y.14,y.16,y.21,())=vm (gw (inn (vm y)) p)))
 intro r1
 clear_value (hr1:r1=_)
 have e1:aL y p=true→r1=p - 1:=fun h=>by
  rw [hr1]
  simp only [aL,Bool.and_eq_true,decide_eq_true_eq] at h
  exact lP h.1 hp
 refine ⟨⟨fun h=>⟨?_,trivial⟩,fun _=>trivial⟩,fun _=>?_⟩
 ·have:=e1 h
  simp only [aL,Bool.and_eq_true,decide_eq_true_eq] at h
  omega
 ·show _=vm (gw y p)
  cases h:aL y p with
  | true=>
   have e:gw y p={ cg y p 2 with Wickets:=W (y.Wickets+1) }:=by simp [gw,h,cg]
   rw [e,e1 h];rfl
  | false=>
   have e:gw y p={ y with Wickets:=W (y.Wickets+1) }:=by simp [gw,h]
   rw [e];rfl
def gR:FuncId×Ctr:=(168,af KE J8 DN Mg)
theorem m7:CtrOK Tryz.prog KE 168 (af KE J8 DN Mg):=by
 refine ar (C:=al [iK] Tryz.f168) (aj (.consU nQ rfl .nil) _) mixed (fn:=Tryz.f168) Tryz.func168 (by kernel_rfl) (by kernel_rfl) (by kernel_rfl) (by kernel_rfl) (by kernel_rfl) (by kernel_rfl) (Λ:=fun _ _=>none) ?_ ?_
 ·exact fun _ _ _ _ _ _ _ _ h=>by cases h
 ·rintro ⟨p,z⟩ hw hn
  exact zX p (inn z) (gv (bg hw))
theorem BO (x:Innings) :(evPat (al [p0] Tryz.f145) (fun _=>none) Tryz.f145 qIn aw (x,())).sat fun z_=>z_ =(xn (x,())).2:=by
 refine cast (by kernel_rfl) (?_ :(bif fJ x then bif x.9 ==(0:Int) then true else x.10 ==(0:Int) else false,()) =(dg x,()))
 grind [dg]
def gf:FuncId×Ctr:=(145,af KE qIn aw xn)
theorem l9:CtrOK Tryz.prog KE 145 (af KE qIn aw xn):=by
 refine ar (C:=al [p0] Tryz.f145) (aj (.consU zf rfl .nil) _) mixed (fn:=Tryz.f145) Tryz.func145 (by kernel_rfl) (by kernel_rfl) (by kernel_rfl) (by kernel_rfl) (by kernel_rfl) (by kernel_rfl) (Λ:=fun _ _=>none) ?_ ?_
 ·exact fun _ _ _ _ _ _ _ _ h=>by cases h
 ·rintro ⟨x,⟨⟩⟩ hw hn
  exact BO x
theorem Kj (x:Innings) (p:Int) (hp:kU p) :(evPat (al [iK,gf] Tryz.f167) (fun _=>none) Tryz.f167 jj bt (x,p,())).sat fun z_=>z_ =(B5 (x,p,())).2:=by
 refine cast (by kernel_rfl) (?_:let r1:Int:=IntKind.i64.wrap (p - (1:Int));let r2:Int:=x.11.getD r1.toNat (dflt (Ty.int IntKind.u8));let r3:Bool:=r2 ==(2:Int);let r4:Bool:=bif !dg x then true else r2 ==(1:Int);((!aL x p)=true→((3:Int),()) =(bF x p,()))∧((!aL x p)=false→(((!dg x)=true→True)∧((!dg x)=false→((0:Int)≤r1∧r1 <(↑x.11.length:Int))∧True))∧(true=true→(r4=true→((4:Int),()) =(bF x p,()))∧(r4=false→((0:Int)≤r1∧r1 <(↑x.11.length:Int))∧(r3=true→((5:Int),()) =(bF x p,()))∧(r3=false→((0:Int),()) =(bF x p,()))))))
 intro r1 r2 r3 r4
 clear_value (hr1:r1=_) (hr2:r2=_) (hr3:r3=_) (hr4:r4=_)
 cases h:aL x p with
 | false=>simp [bF,h]
 | true=>
  have k:1≤p∧p≤x.Batters.length:=by simpa [aL] using h
  have e1:r1=p - 1:=by rw [hr1];exact lP k.1 hp
  have e2:r2=FR x p:=by rw [hr2,e1];rfl
  have b :(0:Int)≤r1∧r1 <(x.Batters.length:Int):=by omega
  refine ⟨(fun h=>by cases h),fun _=>⟨⟨fun _=>trivial,fun _=>⟨b,trivial⟩⟩,fun _=>⟨fun h4=>?_,fun h4=>⟨b,fun h3=>?_,fun h3=>?_⟩⟩⟩⟩ <;> grind [bF]
def C0:FuncId×Ctr:=(167,af KE jj bt B5)
theorem G8:CtrOK Tryz.prog KE 167 (af KE jj bt B5):=by
 refine ar (C:=al [iK,gf] Tryz.f167) (aj (.consU nQ rfl (.consU l9 rfl .nil)) _) mixed (fn:=Tryz.f167) Tryz.func167 (by kernel_rfl) (by kernel_rfl) (by kernel_rfl) (by kernel_rfl) (by kernel_rfl) (by kernel_rfl) (Λ:=fun _ _=>none) ?_ ?_
 ·exact fun _ _ _ _ _ _ _ _ h=>by cases h
 ·rintro ⟨x,p,⟨⟩⟩ hw hn
  exact Kj x p (gv (bg (aX hw)))
theorem Kl (x:Innings) (d:Delivery) (hs:ah x) :(evPat (al [ka,gR] Tryz.f163) (fun _=>none) Tryz.f163 Kb qIn (x,d,())).sat fun z_=>z_ =(Ml (x,d,())).2:=by
 refine cast (by kernel_rfl) (?_:let r1:Bool:=d.3.tmod (2:Int) !=(0:Int);let r2:Bool:=bif d.8 ==(1:Int) then x.9 !=(0:Int) else false;let r3:Bool:=bif d.8 ==(2:Int) then x.10 !=(0:Int) else false;let r4:Bool:=bif d.6 then !r1 else r1;let r5:Int:=bif r4 then x.1 else x.1;let r6:Int:=bif r4 then x.2 else x.2;let r7:Int:=bif r4 then x.3 else x.3;let r8:Int:=bif r4 then x.4 else x.4;let r9:Int:=bif r4 then x.5 else x.5;let r10:Int:=bif r4 then x.7 else x.7;let r11:Int:=bif r4 then x.8 else x.8;let r12:Int:=bif r4 then x.10 else x.9;let r13:Int:=bif r4 then x.9 else x.10;let r14:Int:=bif r4 then x.12 else x.12;let r15:Bool:=bif r4 then x.15 else x.15;let r16:Bool:=bif r4 then x.17 else x.17;let r17:Int:=bif r4 then x.18 else x.18;let r18:Int:=bif r4 then x.19 else x.19;let r19:Int:=bif r4 then x.20 else x.20;let r20:Int:=bif r4 then x.23 else x.23;let r21:Int:=bif r4 then x.6.1 else x.6.1;let r22:Int:=bif r4 then x.6.2 else x.6.2;let r23:Int:=bif r4 then x.6.3 else x.6.3;let r24:Int:=bif r4 then x.6.4 else x.6.4;let r25:Int:=bif r4 then x.6.5 else x.6.5;let r26:Int:=bif r4 then x.22.1 else x.22.1;let r27:Int:=bif r4 then x.22.2.1 else x.22.2.1;let r28:Int:=bif d.7 !=(0:Int) then bif r2 then x.9 else bif r3 then x.10 else (0:Int) else (0:Int);let r29:Int:=bif d.7 !=(0:Int) then bif r2 then (1:Int) else bif r3 then (2:Int) else (0:Int) else (0:Int);let r30:Bool:=r29 ==(0:Int);let r31:Bool:=!(r29 ==(1:Int))==r4;let r32:Int:=bif r31 then r9 else r9;let r33:Innings:=inn (bif r31 then r5 else r5,bif r31 then r6 else r6,bif r31 then r7 else r7,bif r31 then r8 else r8,r32,bif r31 then r21 else r21,bif r31 then r22 else r22,bif r31 then r23 else r23,bif r31 then r24 else r24,bif r31 then r25 else r25,bif r31 then r10 else r10,bif r31 then r11 else r11,bif r31 then (0:Int) else r12,bif r31 then r13 else (0:Int),bif r31 then r14 else r14,bif r31 then r15 else r15,bif r31 then r16 else r16,bif r31 then r17 else r17,bif r31 then r18 else r18,bif r31 then r19 else r19,bif r31 then r26 else r26,bif r31 then r27 else r27,bif r31 then r20 else r20,x.11,x.13,x.14,x.16,x.21,());let r34:Bool:=aL r33 r28;let r35:Innings:=if r34=true then cg r33 r28 (2:Int) else r33;ah x∧(2:Int)≠(0:Int)∧(r30=true→(Innings.mk r5 r6 r7 r8 r9 (Extras.mk r21 r22 r23 r24 r25) r10 r11 r12 r13 x.11 r14 x.13 x.14 r15 x.16 r16 r17 r18 r19 x.21 (r26,r27,()) r20,()) =(cK x d,()))∧(r30=false→(Innings.mk r35.1 r35.2 r35.3 r35.4 (W (r32 +(1:Int))) r35.6 r35.7 r35.8 r35.9 r35.10 r35.11 r35.12 r35.13 r35.14 r35.15 r35.16 r35.17 r35.18 r35.19 r35.20 r35.21 r35.22 r35.23,()) =(cK x d,())))
 intro r1 r2 r3 r4 r5 r6 r7 r8 r9 r10 r11 r12 r13 r14 r15 r16 r17 r18 r19 r20 r21 r22 r23 r24 r25 r26 r27 r28 r29 r30 r31 r32 r33 r34 r35
 clear_value (hr1:r1=_) (hr2:r2=_) (hr3:r3=_) (hr4:r4=_) (hr5:r5=_) (hr6:r6=_) (hr7:r7=_) (hr8:r8=_) (hr9:r9=_) (hr10:r10=_) (hr11:r11=_) (hr12:r12=_) (hr13:r13=_) (hr14:r14=_) (hr15:r15=_) (hr16:r16=_) (hr17:r17=_) (hr18:r18=_) (hr19:r19=_) (hr20:r20=_) (hr21:r21=_) (hr22:r22=_) (hr23:r23=_) (hr24:r24=_) (hr25:r25=_) (hr26:r26=_) (hr27:r27=_) (hr28:r28=_) (hr29:r29=_) (hr30:r30=_) (hr31:r31=_) (hr32:r32=_) (hr33:r33=_) (hr34:r34=_) (hr35:r35=_)
 simp only [Bool.cond_self] at *
 have hs4:r4=lD d:=by rw [hr4,hr1];unfold lD;cases d.Crossed <;> cases (d.Runs.tmod 2 != 0) <;> rfl
 have ho:r29=jP x d:=by rw [hr29,hr2,hr3];grind [jP]
 have hp:r28=if jP x d==1 then x.Striker else if jP x d==2 then x.Other else 0:=by rw [hr28,hr2,hr3];grind [jP]
 have h012:jP x d=0∨jP x d=1∨jP x d=2:=by grind [jP]
 subst hs4
 clear hr1 hr2 hr3 hr4 hr28 hr29
 subst hr5 hr6 hr7 hr8 hr9 hr10 hr11 hr12 hr13 hr14 hr15 hr16 hr17 hr18 hr19 hr20 hr21 hr22 hr23 hr24 hr25 hr26 hr27 hr32
 refine ⟨hs,by decide,fun h=>?_,fun h=>?_⟩
 ·have h0:jP x d=0:=by grind
  simp only [cK,h0,iW]
  cases lD d <;> rfl
 ·have h0:jP x d=1∨jP x d=2:=by grind
  have e33:r33=dY (iW x d) ((jP x d==1) != lD d):=by
   rw [hr33,hr31,ho]
   simp only [iW,dY]
   rcases h0 with h0|h0 <;> rw [h0] <;> cases lD d <;> rfl
  have e28:r28=if jP x d==1 then x.Striker else x.Other:=by rw [hp];rcases h0 with h0|h0 <;> rw [h0] <;> rfl
  have ew:r33.Wickets=x.Wickets:=by
   rw [e33];simp only [iW,dY];cases lD d <;> cases (jP x d==1) <;> rfl
  have e0 :(jP x d==0)=false:=by rcases h0 with h0|h0 <;> rw [h0] <;> rfl
  simp only [cK,e0]
  rw [←e33,←e28]
  simp only [gw]
  rw [←hr34,←hr35]
  rw [ew]
  rfl
def KO:FuncId×Ctr:=(163,af KE Kb qIn Ml)
theorem L9:CtrOK Tryz.prog KE 163 (af KE Kb qIn Ml):=by
 refine ar (C:=al [ka,gR] Tryz.f163) (aj (.consU oL rfl (.consU m7 rfl .nil)) _) mixed (fn:=Tryz.f163) Tryz.func163 (by kernel_rfl) (by kernel_rfl) (by kernel_rfl) (by kernel_rfl) (by kernel_rfl) (by kernel_rfl) (Λ:=fun _ _=>none) ?_ ?_
 ·exact fun _ _ _ _ _ _ _ _ h=>by cases h
 ·rintro ⟨x,d,⟨⟩⟩ hw hn
  exact Kl x d (hn _ List.mem_cons_self)
theorem BM (x:Innings) (hs:ah x) :(evPat (al [ka] Tryz.f166) (fun _=>none) Tryz.f166 qIn qIn (x,())).sat fun z_=>z_ =(w8 (x,())).2:=by
 refine cast (by kernel_rfl) (?_:ah x∧(Innings.mk x.1 x.2 x.3 x.4 x.5 x.6 x.7 x.8 x.10 x.9 x.11 x.12 x.13 x.14 x.15 x.16 x.17 x.18 x.19 x.20 x.21 x.22 x.23,()) =(ju x,()))
 exact ⟨hs,rfl⟩
def yM:FuncId×Ctr:=(166,af KE qIn qIn w8)
theorem EQ:CtrOK Tryz.prog KE 166 (af KE qIn qIn w8):=by
 refine ar (C:=al [ka] Tryz.f166) (aj (.consU oL rfl .nil) _) mixed (fn:=Tryz.f166) Tryz.func166 (by kernel_rfl) (by kernel_rfl) (by kernel_rfl) (by kernel_rfl) (by kernel_rfl) (by kernel_rfl) (Λ:=fun _ _=>none) ?_ ?_
 ·exact fun _ _ _ _ _ _ _ _ h=>by cases h
 ·rintro ⟨x,⟨⟩⟩ hw hn
  exact BM x (hn _ List.mem_cons_self)
theorem E9 (x:Innings) (p:Int) (hs:ah x) (hp:kU p) :(evPat (al [ka,C0] Tryz.f135) (fun _=>none) Tryz.f135 jj q2L (x,p,())).sat fun z_=>z_ =(B8 (x,p,())).2:=by
 refine cast (by kernel_rfl) (?_:let r1:Int:=IntKind.i64.wrap (p - (1:Int));ah x∧((bF x p !=(0:Int))=true→(x,bF x p,()) =(jy x p,bF x p,()))∧((bF x p !=(0:Int))=false→((0:Int)≤r1∧r1 <(↑x.11.length:Int))∧(Innings.mk (bif x.9 ==(0:Int) then x.1 else x.1) (bif x.9 ==(0:Int) then x.2 else x.2) (bif x.9 ==(0:Int) then x.3 else x.3) (bif x.9 ==(0:Int) then x.4 else x.4) (bif x.9 ==(0:Int) then x.5 else x.5) (Extras.mk (bif x.9 ==(0:Int) then x.6.1 else x.6.1) (bif x.9 ==(0:Int) then x.6.2 else x.6.2) (bif x.9 ==(0:Int) then x.6.3 else x.6.3) (bif x.9 ==(0:Int) then x.6.4 else x.6.4) (bif x.9 ==(0:Int) then x.6.5 else x.6.5)) (bif x.9 ==(0:Int) then x.7 else x.7) (bif x.9 ==(0:Int) then x.8 else x.8) (bif x.9 ==(0:Int) then p else x.9) (bif x.9 ==(0:Int) then x.10 else p) (x.11.set r1.toNat (1:Int)) (bif x.9 ==(0:Int) then x.12 else x.12) x.13 x.14 (bif x.9 ==(0:Int) then x.15 else x.15) x.16 (bif x.9 ==(0:Int) then x.17 else x.17) (bif x.9 ==(0:Int) then x.18 else x.18) (bif x.9 ==(0:Int) then x.19 else x.19) (bif x.9 ==(0:Int) then x.20 else x.20) x.21 (bif x.9 ==(0:Int) then x.22.1 else x.22.1,bif x.9 ==(0:Int) then x.22.2.1 else x.22.2.1,()) (bif x.9 ==(0:Int) then x.23 else x.23),(0:Int),()) =(jy x p,bF x p,())))
 intro r1
 clear_value (hr1:r1=_)
 refine ⟨hs,fun h=>?_,fun h=>?_⟩
 ·simp only [jy,h];rfl
 ·have h0:bF x p=0:=by simpa using h
  have k:aL x p=true:=by grind [bF]
  have k2:1≤p∧p≤x.Batters.length:=by simpa [aL] using k
  have e1:r1=p - 1:=by rw [hr1];exact lP k2.1 hp
  refine ⟨by omega,?_⟩
  rw [h0,e1]
  simp only [jy,h0]
  cases hb:x.Striker==0 <;> rfl
def CZ:FuncId×Ctr:=(135,af KE jj q2L B8)
theorem G7:CtrOK Tryz.prog KE 135 (af KE jj q2L B8):=by
 refine ar (C:=al [ka,C0] Tryz.f135) (aj (.consU oL rfl (.consU G8 rfl .nil)) _) mixed (fn:=Tryz.f135) Tryz.func135 (by kernel_rfl) (by kernel_rfl) (by kernel_rfl) (by kernel_rfl) (by kernel_rfl) (by kernel_rfl) (Λ:=fun _ _=>none) ?_ ?_
 ·exact fun _ _ _ _ _ _ _ _ h=>by cases h
 ·rintro ⟨x,p,⟨⟩⟩ hw hn
  exact E9 x p (hn _ List.mem_cons_self) (gv (bg (aX hw)))
theorem zY (x:Innings) (p:Int) (hs:ah x) (hp:kU p) :(evPat (al [ka,C0,gR] Tryz.f134) (fun _=>none) Tryz.f134 jj q2L (x,p,())).sat fun z_=>z_ =(Il (x,p,())).2:=by
 refine cast (by kernel_rfl) (?_:let r1:Innings:=inn (x.1,x.2,x.3,x.4,x.5,x.6.1,x.6.2,x.6.3,x.6.4,x.6.5,x.7,x.8,x.9,x.10,x.12,x.15,x.17,x.18,x.19,x.20,x.22.1,x.22.2.1,x.23,x.11,x.13,x.14,x.16,x.21,());let r2:Bool:=aL r1 p;let r3:Innings:=if r2=true then cg r1 p (2:Int) else r1;ah x∧((bF x p !=(0:Int))=true→(x,bF x p,()) =(mD x p,bF x p,()))∧((bF x p !=(0:Int))=false→(Innings.mk r3.1 r3.2 r3.3 r3.4 (W (x.5 +(1:Int))) r3.6 r3.7 r3.8 r3.9 r3.10 r3.11 r3.12 r3.13 r3.14 r3.15 r3.16 r3.17 r3.18 r3.19 r3.20 r3.21 r3.22 r3.23,(0:Int),()) =(mD x p,bF x p,())))
 intro r1 r2 r3
 clear_value (hr1:r1=_) (hr2:r2=_) (hr3:r3=_)
 refine ⟨hs,fun h=>?_,fun h=>?_⟩
 ·simp only [mD,h];rfl
 ·have h0:bF x p=0:=by simpa using h
  have k:aL x p=true:=by grind [bF]
  have e1:r1=x:=hr1
  have e2:r2=true:=by rw [hr2,e1];exact k
  have e3:r3=cg x p 2:=by rw [hr3,e2,e1];rfl
  rw [h0,e3]
  have e4:mD x p={ cg x p 2 with Wickets:=W (x.Wickets+1) }:=by simp [mD,h0,gw,k,cg]
  rw [e4]
def ut:FuncId×Ctr:=(134,af KE jj q2L Il)
theorem Bl:CtrOK Tryz.prog KE 134 (af KE jj q2L Il):=by
 refine ar (C:=al [ka,C0,gR] Tryz.f134) (aj (.consU oL rfl (.consU G8 rfl (.consU m7 rfl .nil))) _) mixed (fn:=Tryz.f134) Tryz.func134 (by kernel_rfl) (by kernel_rfl) (by kernel_rfl) (by kernel_rfl) (by kernel_rfl) (by kernel_rfl) (Λ:=fun _ _=>none) ?_ ?_
 ·exact fun _ _ _ _ _ _ _ _ h=>by cases h
 ·rintro ⟨x,p,⟨⟩⟩ hw hn
  exact zY x p (hn _ List.mem_cons_self) (gv (bg (aX hw)))
theorem HK (x:Innings) (s:Int) (o:Int) (hs:ah x) (h1:kU s) (h2:kU o) :(evPat (al [ka,p0,iK] Tryz.f131) (fun _=>none) Tryz.f131 DW q2L (x,s,o,())).sat fun z_=>z_ =(Ie (x,s,o,())).2:=by
 refine cast (by kernel_rfl) (?_:let r1:Int:=IntKind.i64.wrap (s - (1:Int));let r2:Int:=IntKind.i64.wrap (o - (1:Int));let r3:List Int:=x.11.set r1.toNat (1:Int);ah x∧(fJ x=true→(x,(1:Int),()) =(je x s o,lj x s o,()))∧(fJ x=false→((bif !aL x s then true else !aL x o)=true→(x,(3:Int),()) =(je x s o,lj x s o,()))∧((bif !aL x s then true else !aL x o)=false→((s==o)=true→(x,(4:Int),()) =(je x s o,lj x s o,()))∧((s==o)=false→((0:Int)≤r1∧r1 <(↑x.11.length:Int))∧((0:Int)≤r2∧r2 <(↑r3.length:Int))∧(Innings.mk x.1 x.2 x.3 x.4 x.5 x.6 x.7 x.8 s o (r3.set r2.toNat (1:Int)) x.12 x.13 x.14 x.15 x.16 x.17 x.18 x.19 x.20 x.21 x.22 x.23,(0:Int),()) =(je x s o,lj x s o,())))))
 intro r1 r2 r3
 clear_value (hr1:r1=_) (hr2:r2=_) (hr3:r3=_)
 refine ⟨hs,fun hb=>?_,fun hb=>⟨fun hk=>?_,fun hk=>⟨fun he=>?_,fun he=>?_⟩⟩⟩
 ·simp [je,lj,hb]
 ·have hk :(!aL x s||!aL x o)=true:=by grind
  simp only [je,lj,hb,hk];rfl
 ·have hk :(!aL x s||!aL x o)=false:=by grind
  simp only [je,lj,hb,hk,he];rfl
 ·have hk2 :(!aL x s||!aL x o)=false:=by grind
  have k1:1≤s∧s≤x.Batters.length:=by
   have:aL x s=true:=by grind
   simpa [aL] using this
  have k2:1≤o∧o≤x.Batters.length:=by
   have:aL x o=true:=by grind
   simpa [aL] using this
  have e1:r1=s - 1:=by rw [hr1];exact lP k1.1 h1
  have e2:r2=o - 1:=by rw [hr2];exact lP k2.1 h2
  have e3:r3 =(cg x s 1).Batters:=by rw [hr3,e1];rfl
  have e4:r3.length=x.Batters.length:=by rw [e3];simp [cg]
  refine ⟨by omega,by omega,?_⟩
  rw [e3,e2]
  simp only [je,lj,hb,hk2,he];rfl
def Gw:FuncId×Ctr:=(131,af KE DW q2L Ie)
theorem JG:CtrOK Tryz.prog KE 131 (af KE DW q2L Ie):=by
 refine ar (C:=al [ka,p0,iK] Tryz.f131) (aj (.consU oL rfl (.consU zf rfl (.consU nQ rfl .nil))) _) mixed (fn:=Tryz.f131) Tryz.func131 (by kernel_rfl) (by kernel_rfl) (by kernel_rfl) (by kernel_rfl) (by kernel_rfl) (by kernel_rfl) (Λ:=fun _ _=>none) ?_ ?_
 ·exact fun _ _ _ _ _ _ _ _ h=>by cases h
 ·rintro ⟨x,s,o,⟨⟩⟩ hw hn
  exact HK x s o (hn _ List.mem_cons_self) (gv (bg (aX hw))) (gv (bg (aX (aX hw))))
end Go.Proofs.YtkgplaoappjkcaaGreat
namespace Go.Proofs.YtkgplaoappjkcaaGreat
open Go Go.Mir
attribute [local irreducible] Go.Mir.DT.sat Go.Mir.evPat Go.Mir.RT.sat Go.Mir.evFn
abbrev Nz:Pat:=⟨[(8,.h I),(9,.h I),(7,.h U8s),(3,.c (.osl 1 2))],[(1,.row 2 I)],3⟩
abbrev Oh:List (Lf×Pat):= [(.ext 0,⟨[(3,.c (.osl 1 2))],[(1,.row 2 I)],3⟩)]
def jF (x:Int×Int×List Int×List Int×Unit):Prop:=dB (x.2.2.1,x.1,x.2.1,())∧x.2.2.1.length≤1000000∧x.2.2.2.1.length≤x.2.1
def jM (x:Int×Int×List Int×List Int×Unit):Nat:=(x.1 - x.2.1).toNat
def fB (x:Int×Int×List Int×List Int×Unit):List Int×Unit:=(x.2.2.2.1++rz (x.2.2.1.drop x.2.1.toNat) x.2.1,())
noncomputable def lpLLc:Lp:=(⟨0,al [] Tryz.f146,(fun _=>none),(aB Tryz.f146 0),Nz,Oh⟩:Lp)
theorem Kt (n:Int) (i:Int) (xs:List Int) (out:List Int) (hi:jF (n,i,xs,out,())) :(Go.Mir.stepG lpLLc fB (fun y:Den (tyP lpLLc.q)=>jF y∧jM y<jM (n,i,xs,out,())) (n,i,xs,out,())∧Go.Mir.stepE lpLLc fB (n,i,xs,out,())=fB (n,i,xs,out,())):=by
 refine cast (by kernel_rfl) (?_:let r1:Int:=IntKind.i64.wrap (i +(1:Int));let r2:List Int:= [r1];let r3:Bool:=bif xs.getD i.toNat (dflt (Ty.int IntKind.u8)) ==(0:Int) then true else xs.getD i.toNat (dflt (Ty.int IntKind.u8)) ==(3:Int);((decide (i<n)=true→((0:Int)≤i∧i <(↑xs.length:Int))∧(r3=true→(out.length+r2.length) *(8:Nat)≤(70368744177664:Nat)∧jF (n,r1,xs,out++r2,())∧jM (n,r1,xs,out++r2,())<jM (n,i,xs,out,()))∧(r3=false→jF (n,r1,xs,out,())∧jM (n,r1,xs,out,())<jM (n,i,xs,out,())))∧(decide (i<n)=false→True))∧(bif decide (i<n) then bif r3 then fB (n,r1,xs,out++r2,()) else fB (n,r1,xs,out,()) else (out,()))=fB (n,i,xs,out,()))
 intro r1 r2 r3
 clear_value (hr1:r1=_) (hr2:r2=_) (hr3:r3=_)
 obtain ⟨⟨h1,h2,h3,h4⟩,h6,h7⟩:=hi
 simp only at h1 h2 h3 h4 h6 h7
 have hw:i<n→r1=i+1:=fun h=>by rw [hr1];exact bb (by omega) (by omega)
 have hl:r2.length=1:=by rw [hr2];rfl
 refine ⟨⟨fun h=>?_,fun _=>trivial⟩,?_⟩
 ·have h:i<n:=of_decide_eq_true h
  have hw:=hw h
  refine ⟨⟨h2,by omega⟩,fun _=>⟨by omega,⟨⟨h1,by simp only;omega,by simp only;omega,h4⟩,h6,by simp only [List.length_append];omega⟩,by simp only [jM];omega⟩,fun _=>⟨⟨⟨h1,by simp only;omega,by simp only;omega,h4⟩,h6,by simp only;omega⟩,by simp only [jM];omega⟩⟩
 ·by_cases h:i<n
  ·have hw:=hw h
   have e:xs.drop i.toNat=xs.getD i.toNat (dflt (Ty.int IntKind.u8))::xs.drop (i+1).toNat:=c8 h2 (by omega) _
   have e3:r3=D6 (xs.getD i.toNat (dflt (Ty.int IntKind.u8))):=by
    rw [hr3]
    generalize xs.getD i.toNat (dflt (Ty.int IntKind.u8))=v
    simp only [D6]
    cases v==0 <;> rfl
   rw [decide_eq_true h,cond_true,e3,hr2,hw]
   generalize xs.getD i.toNat (dflt (Ty.int IntKind.u8))=v at e ⊢
   simp only [fB,e,rz]
   cases D6 v <;> simp
  ·rw [decide_eq_false h,cond_false]
   simp only [fB]
   rw [co (l:=xs) (by omega)]
   simp [rz]
noncomputable def IG:LoopSum:=aC lpLLc fB jF
noncomputable def Hx:Nat:=rid (aB Tryz.f146 0)
theorem Jg:LoopOKp Tryz.prog 0 Tryz.f146.ntmps (aB Tryz.f146 0) (aC lpLLc fB jF):=
 bi lpLLc (aj (CtrsOK.nil) _) mixed (fun b hb S hS=>by cases hS) fB jF jM (fun |⟨n,i,xs,out,⟨⟩⟩,hi=>Kt n i xs out hi)
theorem HJ (x:Innings) (hs:ah x) :(evPat (al [] Tryz.f146) (find [(Hx,IG)]) Tryz.f146 qIn qIs (x,())).sat fun z_=>z_ =(Ib (x,())).2:=by
 refine cast (by kernel_rfl) (?_ :((cx fun x=>none)∧dB (x.11,(↑x.11.length:Int),(0:Int),())∧x.11.length≤(1000000:Nat)∧(↑(0:Nat):Int)≤(0:Int))∧([]++rz (List.drop (Int.toNat (0:Int)) x.11) (0:Int),()) =(yW x,()))
 refine ⟨⟨rfl,⟨rfl,Int.le_refl _,by simp only;omega,?_⟩,hs.1,Int.le_refl _⟩,rfl⟩
 have:=hs.1
 show x.Batters.length≤140737488355328
 omega
def wk:FuncId×Ctr:=(146,af KE qIn qIs Ib)
theorem Du:CtrOK Tryz.prog KE 146 (af KE qIn qIs Ib):=by
 refine ar (C:=al [] Tryz.f146) (aj (CtrsOK.nil) _) mixed (fn:=Tryz.f146) Tryz.func146 (by kernel_rfl) (by kernel_rfl) (by kernel_rfl) (by kernel_rfl) (by kernel_rfl) (by kernel_rfl) (Λ:=fun x=>find [(Hx,IG)]) ?_ ?_
 ·rintro ⟨x,⟨⟩⟩ hw hn
  exact LoopsOKp.at (by kernel_rfl) (.cons (by kernel_rfl) (Jg) .nil)
 ·rintro ⟨x,⟨⟩⟩ hw hn
  exact HJ x (hn _ List.mem_cons_self)
theorem zP {x:Innings} {p:Int} {hurt:Bool} (h1:aL x p=true) (h2 :(x.Striker==0||x.Other==0)=false) (h3 :(p != x.Striker&&p != x.Other)=false) (h4 :(hurt&&lc x)=false) :
  ch x p hurt=0∧dC x p hurt={ dY x (p==x.Striker) with Batters:=x.Batters.set (p - 1).toNat (bif hurt then 3 else 2),Wickets:=(bif hurt then x.Wickets else W (x.Wickets+1)) }:=by
 have e:ch x p hurt=0:=by simp only [ch,h1,h2,h3,h4];rfl
 refine ⟨e,?_⟩
 have kb :∀ b,(dY x b).Batters=x.Batters∧(dY x b).Wickets=x.Wickets:=fun b=>by cases b <;> exact ⟨rfl,rfl⟩
 simp only [dC,e]
 obtain ⟨k1,k2⟩:=kb (p==x.Striker)
 have kk:aL (dY x (p==x.Striker)) p=true:=by unfold aL at h1 ⊢;rw [k1];exact h1
 cases hurt with
 | true=>simp [cg,k1,←k2]
 | false=>simp [gw,kk,cg,k1,k2]
theorem BN (x:Innings) (p:Int) (hurt:Bool) (hs:ah x) (hp:kU p) :(evPat (al [ka,iK,wk,gR] Tryz.f136) (fun _=>none) Tryz.f136 DV q2L (x,p,hurt,())).sat fun z_=>z_ =(xi (x,p,hurt,())).2:=by
 refine cast (by kernel_rfl) (?_:let r1:Int:=bif p==x.9 then x.1 else x.1;let r2:Int:=bif p==x.9 then x.2 else x.2;let r3:Int:=bif p==x.9 then x.3 else x.3;let r4:Int:=bif p==x.9 then x.4 else x.4;let r5:Int:=bif p==x.9 then x.5 else x.5;let r6:Int:=bif p==x.9 then x.7 else x.7;let r7:Int:=bif p==x.9 then x.8 else x.8;let r8:Int:=bif p==x.9 then x.12 else x.12;let r9:Bool:=bif p==x.9 then x.15 else x.15;let r10:Bool:=bif p==x.9 then x.17 else x.17;let r11:Int:=bif p==x.9 then x.18 else x.18;let r12:Int:=bif p==x.9 then x.19 else x.19;let r13:Int:=bif p==x.9 then x.20 else x.20;let r14:Int:=bif p==x.9 then x.23 else x.23;let r15:Int:=IntKind.i64.wrap (p - (1:Int));let r16:Int:=bif p==x.9 then x.6.1 else x.6.1;let r17:Int:=bif p==x.9 then x.6.2 else x.6.2;let r18:Int:=bif p==x.9 then x.6.3 else x.6.3;let r19:Int:=bif p==x.9 then x.6.4 else x.6.4;let r20:Int:=bif p==x.9 then x.6.5 else x.6.5;let r21:Int:=bif p==x.9 then x.22.1 else x.22.1;let r22:Int:=bif p==x.9 then (0:Int) else x.9;let r23:Int:=bif p==x.9 then x.10 else (0:Int);let r24:Int:=bif p==x.9 then x.22.2.1 else x.22.2.1;let r25:Bool:=bif p != x.9 then p != x.10 else false;let r26:Bool:=bif hurt then (↑(yW x).length:Int) ==(0:Int) else false;let r27:Bool:=bif x.9 ==(0:Int) then true else x.10 ==(0:Int);let r28:Innings:=inn (r1,r2,r3,r4,r5,r16,r17,r18,r19,r20,r6,r7,r22,r23,r8,r9,r10,r11,r12,r13,r21,r24,r14,x.11,x.13,x.14,x.16,x.21,());let r29:Bool:=aL r28 p;let r30:Innings:=if r29=true then cg r28 p (2:Int) else r28;ah x∧((!aL x p)=true→(x,(3:Int),()) =(dC x p hurt,ch x p hurt,()))∧((!aL x p)=false→(r27=true→(x,(6:Int),()) =(dC x p hurt,ch x p hurt,()))∧(r27=false→(r25=true→(x,(4:Int),()) =(dC x p hurt,ch x p hurt,()))∧(r25=false→((hurt=true→ah x∧True)∧(hurt=false→True))∧(true=true→(r26=true→(x,(19:Int),()) =(dC x p hurt,ch x p hurt,()))∧(r26=false→((hurt=true→((0:Int)≤r15∧r15 <(↑x.11.length:Int))∧True)∧(hurt=false→True))∧(true=true→(Innings.mk (bif hurt then r1 else r30.1) (bif hurt then r2 else r30.2) (bif hurt then r3 else r30.3) (bif hurt then r4 else r30.4) (bif hurt then r5 else W (r5 +(1:Int))) (Extras.mk (bif hurt then r16 else r30.6.1) (bif hurt then r17 else r30.6.2) (bif hurt then r18 else r30.6.3) (bif hurt then r19 else r30.6.4) (bif hurt then r20 else r30.6.5)) (bif hurt then r6 else r30.7) (bif hurt then r7 else r30.8) (bif hurt then r22 else r30.9) (bif hurt then r23 else r30.10) (bif hurt then x.11.set r15.toNat (3:Int) else r30.11) (bif hurt then r8 else r30.12) (bif hurt then x.13 else r30.13) (bif hurt then x.14 else r30.14) (bif hurt then r9 else r30.15) (bif hurt then x.16 else r30.16) (bif hurt then r10 else r30.17) (bif hurt then r11 else r30.18) (bif hurt then r12 else r30.19) (bif hurt then r13 else r30.20) (bif hurt then x.21 else r30.21) (bif hurt then r21 else r30.22.1,bif hurt then r24 else r30.22.2.1,()) (bif hurt then r14 else r30.23),(0:Int),()) =(dC x p hurt,ch x p hurt,()))))))))
 intro r1 r2 r3 r4 r5 r6 r7 r8 r9 r10 r11 r12 r13 r14 r15 r16 r17 r18 r19 r20 r21 r22 r23 r24 r25 r26 r27 r28 r29 r30
 clear_value (hr1:r1=_) (hr2:r2=_) (hr3:r3=_) (hr4:r4=_) (hr5:r5=_) (hr6:r6=_) (hr7:r7=_) (hr8:r8=_) (hr9:r9=_) (hr10:r10=_) (hr11:r11=_) (hr12:r12=_) (hr13:r13=_) (hr14:r14=_) (hr15:r15=_) (hr16:r16=_) (hr17:r17=_) (hr18:r18=_) (hr19:r19=_) (hr20:r20=_) (hr21:r21=_) (hr22:r22=_) (hr23:r23=_) (hr24:r24=_) (hr25:r25=_) (hr26:r26=_) (hr27:r27=_) (hr28:r28=_) (hr29:r29=_) (hr30:r30=_)
 simp only [Bool.cond_self] at *
 have t1 :∀ a b:Bool,(bif a then true else b) =(a||b):=by decide
 have t2 :∀ a b:Bool,(bif a then b else false) =(a&&b):=by decide
 have e27:r27 =(x.Striker==0||x.Other==0):=by rw [hr27,t1]
 have e26:r26 =(hurt&&lc x):=by rw [hr26,t2];rfl
 have e25:r25 =(p != x.Striker&&p != x.Other):=by rw [hr25,t2]
 have kb:aL x p=true→(0:Int)≤r15∧r15 <(x.Batters.length:Int)∧r15=p - 1:=fun k=>by
  have k2:1≤p∧p≤x.Batters.length:=by simpa [aL] using k
  have e1:r15=p - 1:=by rw [hr15];exact lP k2.1 hp
  omega
 have f1 :∀ {k:Int},k≠0→ch x p hurt=k→(x,k,()) =(dC x p hurt,ch x p hurt,()):=fun {k} hk e=>by
  have :(ch x p hurt != 0)=true:=by rw [e];simpa using hk
  rw [e]
  simp only [dC,this];rfl
 refine ⟨hs,fun h=>f1 (by decide) ?_,fun h1=>⟨fun h=>f1 (by decide) ?_,fun h2=>⟨fun h=>f1 (by decide) ?_,fun h3=>⟨⟨fun _=>⟨hs,trivial⟩,fun _=>trivial⟩,fun _=>⟨fun h=>f1 (by decide) ?_,fun h4=>⟨⟨fun _=>⟨?_,trivial⟩,fun _=>trivial⟩,fun _=>?_⟩⟩⟩⟩⟩⟩
 ·simp only [ch,h];rfl
 ·rw [e27] at h;simp only [ch,h1,h];rfl
 ·rw [e27] at h2;rw [e25] at h;simp only [ch,h1,h2,h];rfl
 ·rw [e27] at h2;rw [e25] at h3;rw [e26] at h;simp only [ch,h1,h2,h3,h];rfl
 ·have k1:aL x p=true:=by simpa using h1
  exact ⟨(kb k1).1,(kb k1).2.1⟩
 ·have k1:aL x p=true:=by simpa using h1
  obtain ⟨e,ey⟩:=zP k1 (e27▸h2) (e25▸h3) (e26▸h4)
  have e28:r28=dY x (p==x.Striker):=by
   rw [hr28,hr22,hr23];simp only [dY];cases p==x.Striker <;> simp only [*] <;> rfl
  have k29:r29=true:=by
   rw [hr29,e28]
   unfold aL at k1 ⊢
   cases p==x.Striker <;> exact k1
  have e30:r30=cg (dY x (p==x.Striker)) p 2:=by rw [hr30,k29,e28];rfl
  rw [e,ey,e30,(kb k1).2.2]
  subst hr1 hr2 hr3 hr4 hr5 hr6 hr7 hr8 hr9 hr10 hr11 hr12 hr13 hr14 hr16 hr17 hr18 hr19 hr20 hr21 hr24
  rw [hr22,hr23]
  cases hurt <;> cases p==x.Striker <;> rfl
def yN:FuncId×Ctr:=(136,af KE DV q2L xi)
theorem ER:CtrOK Tryz.prog KE 136 (af KE DV q2L xi):=by
 refine ar (C:=al [ka,iK,wk,gR] Tryz.f136) (aj (.consU oL rfl (.consU nQ rfl (.consU Du rfl (.consU m7 rfl .nil)))) _) mixed (fn:=Tryz.f136) Tryz.func136 (by kernel_rfl) (by kernel_rfl) (by kernel_rfl) (by kernel_rfl) (by kernel_rfl) (by kernel_rfl) (Λ:=fun _ _=>none) ?_ ?_
 ·exact fun _ _ _ _ _ _ _ _ h=>by cases h
 ·rintro ⟨x,p,hurt,⟨⟩⟩ hw hn
  exact BN x p hurt (hn _ List.mem_cons_self) (gv (bg (aX hw)))
end Go.Proofs.YtkgplaoappjkcaaGreat
namespace Go.Proofs.YtkgplaoappjkcaaGreat
open Go Go.Mir
attribute [local irreducible] Go.Mir.RT.sat Go.Mir.evFn Go.Mir.stepObl
theorem Mv (xs:List Int) (v:Int) (hx:xs.length≤aI) (i:Nat) (hi:CU xs v i) :(stepObl (J79 xs v) (CU xs v) (fun i=>xs.length - i) i (T79 xs v) (bm (cf8 [] Tryz.f126) (fun _=>none) (aB Tryz.f126 0) (J79 xs v i)) (L79 i)).1:=by
 refine cast (by kernel_rfl) (?_ :(decide ((↑i:Int) <(↑xs.length:Int))=true→((0:Int)≤(↑i:Int)∧(↑i:Int) <(↑xs.length:Int))∧((v==xs.getD (↑i:Int).toNat (dflt (Ty.int IntKind.i64)))=true→xs.contains v=true∧((↑i:Int)=idx xs v (0:Int)∧True)∧True)∧((v==xs.getD (↑i:Int).toNat (dflt (Ty.int IntKind.i64)))=false→CU xs v (i +(1:Nat))∧xs.length - (i +(1:Nat))<xs.length - i∧(RowD.mk (Ty.int IntKind.i64) xs=RowD.mk (Ty.int IntKind.i64) xs∧v=v∧(↑xs.length:Int) =(↑xs.length:Int)∧IntKind.i64.wrap ((↑i:Int) +(1:Int)) =(↑(i +(1:Nat)):Int)∧True)∧True))∧(decide ((↑i:Int) <(↑xs.length:Int))=false→xs.contains v=false∧True∧True))
 have e :(i:Int).toNat=i:=by simp
 rw [e]
 refine ⟨fun h1=>?_,fun h1=>?_⟩
 ·have h1:i<xs.length:=by simpa using h1
  refine ⟨⟨by omega,by omega⟩,fun h2=>?_,fun h2=>?_⟩
  ·have h2:v=xs.getD i (dflt (Ty.int IntKind.i64)):=eq_of_beq h2
   have h3:xs[i]?=some v:=by rw [h2];exact nv _ h1
   refine ⟨by simpa using List.mem_of_getElem? h3,⟨?_,trivial⟩,trivial⟩
   rw [A5 xs v 0 i h3 hi.2];omega
  ·have h2:v≠xs.getD i (0:Int):=ne_of_beq_false h2
   have h3:xs.getD i (0:Int)=xs[i]:=by rw [List.getD_eq_getElem?_getD,List.getElem?_eq_getElem h1];rfl
   refine ⟨⟨by omega,?_⟩,by omega,⟨rfl,rfl,rfl,?_,trivial⟩,trivial⟩
   ·rw [List.take_succ_eq_append_getElem h1,List.mem_append,List.mem_singleton,not_or]
    exact ⟨hi.2,by rw [←h3];exact h2⟩
   ·have:xs.length≤140737488355328:=hx
    rw [eZ (by omega) (by omega)];omega
 ·have h1 :¬ i<xs.length:=by simpa using h1
  refine ⟨?_,trivial,trivial⟩
  have:=hi.2
  rw [List.take_of_length_le (by omega)] at this
  simpa using this
theorem LM (xs:List Int) (v:Int) (hx:xs.length≤aI):LoopOK Tryz.prog Tryz.f126.ntmps (aB Tryz.f126 0) (cw ⟨[],[],0⟩ (J79 xs v 0) (T79 xs v)):=
 iM (bu (CtrsOK.nil) _) mixed (J79 xs v) (fun _=>rfl) (CU xs v) (fun i=>xs.length - i) (fun _ _=>none) (fun _ _ _ _ _ h=>by cases h) (T79 xs v) [] [] 0 (⟨Nat.zero_le _,by simp⟩) L79 (fun i hi=>Mv xs v hx i hi)
theorem NX (xs:List Int) (v:Int) (hx:xs.length≤aI) :(evFn (cf8 [] Tryz.f126) (Λ79 xs v) Tryz.f126 (bk zD (xs,v,()))).sat fun v' rows=>leV v' (xP (xs,v,())).v∧rows =(xP (xs,v,())).rows:=by
 refine cast (by kernel_rfl) (?_ :((cx fun x=>none)∧(RowD.mk (Ty.int IntKind.i64) xs=RowD.mk (Ty.int IntKind.i64) xs∧v=v∧(↑xs.length:Int) =(↑xs.length:Int)∧(0:Int) =(↑(0:Nat):Int)∧True)∧True)∧(xs.contains v=true→idx xs v (0:Int)=idx xs v (0:Int)∧([]:List RowD)=[])∧(xs.contains v=false→(-1:Int)=idx xs v (0:Int)∧([]:List RowD)=[]))
 refine ⟨⟨rfl,⟨rfl,rfl,rfl,rfl,trivial⟩,trivial⟩,fun _=>⟨rfl,rfl⟩,fun h=>⟨?_,rfl⟩⟩
 rw [rj]
 simpa using h
theorem OE:CtrOK Tryz.prog K8 126 (aq K8 zD xP):=by
 refine aS (C:=cf8 [] Tryz.f126) (bu (CtrsOK.nil) _) mixed (fn:=Tryz.f126) Tryz.func126 (by kernel_rfl) (by kernel_rfl) (by kernel_rfl) (Λ:=fun x=>Λ79 x.1 x.2.1) ?_ ?_ ?_
 ·rintro ⟨xs,v,⟨⟩⟩ hw hn
  exact LoopsOK.at (by kernel_rfl) (.cons (by kernel_rfl) (LM xs v (ce (bg hw))) .nil)
 ·rintro ⟨xs,v,⟨⟩⟩
  exact of_decide_eq_true (by kernel_rfl)
 ·rintro ⟨xs,v,⟨⟩⟩ hw hn
  exact NX xs v (ce (bg hw))
theorem NH (xs:List Int) (v:Int) :(evFn (cf8 [k79] Tryz.f105) (fun _=>none) Tryz.f105 (bk zD (xs,v,()))).sat fun v' rows=>leV v' (xB (xs,v,())).v∧rows =(xB (xs,v,())).rows:=by
 refine cast (by kernel_rfl) (?_:decide (idx xs v (0:Int)≥(0:Int))=fG xs v∧([]:List RowD)=[])
 exact ⟨CM xs v 0 (Int.le_refl 0),rfl⟩
theorem Jr:CtrOK Tryz.prog K8 105 (aq K8 zD xB):=by
 refine aS (C:=cf8 [k79] Tryz.f105) (bu (.cons OE .nil) _) mixed (fn:=Tryz.f105) Tryz.func105 (by kernel_rfl) (by kernel_rfl) (by kernel_rfl) (Λ:=fun _ _=>none) ?_ ?_ ?_
 ·exact fun _ _ _ _ _ _ _ _ h=>by cases h
 ·rintro ⟨xs,v,⟨⟩⟩
  exact of_decide_eq_true (by kernel_rfl)
 ·rintro ⟨xs,v,⟨⟩⟩ hw hn
  exact NH xs v
end Go.Proofs.YtkgplaoappjkcaaGreat
namespace Go.Proofs.YtkgplaoappjkcaaGreat
open Go Go.Mir
attribute [local irreducible] Go.Mir.DT.sat Go.Mir.evPat Go.Mir.RT.sat Go.Mir.evFn
def mh (n:Int):Bool:=!inW n 0 1000000000
def Mj:Den (tyP bt)→List Prop×Den (tyP aw):=fun x=>([],(mh x.1,()))
abbrev qNI (f:Nat):Pat:=⟨[(0,.h Is),(1,.c (.fn f [])),(7,.h I),(8,.h I)],[],0⟩
def jm (x:List Int×Int×Int×Unit):Sum (Int×Unit) Unit:=Gk (cp mh (x.1.drop x.2.2.1.toNat) x.2.2.1)
abbrev qNF (f:Nat):Pat:=⟨[(0,.h Is),(1,.c (.fn f []))],[],0⟩
def ql (l:List Int):Bool:=l.any mh
def sNI (f:Nat):Den (tyP (qNF f))→List Prop×Den (tyP bt):=fun x=>([],(nP (cp mh x.1 0),()))
def sNC (f:Nat):Den (tyP (qNF f))→List Prop×Den (tyP aw):=fun x=>([],(ql x.1,()))
def ua (most:Int):List Int→List Int→Bool
 | _,[]=>true
 | seen,n::r=>if !inW n 1 most||fG seen n then false else ua most (seen++[n]) r
def gU (l:List Int) (most:Int):Bool:=ua most [] l
abbrev qLM:Pat:=bG [Is,I]
def H9:Den (tyP qLM)→List Prop×Den (tyP aw):=fun x=>([],(gU x.1 x.2.1,()))
abbrev qDf:Pat:=⟨[(0,.h Is),(1,.h I),(7,.h Is),(8,.h I),(9,.h I)],[],0⟩
abbrev xDf:List (Lf×Pat):= [(.ret,⟨[(4,.h .bool)],[],0⟩),(.ext 0,⟨[],[],0⟩)]
abbrev TDf:Type:=List Int×Int×List Int×Int×Int×Unit
def uk (x:TDf):Prop:=x.2.2.1=x.1∧dB (x.1,x.2.2.2.1,x.2.2.2.2.1,())
def ED (x:TDf):Nat:=(x.2.2.2.1 - x.2.2.2.2.1).toNat
def Jp (b:Bool):Sum (Bool×Unit) Unit:=if b then .inr () else .inl (false,())
def iT (x:TDf):Sum (Bool×Unit) Unit:=Jp (ua x.2.1 (x.1.take x.2.2.2.2.1.toNat) (x.1.drop x.2.2.2.2.1.toNat))
def rK (x:Innings):Bool:=!ql ([x.Target,x.Runs,x.Extras.Wides,x.Extras.NoBalls,x.Extras.Byes,x.Extras.LegByes,x.Extras.Penalties,x.Complete,x.BallAge,x.Outside,x.Reviews.1,x.Reviews.2.1]++x.Bowled)
def Ic:Den (tyP qIn)→List Prop×Den (tyP aw):=fun x=>([ah x.1],(rK x.1,()))
theorem z7 (n:Int) (lo:Int) (hi:Int) :(evPat (al [] Tryz.f86) (fun _=>none) Tryz.f86 q3 aw (n,lo,hi,())).sat fun z_=>z_ =(sIn (n,lo,hi,())).2:=by
 refine cast (by kernel_rfl) (?_ :(bif decide (n≥lo) then decide (n≤hi) else false,()) =(inW n lo hi,()))
 grind [inW]
def cz:FuncId×Ctr:=(86,af KE q3 aw sIn)
theorem eV:CtrOK Tryz.prog KE 86 (af KE q3 aw sIn):=by
 refine ar (C:=al [] Tryz.f86) (aj (CtrsOK.nil) _) mixed (fn:=Tryz.f86) Tryz.func86 (by kernel_rfl) (by kernel_rfl) (by kernel_rfl) (by kernel_rfl) (by kernel_rfl) (by kernel_rfl) (Λ:=fun _ _=>none) ?_ ?_
 ·exact fun _ _ _ _ _ _ _ _ h=>by cases h
 ·rintro ⟨n,lo,hi,⟨⟩⟩ hw hn
  exact z7 n lo hi
theorem HP (n:Int) :(evPat (al [cz] Tryz.f107) (fun _=>none) Tryz.f107 bt aw (n,())).sat fun z_=>z_ =(Mj (n,())).2:=by
 refine cast (by kernel_rfl) (?_ :(!inW n (0:Int) (1000000000:Int),()) =(mh n,()))
 rfl
def Ba:FuncId×Ctr:=(107,af KE bt aw Mj)
theorem Dv:CtrOK Tryz.prog KE 107 (af KE bt aw Mj):=by
 refine ar (C:=al [cz] Tryz.f107) (aj (.consU eV rfl .nil) _) mixed (fn:=Tryz.f107) Tryz.func107 (by kernel_rfl) (by kernel_rfl) (by kernel_rfl) (by kernel_rfl) (by kernel_rfl) (by kernel_rfl) (Λ:=fun _ _=>none) ?_ ?_
 ·exact fun _ _ _ _ _ _ _ _ h=>by cases h
 ·rintro ⟨n,⟨⟩⟩ hw hn
  exact HP n
noncomputable def lpNIl:Lp:=(⟨0,al [Ba] Tryz.f127,(fun _=>none),(aB Tryz.f127 0),(qNI 107),xLI⟩:Lp)
theorem Ku (xs:List Int) (n:Int) (i:Int) (hi:dB (xs,n,i,())) :(Go.Mir.stepG lpNIl jm (fun y:Den (tyP lpNIl.q)=>dB y∧kq y<kq (xs,n,i,())) (xs,n,i,())∧Go.Mir.stepE lpNIl jm (xs,n,i,())=jm (xs,n,i,())):=by
 refine cast (by kernel_rfl) (?_ :((decide (i<n)=true→((0:Int)≤i∧i <(↑xs.length:Int))∧(mh (xs.getD i.toNat (dflt (Ty.int IntKind.i64)))=true→True)∧(mh (xs.getD i.toNat (dflt (Ty.int IntKind.i64)))=false→dB (xs,n,IntKind.i64.wrap (i +(1:Int)),())∧kq (xs,n,IntKind.i64.wrap (i +(1:Int)),())<kq (xs,n,i,())))∧(decide (i<n)=false→True))∧(bif decide (i<n) then bif mh (xs.getD i.toNat (dflt (Ty.int IntKind.i64))) then Sum.inl (i,()) else jm (xs,n,IntKind.i64.wrap (i +(1:Int)),()) else Sum.inr ())=jm (xs,n,i,()))
 obtain ⟨h1,h2,h3,h4⟩:=hi
 simp only at h1 h2 h3 h4
 have h5 :(xs.length:Int)≤140737488355328:=by have:xs.length≤140737488355328:=h4;omega
 refine ⟨⟨fun h=>?_,fun _=>trivial⟩,?_⟩
 ·have h:i<n:=of_decide_eq_true h
  rw [bb (n:=i+1) (by omega) (by omega)]
  refine ⟨⟨h2,by omega⟩,fun _=>trivial,fun _=>⟨⟨h1,by simp only;omega,by simp only;omega,h4⟩,by simp only [kq];omega⟩⟩
 ·by_cases h:i<n
  ·rw [decide_eq_true h,cond_true,bb (n:=i+1) (by omega) (by omega)]
   have e:xs.drop i.toNat=xs.getD i.toNat (dflt (Ty.int IntKind.i64))::xs.drop (i+1).toNat:=c8 h2 (by omega) _
   generalize xs.getD i.toNat (dflt (Ty.int IntKind.i64))=v at e ⊢
   simp only [jm,e,cp]
   cases mh v <;> rfl
  ·rw [decide_eq_false h,cond_false]
   simp only [jm]
   rw [co (l:=xs) (by omega)]
   rfl
noncomputable def IH:LoopSum:=aC lpNIl jm dB
noncomputable def Hy:Nat:=rid (aB Tryz.f127 0)
theorem Jh:LoopOKp Tryz.prog 0 Tryz.f127.ntmps (aB Tryz.f127 0) (aC lpNIl jm dB):=
 bi lpNIl (aj (.consU Dv rfl .nil) _) mixed (fun b hb S hS=>by cases hS) jm dB kq (fun |⟨xs,n,i,⟨⟩⟩,hi=>Ku xs n i hi)
theorem HG (xs:List Int) (hx:xs.length≤aI) :(evPat (al [Ba] Tryz.f127) (find [(Hy,IH)]) Tryz.f127 (qNF 107) bt (xs,())).sat fun z_=>z_ =((sNI 107) (xs,())).2:=by
 refine cast (by kernel_rfl) (?_:let r1:Bool:=isL (jm (xs,(↑xs.length:Int),(0:Int),()));((cx fun x=>none)∧(↑xs.length:Int) =(↑xs.length:Int)∧(0:Int)≤(0:Int)∧(0:Int)≤(↑xs.length:Int)∧xs.length≤aI)∧(r1=true→mU (dflt (I.prod Ty.unit)) (jm (xs,(↑xs.length:Int),(0:Int),())) =(nP (cp mh xs (0:Int)),()))∧(r1=false→((-1:Int),()) =(nP (cp mh xs (0:Int)),())))
 intro r1
 clear_value (hr1:r1=_)
 have e:jm (xs,(xs.length:Int),0,())=Gk (cp mh xs 0):=rfl
 try subst hr1
 rw [e]
 refine ⟨⟨rfl,rfl,Int.le_refl _,by omega,hx⟩,fun h=>?_,fun h=>?_⟩ <;> cases hf:cp mh xs 0 <;> rw [hf] at h <;> first|rfl|cases h
def Gt:FuncId×Ctr:=(127,af KE (qNF 107) bt (sNI 107))
theorem JB:CtrOK Tryz.prog KE 127 (af KE (qNF 107) bt (sNI 107)):=by
 refine ar (C:=al [Ba] Tryz.f127) (aj (.consU Dv rfl .nil) _) mixed (fn:=Tryz.f127) Tryz.func127 (by kernel_rfl) (by kernel_rfl) (by kernel_rfl) (by kernel_rfl) (by kernel_rfl) (by kernel_rfl) (Λ:=fun x=>find [(Hy,IH)]) ?_ ?_
 ·rintro ⟨xs,⟨⟩⟩ hw hn
  exact LoopsOKp.at (by kernel_rfl) (.cons (by kernel_rfl) (Jh) .nil)
 ·rintro ⟨xs,⟨⟩⟩ hw hn
  exact HG xs (ce (bg hw))
theorem HA (xs:List Int) :(evPat (al [Gt] Tryz.f106) (fun _=>none) Tryz.f106 (qNF 107) aw (xs,())).sat fun z_=>z_ =((sNC 107) (xs,())).2:=by
 refine cast (by kernel_rfl) (?_ :(decide (nP (cp mh xs (0:Int))≥(0:Int)),()) =(ql xs,()))
 have e:=jC (p:=mh) (l:=xs) (i:=0)
 unfold ql
 rw [←e]
 cases hf:cp mh xs 0 with
 | none=>rfl
 | some k=>
  have:=nt hf
  simp [this,nP]
def Gn:FuncId×Ctr:=(106,af KE (qNF 107) aw (sNC 107))
theorem Jw:CtrOK Tryz.prog KE 106 (af KE (qNF 107) aw (sNC 107)):=by
 refine ar (C:=al [Gt] Tryz.f106) (aj (.consU JB rfl .nil) _) mixed (fn:=Tryz.f106) Tryz.func106 (by kernel_rfl) (by kernel_rfl) (by kernel_rfl) (by kernel_rfl) (by kernel_rfl) (by kernel_rfl) (Λ:=fun _ _=>none) ?_ ?_
 ·exact fun _ _ _ _ _ _ _ _ h=>by cases h
 ·rintro ⟨xs,⟨⟩⟩ hw hn
  exact HA xs
noncomputable def lpDf:Lp:=(⟨0,al [cz,k47] Tryz.f88,(fun _=>none),(aB Tryz.f88 0),qDf,xDf⟩:Lp)
theorem MB (l:List Int) (most:Int) (l2:List Int) (n:Int) (i:Int) (hi:uk (l,most,l2,n,i,())) :(Go.Mir.stepG lpDf iT (fun y:Den (tyP lpDf.q)=>uk y∧ED y<ED (l,most,l2,n,i,())) (l,most,l2,n,i,())∧Go.Mir.stepE lpDf iT (l,most,l2,n,i,())=iT (l,most,l2,n,i,())):=by
 refine cast (by kernel_rfl) (?_:let r1:Bool:=!inW (l2.getD i.toNat (dflt (Ty.int IntKind.i64))) (1:Int) most;let r2:Bool:=bif r1 then true else fG (List.drop (Int.toNat (0:Int)) (List.take i.toNat l)) (l2.getD i.toNat (dflt (Ty.int IntKind.i64)));((decide (i<n)=true→((0:Int)≤i∧i <(↑l2.length:Int))∧((r1=true→True)∧(r1=false→((0:Int)≤(0:Int)∧(0:Int)≤i∧i≤(↑l.length:Int))∧True))∧(true=true→(r2=true→True)∧(r2=false→uk (l,most,l2,n,IntKind.i64.wrap (i +(1:Int)),())∧ED (l,most,l2,n,IntKind.i64.wrap (i +(1:Int)),())<ED (l,most,l2,n,i,()))))∧(decide (i<n)=false→True))∧(bif decide (i<n) then bif true&&true then bif r2 then Sum.inl (false,()) else iT (l,most,l2,n,IntKind.i64.wrap (i +(1:Int)),()) else bif true then bif r2 then Sum.inl (false,()) else iT (l,most,l2,n,IntKind.i64.wrap (i +(1:Int)),()) else bif r1 then Sum.inl (dflt (Ty.bool.prod Ty.unit)) else Sum.inl (dflt (Ty.bool.prod Ty.unit)) else Sum.inr ())=iT (l,most,l2,n,i,()))
 intro r1 r2
 clear_value (hr1:r1=_) (hr2:r2=_)
 obtain ⟨h0,h1,h2,h3,h4⟩:=hi
 simp only at h0 h1 h2 h3 h4
 subst h0
 have h5 :(l2.length:Int)≤140737488355328:=by have:l2.length≤140737488355328:=h4;omega
 refine ⟨⟨fun h=>?_,fun _=>trivial⟩,?_⟩
 ·have h:i<n:=of_decide_eq_true h
  rw [bb (n:=i+1) (by omega) (by omega)]
  exact ⟨⟨h2,by omega⟩,⟨fun _=>trivial,fun _=>⟨⟨Int.le_refl _,h2,by omega⟩,trivial⟩⟩,fun _=>⟨fun _=>trivial,fun _=>⟨⟨rfl,h1,by simp only;omega,by simp only;omega,h4⟩,by simp only [ED];omega⟩⟩⟩
 ·by_cases h:i<n
  ·rw [decide_eq_true h,cond_true,bb (n:=i+1) (by omega) (by omega)]
   have e:l2.drop i.toNat=l2.getD i.toNat (dflt (Ty.int IntKind.i64))::l2.drop (i+1).toNat:=c8 h2 (by omega) _
   have et:l2.take (i+1).toNat=l2.take i.toNat++[l2.getD i.toNat (dflt (Ty.int IntKind.i64))]:=Kv h2 (by omega) _
   rw [hr2,hr1]
   generalize l2.getD i.toNat (dflt (Ty.int IntKind.i64))=v at e et ⊢
   simp only [iT,e,et,ua,Int.toNat_zero,List.drop_zero]
   cases inW v 1 most <;> cases fG (l2.take i.toNat) v <;> rfl
  ·rw [decide_eq_false h]
   show (Sum.inr ():Sum (Bool×Unit) Unit)=_
   simp only [iT]
   rw [co (l:=l2) (by omega)]
   rfl
noncomputable def Lh:LoopSum:=aC lpDf iT uk
noncomputable def K1:Nat:=rid (aB Tryz.f88 0)
theorem LS:LoopOKp Tryz.prog 0 Tryz.f88.ntmps (aB Tryz.f88 0) (aC lpDf iT uk):=
 bi lpDf (aj (.consU eV rfl (.consU Jr rfl .nil)) _) mixed (fun b hb S hS=>by cases hS) iT uk ED (fun |⟨l,most,l2,n,i,⟨⟩⟩,hi=>MB l most l2 n i hi)
theorem HO (l:List Int) (most:Int) (hx:l.length≤aI) :(evPat (al [cz,k47] Tryz.f88) (find [(K1,Lh)]) Tryz.f88 qLM aw (l,most,())).sat fun z_=>z_ =(H9 (l,most,())).2:=by
 refine cast (by kernel_rfl) (?_:let r1:Bool:=isL (iT (l,most,l,(↑l.length:Int),(0:Int),()));((cx fun x=>none)∧l=l∧dB (l,(↑l.length:Int),(0:Int),()))∧(r1=true→mU (dflt (Ty.bool.prod Ty.unit)) (iT (l,most,l,(↑l.length:Int),(0:Int),())) =(gU l most,()))∧(r1=false→(true,()) =(gU l most,())))
 intro r1
 clear_value (hr1:r1=_)
 have e:iT (l,most,l,(l.length:Int),0,())=Jp (gU l most):=rfl
 try subst hr1
 rw [e]
 refine ⟨⟨rfl,rfl,rfl,Int.le_refl _,by simp only;omega,hx⟩,fun h=>?_,fun h=>?_⟩ <;> cases hf:gU l most <;> rw [hf] at h <;> first|rfl|cases h
def GB:FuncId×Ctr:=(88,af KE qLM aw H9)
theorem JJ:CtrOK Tryz.prog KE 88 (af KE qLM aw H9):=by
 refine ar (C:=al [cz,k47] Tryz.f88) (aj (.consU eV rfl (.consU Jr rfl .nil)) _) mixed (fn:=Tryz.f88) Tryz.func88 (by kernel_rfl) (by kernel_rfl) (by kernel_rfl) (by kernel_rfl) (by kernel_rfl) (by kernel_rfl) (Λ:=fun x=>find [(K1,Lh)]) ?_ ?_
 ·rintro ⟨l,most,⟨⟩⟩ hw hn
  exact LoopsOKp.at (by kernel_rfl) (.cons (by kernel_rfl) (LS) .nil)
 ·rintro ⟨l,most,⟨⟩⟩ hw hn
  exact HO l most (ce (bg hw))
theorem Aa (x:Innings) (hs:ah x) :(evPat (al [Gn] Tryz.f89) (fun _=>none) Tryz.f89 qIn aw (x,())).sat fun z_=>z_ =(Ic (x,())).2:=by
 refine cast (by kernel_rfl) (?_:let r1:List Int:= [x.2,x.4,x.6.1,x.6.2,x.6.3,x.6.4,x.6.5,x.7,x.18,x.20,x.22.1,x.22.2.1];((0:Int)≤(0:Int)∧(0:Int) <(↑(2:Nat):Int))∧((0:Int)≤(1:Int)∧(1:Int) <(↑(2:Nat):Int))∧(r1.length+x.16.length) *(8:Nat)≤(70368744177664:Nat)∧(!ql (r1++x.16),()) =(rK x,()))
 intro r1
 clear_value (hr1:r1=_)
 have hl:r1.length=12:=by rw [hr1];rfl
 have:=hs.2.2.2.1
 refine ⟨by omega,by omega,by omega,?_⟩
 rw [hr1];rfl
def uw:FuncId×Ctr:=(89,af KE qIn aw Ic)
theorem Bo:CtrOK Tryz.prog KE 89 (af KE qIn aw Ic):=by
 refine ar (C:=al [Gn] Tryz.f89) (aj (.consU Jw rfl .nil) _) mixed (fn:=Tryz.f89) Tryz.func89 (by kernel_rfl) (by kernel_rfl) (by kernel_rfl) (by kernel_rfl) (by kernel_rfl) (by kernel_rfl) (Λ:=fun _ _=>none) ?_ ?_
 ·exact fun _ _ _ _ _ _ _ _ h=>by cases h
 ·rintro ⟨x,⟨⟩⟩ hw hn
  exact Aa x (hn _ List.mem_cons_self)
end Go.Proofs.YtkgplaoappjkcaaGreat
namespace Go.Proofs.YtkgplaoappjkcaaGreat
open Go Go.Mir
attribute [local irreducible] Go.Mir.DT.sat Go.Mir.evPat Go.Mir.RT.sat Go.Mir.evFn
def ki (S O:Int):List Int→Int→Int→Int→Bool→Option (Int×Int×Bool)
 | [],_,o,b,g=>some (o,b,g)
 | s::r,i,o,b,g=>if s>3 then none
  else if s==1 then (if S != i+1&&O != i+1 then none else ki S O r (i+1) o (b+1) true)
  else ki S O r (i+1) (if s==2 then o+1 else o) b (g||s != 0)
abbrev qBc:Pat:=⟨[(2,.c (.ptr 0 0)),(1,.h I),(5,.h I),(6,.h I),(7,.h .bool),(12,.h U8s),(13,.h I),(14,.h I)],[(0,.dat (.nm .Innings))],1⟩
abbrev xBc:List (Lf×Pat):= [(.ret,⟨[(4,.h .bool)],[],0⟩),(.ext 0,⟨[(2,.c (.ptr 0 0)),(1,.h I),(5,.h I),(6,.h I),(7,.h .bool)],[(0,.dat (.nm .Innings))],1⟩)]
abbrev TBc:Type:=Int×Int×Int×Bool×List Int×Int×Int×Innings×Unit
def rl (x:TBc):Prop:=dB (x.2.2.2.2.1,x.2.2.2.2.2.1,x.2.2.2.2.2.2.1,())∧x.2.2.2.2.1.length≤1000000∧(0≤x.2.1∧x.2.1≤x.2.2.2.2.2.2.1)∧(0≤x.2.2.1∧x.2.2.1≤x.2.2.2.2.2.2.1)
def y7 (x:TBc):Nat:=(x.2.2.2.2.2.1 - x.2.2.2.2.2.2.1).toNat
def uP (side:Int) (x:Innings):Option (Int×Int×Bool)→Sum (Bool×Unit) (Int×Int×Int×Bool×Innings×Unit)
 | none=> .inl (false,())
 | some (o,b,g)=> .inr (side,o,b,g,x,())
def gj (x:TBc):Sum (Bool×Unit) (Int×Int×Int×Bool×Innings×Unit):=
 uP x.1 x.2.2.2.2.2.2.2.1 (ki x.2.2.2.2.2.2.2.1.Striker x.2.2.2.2.2.2.2.1.Other (x.2.2.2.2.1.drop x.2.2.2.2.2.2.1.toNat) x.2.2.2.2.2.2.1 x.2.1 x.2.2.1 x.2.2.2.1)
def ma (x:Innings):Int:=(if x.Striker != 0 then 1 else 0) +(if x.Other != 0 then 1 else 0)
def FS (x:Innings) (side:Int):Option (Int×Int×Bool)→Bool
 | none=>false
 | some (o,b,g)=>if !inW x.Striker 0 side||!inW x.Other 0 side||x.Striker==x.Other&&x.Striker != 0 then false
  else ma x==b&&(!g||decide (ma x>0))&&o==x.Wickets
def pD (x:Innings) (side:Int):Bool:=FS x side (ki x.Striker x.Other x.Batters 0 0 0 false)
def H6:Den (tyP jj)→List Prop×Den (tyP aw):=fun x=>([ah x.1],(pD x.1 x.2.1,()))
noncomputable def lpBc:Lp:=(⟨0,al [cz] Tryz.f87,(fun _=>none),(aB Tryz.f87 0),qBc,xBc⟩:Lp)
theorem Mz (side:Int) (o:Int) (b:Int) (g:Bool) (xs:List Int) (n:Int) (i:Int) (x:Innings) (hi:rl (side,o,b,g,xs,n,i,x,())) :(Go.Mir.stepG lpBc gj (fun y:Den (tyP lpBc.q)=>rl y∧y7 y<y7 (side,o,b,g,xs,n,i,x,())) (side,o,b,g,xs,n,i,x,())∧Go.Mir.stepE lpBc gj (side,o,b,g,xs,n,i,x,())=gj (side,o,b,g,xs,n,i,x,())):=by
 refine cast (by kernel_rfl) (?_:let r1:Int:=IntKind.i64.wrap (i +(1:Int));let r2:Bool:=xs.getD i.toNat (dflt (Ty.int IntKind.u8)) ==(1:Int);let r3:Bool:=xs.getD i.toNat (dflt (Ty.int IntKind.u8)) ==(2:Int);let r4:Bool:=bif g then true else xs.getD i.toNat (dflt (Ty.int IntKind.u8)) !=(0:Int);let r5:Bool:=decide (xs.getD i.toNat (dflt (Ty.int IntKind.u8)) >(3:Int));let r6:Bool:=bif x.9 != r1 then x.10 != r1 else false;let r7:Bool:=bif r5 then false else bif r2 then !r6 else true;((decide (i<n)=true→(r7=true→(((0:Int)≤i∧i <(↑xs.length:Int))∧(r5=true→False)∧(r5=false→(r2=true→(r6=true→False)∧(r6=false→True))∧(r2=false→(r3=true→True)∧(r3=false→True))))∧rl (side,bif r2 then o else bif r3 then IntKind.i64.wrap (o +(1:Int)) else o,bif r2 then IntKind.i64.wrap (b +(1:Int)) else b,bif r2 then r4 else bif r3 then r4 else r4,xs,n,r1,x,())∧y7 (side,bif r2 then o else bif r3 then IntKind.i64.wrap (o +(1:Int)) else o,bif r2 then IntKind.i64.wrap (b +(1:Int)) else b,bif r2 then r4 else bif r3 then r4 else r4,xs,n,r1,x,())<y7 (side,o,b,g,xs,n,i,x,()))∧(r7=false→((0:Int)≤i∧i <(↑xs.length:Int))∧(r5=true→True)∧(r5=false→(r2=true→(r6=true→True)∧(r6=false→True))∧(r2=false→(r3=true→True)∧(r3=false→True)))))∧(decide (i<n)=false→True))∧(bif decide (i<n) then bif false&&(false&&true&&(true&&true)) then gj (side,bif r2 then o else bif r3 then IntKind.i64.wrap (o +(1:Int)) else o,bif r2 then IntKind.i64.wrap (b +(1:Int)) else b,bif r2 then r4 else bif r3 then r4 else r4,xs,n,r1,x,()) else bif r7 then gj (side,bif r2 then o else bif r3 then IntKind.i64.wrap (o +(1:Int)) else o,bif r2 then IntKind.i64.wrap (b +(1:Int)) else b,bif r2 then r4 else bif r3 then r4 else r4,xs,n,r1,x,()) else bif r5 then Sum.inl (false,()) else bif r2 then bif r6 then Sum.inl (false,()) else Sum.inl (dflt (Ty.bool.prod Ty.unit)) else bif r3 then Sum.inl (dflt (Ty.bool.prod Ty.unit)) else Sum.inl (dflt (Ty.bool.prod Ty.unit)) else Sum.inr (side,o,b,g,x,()))=gj (side,o,b,g,xs,n,i,x,()))
 intro r1 r2 r3 r4 r5 r6 r7
 clear_value (hr1:r1=_) (hr2:r2=_) (hr3:r3=_) (hr4:r4=_) (hr5:r5=_) (hr6:r6=_) (hr7:r7=_)
 obtain ⟨⟨h1,h2,h3,h4⟩,h6,⟨h7,h8⟩,⟨h9,h10⟩⟩:=hi
 simp only at h1 h2 h3 h4 h6 h7 h8 h9 h10
 by_cases h:i<n
 ·have e:xs.drop i.toNat=xs.getD i.toNat (dflt (Ty.int IntKind.u8))::xs.drop (i+1).toNat:=c8 h2 (by omega) _
  have hw:r1=i+1:=by rw [hr1];exact bb (by omega) (by omega)
  have ho:IntKind.i64.wrap (o+1)=o+1:=bb (by omega) (by omega)
  have hb:IntKind.i64.wrap (b+1)=b+1:=bb (by omega) (by omega)
  generalize xs.getD i.toNat (dflt (Ty.int IntKind.u8))=v at *
  have hx :(0:Int)≤i∧i <(xs.length:Int):=by omega
  have inv :∀ o' b' g',(o'=o∨o'=o+1)→(b'=b∨b'=b+1)→rl (side,o',b',g',xs,n,i+1,x,())∧y7 (side,o',b',g',xs,n,i+1,x,())<y7 (side,o,b,g,xs,n,i,x,()):=fun o' b' g' ho hb=>by
   refine ⟨⟨⟨h1,by simp only;omega,by simp only;omega,h4⟩,h6,⟨?_,?_⟩,⟨?_,?_⟩⟩,?_⟩ <;> simp only [y7] <;> omega
  have er:gj (side,o,b,g,xs,n,i,x,())=uP side x (ki x.Striker x.Other (v::xs.drop (i+1).toNat) i o b g):=by rw [←e];rfl
  have er2 :∀ o' b' g',gj (side,o',b',g',xs,n,i+1,x,())=uP side x (ki x.Striker x.Other (xs.drop (i+1).toNat) (i+1) o' b' g'):=fun _ _ _=>rfl
  rw [er,hw,ho,hb]
  rw [hw] at hr6
  by_cases hv:v>3
  ·have e5:r5=true:=by rw [hr5];simpa using hv
   subst hr7
   simp [e5,h,hx,ki,hv,uP]
  ·have e5:r5=false:=by rw [hr5];simpa using hv
   have hv2 :¬(3:Int)<v:=hv
   by_cases hs:v=1
   ·have e2:r2=true:=by rw [hr2,hs];rfl
    have e4:r4=true:=by rw [hr4,hs];cases g <;> rfl
    cases h6':r6 with
    | true=>
     have h6'' :(x.Striker != i+1&&x.Other != i+1)=true:=by grind
     have hn:ki x.Striker x.Other (v::xs.drop (i+1).toNat) i o b g=none:=by
      rw [hs];unfold ki;rw [if_neg (by omega),h6''];rfl
     rw [hn]
     subst hr7
     simp [e5,e2,h,hx,h6',uP]
    | false=>
     have h6'' :(x.Striker != i+1&&x.Other != i+1)=false:=by grind
     have hn:ki x.Striker x.Other (v::xs.drop (i+1).toNat) i o b g=ki x.Striker x.Other (xs.drop (i+1).toNat) (i+1) o (b+1) true:=by
      rw [hs]
      conv=>lhs;unfold ki
      rw [if_neg (by omega),h6''];rfl
     rw [hn,←er2]
     subst hr7
     have:=inv o (b+1) true (.inl rfl) (.inr rfl)
     simp [e5,e2,e4,h,hx,h6',this]
   ·have e2:r2=false:=by rw [hr2];simpa using hs
    have e4:r4 =(g||v != 0):=by rw [hr4];cases g <;> rfl
    have hn:ki x.Striker x.Other (v::xs.drop (i+1).toNat) i o b g=ki x.Striker x.Other (xs.drop (i+1).toNat) (i+1) (if r3 then o+1 else o) b r4:=by
     conv=>lhs;unfold ki
     rw [if_neg hv,←hr2,e2,←hr3,←e4];rfl
    rw [hn,←er2]
    subst hr7
    have:=inv (if r3 then o+1 else o) b r4 (by split <;> simp) (.inl rfl)
    cases h3':r3 <;> rw [h3'] at this <;> simp at this <;> simp [e5,e2,h,hx,this]
 ·have er:gj (side,o,b,g,xs,n,i,x,()) = .inr (side,o,b,g,x,()):=by
   simp only [gj]
   rw [co (l:=xs) (by omega)]
   rfl
  rw [er]
  simp [h]
noncomputable def Le:LoopSum:=aC lpBc gj rl
noncomputable def KZ:Nat:=rid (aB Tryz.f87 0)
theorem LQ:LoopOKp Tryz.prog 0 Tryz.f87.ntmps (aB Tryz.f87 0) (aC lpBc gj rl):=
 bi lpBc (aj (.consU eV rfl .nil) _) mixed (fun b hb S hS=>by cases hS) gj rl y7 (fun |⟨side,o,b,g,xs,n,i,x,⟨⟩⟩,hi=>Mz side o b g xs n i x hi)
theorem z6 (x:Innings) (side:Int) (hs:ah x) :(evPat (al [cz] Tryz.f87) (find [(KZ,Le)]) Tryz.f87 jj aw (x,side,())).sat fun z_=>z_ =(H6 (x,side,())).2:=by
 refine cast (by kernel_rfl) (?_:let r1:Bool:=isL (gj (side,(0:Int),(0:Int),false,x.11,(↑x.11.length:Int),(0:Int),x,()));let r2:Int×Int×Int×Bool×Innings×PUnit:=pG (dflt (I.prod (I.prod (I.prod (Ty.bool.prod ((Ty.nm Nm.Innings).prod Ty.unit)))))) (gj (side,(0:Int),(0:Int),false,x.11,(↑x.11.length:Int),(0:Int),x,()));let r3:Bool:=r2.2.2.2.2.1.9 !=(0:Int);let r4:Int:=bif r3 then IntKind.i64.wrap ((0:Int) +(1:Int)) else (0:Int);let r5:Bool:=r2.2.1==r2.2.2.2.2.1.5;let r6:Int:=bif r2.2.2.2.2.1.10 !=(0:Int) then IntKind.i64.wrap (r4 +(1:Int)) else r4;let r7:Bool:=bif !inW r2.2.2.2.2.1.9 (0:Int) r2.1 then true else bif !inW r2.2.2.2.2.1.10 (0:Int) r2.1 then true else bif r2.2.2.2.2.1.9==r2.2.2.2.2.1.10 then r3 else false;((cx fun x=>none)∧dB (x.11,(↑x.11.length:Int),(0:Int),())∧x.11.length≤(1000000:Nat)∧((0:Int)≤(0:Int)∧(0:Int)≤(0:Int))∧(0:Int)≤(0:Int)∧(0:Int)≤(0:Int))∧(r1=true→mU (dflt (Ty.bool.prod Ty.unit)) (gj (side,(0:Int),(0:Int),false,x.11,(↑x.11.length:Int),(0:Int),x,())) =(pD x side,()))∧(r1=false→(r7=true→(false,()) =(pD x side,()))∧(r7=false→(bif r6==r2.2.2.1 then bif !r2.2.2.2.1 then r5 else bif decide (r6 >(0:Int)) then r5 else false else false,()) =(pD x side,()))))
 intro r1 r2 r3 r4 r5 r6 r7
 clear_value (hr1:r1=_) (hr2:r2=_) (hr3:r3=_) (hr4:r4=_) (hr5:r5=_) (hr6:r6=_) (hr7:r7=_)
 have er:gj (side,0,0,false,x.Batters,(x.Batters.length:Int),0,x,())=uP side x (ki x.Striker x.Other x.Batters 0 0 0 false):=rfl
 try rw [er] at hr1
 try rw [er] at hr2
 try rw [er]
 have hw1:IntKind.i64.wrap ((0:Int)+1)=1:=rfl
 have hw2:IntKind.i64.wrap ((1:Int)+1)=2:=rfl
 refine ⟨⟨rfl,⟨rfl,Int.le_refl _,by simp only;omega,?_⟩,hs.1,⟨Int.le_refl _,Int.le_refl _⟩,Int.le_refl _,Int.le_refl _⟩,fun h=>?_,fun h=>?_⟩
 ·have:=hs.1
  show x.Batters.length≤140737488355328
  omega
 ·cases hb:ki x.Striker x.Other x.Batters 0 0 0 false with
  | none=>simp only [pD,hb];rfl
  | some q=>rw [hb] at hr1;rw [hr1] at h;cases h
 ·cases hb:ki x.Striker x.Other x.Batters 0 0 0 false with
  | none=>rw [hb] at hr1;rw [hr1] at h;cases h
  | some q=>
   obtain ⟨o,b,g⟩:=q
   rw [hb] at hr2
   have e2:r2 =(side,o,b,g,x,()):=hr2
   subst e2
   simp only at hr3 hr5 hr6 hr7 ⊢
   have e6:r6=ma x:=by
    rw [hr6,hr4,hr3,hw1]
    unfold ma
    cases x.Striker != 0 <;> cases x.Other != 0 <;> rfl
   have e7:r7 =(!inW x.Striker 0 side||!inW x.Other 0 side||x.Striker==x.Other&&x.Striker != 0):=by
    rw [hr7,hr3]
    cases inW x.Striker 0 side <;> cases inW x.Other 0 side <;> cases x.Striker==x.Other <;> rfl
   rw [e6,hr5]
   simp only [pD,hb,FS]
   rw [←e7]
   refine ⟨fun h7=>by rw [h7];rfl,fun h7=>?_⟩
   rw [h7]
   cases ma x==b <;> cases g <;> cases decide (ma x>0) <;> rfl
def uu:FuncId×Ctr:=(87,af KE jj aw H6)
theorem Bm:CtrOK Tryz.prog KE 87 (af KE jj aw H6):=by
 refine ar (C:=al [cz] Tryz.f87) (aj (.consU eV rfl .nil) _) mixed (fn:=Tryz.f87) Tryz.func87 (by kernel_rfl) (by kernel_rfl) (by kernel_rfl) (by kernel_rfl) (by kernel_rfl) (by kernel_rfl) (Λ:=fun x=>find [(KZ,Le)]) ?_ ?_
 ·rintro ⟨x,side,⟨⟩⟩ hw hn
  exact LoopsOKp.at (by kernel_rfl) (.cons (by kernel_rfl) (LQ) .nil)
 ·rintro ⟨x,side,⟨⟩⟩ hw hn
  exact z6 x side (hn _ List.mem_cons_self)
end Go.Proofs.YtkgplaoappjkcaaGreat
namespace Go.Proofs.YtkgplaoappjkcaaGreat
open Go Go.Mir
def aU (n lo hi:Int):Bool:=decide (n≥lo)&&decide (n≤hi)
def cQ (r:Rules):Bool:=
 aU r.Side 2 11&&(aU r.Innings 1 2&&(aU r.Overs 0 90&&(aU r.Balls 4 8&&(aU r.Quota 0 90&&(aU r.Wide 1 5&&(aU r.NoBall 1 5&&(
 aU r.NewBall 0 200&&(aU r.FollowOn 0 1000&&(aU r.Reviews 0 9&&aU r.Outside 0 11)))))))))
def cN (r:Rules) (i:Nat):Phase:=r.Power.getD i Phase.zero
def se (r:Rules) (p:Phase):Bool:=decide (p.From<1) ||(decide (p.From>p.To) ||(decide (p.To>r.Overs)||!aU p.Outside 0 11))
def mw (r:Rules) (i:Nat):Int:=
 if se r (cN r i) then 2 else if decide ((i:Int)>0)&&decide ((cN r i).From≤(cN r (i - 1)).To) then 8 else 0
def dW (r:Rules):Nat→Nat→Int
 | _,0=>0
 | i,n+1=>if mw r i != 0 then mw r i else dW r (i+1) n
def gb (r:Rules):Int:=if (r.Power.length:Int)>8 then 9 else dW r 0 r.Power.length
def qp (s:ByteArray) (i:Nat):Int:=((s.data.getD i 0).toNat:Int)
def Dg (c:Int):Bool:=decide (c≥65)&&decide (c≤90)
def CA (i:Int) (c:Int):Bool:=!Dg c&&(i==0 ||(c != 95&&(c != 45&&(decide (c<48)||decide (c>57)))))
def mu (s:ByteArray):Bool:=(List.range s.size).all (fun i=>!CA i (qp s i))&&(decide ((s.size:Int)≥1)&&decide ((s.size:Int)≤16))
def JZ:Ty:= .prod (.int .i64) (.prod (.int .i64) (.prod (.int .i64) .unit))
def x3:Den JZ→PRes:=fun x=>⟨[],.bool (aU x.1 x.2.1 x.2.2.1),[]⟩
def pN:Ty:= .prod (.nm .Rules) .unit
def xX:Den pN→PRes:=fun x=>⟨[],.bool (cQ x.1),[]⟩
def xY:Den pN→PRes:=fun x=>⟨[],.int .i64 (gb x.1),[]⟩
def J4:Ty:= .prod .str .unit
def xZ:Den J4→PRes:=fun x=>⟨[],.bool (mu x.1),[]⟩
def bA (x:Innings) (p:Int):Bool:=decide (p≥1)&&decide (p≤(x.Bowled.length:Int))
def xS:Den jh→PRes:=fun x=>⟨[],.bool (bA x.1 x.2.1),[]⟩
def k97:FuncId×Ctr:=(85,aq K8 JZ x3)
def k93:FuncId×Ctr:=(56,aq K8 pN xX)
def k94:FuncId×Ctr:=(57,aq K8 pN xY)
def k92:FuncId×Ctr:=(55,aq K8 J4 xZ)
def k84:FuncId×Ctr:=(180,aq K8 jh xS)
def k83:FuncId×Ctr:=(160,aq K8 psI gt)
def CV (r:Rules) (i:Nat):Prop:=i≤r.Power.length∧dW r 0 r.Power.length=dW r i (r.Power.length - i)
def L94 (i:Nat):List (Lspec Nat):= [.out [true] [] [],.out [true] [] [],.next (i+1) [] [],.out [false] [] []]
def J94 (r:Rules) (i:Nat):St:=⟨[(1,.ptr 0 0),(10,.fsl (.nm .Phase) r.Power),(11,.int .i64 r.Power.length),(12,.int .i64 i)],[(0,.cells (flat fh (.nm .Rules) r))],fun _=>none,8⟩
def T94 (r:Rules):Tr:= .br (dW r 0 r.Power.length != 0) (.leaf .ret ⟨[(2,.int .i64 (dW r 0 r.Power.length))],[]⟩ 8) (.leaf (.ext 0) ⟨[],[]⟩ 8)
def Λ94 (r:Rules):Nat→Option LoopSum:=find [(4,cw ⟨[],[],8⟩ (J94 r 0) (T94 r))]
def jE (s:ByteArray) (i:Nat):Bool:=(List.range i).all (fun k=>!CA k (qp s k))
def CW (s:ByteArray) (i:Nat):Prop:=i≤s.size∧jE s i=true
def L95 (i:Nat):List (Lspec Nat):= [.out [false] [] [],.next (i+1) [] [],.out [true] [] []]
end Go.Proofs.YtkgplaoappjkcaaGreat
namespace Go.Proofs.YtkgplaoappjkcaaGreat
open Go Go.Mir
def vw (r:Rules):Bool:=(r.FollowOn != 0&&r.Innings==1) ||((r.Quota != 0||decide ((r.Power.length:Int)>0))&&r.Overs==0)
def vE (r:Rules):Bool:=r.Quota != 0&&decide (IntKind.i64.wrap (r.Quota*r.Side)<r.Overs)
def ax (r:Rules):Int:=if !mu r.Name then 5 else if !cQ r then 2 else if vw r then 1 else if vE r then 13 else gb r
def xT:Den pN→PRes:=fun x=>⟨[],.int .i64 (ax x.1),[]⟩
def k85:FuncId×Ctr:=(40,aq K8 pN xT)
def kf:Ty:= .prod (.nm .Rules) (.prod (.nm .Innings) (.prod (.int .i64) .unit))
def jo (r:Rules) (x:Innings) (p:Int):Int:=
 if !bA x p||ax r != 0 then 0 else if r.Quota==0 then -1
 else ko (IntKind.i64.wrap (IntKind.i64.wrap (r.Quota*r.Balls) - ko (x.Bowled.getD (p - 1).toNat 0) 0)) 0
def xQ:Den kf→PRes:=fun x=>⟨[],.int .i64 (jo x.1 x.2.1 x.2.2.1),[]⟩
def k81:FuncId×Ctr:=(181,aq K8 kf xQ)
end Go.Proofs.YtkgplaoappjkcaaGreat
namespace Go.Proofs.YtkgplaoappjkcaaGreat
open Go Go.Mir
def cR (r:Rules) (x:Innings) (p:Int):Int:=
 if !bA x p||ax r != 0 then 3
 else if p==x.Keeper ||(p==x.Bowler||aO x p) then 7
 else if fG x.Before p then 8
 else if jo r x p != -1&&decide (x.InOver<IntKind.i64.wrap (r.Balls - jo r x p)) then 9 else 0
def xR:Den kf→PRes:=fun x=>⟨[],.int .i64 (cR x.1 x.2.1 x.2.2.1),[]⟩
def k82:FuncId×Ctr:=(161,aq K8 kf xR)
def bE (r:Rules) (x:Innings) (p:Int):Innings:=if cR r x p==0 then { x with Bowler:=p } else x
def xC:Den kf→PRes:=fun x=>⟨[ah x.2.1],.tup [BI (bE x.1 x.2.1 x.2.2.1),.int .i64 (cR x.1 x.2.1 x.2.2.1)],sx (bE x.1 x.2.1 x.2.2.1)⟩
def k50:FuncId×Ctr:=(132,aq K8 kf xC)
def Dp (r:Rules) (x:Innings):Bool:=ax r != 0 ||(r.NewBall==0||decide (x.BallAge<IntKind.i64.wrap (r.NewBall*r.Balls)))
def bq (r:Rules) (x:Innings):Innings:=if Dp r x then x else { x with BallAge:=0 }
def wy (r:Rules) (x:Innings):Int:=if Dp r x then 22 else 0
def xE:Den zE→PRes:=fun x=>⟨[ah x.2.1],.tup [BI (bq x.1 x.2.1),.int .i64 (wy x.1 x.2.1)],sx (bq x.1 x.2.1)⟩
def k55:FuncId×Ctr:=(140,aq K8 zE xE)
def fm (x:Innings):List Int:=if fG x.Bowlers x.Bowler then x.Bowlers else x.Bowlers++[x.Bowler]
def qo (x:Innings):List Int:=x.Bowled.set (x.Bowler - 1).toNat (IntKind.i64.wrap (x.Bowled.getD (x.Bowler - 1).toNat 0+1))
def c7 (x:Innings) (c:Bool):Innings:=
 if c then { x with Bowlers:=fm x,Bowled:=qo x,InOver:=IntKind.i64.wrap (x.InOver+1),BallAge:=IntKind.i64.wrap (x.BallAge+1) } else { x with Bowlers:=fm x }
def zr (y:Innings):Innings:={ y with Complete:=IntKind.i64.wrap (y.Complete+1),InOver:=0,Before:=y.Bowlers,Bowlers:= [],Bowler:=0 }
def jN (r:Rules) (x:Innings):Bool:=!bA x x.Bowler||ax r != 0
def an (r:Rules) (x:Innings) (c:Bool):Innings:=if jN r x then x else if (c7 x c).InOver<r.Balls then c7 x c else zr (c7 x c)
def iC (r:Rules) (x:Innings) (c:Bool):Bool:=if jN r x then false else if (c7 x c).InOver<r.Balls then false else true
def DI:Ty:= .prod (.nm .Rules) (.prod (.nm .Innings) (.prod .bool .unit))
def xD:Den DI→PRes:=fun x=>⟨[ah x.2.1],.tup [BI (an x.1 x.2.1 x.2.2.1),.bool (iC x.1 x.2.1 x.2.2.1)],sx (an x.1 x.2.1 x.2.2.1)⟩
def k51:FuncId×Ctr:=(165,aq K8 DI xD)
end Go.Proofs.YtkgplaoappjkcaaGreat
namespace Go.Proofs.YtkgplaoappjkcaaGreat
open Go Go.Mir
def J92 (s:ByteArray) (i:Nat):St:=⟨[(0,.str s),(7,.osl 16 16),(8,.int .i64 (aN s).length),(9,.int .i64 i)],[(16,.row 16 true (.int .u8) (aN s))],fun _=>none,40⟩
def T92 (s:ByteArray):Tr:= .br (jE s s.size) (.leaf (.ext 0) ⟨[(0,.str s)],[]⟩ 40) (.leaf .ret ⟨[(2,.kb false)],[]⟩ 40)
def Λ92 (s:ByteArray):Nat→Option LoopSum:=find [(2,cw ⟨[],[],40⟩ (J92 s 0) (T92 s))]
end Go.Proofs.YtkgplaoappjkcaaGreat
namespace Go.Proofs.YtkgplaoappjkcaaGreat
open Go Go.Mir
attribute [local irreducible] Go.Mir.RT.sat Go.Mir.evFn Go.Mir.stepObl
theorem N9 (n:Int) (lo:Int) (hi:Int) :(evFn (cf8 [] Tryz.f85) (fun _=>none) Tryz.f85 (bk JZ (n,lo,hi,()))).sat fun v' rows=>leV v' (x3 (n,lo,hi,())).v∧rows =(x3 (n,lo,hi,())).rows:=by
 refine cast (by kernel_rfl) (?_ :(bif decide (n≥lo) then decide (n≤hi) else false)=aU n lo hi∧([]:List RowD)=[])
 simp only [aU];grind
theorem L5:CtrOK Tryz.prog K8 85 (aq K8 JZ x3):=by
 refine aS (C:=cf8 [] Tryz.f85) (bu (CtrsOK.nil) _) mixed (fn:=Tryz.f85) Tryz.func85 (by kernel_rfl) (by kernel_rfl) (by kernel_rfl) (Λ:=fun _ _=>none) ?_ ?_ ?_
 ·exact fun _ _ _ _ _ _ _ _ h=>by cases h
 ·rintro ⟨n,lo,hi,⟨⟩⟩
  exact of_decide_eq_true (by kernel_rfl)
 ·rintro ⟨n,lo,hi,⟨⟩⟩ hw hn
  exact N9 n lo hi
theorem N1 (x:Innings) (p:Int) :(evFn (cf8 [] Tryz.f180) (fun _=>none) Tryz.f180 (bk jh (x,p,()))).sat fun v' rows=>leV v' (xS (x,p,())).v∧rows =(xS (x,p,())).rows:=by
 refine cast (by kernel_rfl) (?_ :(bif decide (p≥(1:Int)) then decide (p≤(↑x.16.length:Int)) else false)=bA x p∧([]:List RowD)=[])
 simp only [bA];grind
theorem L4:CtrOK Tryz.prog K8 180 (aq K8 jh xS):=by
 refine aS (C:=cf8 [] Tryz.f180) (bu (CtrsOK.nil) _) mixed (fn:=Tryz.f180) Tryz.func180 (by kernel_rfl) (by kernel_rfl) (by kernel_rfl) (Λ:=fun _ _=>none) ?_ ?_ ?_
 ·exact fun _ _ _ _ _ _ _ _ h=>by cases h
 ·rintro ⟨x,p,⟨⟩⟩
  exact of_decide_eq_true (by kernel_rfl)
 ·rintro ⟨x,p,⟨⟩⟩ hw hn
  exact N1 x p
theorem N0 (x:Innings) (hs:ah x) :(evFn (cf8 [k45,k90,k91] Tryz.f160) (fun _=>none) Tryz.f160 (bk psI (x,()))).sat fun v' rows=>leV v' (gt (x,())).v∧rows =(gt (x,())).rows:=by
 refine cast (by kernel_rfl) (?_:x.11.length≤(1000000:Nat)∧x.13.length≤(1000000:Nat)∧x.14.length≤(1000000:Nat)∧x.16.length≤(1000000:Nat)∧x.21.length≤(1000000:Nat)∧(x.1=x.1∧x.2=x.2∧x.3=x.3∧x.4=x.4∧x.5=x.5∧x.6.1=x.6.1∧x.6.2=x.6.2∧x.6.3=x.6.3∧x.6.4=x.6.4∧x.6.5=x.6.5∧x.7=x.7∧x.8=x.8∧x.9=x.9∧x.10=x.10∧(nat_lit 0=nat_lit 0∧nat_lit 0=nat_lit 0)∧x.12=x.12∧(nat_lit 1=nat_lit 1∧nat_lit 1=nat_lit 1)∧(nat_lit 2=nat_lit 2∧nat_lit 2=nat_lit 2)∧x.15=x.15∧(nat_lit 3=nat_lit 3∧nat_lit 3=nat_lit 3)∧x.17=x.17∧x.18=x.18∧x.19=x.19∧x.20=x.20∧(nat_lit 4=nat_lit 4∧nat_lit 4=nat_lit 4)∧x.22.1=x.22.1∧x.22.2.1=x.22.2.1∧x.23=x.23∧True)∧ [RowD.mk (Ty.int IntKind.u8) x.11,RowD.mk (Ty.int IntKind.i64) x.13,RowD.mk (Ty.int IntKind.i64) x.14,RowD.mk (Ty.int IntKind.i64) x.16,RowD.mk Ty.bool x.21]=[RowD.mk (Ty.int IntKind.u8) x.11,RowD.mk (Ty.int IntKind.i64) x.13,RowD.mk (Ty.int IntKind.i64) x.14,RowD.mk (Ty.int IntKind.i64) x.16,RowD.mk Ty.bool x.21])
 obtain ⟨h1,h2,h3,h4,h5⟩:=hs
 simp [h1,h2,h3,h4,h5]
theorem L3:CtrOK Tryz.prog K8 160 (aq K8 psI gt):=by
 refine aS (C:=cf8 [k45,k90,k91] Tryz.f160) (bu (.cons Jq (.cons Ju (.cons Jv .nil))) _) mixed (fn:=Tryz.f160) Tryz.func160 (by kernel_rfl) (by kernel_rfl) (by kernel_rfl) (Λ:=fun _ _=>none) ?_ ?_ ?_
 ·exact fun _ _ _ _ _ _ _ _ h=>by cases h
 ·rintro ⟨x,⟨⟩⟩
  exact of_decide_eq_true (by kernel_rfl)
 ·rintro ⟨x,⟨⟩⟩ hw hn
  exact N0 x (hn _ (List.mem_singleton.2 rfl))
theorem N7 (r:Rules) :(evFn (cf8 [k97] Tryz.f56) (fun _=>none) Tryz.f56 (bk pN (r,()))).sat fun v' rows=>leV v' (xX (r,())).v∧rows =(xX (r,())).rows:=by
 refine cast (by kernel_rfl) (?_ :(bif aU r.2 (2:Int) (11:Int) then bif aU r.3 (1:Int) (2:Int) then bif aU r.4 (0:Int) (90:Int) then bif aU r.5 (4:Int) (8:Int) then bif aU r.6 (0:Int) (90:Int) then bif aU r.7 (1:Int) (5:Int) then bif aU r.8 (1:Int) (5:Int) then bif aU r.10 (0:Int) (200:Int) then bif aU r.11 (0:Int) (1000:Int) then bif aU r.12 (0:Int) (9:Int) then aU r.13 (0:Int) (11:Int) else false else false else false else false else false else false else false else false else false else false)=cQ r∧([]:List RowD)=[])
 simp only [cQ,Bool.cond_false_right,and_self]
theorem OK:CtrOK Tryz.prog K8 56 (aq K8 pN xX):=by
 refine aS (C:=cf8 [k97] Tryz.f56) (bu (.cons L5 .nil) _) mixed (fn:=Tryz.f56) Tryz.func56 (by kernel_rfl) (by kernel_rfl) (by kernel_rfl) (Λ:=fun _ _=>none) ?_ ?_ ?_
 ·exact fun _ _ _ _ _ _ _ _ h=>by cases h
 ·rintro ⟨r,⟨⟩⟩
  exact of_decide_eq_true (by kernel_rfl)
 ·rintro ⟨r,⟨⟩⟩ hw hn
  exact N7 r
theorem Co (r:Rules) (i n:Nat):dW r i (n+1)=if mw r i != 0 then mw r i else dW r (i+1) n:=rfl
theorem IU {s:ByteArray} (h:wfD .str s):s.size≤aI:=by
 obtain ⟨S,w,cs,h⟩:=h
 cases h with|str h=>exact h
theorem Mx (r:Rules) (hx:r.Power.length≤aI) (i:Nat) (hi:CV r i) :(stepObl (J94 r) (CV r) (fun i=>r.Power.length - i) i (T94 r) (bm (cf8 [k97] Tryz.f57) (fun _=>none) (aB Tryz.f57 0) (J94 r i)) (L94 i)).1:=by
 refine cast (by kernel_rfl) (?_ :(decide ((↑i:Int) <(↑r.14.length:Int))=true→((0:Int)≤(↑i:Int)∧(↑i:Int) <(↑r.14.length:Int))∧((bif decide ((r.14.getD (↑i:Int).toNat (dflt (Ty.nm Nm.Phase))).1 <(1:Int)) then true else bif decide ((r.14.getD (↑i:Int).toNat (dflt (Ty.nm Nm.Phase))).1 >(r.14.getD (↑i:Int).toNat (dflt (Ty.nm Nm.Phase))).2) then true else bif decide ((r.14.getD (↑i:Int).toNat (dflt (Ty.nm Nm.Phase))).2>r.4) then true else !aU (r.14.getD (↑i:Int).toNat (dflt (Ty.nm Nm.Phase))).3 (0:Int) (11:Int))=true→(dW r (0:Nat) r.14.length !=(0:Int))=true∧((2:Int)=dW r (0:Nat) r.14.length∧True)∧True)∧((bif decide ((r.14.getD (↑i:Int).toNat (dflt (Ty.nm Nm.Phase))).1 <(1:Int)) then true else bif decide ((r.14.getD (↑i:Int).toNat (dflt (Ty.nm Nm.Phase))).1 >(r.14.getD (↑i:Int).toNat (dflt (Ty.nm Nm.Phase))).2) then true else bif decide ((r.14.getD (↑i:Int).toNat (dflt (Ty.nm Nm.Phase))).2>r.4) then true else !aU (r.14.getD (↑i:Int).toNat (dflt (Ty.nm Nm.Phase))).3 (0:Int) (11:Int))=false→((decide ((↑i:Int) >(0:Int))=true→((0:Int)≤IntKind.i64.wrap ((↑i:Int) - (1:Int))∧IntKind.i64.wrap ((↑i:Int) - (1:Int)) <(↑r.14.length:Int))∧True)∧(decide ((↑i:Int) >(0:Int))=false→True))∧(true=true→((bif decide ((↑i:Int) >(0:Int)) then decide ((r.14.getD (↑i:Int).toNat (dflt (Ty.nm Nm.Phase))).1≤(r.14.getD (IntKind.i64.wrap ((↑i:Int) - (1:Int))).toNat (dflt (Ty.nm Nm.Phase))).2) else false)=true→(dW r (0:Nat) r.14.length !=(0:Int))=true∧((8:Int)=dW r (0:Nat) r.14.length∧True)∧True)∧((bif decide ((↑i:Int) >(0:Int)) then decide ((r.14.getD (↑i:Int).toNat (dflt (Ty.nm Nm.Phase))).1≤(r.14.getD (IntKind.i64.wrap ((↑i:Int) - (1:Int))).toNat (dflt (Ty.nm Nm.Phase))).2) else false)=false→CV r (i +(1:Nat))∧r.14.length - (i +(1:Nat))<r.14.length - i∧(True∧RowD.mk (Ty.nm Nm.Phase) r.14=RowD.mk (Ty.nm Nm.Phase) r.14∧(↑r.14.length:Int) =(↑r.14.length:Int)∧IntKind.i64.wrap ((↑i:Int) +(1:Int)) =(↑(i +(1:Nat)):Int)∧True)∧(r.1=r.1∧r.2=r.2∧r.3=r.3∧r.4=r.4∧r.5=r.5∧r.6=r.6∧r.7=r.7∧r.8=r.8∧r.9=r.9∧r.10=r.10∧r.11=r.11∧r.12=r.12∧r.13=r.13∧RowD.mk (Ty.nm Nm.Phase) r.14=RowD.mk (Ty.nm Nm.Phase) r.14∧True)∧True))))∧(decide ((↑i:Int) <(↑r.14.length:Int))=false→(dW r (0:Nat) r.14.length !=(0:Int))=false∧True∧True))
 have e :(i:Int).toNat=i:=by simp
 rw [e]
 have hb:r.Power.length≤140737488355328:=hx
 have hp:r.Power.getD i (dflt (Ty.nm Nm.Phase))=cN r i:=rfl
 rw [hp]
 have hpb :(bif decide ((cN r i).From<1) then true else bif decide ((cN r i).From >(cN r i).To) then true else bif decide ((cN r i).To>r.Overs) then true else !aU (cN r i).Outside 0 11)=se r (cN r i):=by
  simp only [se,Bool.cond_true_left]
 rw [hpb]
 obtain ⟨hi1,hi2⟩:=hi
 refine ⟨fun h1=>?_,fun h1=>?_⟩
 ·have h1:i<r.Power.length:=by simpa using h1
  have hn:r.Power.length - i =(r.Power.length - (i+1))+1:=by omega
  rw [hn,Co] at hi2
  have hw1:0<i→IntKind.i64.wrap ((i:Int) - 1) =((i - 1:Nat):Int):=fun h=>by rw [eZ (by omega) (by omega)];omega
  refine ⟨⟨by omega,by omega⟩,fun h2=>?_,fun h2=>⟨⟨fun h3=>?_,fun _=>trivial⟩,fun _=>⟨fun h3=>?_,fun h3=>?_⟩⟩⟩
  ·have hE:mw r i=2:=by simp only [mw,h2];rfl
   rw [hE] at hi2
   have hi2:dW r 0 r.Power.length=2:=hi2
   rw [hi2]
   exact ⟨rfl,⟨rfl,trivial⟩,trivial⟩
  ·have h3:0<i:=by simpa using h3
   rw [hw1 h3]
   exact ⟨⟨by omega,by omega⟩,trivial⟩
  ·have h4:0<i:=by
    by_cases h4:0<i
    ·exact h4
    ·have:i=0:=by omega
     subst this
     simp at h3
   rw [hw1 h4,Int.toNat_natCast] at h3
   have hq:r.Power.getD (i - 1) (dflt (Ty.nm Nm.Phase))=cN r (i - 1):=rfl
   rw [hq] at h3
   have h5 :(decide ((i:Int)>0)&&decide ((cN r i).From≤(cN r (i - 1)).To))=true:=by rw [←h3];cases decide ((i:Int)>0) <;> rfl
   have hE:mw r i=8:=by simp only [mw,h2,h5];rfl
   rw [hE] at hi2
   have hi2:dW r 0 r.Power.length=8:=hi2
   rw [hi2]
   exact ⟨rfl,⟨rfl,trivial⟩,trivial⟩
  ·have h5 :(decide ((i:Int)>0)&&decide ((cN r i).From≤(cN r (i - 1)).To))=false:=by
    by_cases h4:0<i
    ·rw [hw1 h4,Int.toNat_natCast] at h3
     have hq:r.Power.getD (i - 1) (dflt (Ty.nm Nm.Phase))=cN r (i - 1):=rfl
     rw [hq] at h3
     rw [←h3];cases decide ((i:Int)>0) <;> rfl
    ·have:i=0:=by omega
     subst this;rfl
   have hE:mw r i=0:=by simp only [mw,h2,h5];rfl
   rw [hE] at hi2
   have hi2:dW r 0 r.Power.length=dW r (i+1) (r.Power.length - (i+1)):=hi2
   exact ⟨⟨by omega,hi2⟩,by omega,⟨trivial,rfl,rfl,by rw [eZ (by omega) (by omega)];omega,trivial⟩,by simp⟩
 ·have h1:r.Power.length≤i:=by simpa using h1
  have h2:r.Power.length - i=0:=by omega
  rw [h2] at hi2
  have hi2:dW r 0 r.Power.length=0:=hi2
  rw [hi2]
  exact ⟨rfl,trivial,trivial⟩
theorem LO (r:Rules) (hx:r.Power.length≤aI):LoopOK Tryz.prog Tryz.f57.ntmps (aB Tryz.f57 0) (cw ⟨[],[],8⟩ (J94 r 0) (T94 r)):=
 iM (bu (.cons L5 .nil) _) mixed (J94 r) (fun _=>rfl) (CV r) (fun i=>r.Power.length - i) (fun _ _=>none) (fun _ _ _ _ _ h=>by cases h) (T94 r) [] [] 0 (⟨Nat.zero_le _,rfl⟩) L94 (fun i hi=>Mx r hx i hi)
theorem N8 (r:Rules) (hx:r.Power.length≤aI) :(evFn (cf8 [k97] Tryz.f57) (Λ94 r) Tryz.f57 (bk pN (r,()))).sat fun v' rows=>leV v' (xY (r,())).v∧rows =(xY (r,())).rows:=by
 refine cast (by kernel_rfl) (?_ :(decide ((↑r.14.length:Int) >(8:Int))=true→(9:Int)=gb r∧([]:List RowD)=[])∧(decide ((↑r.14.length:Int) >(8:Int))=false→((cx fun x=>none)∧(True∧RowD.mk (Ty.nm Nm.Phase) r.14=RowD.mk (Ty.nm Nm.Phase) r.14∧(↑r.14.length:Int) =(↑r.14.length:Int)∧(0:Int) =(↑(0:Nat):Int)∧True)∧(r.1=r.1∧r.2=r.2∧r.3=r.3∧r.4=r.4∧r.5=r.5∧r.6=r.6∧r.7=r.7∧r.8=r.8∧r.9=r.9∧r.10=r.10∧r.11=r.11∧r.12=r.12∧r.13=r.13∧RowD.mk (Ty.nm Nm.Phase) r.14=RowD.mk (Ty.nm Nm.Phase) r.14∧True)∧True)∧((dW r (0:Nat) r.14.length !=(0:Int))=true→dW r (0:Nat) r.14.length=gb r∧([]:List RowD)=[])∧((dW r (0:Nat) r.14.length !=(0:Int))=false→(0:Int)=gb r∧([]:List RowD)=[])))
 refine ⟨fun h=>⟨?_,rfl⟩,fun h=>⟨⟨rfl,⟨trivial,rfl,rfl,rfl,trivial⟩,by simp⟩,fun h2=>⟨?_,rfl⟩,fun h2=>⟨?_,rfl⟩⟩⟩
 ·simp only [gb];rw [if_pos (of_decide_eq_true h)]
 ·simp only [gb];rw [if_neg (of_decide_eq_false h)]
 ·simp only [gb];rw [if_neg (of_decide_eq_false h)]
  have h2:dW r 0 r.Power.length=0:=by simpa using h2
  exact h2.symm
theorem OL:CtrOK Tryz.prog K8 57 (aq K8 pN xY):=by
 refine aS (C:=cf8 [k97] Tryz.f57) (bu (.cons L5 .nil) _) mixed (fn:=Tryz.f57) Tryz.func57 (by kernel_rfl) (by kernel_rfl) (by kernel_rfl) (Λ:=fun x=>Λ94 x.1) ?_ ?_ ?_
 ·rintro ⟨r,⟨⟩⟩ hw hn
  exact LoopsOK.at (by kernel_rfl) (.cons (by kernel_rfl) (LO r (oc (bg hw))) .nil)
 ·rintro ⟨r,⟨⟩⟩
  exact of_decide_eq_true (by kernel_rfl)
 ·rintro ⟨r,⟨⟩⟩ hw hn
  exact N8 r (oc (bg hw))
end Go.Proofs.YtkgplaoappjkcaaGreat
namespace Go.Proofs.YtkgplaoappjkcaaGreat
open Go Go.Mir
attribute [local irreducible] Go.Mir.RT.sat Go.Mir.evFn Go.Mir.stepObl
theorem El (s:ByteArray) :(aN s).length=s.size:=by
 have:s.data.size=s.size:=ByteArray.size_data
 simp [aN,this]
theorem FU (s:ByteArray) (i:Nat) (h:i<s.size) :(aN s).getD i (0:Int)=qp s i:=by
 have h1:i<s.data.size:=by rw [ByteArray.size_data];exact h
 simp [aN,qp,Array.getElem?_eq_getElem h1]
theorem Mw (s:ByteArray) (hx:s.size≤aI) (i:Nat) (hi:CW s i) :(stepObl (J92 s) (CW s) (fun i=>s.size - i) i (T92 s) (bm (cf8 [] Tryz.f55) (fun _=>none) (aB Tryz.f55 0) (J92 s i)) (L95 i)).1:=by
 refine cast (by kernel_rfl) (?_ :(decide ((↑i:Int) <(↑(aN s).length:Int))=true→((0:Int)≤(↑i:Int)∧(↑i:Int) <(↑(aN s).length:Int))∧((bif !bif decide ((aN s).getD (↑i:Int).toNat (dflt (Ty.int IntKind.u8))≥(65:Int)) then decide ((aN s).getD (↑i:Int).toNat (dflt (Ty.int IntKind.u8))≤(90:Int)) else false then bif (↑i:Int) ==(0:Int) then true else bif (aN s).getD (↑i:Int).toNat (dflt (Ty.int IntKind.u8)) !=(95:Int) then bif (aN s).getD (↑i:Int).toNat (dflt (Ty.int IntKind.u8)) !=(45:Int) then bif decide ((aN s).getD (↑i:Int).toNat (dflt (Ty.int IntKind.u8)) <(48:Int)) then true else decide ((aN s).getD (↑i:Int).toNat (dflt (Ty.int IntKind.u8)) >(57:Int)) else false else false else false)=true→jE s s.size=false∧(false=false∧True)∧True)∧((bif !bif decide ((aN s).getD (↑i:Int).toNat (dflt (Ty.int IntKind.u8))≥(65:Int)) then decide ((aN s).getD (↑i:Int).toNat (dflt (Ty.int IntKind.u8))≤(90:Int)) else false then bif (↑i:Int) ==(0:Int) then true else bif (aN s).getD (↑i:Int).toNat (dflt (Ty.int IntKind.u8)) !=(95:Int) then bif (aN s).getD (↑i:Int).toNat (dflt (Ty.int IntKind.u8)) !=(45:Int) then bif decide ((aN s).getD (↑i:Int).toNat (dflt (Ty.int IntKind.u8)) <(48:Int)) then true else decide ((aN s).getD (↑i:Int).toNat (dflt (Ty.int IntKind.u8)) >(57:Int)) else false else false else false)=false→CW s (i +(1:Nat))∧s.size - (i +(1:Nat))<s.size - i∧(s=s∧True∧(↑(aN s).length:Int) =(↑(aN s).length:Int)∧IntKind.i64.wrap ((↑i:Int) +(1:Int)) =(↑(i +(1:Nat)):Int)∧True)∧RowD.mk (Ty.int IntKind.u8) (aN s)=RowD.mk (Ty.int IntKind.u8) (aN s)∧True))∧(decide ((↑i:Int) <(↑(aN s).length:Int))=false→jE s s.size=true∧(s=s∧True)∧True))
 have e :(i:Int).toNat=i:=by simp
 rw [e]
 have hb:s.size≤140737488355328:=hx
 have hlen:=El s
 obtain ⟨hi1,hi2⟩:=hi
 have hbad :∀ c:Int,(bif !(bif decide (c≥65) then decide (c≤90) else false) then bif (i:Int)==0 then true else bif c != 95 then bif c != 45 then bif decide (c<48) then true else decide (c>57) else false else false else false)=CA i c:=fun c=>by
  simp only [CA,Dg,Bool.cond_true_left,Bool.cond_false_right]
 rw [hbad]
 refine ⟨fun h1=>?_,fun h1=>⟨?_,⟨rfl,trivial⟩,trivial⟩⟩
 ·have h1:i <(aN s).length:=by simpa using h1
  have hat :(aN s).getD i (dflt (Ty.int IntKind.u8))=qp s i:=FU s i (by omega)
  rw [hat]
  refine ⟨⟨by omega,by omega⟩,fun h2=>⟨?_,⟨rfl,trivial⟩,trivial⟩,fun h2=>⟨⟨by omega,?_⟩,by omega,⟨rfl,trivial,rfl,by rw [eZ (by omega) (by omega)];omega,trivial⟩,rfl,trivial⟩⟩
  ·unfold jE
   rw [List.all_eq_false]
   exact ⟨i,List.mem_range.2 (by omega),by rw [h2];decide⟩
  ·unfold jE at hi2 ⊢
   rw [List.range_succ,List.all_append,hi2]
   simp [h2]
 ·have h1 :(aN s).length≤i:=by simpa using h1
  have:i=s.size:=by omega
  rw [←this];exact hi2
theorem LN (s:ByteArray) (hx:s.size≤aI):LoopOK Tryz.prog Tryz.f55.ntmps (aB Tryz.f55 0) (cw ⟨[],[],40⟩ (J92 s 0) (T92 s)):=
 iM (bu (CtrsOK.nil) _) mixed (J92 s) (fun _=>rfl) (CW s) (fun i=>s.size - i) (fun _ _=>none) (fun _ _ _ _ _ h=>by cases h) (T92 s) [] [] 0 (⟨Nat.zero_le _,rfl⟩) L95 (fun i hi=>Mw s hx i hi)
theorem N6 (s:ByteArray) (hx:s.size≤aI) :(evFn (cf8 [] Tryz.f55) (Λ92 s) Tryz.f55 (bk J4 (s,()))).sat fun v' rows=>leV v' (xZ (s,())).v∧rows =(xZ (s,())).rows:=by
 refine cast (by kernel_rfl) (?_ :((cx fun x=>none)∧(s=s∧True∧(↑(aN s).length:Int) =(↑(aN s).length:Int)∧(0:Int) =(↑(0:Nat):Int)∧True)∧RowD.mk (Ty.int IntKind.u8) (aN s)=RowD.mk (Ty.int IntKind.u8) (aN s)∧True)∧(jE s s.size=true→(bif decide ((↑s.size:Int)≥(1:Int)) then decide ((↑s.size:Int)≤(16:Int)) else false)=mu s∧([]:List RowD)=[])∧(jE s s.size=false→false=mu s∧([]:List RowD)=[]))
 have hn:mu s =(jE s s.size&&(decide ((s.size:Int)≥1)&&decide ((s.size:Int)≤16))):=rfl
 refine ⟨⟨rfl,⟨rfl,trivial,rfl,rfl,trivial⟩,rfl,trivial⟩,fun h=>⟨?_,rfl⟩,fun h=>⟨?_,rfl⟩⟩
 ·rw [hn,h,Bool.true_and,Bool.cond_false_right]
 ·rw [hn,h,Bool.false_and]
theorem OJ:CtrOK Tryz.prog K8 55 (aq K8 J4 xZ):=by
 refine aS (C:=cf8 [] Tryz.f55) (bu (CtrsOK.nil) _) mixed (fn:=Tryz.f55) Tryz.func55 (by kernel_rfl) (by kernel_rfl) (by kernel_rfl) (Λ:=fun x=>Λ92 x.1) ?_ ?_ ?_
 ·rintro ⟨s,⟨⟩⟩ hw hn
  exact LoopsOK.at (by kernel_rfl) (.cons (by kernel_rfl) (LN s (IU (bg hw))) .nil)
 ·rintro ⟨s,⟨⟩⟩
  exact of_decide_eq_true (by kernel_rfl)
 ·rintro ⟨s,⟨⟩⟩ hw hn
  exact N6 s (IU (bg hw))
end Go.Proofs.YtkgplaoappjkcaaGreat
namespace Go.Proofs.YtkgplaoappjkcaaGreat
open Go Go.Mir
attribute [local irreducible] Go.Mir.RT.sat Go.Mir.evFn Go.Mir.stepObl
theorem FQ (r:Rules) :(bif bif r.FollowOn != 0 then r.Innings==1 else false then bif r.FollowOn != 0 then r.Innings==1 else false else bif r.Quota != 0 then r.Overs==0 else bif decide ((r.Power.length:Int)>0) then r.Overs==0 else false)=vw r:=by
 simp only [vw]
 generalize (r.FollowOn != 0)=a
 generalize (r.Innings==1)=b
 generalize (r.Quota != 0)=c
 generalize decide ((r.Power.length:Int)>0)=d
 generalize (r.Overs==0)=e
 cases a <;> cases b <;> cases c <;> cases d <;> cases e <;> rfl
theorem AM (r:Rules) :(bif r.Quota != 0 then decide (IntKind.i64.wrap (r.Quota*r.Side)<r.Overs) else false)=vE r:=by
 simp only [vE,Bool.cond_false_right]
theorem N2 (r:Rules) :(evFn (cf8 [k92,k93,k94] Tryz.f40) (fun _=>none) Tryz.f40 (bk pN (r,()))).sat fun v' rows=>leV v' (xT (r,())).v∧rows =(xT (r,())).rows:=by
 refine cast (by kernel_rfl) (?_ :((!mu r.1)=true→(5:Int)=ax r∧([]:List RowD)=[])∧((!mu r.1)=false→((!cQ r)=true→(2:Int)=ax r∧([]:List RowD)=[])∧((!cQ r)=false→((bif bif r.11 !=(0:Int) then r.3 ==(1:Int) else false then bif r.11 !=(0:Int) then r.3 ==(1:Int) else false else bif r.6 !=(0:Int) then r.4 ==(0:Int) else bif decide ((↑r.14.length:Int) >(0:Int)) then r.4 ==(0:Int) else false)=true→(1:Int)=ax r∧([]:List RowD)=[])∧((bif bif r.11 !=(0:Int) then r.3 ==(1:Int) else false then bif r.11 !=(0:Int) then r.3 ==(1:Int) else false else bif r.6 !=(0:Int) then r.4 ==(0:Int) else bif decide ((↑r.14.length:Int) >(0:Int)) then r.4 ==(0:Int) else false)=false→((bif r.6 !=(0:Int) then decide (IntKind.i64.wrap (r.6*r.2)<r.4) else false)=true→(13:Int)=ax r∧([]:List RowD)=[])∧((bif r.6 !=(0:Int) then decide (IntKind.i64.wrap (r.6*r.2)<r.4) else false)=false→gb r=ax r∧([]:List RowD)=[])))))
 rw [FQ,AM]
 simp only [ax]
 repeat' first|refine And.intro ?_ ?_|intro _
 all_goals first|rfl |(simp_all;done)|grind
theorem wC:CtrOK Tryz.prog K8 40 (aq K8 pN xT):=by
 refine aS (C:=cf8 [k92,k93,k94] Tryz.f40) (bu (.cons OJ (.cons OK (.cons OL .nil))) _) mixed (fn:=Tryz.f40) Tryz.func40 (by kernel_rfl) (by kernel_rfl) (by kernel_rfl) (Λ:=fun _ _=>none) ?_ ?_ ?_
 ·exact fun _ _ _ _ _ _ _ _ h=>by cases h
 ·rintro ⟨r,⟨⟩⟩
  exact of_decide_eq_true (by kernel_rfl)
 ·rintro ⟨r,⟨⟩⟩ hw hn
  exact N2 r
theorem wj {x:Innings} {p:Int} (hp:kU p) (h:bA x p=true):IntKind.i64.wrap (p - 1)=p - 1∧0≤p - 1∧p - 1 <(x.Bowled.length:Int):=by
 simp only [bA,Bool.and_eq_true,decide_eq_true_eq] at h
 have:=hp.2
 exact ⟨eZ (by omega) (by omega),by omega,by omega⟩
theorem NY (r:Rules) (x:Innings) (p:Int) (hp:kU p) :(evFn (cf8 [k84,k85] Tryz.f181) (fun _=>none) Tryz.f181 (bk kf (r,x,p,()))).sat fun v' rows=>leV v' (xQ (r,x,p,())).v∧rows =(xQ (r,x,p,())).rows:=by
 refine cast (by kernel_rfl) (?_ :((bif !bA x p then true else ax r !=(0:Int))=true→(0:Int)=jo r x p∧([]:List RowD)=[])∧((bif !bA x p then true else ax r !=(0:Int))=false→((r.6 ==(0:Int))=true→(-1:Int)=jo r x p∧([]:List RowD)=[])∧((r.6 ==(0:Int))=false→((0:Int)≤IntKind.i64.wrap (p - (1:Int))∧IntKind.i64.wrap (p - (1:Int)) <(↑x.16.length:Int))∧(if (0:Int)>IntKind.i64.wrap (IntKind.i64.wrap (r.6*r.5) - if (0:Int)>x.16.getD (IntKind.i64.wrap (p - (1:Int))).toNat (dflt (Ty.int IntKind.i64)) then (0:Int) else x.16.getD (IntKind.i64.wrap (p - (1:Int))).toNat (dflt (Ty.int IntKind.i64))) then (0:Int) else IntKind.i64.wrap (IntKind.i64.wrap (r.6*r.5) - if (0:Int)>x.16.getD (IntKind.i64.wrap (p - (1:Int))).toNat (dflt (Ty.int IntKind.i64)) then (0:Int) else x.16.getD (IntKind.i64.wrap (p - (1:Int))).toNat (dflt (Ty.int IntKind.i64))))=jo r x p∧([]:List RowD)=[])))
 have h0 :(bif !bA x p then true else ax r != 0) =(!bA x p||ax r != 0):=by cases bA x p <;> rfl
 rw [h0]
 refine ⟨fun h=>⟨?_,rfl⟩,fun h=>⟨fun h2=>⟨?_,rfl⟩,fun h2=>⟨?_,?_,rfl⟩⟩⟩
 ·simp only [jo,h,if_true]
 ·simp only [jo,h,h2,if_true];rfl
 ·have hk:bA x p=true:=by
   cases hk:bA x p with
   | true=>rfl
   | false=>rw [hk] at h;cases h
  obtain ⟨e,h3,h4⟩:=wj hp hk
  rw [e];exact ⟨h3,h4⟩
 ·have hk:bA x p=true:=by
   cases hk:bA x p with
   | true=>rfl
   | false=>rw [hk] at h;cases h
  obtain ⟨e,h3,h4⟩:=wj hp hk
  rw [e]
  simp only [jo,h,h2]
  rfl
theorem OG:CtrOK Tryz.prog K8 181 (aq K8 kf xQ):=by
 refine aS (C:=cf8 [k84,k85] Tryz.f181) (bu (.cons L4 (.cons wC .nil)) _) mixed (fn:=Tryz.f181) Tryz.func181 (by kernel_rfl) (by kernel_rfl) (by kernel_rfl) (Λ:=fun _ _=>none) ?_ ?_ ?_
 ·exact fun _ _ _ _ _ _ _ _ h=>by cases h
 ·rintro ⟨r,x,p,⟨⟩⟩
  exact of_decide_eq_true (by kernel_rfl)
 ·rintro ⟨r,x,p,⟨⟩⟩ hw hn
  exact NY r x p (gv (bg (aX (aX hw))))
end Go.Proofs.YtkgplaoappjkcaaGreat
