/- Texts of the mirror and contracts, put together. -/
import Derived.Test.YthaeofeigglbhaaGreatDoorPN3
namespace Go.Proofs.YthaeofeigglbhaaGreatDoor
open Go Go.Mir
abbrev KK:Nat:=4
def cfg (l:pG) (n:Nat):Cfg:=⟨tbl,find l,KK,n⟩
def kc (l:pG) (fn:Func):Cfg:=cfg l fn.ntmps
theorem mixed:Tryz.prog.follows .mixedOrders=true:=by kernel_rfl
theorem jU {l:pG} (h:CtrsOK Tryz.prog KK l) (n:Nat):CfgOK Tryz.prog (cfg l n):=⟨Bc,by show 1≤KK;decide,h⟩
theorem ed {n:Int} (h1:-9223372036854775808≤n) (h2:n≤9223372036854775807):IntKind.i64.wrap n=n:=by
 simp only [IntKind.wrap,IntKind.bits,IntKind.signed]
 simp
 omega
def idx:List Int→Int→Int→Int
 | [],_,_=> -1
 | x::xs,v,i=>bif v==x then i else idx xs v (i+1)
theorem qp :∀ (xs:List Int) (v i:Int),v∉xs→idx xs v i = -1
 | [],_,_,_=>rfl
 | x::xs,v,i,h=>by
  simp only [List.mem_cons,not_or] at h
  have :(v==x)=false:=by simpa using h.1
  simp only [idx,this,cond_false]
  exact qp xs v (i+1) h.2
theorem zE :∀ (xs:List Int) (v i:Int) (k:Nat),xs[k]?=some v→v∉xs.take k→idx xs v i=i+k
 | [],_,_,_,h,_=>by simp at h
 | x::xs,v,i,0,h,_=>by
  simp only [List.getElem?_cons_zero,Option.some.injEq] at h
  subst h
  simp [idx]
 | x::xs,v,i,k+1,h,hn=>by
  simp only [List.getElem?_cons_succ] at h
  simp only [List.take_succ_cons,List.mem_cons,not_or] at hn
  have :(v==x)=false:=by simpa using hn.1
  simp only [idx,this,cond_false]
  rw [zE xs v (i+1) k h hn.2]
  omega
def J63 (xs:List Int) (v:Int) (i:Nat):St:=⟨[(0,.fsl (.int .u8) xs),(1,.int .u8 v),(7,.int .i64 xs.length),(8,.int .i64 i)],[],fun _=>none,0⟩
def T63 (xs:List Int) (v:Int):Tr:= .br (xs.contains v) (.leaf .ret ⟨[(4,.int .i64 (idx xs v 0))],[]⟩ 0) (.leaf (.ext 0) ⟨[],[]⟩ 0)
def C4:Ty:= .prod (.slice (.int .u8)) (.prod (.int .u8) .unit)
def Λ63 (x:Den C4):Nat→Option LoopSum:=find [(2,ck ⟨[],[],0⟩ (J63 x.1 x.2.1 0) (T63 x.1 x.2.1))]
def wG:Den C4→PRes:=fun x=>⟨[],.int .i64 (idx x.1 x.2.1 0),[]⟩
def Br (xs:List Int) (v:Int) (i:Nat):Prop:=i≤xs.length∧v∉xs.take i
def L63 (i:Nat):List (Lspec Nat):= [.out [true] [] [],.next (i+1) [] [],.out [false] [] []]
theorem JZ (xs:List Int) (v:Int) (hx:xs.length≤aW) (i:Nat) (hi:Br xs v i) :
  (stepObl (J63 xs v) (Br xs v) (fun i=>xs.length - i) i (T63 xs v) (bm (cfg [] 19) (fun _=>none) (aE Tryz.f351 0) (J63 xs v i)) (L63 i)).1:=by
 have h :((decide ((i:Int) <(xs.length:Int))=true→
  (0≤(i:Int)∧(i:Int) <(xs.length:Int))∧
   ((v ==(xs.getD (i:Int).toNat 0))=true→xs.contains v=true∧((i:Int)=idx xs v 0∧True)∧True)∧
    ((v ==(xs.getD (i:Int).toNat 0))=false→
     Br xs v (i+1)∧
      xs.length - (i+1)<xs.length - i∧
       (RowD.mk (.int .u8) xs=RowD.mk (.int .u8) xs∧
         v=v∧(xs.length:Int) =(xs.length:Int)∧IntKind.i64.wrap ((i:Int)+1) =((i+1:Nat):Int)∧True)∧
        True))∧
  (decide ((i:Int) <(xs.length:Int))=false→xs.contains v=false∧True∧True)):=by
  have e :(i:Int).toNat=i:=by simp
  rw [e]
  refine ⟨fun h1=>?_,fun h1=>?_⟩
  ·have h1:i<xs.length:=by simpa using h1
   refine ⟨⟨by omega,by omega⟩,fun h2=>?_,fun h2=>?_⟩
   ·have h2:v=xs.getD i 0:=by simpa using h2
    have h3:xs[i]?=some v:=by rw [h2,List.getD_eq_getElem?_getD,List.getElem?_eq_getElem h1];rfl
    refine ⟨by simpa using List.mem_of_getElem? h3,⟨?_,trivial⟩,trivial⟩
    rw [zE xs v 0 i h3 hi.2];omega
   ·have h2 :¬ v=xs.getD i 0:=by simpa using h2
    have h3:xs.getD i 0=xs[i]:=by rw [List.getD_eq_getElem?_getD,List.getElem?_eq_getElem h1];rfl
    refine ⟨⟨by omega,?_⟩,by omega,⟨rfl,rfl,rfl,?_,trivial⟩,trivial⟩
    ·rw [List.take_succ_eq_append_getElem h1,List.mem_append,List.mem_singleton,not_or]
     exact ⟨hi.2,by rw [←h3];exact h2⟩
    ·have:xs.length≤140737488355328:=hx
     rw [ed (by omega) (by omega)];omega
  ·have h1 :¬ i<xs.length:=by simpa using h1
   refine ⟨?_,trivial,trivial⟩
   have:=hi.2
   rw [List.take_of_length_le (by omega)] at this
   simpa using this
 exact cast (by kernel_rfl) h
theorem CA {S:Nat→Prop} {w:World} {t:Ty} {xs:List (Den t)} {cs:List Value} (h:Rd S w (.slice t) xs cs):xs.length≤aW:=by
 cases h with
 | nil=>exact Nat.zero_le _
 | slice _ _ _ _ h _=>exact h
theorem eZ {t:Ty} {xs:List (Den t)} (h:wfD (.slice t) xs):xs.length≤aW:=by
 obtain ⟨S,w,cs,h⟩:=h
 exact CA h
theorem bo {a b:Ty} {x:Den a} {y:Den b} (h:wfD (.prod a b) (x,y)):wfD a x:=by
 obtain ⟨S,w,cs,h⟩:=h
 cases h with|prod h _=>exact ⟨_,_,_,h⟩
theorem aY {a b:Ty} {x:Den a} {y:Den b} (h:wfD (.prod a b) (x,y)):wfD b y:=by
 obtain ⟨S,w,cs,h⟩:=h
 cases h with|prod _ h=>exact ⟨_,_,_,h⟩
theorem G3 (xs:List Int) (v:Int) (hx:xs.length≤aW):LoopsOK Tryz.prog 19 [aE Tryz.f351 0] (Λ63 (xs,v,())):=by
 refine .cons (L:=ck ⟨[],[],0⟩ (J63 xs v 0) (T63 xs v)) (by kernel_rfl) ?_ .nil
 exact il (jU CtrsOK.nil 19) mixed (J63 xs v) (fun _=>rfl) (Br xs v) (fun i=>xs.length - i) (fun _ _=>none) (fun _ _ _ _ _ h=>by cases h) (T63 xs v) [] [] 0 ⟨Nat.zero_le _,by simp⟩ L63 (fun i hi=>JZ xs v hx i hi)
theorem K0 (xs:List Int) (v:Int) :(evFn (cfg [] 19) (Λ63 (xs,v,())) Tryz.f351 (bh C4 (xs,v,()))).sat fun v' rows=>leV v' (wG (xs,v,())).v∧rows =(wG (xs,v,())).rows:=by
 have h :((fh fun _=>none)∧
   (RowD.mk (.int .u8) xs=RowD.mk (.int .u8) xs∧v=v∧(xs.length:Int) =(xs.length:Int)∧(0:Int) =((0:Nat):Int)∧True)∧True)∧
  (xs.contains v=true→idx xs v 0=idx xs v 0∧([]:List RowD)=[])∧(xs.contains v=false→ -1=idx xs v 0∧([]:List RowD)=[]):=by
  refine ⟨⟨rfl,⟨rfl,rfl,rfl,rfl,trivial⟩,trivial⟩,fun _=>⟨rfl,rfl⟩,fun h=>⟨?_,rfl⟩⟩
  rw [qp]
  simpa using h
 exact cast (by kernel_rfl) h
theorem LG:CtrOK Tryz.prog KK 351 (ar KK C4 wG):=by
 refine aR (C:=cfg [] 19) (jU CtrsOK.nil 19) mixed (fn:=Tryz.f351) Tryz.func351 (by kernel_rfl) (by kernel_rfl) (by kernel_rfl) (Λ:=Λ63) ?_ ?_ ?_
 ·rintro ⟨xs,v,⟨⟩⟩ hw _
  exact LoopsOK.at (by kernel_rfl) (G3 xs v (eZ (bo hw)))
 ·rintro ⟨xs,v,⟨⟩⟩
  exact (by decide:2≤19)
 ·rintro ⟨xs,v,⟨⟩⟩ _ _
  exact K0 xs v
end Go.Proofs.YthaeofeigglbhaaGreatDoor
namespace Go.Mir
open Go.RowKit
variable {P:Program}
theorem CtrOK.mono {K K':Nat} {f:FuncId} {c:Ctr} (h:CtrOK P K f c) (hK:K≤K'):CtrOK P K' f c:=⟨h.fn,fun B E hE args av hav m hm ps v dh hc hp=>
 (h.calls B E hE args av hav m (fun n h1 h2=>hm n h1 (by omega)) ps v dh hc hp).mono fun _ _ ⟨E',v',h1,G,h2⟩=>
  ⟨E',v',h1,⟨G.rel,G.ext,G.w,G.h,fun n hn=>(G.u n hn).imp id fun h=>⟨h.1,by have:=h.2;omega⟩⟩,h2⟩⟩
theorem CtrsOK.consU {K' K:Nat} {f:FuncId} {c:Ctr} {l:pG} (h:CtrOK P K' f c) (hle:Nat.ble K' K=true) (hl:CtrsOK P K l):CtrsOK P K ((f,c)::l):= .cons (h.mono (Nat.le_of_ble_eq_true hle)) hl
def LoopsOKp (P:Program) (p N:Nat) (l:List Code) (Λ:Nat→Option LoopSum):Prop:=∀ b∈l,∀ L,Λ (rid b)=some L→LoopOKp P p N b L
theorem LoopsOKp.nil {p N:Nat} {Λ:Nat→Option LoopSum}:LoopsOKp P p N [] Λ:=fun b hb=>by simp at hb
theorem LoopsOKp.cons {p N:Nat} {b:Code} {l:List Code} {Λ:Nat→Option LoopSum} {L:LoopSum} (h0:Λ (rid b)=some L) (h1:LoopOKp P p N b L) (h2:LoopsOKp P p N l Λ):LoopsOKp P p N (b::l) Λ:=fun b' hb L' hL=>by
 rcases List.mem_cons.1 hb with rfl|hb
 ·rw [h0] at hL;cases hL;exact h1
 ·exact h2 b' hb L' hL
theorem LoopsOKp.at {p N:Nat} {fn:Func} {l:List Code} {Λ:Nat→Option LoopSum} (he:aJ Λ (mA fn)=l) (h:LoopsOKp P p N l Λ) :∀ c,fn.body=some c→∀ b∈aJ Λ c,∀ L,Λ (rid b)=some L→LoopOKp P p N b L:=fun c hc=>by
 have:mA fn=c:=by unfold mA;rw [hc]
 rw [←this,he]
 exact h
theorem DX {K:Nat} {f:FuncId} {fn:Func} (hf:P.funcs[f]?=some fn) (hbody:fn.body.isSome=true) (hname :(fn.name == "runtime.NumGoroutine")=false) {ps:Ty} {spec:Den ps→PRes} (hfl :∀ x,(spec x).rows=[]∧(spec x).v.noF=true)
  (h :∀ (x:Den ps) (av:List Value) (w:World) (E:Env),wfD ps x→(∀ p∈(spec x).needs,p)→ae E (bh ps x) av→Calls P f av.toArray w fun e w'=>∃ v',e = .returned v'∧w'=w∧∀ E':Env,aa E' ((spec x).v.shift 0) v') (hsh :∀ x m,(spec x).v.shift m =(spec x).v.shift 0):CtrOK P K f (ar K ps spec):=by
 refine ⟨⟨fn,hf,hbody,hname⟩,fun B E hE args av hav m hm ps' v dh hct hps=>?_⟩
 unfold ar at hct
 simp only at hct
 split at hct
 case h_2=>cases hct
 rename_i x hx
 obtain ⟨hr,hn⟩:=hfl x
 have hflat :(spec x).flat=true:=by unfold PRes.flat;rw [hn,hr];rfl
 rw [hr,hflat] at hct
 simp only [List.length_nil,gO,cond_true,List.append_nil] at hct
 cases hle:Nat.ble 0 K with
 | false=>rw [hle] at hct;cases hct
 | true=>
  rw [hle] at hct
  simp only [cond_true,Option.some.injEq,Prod.mk.injEq] at hct
  obtain ⟨rfl,rfl,rfl⟩:=hct
  obtain ⟨hSE,XS⟩:=cx hE (hss args)
  obtain ⟨hav0,cs,hrd⟩:=eO hSE (Ec:=bK E (hss args)) rfl rfl (aX XS _ _ hav) hx
  refine (h x av E.w _ ⟨_,_,_,hrd⟩ hps hav0).mono fun e w' ⟨v',h1,h2,h3⟩=>?_
  subst h2
  refine ⟨E,v',h1,⟨hE,Ext.refl E,rfl,by funext z;simp [aH,find],fun n hn=> .inl hn⟩,?_⟩
  rw [hsh x m]
  exact h3 E
def cm (ts:List Ty):Pat:=⟨di 0 (ts.map .h),[],0⟩
end Go.Mir
namespace Go.Proofs.YthaeofeigglbhaaGreatDoor
open Go Go.Mir
abbrev KE:Nat:=64
def an (l:pG) (fn:Func):Cfg:=⟨tbl,find l,KE,fn.ntmps⟩
theorem al {l:pG} (h:CtrsOK Tryz.prog KE l) (fn:Func):CfgOK Tryz.prog (an l fn):=⟨Bc,by show 1≤KE;decide,h⟩
end Go.Proofs.YthaeofeigglbhaaGreatDoor
namespace Go.Proofs.YthaeofeigglbhaaGreatDoor
open Go Go.Mir
attribute [local irreducible] Go.Mir.DT.sat Go.Mir.evPat
abbrev I:Ty:= .int .i64
abbrev U8:Ty:= .int .u8
abbrev qD:Pat:=cm [.nm .Delivery]
abbrev bn:Pat:=cm [I]
abbrev aC:Pat:=cm [.bool]
def y3 (d:Delivery):Bool:=
 if d.Typ==2 then d.Source==0&&d.Boundary != 6 else if d.Source==0 then d.Runs==0&&d.Boundary==0 else if d.Source==1 then d.Boundary != 6||d.Runs==0 else d.Boundary != 6&&(decide (d.Runs>0)||d.Boundary != 0)
def Lq (d:Delivery):Bool:=
 if d.Typ==2 then d.Source==0&&d.Boundary != 6 else if d.Source==0 then d.Runs==0&&d.Boundary==0 else if d.Boundary==0 then decide (d.Runs>0) else if d.Boundary==6 then d.Source==1&&d.Runs==0 else true
def inW (n lo hi:Int):Bool:=decide (n≥lo)&&decide (n≤hi)
def cW (d:Delivery):Int:=
 if decide (d.Typ<1) ||(decide (d.Typ>3) ||(decide (d.Source>3) ||(decide (d.How>10)||!inW d.Sector 0 8))) then 11
 else if !inW d.Runs 0 7 ||(!inW d.Short 0 d.Runs ||(d.Boundary != 0&&(d.Boundary != 4&&d.Boundary != 6))) then 12
 else if !Lq d then 11
 else if d.Sector != 0&&(d.Source != 1&&d.How != 2) then 11
 else if d.Boundary != 0&&d.How != 0 then 11
 else if d.Crossed&&(d.How != 6&&d.How != 8) then 11 else 0
def pO (h:Int):Bool:=decide (h≥1)&&decide (h≤5)
def lx (d:Delivery):Bool:=(d.Runs.tmod 2 != 0) != d.Crossed
def Gg:Den (tyP qD)→List Prop×Den (tyP aC):=fun x=>([],(y3 x.1,()))
abbrev q3:Pat:=cm [I,I,I]
def sIn:Den (tyP q3)→List Prop×Den (tyP aC):=fun x=>([],(inW x.1 x.2.1 x.2.2.1,()))
def AU:Den (tyP qD)→List Prop×Den (tyP bn):=fun x=>([],(cW x.1,()))
abbrev qH:Pat:=cm [U8]
def FV:Den (tyP qH)→List Prop×Den (tyP aC):=fun x=>([],(pO x.1,()))
abbrev W (n:Int):Int:=IntKind.i64.wrap n
def yX (d:Delivery):Int:=W (W (d.Runs - d.Short)+d.Boundary)
def uA (d:Delivery):Int:=if d.Typ != 2&&d.Source==1 then yX d else 0
def Be (r:Rules) (d:Delivery):Int:=if d.Typ==2 then W (r.Wide+yX d) else 0
def noW (r:Rules) (d:Delivery):Int:=if d.Typ==3 then r.NoBall else 0
def Ik (d:Delivery):Int:=if d.Typ != 2&&d.Source==2 then yX d else 0
def xT (d:Delivery):Int:=if d.Typ != 2&&d.Source==3 then yX d else 0
def bO (r:Rules) (d:Delivery):Credit:=
 if cW d==0 then ⟨uA d,Be r d,noW r d,Ik d,xT d,W (W (uA d+Be r d)+noW r d),d.Typ==1,d.Typ != 2,pO d.How,lx d⟩ else Credit.zero
abbrev qRD:Pat:=cm [.nm .Rules,.nm .Delivery]
abbrev qC:Pat:=cm [.nm .Credit]
def vW:Den (tyP qRD)→List Prop×Den (tyP qC):=fun x=>([],(bO x.1 x.2.1,()))
def w7 (c:Credit):Int:=W (W (W (W (c.Batter+c.Wides)+c.NoBalls)+c.Byes)+c.LegByes)
def A1:Den (tyP qC)→List Prop×Den (tyP bn):=fun x=>([],(w7 x.1,()))
theorem H4 (d:Delivery) :(evPat (an [] Tryz.f246) (fun _=>none) Tryz.f246 qD aC (d,())).sat fun z_=>z_ =(Gg (d,())).2:=by
 refine cast (by kernel_rfl) (?_ :((d.1 ==(2:Int))=true→(bif d.2 ==(0:Int) then d.5 !=(6:Int) else false,()) =(y3 d,()))∧((d.1 ==(2:Int))=false→((d.2 ==(0:Int))=true→(bif d.3 ==(0:Int) then d.5 ==(0:Int) else false,()) =(y3 d,()))∧((d.2 ==(0:Int))=false→((d.2 ==(1:Int))=true→(bif d.5 !=(6:Int) then true else d.3 ==(0:Int),()) =(y3 d,()))∧((d.2 ==(1:Int))=false→(bif d.5 !=(6:Int) then bif decide (d.3 >(0:Int)) then true else d.5 !=(0:Int) else false,()) =(y3 d,())))))
 grind [y3]
def It:FuncId×Ctr:=(246,af KE qD aC Gg)
theorem JK:CtrOK Tryz.prog KE 246 (af KE qD aC Gg):=by
 refine ax (C:=an [] Tryz.f246) (al (CtrsOK.nil) _) mixed (fn:=Tryz.f246) Tryz.func246 (by kernel_rfl) (by kernel_rfl) (by kernel_rfl) (by kernel_rfl) (by kernel_rfl) (by kernel_rfl) (Λ:=fun _ _=>none) ?_ ?_
 ·exact fun _ _ _ _ _ _ _ _ h=>by cases h
 ·rintro ⟨d,⟨⟩⟩ hw hn
  exact H4 d
theorem FE (h:Int) :(evPat (an [] Tryz.f247) (fun _=>none) Tryz.f247 qH aC (h,())).sat fun z_=>z_ =(FV (h,())).2:=by
 refine cast (by kernel_rfl) (?_ :(bif decide (h≥(1:Int)) then decide (h≤(5:Int)) else false,()) =(pO h,()))
 grind [pO]
def Ey:FuncId×Ctr:=(247,af KE qH aC FV)
theorem Ho:CtrOK Tryz.prog KE 247 (af KE qH aC FV):=by
 refine ax (C:=an [] Tryz.f247) (al (CtrsOK.nil) _) mixed (fn:=Tryz.f247) Tryz.func247 (by kernel_rfl) (by kernel_rfl) (by kernel_rfl) (by kernel_rfl) (by kernel_rfl) (by kernel_rfl) (Λ:=fun _ _=>none) ?_ ?_
 ·exact fun _ _ _ _ _ _ _ _ h=>by cases h
 ·rintro ⟨h,⟨⟩⟩ hw hn
  exact FE h
theorem Dc (d:Delivery) :(evPat (an [It] Tryz.f161) (fun _=>none) Tryz.f161 qD bn (d,())).sat fun z_=>z_ =(AU (d,())).2:=by
 refine cast (by kernel_rfl) (?_:let r1:Bool:=bif d.5 !=(0:Int) then d.7 !=(0:Int) else false;let r2:Bool:=bif d.6 then bif d.7 !=(6:Int) then d.7 !=(8:Int) else false else false;let r3:Bool:=bif d.12 !=(0:Int) then bif d.2 !=(1:Int) then d.7 !=(2:Int) else false else false;let r4:Bool:=bif !y3 d then true else bif d.1 !=(2:Int) then bif d.2 ==(1:Int) then bif d.3 ==(0:Int) then d.5 ==(0:Int) else false else false else false;let r5:Bool:=bif decide (d.3 <(0:Int)) then true else bif decide (d.3 >(7:Int)) then true else bif decide (d.4 <(0:Int)) then true else bif decide (d.4>d.3) then true else bif d.5 !=(0:Int) then bif d.5 !=(4:Int) then d.5 !=(6:Int) else false else false;let r6:Bool:=bif decide (d.1 <(1:Int)) then true else bif decide (d.1 >(3:Int)) then true else bif decide (d.2 >(3:Int)) then true else bif decide (d.7 >(10:Int)) then true else bif decide (d.12 <(0:Int)) then true else decide (d.12 >(8:Int));(r6=true→((11:Int),()) =(cW d,()))∧(r6=false→(r5=true→((12:Int),()) =(cW d,()))∧(r5=false→(r4=true→((11:Int),()) =(cW d,()))∧(r4=false→(r3=true→((11:Int),()) =(cW d,()))∧(r3=false→(r1=true→((11:Int),()) =(cW d,()))∧(r1=false→(r2=true→((11:Int),()) =(cW d,()))∧(r2=false→((0:Int),()) =(cW d,()))))))))
 intro r1 r2 r3 r4 r5 r6
 clear_value (hr1:r1=_) (hr2:r2=_) (hr3:r3=_) (hr4:r4=_) (hr5:r5=_) (hr6:r6=_)
 repeat' (first|refine And.intro ?_ ?_|intro h)
 all_goals grind (splits:=40) [cW,y3,Lq,inW]
def lL:FuncId×Ctr:=(161,af KE qD bn AU)
theorem qZ:CtrOK Tryz.prog KE 161 (af KE qD bn AU):=by
 refine ax (C:=an [It] Tryz.f161) (al (.consU JK rfl .nil) _) mixed (fn:=Tryz.f161) Tryz.func161 (by kernel_rfl) (by kernel_rfl) (by kernel_rfl) (by kernel_rfl) (by kernel_rfl) (by kernel_rfl) (Λ:=fun _ _=>none) ?_ ?_
 ·exact fun _ _ _ _ _ _ _ _ h=>by cases h
 ·rintro ⟨d,⟨⟩⟩ hw hn
  exact Dc d
theorem Gv {d:Delivery} (h:cW d=0) :((bif d.Crossed then W (d.Runs+1) else d.Runs).tmod 2==1)=lx d:=by
 have hr:0≤d.Runs∧d.Runs≤7:=by grind [cW,inW]
 have hw:W (d.Runs+1)=d.Runs+1:=ed (by omega) (by omega)
 unfold lx
 rw [hw,Int.tmod_eq_emod_of_nonneg hr.1]
 cases d.Crossed
 ·rw [cond_false,Int.tmod_eq_emod_of_nonneg hr.1]
  grind
 ·rw [cond_true,Int.tmod_eq_emod_of_nonneg (by omega)]
  grind
theorem Ax (r:Rules) (d:Delivery) :(evPat (an [lL,Ey] Tryz.f163) (fun _=>none) Tryz.f163 qRD qC (r,d,())).sat fun z_=>z_ =(vW (r,d,())).2:=by
 refine cast (by kernel_rfl) (?_:let r1:Int:=IntKind.i64.wrap (IntKind.i64.wrap (d.3 - d.4)+d.5);let r2:Int:=bif d.1 ==(3:Int) then (0:Int) else (0:Int);let r3:Bool:=bif d.1 ==(2:Int) then pO d.7 else bif d.1 ==(3:Int) then pO d.7 else pO d.7;let r4:Bool:=(bif d.6 then IntKind.i64.wrap (d.3 +(1:Int)) else d.3).tmod (2:Int) ==(1:Int);let r5:Int:=bif d.1 ==(2:Int) then (0:Int) else bif d.1 ==(3:Int) then r.8 else (0:Int);let r6:Int:=bif d.1 ==(2:Int) then (0:Int) else r2;let r7:Bool:=bif d.1 ==(2:Int) then d.1 ==(1:Int) else bif d.1 ==(3:Int) then d.1 ==(1:Int) else d.1 ==(1:Int);let r8:Bool:=bif d.1 ==(2:Int) then d.1 !=(2:Int) else bif d.1 ==(3:Int) then d.1 !=(2:Int) else d.1 !=(2:Int);let r9:Int:=bif d.1 ==(2:Int) then IntKind.i64.wrap (r.7+r1) else r2;let r10:Int:=bif d.2 ==(3:Int) then r6 else r6;let r11:Bool:=bif d.1 ==(2:Int) then r4 else bif d.1 ==(3:Int) then r4 else r4;let r12:Int:=bif d.1 !=(2:Int) then bif d.2 ==(1:Int) then r1 else bif d.2 ==(2:Int) then r6 else r10 else r6;let r13:Int:=bif d.1 !=(2:Int) then bif d.2 ==(1:Int) then r5 else bif d.2 ==(2:Int) then r5 else bif d.2 ==(3:Int) then r5 else r5 else r5;let r14:Int:=bif d.1 !=(2:Int) then bif d.2 ==(1:Int) then r9 else bif d.2 ==(2:Int) then r9 else bif d.2 ==(3:Int) then r9 else r9 else r9;((cW d !=(0:Int))=true→(Credit.mk (0:Int) (0:Int) (0:Int) (0:Int) (0:Int) (0:Int) false false false false,()) =(bO r d,()))∧((cW d !=(0:Int))=false→(2:Int)≠(0:Int)∧(Credit.mk r12 r14 r13 (bif d.1 !=(2:Int) then bif d.2 ==(1:Int) then r6 else bif d.2 ==(2:Int) then r1 else r10 else r6) (bif d.1 !=(2:Int) then bif d.2 ==(1:Int) then r6 else bif d.2 ==(2:Int) then r6 else bif d.2 ==(3:Int) then r1 else r6 else r6) (IntKind.i64.wrap (IntKind.i64.wrap (r12+r14)+r13)) (bif d.1 !=(2:Int) then bif d.2 ==(1:Int) then r7 else bif d.2 ==(2:Int) then r7 else bif d.2 ==(3:Int) then r7 else r7 else r7) (bif d.1 !=(2:Int) then bif d.2 ==(1:Int) then r8 else bif d.2 ==(2:Int) then r8 else bif d.2 ==(3:Int) then r8 else r8 else r8) (bif d.1 !=(2:Int) then bif d.2 ==(1:Int) then r3 else bif d.2 ==(2:Int) then r3 else bif d.2 ==(3:Int) then r3 else r3 else r3) (bif d.1 !=(2:Int) then bif d.2 ==(1:Int) then r11 else bif d.2 ==(2:Int) then r11 else bif d.2 ==(3:Int) then r11 else r11 else r11),()) =(bO r d,())))
 intro r1 r2 r3 r4 r5 r6 r7 r8 r9 r10 r11 r12 r13 r14
 clear_value (hr1:r1=_) (hr2:r2=_) (hr3:r3=_) (hr4:r4=_) (hr5:r5=_) (hr6:r6=_) (hr7:r7=_) (hr8:r8=_) (hr9:r9=_) (hr10:r10=_) (hr11:r11=_) (hr12:r12=_) (hr13:r13=_) (hr14:r14=_)
 refine ⟨fun h=>?_,fun h=>⟨by decide,?_⟩⟩
 ·grind [bO,Credit.zero]
 ·have h:cW d=0:=by simpa using h
  have e:=Gv h
  simp only [W] at e
  simp only [bO,h,uA,Be,noW,Ik,xT,yX,W,←e]
  grind
def xK:FuncId×Ctr:=(163,af KE qRD qC vW)
theorem CW:CtrOK Tryz.prog KE 163 (af KE qRD qC vW):=by
 refine ax (C:=an [lL,Ey] Tryz.f163) (al (.consU qZ rfl (.consU Ho rfl .nil)) _) mixed (fn:=Tryz.f163) Tryz.func163 (by kernel_rfl) (by kernel_rfl) (by kernel_rfl) (by kernel_rfl) (by kernel_rfl) (by kernel_rfl) (Λ:=fun _ _=>none) ?_ ?_
 ·exact fun _ _ _ _ _ _ _ _ h=>by cases h
 ·rintro ⟨r,d,⟨⟩⟩ hw hn
  exact Ax r d
theorem Dd (c:Credit) :(evPat (an [] Tryz.f147) (fun _=>none) Tryz.f147 qC bn (c,())).sat fun z_=>z_ =(A1 (c,())).2:=by
 refine cast (by kernel_rfl) (?_ :(IntKind.i64.wrap (IntKind.i64.wrap (IntKind.i64.wrap (IntKind.i64.wrap (c.1+c.2)+c.3)+c.4)+c.5),()) =(w7 c,()))
 rfl
def BB:FuncId×Ctr:=(147,af KE qC bn A1)
theorem EX:CtrOK Tryz.prog KE 147 (af KE qC bn A1):=by
 refine ax (C:=an [] Tryz.f147) (al (CtrsOK.nil) _) mixed (fn:=Tryz.f147) Tryz.func147 (by kernel_rfl) (by kernel_rfl) (by kernel_rfl) (by kernel_rfl) (by kernel_rfl) (by kernel_rfl) (Λ:=fun _ _=>none) ?_ ?_
 ·exact fun _ _ _ _ _ _ _ _ h=>by cases h
 ·rintro ⟨c,⟨⟩⟩ hw hn
  exact Dd c
end Go.Proofs.YthaeofeigglbhaaGreatDoor
namespace Go.Proofs.YthaeofeigglbhaaGreatDoor
open Go Go.Mir
attribute [local irreducible] Go.Mir.DT.sat Go.Mir.evPat
def cg (p:Int→Bool):List Int→Int→Option Int
 | [],_=>none
 | x::r,i=>if p x then some i else cg p r (i+1)
def cC (s:Int):Bool:=s != 0
def El:Option Int→Sum (Int×Unit) Unit
 | some k=> .inl (k,())
 | none=> .inr ()
def nt (o:Option Int):Int:=o.getD (-1)
def kj (l:List Int):Bool:=l.any cC
abbrev U8s:Ty:= .slice U8
abbrev qU1:Pat:=cm [U8]
def ow:Den (tyP qU1)→List Prop×Den (tyP aC):=fun x=>([],(cC x.1,()))
abbrev qLI (f:Nat):Pat:=⟨[(0,.h U8s),(1,.c (.fn f [])),(7,.h I),(8,.h I)],[],0⟩
abbrev xLI:List (Lf×Pat):= [(.ret,⟨[(4,.h I)],[],0⟩),(.ext 0,⟨[],[],0⟩)]
def dn (x:List Int×Int×Int×Unit):Prop:=x.2.1=x.1.length∧0≤x.2.2.1∧x.2.2.1≤x.2.1∧x.1.length≤aW
def kf (x:List Int×Int×Int×Unit):Nat:=(x.2.1 - x.2.2.1).toNat
def cQ (x:List Int×Int×Int×Unit):Sum (Int×Unit) Unit:=El (cg cC (x.1.drop x.2.2.1.toNat) x.2.2.1)
abbrev qF (f:Nat):Pat:=⟨[(0,.h U8s),(1,.c (.fn f []))],[],0⟩
def sIF (f:Nat):Den (tyP (qF f))→List Prop×Den (tyP bn):=fun x=>([],(nt (cg cC x.1 0),()))
def sCF (f:Nat):Den (tyP (qF f))→List Prop×Den (tyP aC):=fun x=>([],(kj x.1,()))
abbrev qIn:Pat:=cm [.nm .Innings]
def fa (x:Innings):Bool:=kj x.Batters
def ot:Den (tyP qIn)→List Prop×Den (tyP aC):=fun x=>([],(fa x.1,()))
theorem ju {p:Int→Bool} :∀ {l:List Int} {i:Int},(cg p l i).isSome=l.any p
 | [],_=>rfl
 | x::r,i=>by
  simp only [cg,List.any_cons]
  cases hp:p x with
  | true=>simp
  | false=>simpa using ju
theorem m6 {p:Int→Bool} :∀ {l:List Int} {i k:Int},cg p l i=some k→i≤k
 | [],_,_,h=>by simp [cg] at h
 | x::r,i,k,h=>by
  simp only [cg] at h
  split at h
  ·cases h;exact Int.le_refl _
  ·have:=m6 h;omega
theorem dT {α:Type} {l:List α} {i:Int} (h0:0≤i) (h:i<l.length) (d:α):l.drop i.toNat=l.getD i.toNat d::l.drop (i+1).toNat:=by
 have h1:i.toNat<l.length:=by omega
 rw [List.drop_eq_getElem_cons h1,show (i+1).toNat=i.toNat+1 by omega,List.getD_eq_getElem?_getD,List.getElem?_eq_getElem h1]
 rfl
theorem Ie {α:Type} {l:List α} {i:Int} (h0:0≤i) (h:i<l.length) (d:α):l.take (i+1).toNat=l.take i.toNat++[l.getD i.toNat d]:=by
 have h1:i.toNat<l.length:=by omega
 have:l.getD i.toNat d=l[i.toNat]:=by rw [List.getD_eq_getElem?_getD,List.getElem?_eq_getElem h1];rfl
 rw [this,show (i+1).toNat=i.toNat+1 by omega,List.take_succ_eq_append_getElem h1]
theorem c7 {α:Type} {l:List α} {i:Int} (h :(l.length:Int)≤i):l.drop i.toNat=[]:=List.drop_of_length_le (by omega)
theorem bM {n:Int} (h1:-9223372036854775808≤n) (h2:n≤9223372036854775807):IntKind.i64.wrap n=n:=ed h1 h2
theorem Ar (s:Int) :(evPat (an [] Tryz.f395) (fun _=>none) Tryz.f395 qU1 aC (s,())).sat fun z_=>z_ =(ow (s,())).2:=by
 refine cast (by kernel_rfl) (?_ :(s !=(0:Int),()) =(cC s,()))
 rfl
def qy:FuncId×Ctr:=(395,af KE qU1 aC ow)
theorem tK:CtrOK Tryz.prog KE 395 (af KE qU1 aC ow):=by
 refine ax (C:=an [] Tryz.f395) (al (CtrsOK.nil) _) mixed (fn:=Tryz.f395) Tryz.func395 (by kernel_rfl) (by kernel_rfl) (by kernel_rfl) (by kernel_rfl) (by kernel_rfl) (by kernel_rfl) (Λ:=fun _ _=>none) ?_ ?_
 ·exact fun _ _ _ _ _ _ _ _ h=>by cases h
 ·rintro ⟨s,⟨⟩⟩ hw hn
  exact Ar s
theorem Az (s:Int) :(evPat (an [] Tryz.f358) (fun _=>none) Tryz.f358 qU1 aC (s,())).sat fun z_=>z_ =(ow (s,())).2:=by
 refine cast (by kernel_rfl) (?_ :(s !=(0:Int),()) =(cC s,()))
 rfl
def qz:FuncId×Ctr:=(358,af KE qU1 aC ow)
theorem tL:CtrOK Tryz.prog KE 358 (af KE qU1 aC ow):=by
 refine ax (C:=an [] Tryz.f358) (al (CtrsOK.nil) _) mixed (fn:=Tryz.f358) Tryz.func358 (by kernel_rfl) (by kernel_rfl) (by kernel_rfl) (by kernel_rfl) (by kernel_rfl) (by kernel_rfl) (Λ:=fun _ _=>none) ?_ ?_
 ·exact fun _ _ _ _ _ _ _ _ h=>by cases h
 ·rintro ⟨s,⟨⟩⟩ hw hn
  exact Az s
noncomputable def lpLIc:Lp:=(⟨0,an [qy] Tryz.f379,(fun _=>none),(aE Tryz.f379 0),(qLI 395),xLI⟩:Lp)
theorem H9 (xs:List Int) (n:Int) (i:Int) (hi:dn (xs,n,i,())) :(Go.Mir.stepG lpLIc cQ (fun y:Den (tyP lpLIc.q)=>dn y∧kf y<kf (xs,n,i,())) (xs,n,i,())∧Go.Mir.stepE lpLIc cQ (xs,n,i,())=cQ (xs,n,i,())):=by
 refine cast (by kernel_rfl) (?_ :((decide (i<n)=true→((0:Int)≤i∧i <(↑xs.length:Int))∧(cC (xs.getD i.toNat (dflt (Ty.int IntKind.u8)))=true→True)∧(cC (xs.getD i.toNat (dflt (Ty.int IntKind.u8)))=false→dn (xs,n,IntKind.i64.wrap (i +(1:Int)),())∧kf (xs,n,IntKind.i64.wrap (i +(1:Int)),())<kf (xs,n,i,())))∧(decide (i<n)=false→True))∧(bif decide (i<n) then bif cC (xs.getD i.toNat (dflt (Ty.int IntKind.u8))) then Sum.inl (i,()) else cQ (xs,n,IntKind.i64.wrap (i +(1:Int)),()) else Sum.inr ())=cQ (xs,n,i,()))
 obtain ⟨h1,h2,h3,h4⟩:=hi
 simp only at h1 h2 h3 h4
 have h5 :(xs.length:Int)≤140737488355328:=by have:xs.length≤140737488355328:=h4;omega
 refine ⟨⟨fun h=>?_,fun _=>trivial⟩,?_⟩
 ·have h:i<n:=of_decide_eq_true h
  rw [bM (n:=i+1) (by omega) (by omega)]
  refine ⟨⟨h2,by omega⟩,fun _=>trivial,fun _=>⟨⟨h1,by simp only;omega,by simp only;omega,h4⟩,by simp only [kf];omega⟩⟩
 ·by_cases h:i<n
  ·rw [decide_eq_true h,cond_true,bM (n:=i+1) (by omega) (by omega)]
   have e:xs.drop i.toNat=xs.getD i.toNat (dflt (Ty.int IntKind.u8))::xs.drop (i+1).toNat:=dT h2 (by omega) _
   generalize xs.getD i.toNat (dflt (Ty.int IntKind.u8))=v at e ⊢
   simp only [cQ,e,cg]
   cases cC v <;> rfl
  ·rw [decide_eq_false h,cond_false]
   simp only [cQ]
   rw [c7 (l:=xs) (by omega)]
   rfl
noncomputable def Gr:LoopSum:=bf lpLIc cQ dn
noncomputable def Fp:Nat:=rid (aE Tryz.f379 0)
theorem GW:LoopOKp Tryz.prog 0 Tryz.f379.ntmps (aE Tryz.f379 0) (bf lpLIc cQ dn):=
 bT lpLIc (al (.consU tK rfl .nil) _) mixed (fun b hb S hS=>by cases hS) cQ dn kf (fun |⟨xs,n,i,⟨⟩⟩,hi=>H9 xs n i hi)
noncomputable def lpLIi:Lp:=(⟨0,an [qz] Tryz.f379,(fun _=>none),(aE Tryz.f379 0),(qLI 358),xLI⟩:Lp)
theorem Ia (xs:List Int) (n:Int) (i:Int) (hi:dn (xs,n,i,())) :(Go.Mir.stepG lpLIi cQ (fun y:Den (tyP lpLIi.q)=>dn y∧kf y<kf (xs,n,i,())) (xs,n,i,())∧Go.Mir.stepE lpLIi cQ (xs,n,i,())=cQ (xs,n,i,())):=by
 refine cast (by kernel_rfl) (?_ :((decide (i<n)=true→((0:Int)≤i∧i <(↑xs.length:Int))∧(cC (xs.getD i.toNat (dflt (Ty.int IntKind.u8)))=true→True)∧(cC (xs.getD i.toNat (dflt (Ty.int IntKind.u8)))=false→dn (xs,n,IntKind.i64.wrap (i +(1:Int)),())∧kf (xs,n,IntKind.i64.wrap (i +(1:Int)),())<kf (xs,n,i,())))∧(decide (i<n)=false→True))∧(bif decide (i<n) then bif cC (xs.getD i.toNat (dflt (Ty.int IntKind.u8))) then Sum.inl (i,()) else cQ (xs,n,IntKind.i64.wrap (i +(1:Int)),()) else Sum.inr ())=cQ (xs,n,i,()))
 obtain ⟨h1,h2,h3,h4⟩:=hi
 simp only at h1 h2 h3 h4
 have h5 :(xs.length:Int)≤140737488355328:=by have:xs.length≤140737488355328:=h4;omega
 refine ⟨⟨fun h=>?_,fun _=>trivial⟩,?_⟩
 ·have h:i<n:=of_decide_eq_true h
  rw [bM (n:=i+1) (by omega) (by omega)]
  refine ⟨⟨h2,by omega⟩,fun _=>trivial,fun _=>⟨⟨h1,by simp only;omega,by simp only;omega,h4⟩,by simp only [kf];omega⟩⟩
 ·by_cases h:i<n
  ·rw [decide_eq_true h,cond_true,bM (n:=i+1) (by omega) (by omega)]
   have e:xs.drop i.toNat=xs.getD i.toNat (dflt (Ty.int IntKind.u8))::xs.drop (i+1).toNat:=dT h2 (by omega) _
   generalize xs.getD i.toNat (dflt (Ty.int IntKind.u8))=v at e ⊢
   simp only [cQ,e,cg]
   cases cC v <;> rfl
  ·rw [decide_eq_false h,cond_false]
   simp only [cQ]
   rw [c7 (l:=xs) (by omega)]
   rfl
noncomputable def Gs:LoopSum:=bf lpLIi cQ dn
noncomputable def Fq:Nat:=rid (aE Tryz.f379 0)
theorem GX:LoopOKp Tryz.prog 0 Tryz.f379.ntmps (aE Tryz.f379 0) (bf lpLIi cQ dn):=
 bT lpLIi (al (.consU tL rfl .nil) _) mixed (fun b hb S hS=>by cases hS) cQ dn kf (fun |⟨xs,n,i,⟨⟩⟩,hi=>Ia xs n i hi)
theorem FA (xs:List Int) (hx:xs.length≤aW) :(evPat (an [qy] Tryz.f379) (find [(Fp,Gr)]) Tryz.f379 (qF 395) bn (xs,())).sat fun z_=>z_ =((sIF 395) (xs,())).2:=by
 refine cast (by kernel_rfl) (?_:let r1:Bool:=isL (cQ (xs,(↑xs.length:Int),(0:Int),()));((fh fun x=>none)∧(↑xs.length:Int) =(↑xs.length:Int)∧(0:Int)≤(0:Int)∧(0:Int)≤(↑xs.length:Int)∧xs.length≤aW)∧(r1=true→nU (dflt (I.prod Ty.unit)) (cQ (xs,(↑xs.length:Int),(0:Int),())) =(nt (cg cC xs (0:Int)),()))∧(r1=false→((-1:Int),()) =(nt (cg cC xs (0:Int)),())))
 intro r1
 clear_value (hr1:r1=_)
 have e:cQ (xs,(xs.length:Int),0,())=El (cg cC xs 0):=rfl
 try subst hr1
 rw [e]
 refine ⟨⟨rfl,rfl,Int.le_refl _,by omega,hx⟩,fun h=>?_,fun h=>?_⟩ <;> cases hf:cg cC xs 0 <;> rw [hf] at h <;> first|rfl|cases h
def Ev:FuncId×Ctr:=(379,af KE (qF 395) bn (sIF 395))
theorem Hj:CtrOK Tryz.prog KE 379 (af KE (qF 395) bn (sIF 395)):=by
 refine ax (C:=an [qy] Tryz.f379) (al (.consU tK rfl .nil) _) mixed (fn:=Tryz.f379) Tryz.func379 (by kernel_rfl) (by kernel_rfl) (by kernel_rfl) (by kernel_rfl) (by kernel_rfl) (by kernel_rfl) (Λ:=fun x=>find [(Fp,Gr)]) ?_ ?_
 ·rintro ⟨xs,⟨⟩⟩ hw hn
  exact LoopsOKp.at (by kernel_rfl) (.cons (by kernel_rfl) (GW) .nil)
 ·rintro ⟨xs,⟨⟩⟩ hw hn
  exact FA xs (eZ (bo hw))
theorem Fw (xs:List Int) :(evPat (an [Ev] Tryz.f357) (fun _=>none) Tryz.f357 (qF 395) aC (xs,())).sat fun z_=>z_ =((sCF 395) (xs,())).2:=by
 refine cast (by kernel_rfl) (?_ :(decide (nt (cg cC xs (0:Int))≥(0:Int)),()) =(kj xs,()))
 have e:=ju (p:=cC) (l:=xs) (i:=0)
 unfold kj
 rw [←e]
 cases hf:cg cC xs 0 with
 | none=>rfl
 | some k=>
  have:=m6 hf
  simp [this,nt]
def Er:FuncId×Ctr:=(357,af KE (qF 395) aC (sCF 395))
theorem Hg:CtrOK Tryz.prog KE 357 (af KE (qF 395) aC (sCF 395)):=by
 refine ax (C:=an [Ev] Tryz.f357) (al (.consU Hj rfl .nil) _) mixed (fn:=Tryz.f357) Tryz.func357 (by kernel_rfl) (by kernel_rfl) (by kernel_rfl) (by kernel_rfl) (by kernel_rfl) (by kernel_rfl) (Λ:=fun _ _=>none) ?_ ?_
 ·exact fun _ _ _ _ _ _ _ _ h=>by cases h
 ·rintro ⟨xs,⟨⟩⟩ hw hn
  exact Fw xs
theorem FB (xs:List Int) (hx:xs.length≤aW) :(evPat (an [qz] Tryz.f379) (find [(Fq,Gs)]) Tryz.f379 (qF 358) bn (xs,())).sat fun z_=>z_ =((sIF 358) (xs,())).2:=by
 refine cast (by kernel_rfl) (?_:let r1:Bool:=isL (cQ (xs,(↑xs.length:Int),(0:Int),()));((fh fun x=>none)∧(↑xs.length:Int) =(↑xs.length:Int)∧(0:Int)≤(0:Int)∧(0:Int)≤(↑xs.length:Int)∧xs.length≤aW)∧(r1=true→nU (dflt (I.prod Ty.unit)) (cQ (xs,(↑xs.length:Int),(0:Int),())) =(nt (cg cC xs (0:Int)),()))∧(r1=false→((-1:Int),()) =(nt (cg cC xs (0:Int)),())))
 intro r1
 clear_value (hr1:r1=_)
 have e:cQ (xs,(xs.length:Int),0,())=El (cg cC xs 0):=rfl
 try subst hr1
 rw [e]
 refine ⟨⟨rfl,rfl,Int.le_refl _,by omega,hx⟩,fun h=>?_,fun h=>?_⟩ <;> cases hf:cg cC xs 0 <;> rw [hf] at h <;> first|rfl|cases h
def Ew:FuncId×Ctr:=(379,af KE (qF 358) bn (sIF 358))
theorem Hk:CtrOK Tryz.prog KE 379 (af KE (qF 358) bn (sIF 358)):=by
 refine ax (C:=an [qz] Tryz.f379) (al (.consU tL rfl .nil) _) mixed (fn:=Tryz.f379) Tryz.func379 (by kernel_rfl) (by kernel_rfl) (by kernel_rfl) (by kernel_rfl) (by kernel_rfl) (by kernel_rfl) (Λ:=fun x=>find [(Fq,Gs)]) ?_ ?_
 ·rintro ⟨xs,⟨⟩⟩ hw hn
  exact LoopsOKp.at (by kernel_rfl) (.cons (by kernel_rfl) (GX) .nil)
 ·rintro ⟨xs,⟨⟩⟩ hw hn
  exact FB xs (eZ (bo hw))
theorem Fx (xs:List Int) :(evPat (an [Ew] Tryz.f357) (fun _=>none) Tryz.f357 (qF 358) aC (xs,())).sat fun z_=>z_ =((sCF 358) (xs,())).2:=by
 refine cast (by kernel_rfl) (?_ :(decide (nt (cg cC xs (0:Int))≥(0:Int)),()) =(kj xs,()))
 have e:=ju (p:=cC) (l:=xs) (i:=0)
 unfold kj
 rw [←e]
 cases hf:cg cC xs 0 with
 | none=>rfl
 | some k=>
  have:=m6 hf
  simp [this,nt]
def Et:FuncId×Ctr:=(357,af KE (qF 358) aC (sCF 358))
theorem Hh:CtrOK Tryz.prog KE 357 (af KE (qF 358) aC (sCF 358)):=by
 refine ax (C:=an [Ew] Tryz.f357) (al (.consU Hk rfl .nil) _) mixed (fn:=Tryz.f357) Tryz.func357 (by kernel_rfl) (by kernel_rfl) (by kernel_rfl) (by kernel_rfl) (by kernel_rfl) (by kernel_rfl) (Λ:=fun _ _=>none) ?_ ?_
 ·exact fun _ _ _ _ _ _ _ _ h=>by cases h
 ·rintro ⟨xs,⟨⟩⟩ hw hn
  exact Fx xs
theorem C9 (x:Innings) :(evPat (an [Er] Tryz.f381) (fun _=>none) Tryz.f381 qIn aC (x,())).sat fun z_=>z_ =(ot (x,())).2:=by
 refine cast (by kernel_rfl) (?_ :(kj x.11,()) =(fa x,()))
 rfl
def pq:FuncId×Ctr:=(381,af KE qIn aC ot)
theorem x8:CtrOK Tryz.prog KE 381 (af KE qIn aC ot):=by
 refine ax (C:=an [Er] Tryz.f381) (al (.consU Hg rfl .nil) _) mixed (fn:=Tryz.f381) Tryz.func381 (by kernel_rfl) (by kernel_rfl) (by kernel_rfl) (by kernel_rfl) (by kernel_rfl) (by kernel_rfl) (Λ:=fun _ _=>none) ?_ ?_
 ·exact fun _ _ _ _ _ _ _ _ h=>by cases h
 ·rintro ⟨x,⟨⟩⟩ hw hn
  exact C9 x
theorem Di (x:Innings) :(evPat (an [Et] Tryz.f333) (fun _=>none) Tryz.f333 qIn aC (x,())).sat fun z_=>z_ =(ot (x,())).2:=by
 refine cast (by kernel_rfl) (?_ :(kj x.11,()) =(fa x,()))
 rfl
def BG:FuncId×Ctr:=(333,af KE qIn aC ot)
theorem E4:CtrOK Tryz.prog KE 333 (af KE qIn aC ot):=by
 refine ax (C:=an [Et] Tryz.f333) (al (.consU Hh rfl .nil) _) mixed (fn:=Tryz.f333) Tryz.func333 (by kernel_rfl) (by kernel_rfl) (by kernel_rfl) (by kernel_rfl) (by kernel_rfl) (by kernel_rfl) (Λ:=fun _ _=>none) ?_ ?_
 ·exact fun _ _ _ _ _ _ _ _ h=>by cases h
 ·rintro ⟨x,⟨⟩⟩ hw hn
  exact Di x
end Go.Proofs.YthaeofeigglbhaaGreatDoor
namespace Go.Proofs.YthaeofeigglbhaaGreatDoor
open Go Go.Mir
abbrev K8:Nat:=8
def Kk (l:pG) (n:Nat):Cfg:=⟨tbl,find l,K8,n⟩
def cf8 (l:pG) (fn:Func):Cfg:=Kk l fn.ntmps
theorem bq {l:pG} (h:CtrsOK Tryz.prog K8 l) (n:Nat):CfgOK Tryz.prog (Kk l n):=⟨Bc,by show 1≤K8;decide,h⟩
def C3:Nat→List V→List V×List RowD
 | _,[]=>([],[])
 | k,.fsl t xs::r=>(.osl k k ::(C3 (k+1) r).1,⟨t,xs⟩ ::(C3 (k+1) r).2)
 | k,v::r=>(v ::(C3 k r).1,(C3 k r).2)
def Ao (x:Innings):V:= .agg (C3 0 (flat eu (.nm .Innings) x)).1
def rA (x:Innings):List RowD:=(C3 0 (flat eu (.nm .Innings) x)).2
def bg (x:Innings) (p:Int):Bool:=decide (p≥1)&&decide (p≤(x.Subs.length:Int))
def Lm (x:Innings) (p:Int):Bool:=x.Subs.getD (p - 1).toNat false
def aO (x:Innings) (p:Int):Bool:=bg x p&&Lm x p
def dW (over:Int) (p:Phase):Bool:=decide (p.From≤IntKind.i64.wrap (over+1))&&decide (IntKind.i64.wrap (over+1)≤p.To)
def cF (r:Rules) (over:Int):Int:=((r.Power.find? (dW over)).map Phase.Outside).getD r.Outside
def jL (r:Rules) (x:Innings):Int:=
 if !bg x x.Keeper||aO x x.Keeper||x.Keeper==x.Bowler then 17 else if x.Outside>cF r x.Complete then 16 else 0
def zQ (x:Innings) (d:Delivery):Int:=
 if d.Fielder>0 then (if !bg x d.Fielder then 3 else if aO x d.Fielder != d.Sub then 18 else 0) else 0
def zR (x:Innings) (d:Delivery):Int:=
 if d.Second>0 then (if !bg x d.Second then 3 else if aO x d.Second then 18 else 0) else 0
def gI (x:Innings) (d:Delivery):Int:=
 if zQ x d != 0 then zQ x d else if zR x d != 0 then zR x d
 else if d.How==4&&qT d.Fielder 0 != x.Keeper then 17 else 0
def ai (x:Innings) (p:Int):Innings:=if !bg x p then x else if aO x p then x else if p==x.Bowler||p==x.Keeper then x else { x with Keeper:=p }
def cU (x:Innings) (p:Int):Int:=if !bg x p then 3 else if aO x p then 18 else if p==x.Bowler||p==x.Keeper then 17 else 0
def oh (x:Innings) (p:Int) (on:Bool):Innings:=
 { x with Subs:=x.Subs.set (p - 1).toNat on,Keeper:=bif on&&x.Keeper==p then 0 else x.Keeper,Bowler:=bif on&&x.Bowler==p then 0 else x.Bowler }
def aw (x:Innings) (p:Int) (on:Bool):Innings:=if !bg x p then x else if aO x p==on then x else oh x p on
def fU (x:Innings) (p:Int) (on:Bool):Int:=if !bg x p then 3 else if aO x p==on then 18 else 0
def ox (x:Innings) (n:Int):Bool:=decide (n<0)||decide (n >(x.Subs.length:Int) - 2)
def au (x:Innings) (n:Int):Innings:=if ox x n then x else { x with Outside:=n }
def eM (x:Innings) (n:Int):Int:=if ox x n then 16 else 0
def ah (x:Innings):Prop:=x.Batters.length≤1000000∧x.Bowlers.length≤1000000∧x.Before.length≤1000000∧x.Bowled.length≤1000000∧x.Subs.length≤1000000
def psI:Ty:= .prod (.nm .Innings) .unit
def iY:Ty:= .prod (.nm .Innings) (.prod (.int .i64) .unit)
def B8:Ty:= .prod (.nm .Innings) (.prod (.int .i64) (.prod .bool .unit))
def psR:Ty:= .prod (.nm .Rules) (.prod (.int .i64) .unit)
def yq:Ty:= .prod (.nm .Rules) (.prod (.nm .Innings) .unit)
def HK:Ty:= .prod (.nm .Innings) (.prod (.nm .Delivery) .unit)
def wJ:Den iY→PRes:=fun x=>⟨[],.bool (bg x.1 x.2.1),[]⟩
def wK:Den iY→PRes:=fun x=>⟨[],.bool (aO x.1 x.2.1),[]⟩
def wL:Den psR→PRes:=fun x=>⟨[],.int .i64 (cF x.1 x.2.1),[]⟩
def wt:Den yq→PRes:=fun x=>⟨[],.int .i64 (jL x.1 x.2.1),[]⟩
def wu:Den HK→PRes:=fun x=>⟨[],.int .i64 (gI x.1 x.2.1),[]⟩
def fT:Den psI→PRes:=fun x=>⟨[ah x.1],Ao x.1,rA x.1⟩
def wH:Den iY→PRes:=fun x=>⟨[ah x.1],.tup [Ao (ai x.1 x.2.1),.int .i64 (cU x.1 x.2.1)],rA (ai x.1 x.2.1)⟩
def wx:Den B8→PRes:=fun x=>⟨[ah x.1],.tup [Ao (aw x.1 x.2.1 x.2.2.1),.int .i64 (fU x.1 x.2.1 x.2.2.1)],rA (aw x.1 x.2.1 x.2.2.1)⟩
def wI:Den iY→PRes:=fun x=>⟨[ah x.1],.tup [Ao (au x.1 x.2.1),.int .i64 (eM x.1 x.2.1)],rA (au x.1 x.2.1)⟩
def HA:Ty:= .prod (.slice .bool) .unit
def wv:Den HA→PRes:=fun x=>⟨[x.1.length≤1000000],.osl 0 0,[⟨.bool,x.1⟩]⟩
def HG:Ty:= .prod (.slice (.int .u8)) .unit
def wS:Den HG→PRes:=fun x=>⟨[x.1.length≤1000000],.osl 0 0,[⟨.int .u8,x.1⟩]⟩
def HH:Ty:= .prod (.slice (.int .i64)) .unit
def wT:Den HH→PRes:=fun x=>⟨[x.1.length≤1000000],.osl 0 0,[⟨.int .i64,x.1⟩]⟩
def k73:FuncId×Ctr:=(392,ar K8 iY wJ)
def k74:FuncId×Ctr:=(393,ar K8 iY wK)
def k75:FuncId×Ctr:=(400,ar K8 psR wL)
def k40:FuncId×Ctr:=(398,ar K8 yq wt)
def k42:FuncId×Ctr:=(399,ar K8 HK wu)
def k78:FuncId×Ctr:=(391,ar K8 psI fT)
def k66:FuncId×Ctr:=(366,ar K8 iY wH)
def k46:FuncId×Ctr:=(367,ar K8 B8 wx)
def k67:FuncId×Ctr:=(365,ar K8 iY wI)
def k45:FuncId×Ctr:=(228,ar K8 HA wv)
def k90:FuncId×Ctr:=(226,ar K8 HG wS)
def k91:FuncId×Ctr:=(227,ar K8 HH wT)
def yp:Ty:= .prod (.slice (.int .i64)) (.prod (.int .i64) .unit)
def e9 (xs:List Int) (v:Int):Bool:=xs.contains v
def wy:Den yp→PRes:=fun x=>⟨[],.bool (e9 x.1 x.2.1),[]⟩
def wM:Den yp→PRes:=fun x=>⟨[],.int .i64 (idx x.1 x.2.1 0),[]⟩
def k47:FuncId×Ctr:=(331,ar K8 yp wy)
def k79:FuncId×Ctr:=(356,ar K8 yp wM)
def Bu (xs:List Int) (v:Int) (i:Nat):Prop:=i≤xs.length∧v∉xs.take i
def L79 (i:Nat):List (Lspec Nat):= [.out [true] [] [],.next (i+1) [] [],.out [false] [] []]
def J79 (xs:List Int) (v:Int) (i:Nat):St:=⟨[(0,.fsl (.int .i64) xs),(1,.int .i64 v),(7,.int .i64 xs.length),(8,.int .i64 i)],[],fun _=>none,0⟩
def T79 (xs:List Int) (v:Int):Tr:= .br (xs.contains v) (.leaf .ret ⟨[(4,.int .i64 (idx xs v 0))],[]⟩ 0) (.leaf (.ext 0) ⟨[],[]⟩ 0)
def Λ79 (xs:List Int) (v:Int):Nat→Option LoopSum:=find [(2,ck ⟨[],[],0⟩ (J79 xs v 0) (T79 xs v))]
def Bt (r:Rules) (o:Int) (i:Nat):Prop:=i≤r.Power.length∧∀ p∈r.Power.take i,dW o p=false
def L75 (i:Nat):List (Lspec Nat):= [.out [true] [] [],.next (i+1) [] [],.out [false] [] []]
def T75 (r:Rules) (o:Int):Tr:= .br (r.Power.any (dW o)) (.leaf .ret ⟨[(4,.int .i64 (cF r o))],[]⟩ 48) (.leaf (.ext 0) ⟨[(2,.ptr 0 0)],[(0,.cells (flat eu (.nm .Rules) r))]⟩ 48)
def J75 (r:Rules) (o:Int) (i:Nat):St:=⟨[(1,.int .i64 o),(2,.ptr 0 0),(8,.fsl (.nm .Phase) r.Power),(9,.int .i64 r.Power.length),(10,.int .i64 i)],[(0,.cells (flat eu (.nm .Rules) r))],fun _=>none,48⟩
def Λ75 (r:Rules) (o:Int):Nat→Option LoopSum:=find [(2,ck ⟨[],[],48⟩ (J75 r o 0) (T75 r o))]
end Go.Proofs.YthaeofeigglbhaaGreatDoor
namespace Go.Proofs.YthaeofeigglbhaaGreatDoor
open Go Go.Mir
def wtab:List dismissal_way:=
 [{ how:=0,name:={ data:=#[78,79,84,79,85,84] },fair:=false,wide:=false,no:=false,fielder:=false,either:=false },
  { how:=1,name:={ data:=#[66,79,87,76,69,68] },fair:=true,wide:=false,no:=false,fielder:=false,either:=false },
  { how:=2,name:={ data:=#[67,65,85,71,72,84] },fair:=true,wide:=false,no:=false,fielder:=true,either:=false },
  { how:=3,name:={ data:=#[76,66,87] },fair:=true,wide:=false,no:=false,fielder:=false,either:=false },
  { how:=4,name:={ data:=#[83,84,85,77,80,69,68] },fair:=true,wide:=true,no:=false,fielder:=true,either:=false },
  { how:=5,name:={ data:=#[72,73,84,87,73,67,75,69,84] },fair:=true,wide:=true,no:=false,fielder:=false,either:=false },
  { how:=6,name:={ data:=#[82,85,78,79,85,84] },fair:=true,wide:=true,no:=true,fielder:=true,either:=true },
  { how:=7,name:={ data:=#[72,73,84,84,87,73,67,69] },fair:=true,wide:=false,no:=true,fielder:=false,either:=false },
  { how:=8,name:={ data:=#[79,66,83,84,82,85,67,84,73,78,71] },fair:=true,wide:=true,no:=true,fielder:=false,either:=true },
  { how:=9,name:={ data:=#[84,73,77,69,68,79,85,84] },fair:=false,wide:=false,no:=false,fielder:=false,either:=false },
  { how:=10,name:={ data:=#[82,69,84,73,82,69,68] },fair:=false,wide:=false,no:=false,fielder:=false,either:=false }]
def onW (w:dismissal_way) (t:Int):Bool:=(t==1&&w.fair) ||(t==2&&w.wide) ||(t==3&&w.no)
def ofW (h:Int):dismissal_way:=(wtab.find? fun w=>w.how==h).getD dismissal_way.zero
def qi (w:dismissal_way) (t:Int) (free:Bool):Bool:=onW w t&&(!free||w.how==6||w.how==7||w.how==8)
def mv (t:Int) (free:Bool):List Int:=(wtab.filter fun w=>qi w t free).map dismissal_way.how
def player (n:Int):Bool:=decide (n≥1)&&decide (n≤11)
def fb (d:Delivery) (w:dismissal_way):Bool:=
 !((w.fielder != player d.Fielder) ||(!w.fielder&&d.Fielder != 0))&&(d.Second==0 ||(d.How==6&&player d.Second&&d.Second != d.Fielder))
def bN (d:Delivery) (free:Bool):Int:=
 if d.How==0 then (if d.Victim != 0 then 14 else if d.Fielder != 0||d.Second != 0||d.Sub then 15 else 0)
 else if !(mv d.Typ free).contains d.How then 13
 else if !(d.How==6||d.How==8)&&(d.Source != 0||d.Runs != 0) then 12
 else if d.Victim != 1&&(d.Victim != 2||!(ofW d.How).either) then 14
 else if !fb d (ofW d.How) then 15
 else if d.Sub&&d.How != 2&&d.How != 6 then 18
 else 0
def vc (xs:List Int) (v:Int):Bool:=xs.contains v
def HD:Ty:= .unit
def wE:Den HD→PRes:=fun _=>⟨[],.osl 0 0,[⟨.nm .dismissal_way,wtab⟩]⟩
def HE:Ty:= .prod (.nm .dismissal_way) (.prod (.int .u8) .unit)
def wF:Den HE→PRes:=fun x=>⟨[],.bool (onW x.1 x.2.1),[]⟩
def HB:Ty:= .prod (.int .u8) .unit
def wC:Den HB→PRes:=fun x=>⟨[],.agg (flat eu (.nm .dismissal_way) (ofW x.1)),[]⟩
def Hy:Ty:= .prod (.int .u8) (.prod .bool .unit)
def wo:Den Hy→PRes:=fun x=>⟨[],.osl 0 0,[⟨.int .u8,mv x.1 x.2.1⟩]⟩
def Hz:Ty:=C4
def wq:Den Hz→PRes:=fun x=>⟨[],.bool (vc x.1 x.2.1),[]⟩
def HF:Ty:= .prod (.int .i64) .unit
def wR:Den HF→PRes:=fun x=>⟨[],.bool (player x.1),[]⟩
def HC:Ty:= .prod (.nm .Delivery) (.prod (.nm .dismissal_way) .unit)
def wD:Den HC→PRes:=fun x=>⟨[],.bool (fb x.1 x.2.1),[]⟩
def psP:Ty:= .prod (.nm .Delivery) (.prod .bool .unit)
def wm:Den psP→PRes:=fun x=>⟨[],.int .i64 (bN x.1 x.2.1),[]⟩
def k61:FuncId×Ctr:=(271,ar KK HD wE)
def k62:FuncId×Ctr:=(352,ar KK HE wF)
def k57:FuncId×Ctr:=(185,ar KK HB wC)
def k20:FuncId×Ctr:=(321,ar KK Hy wo)
def k63:FuncId×Ctr:=(351,ar KK C4 wG)
def k21:FuncId×Ctr:=(320,ar KK Hz wq)
def k89:FuncId×Ctr:=(353,ar KK HF wR)
def k58:FuncId×Ctr:=(322,ar KK HC wD)
def k17:FuncId×Ctr:=(268,ar KK psP wm)
def J57 (h:Int) (i:Nat):St:=⟨[(0,.int .u8 h),(2,.ptr 0 0),(5,.osl 4 4),(6,.int .i64 wtab.length),(7,.int .i64 i)],
 [(4,.row 4 true (.nm .dismissal_way) wtab),(0,.cells (flat eu (.nm .dismissal_way) dismissal_way.zero))],fun _=>none,16⟩
def T57 (h:Int):Tr:= .br (wtab.any fun w=>w.how==h) (.leaf .ret ⟨[(2,.ptr 0 0)],[(0,.cells (flat eu (.nm .dismissal_way) (ofW h)))]⟩ 16)
 (.leaf (.ext 0) ⟨[(2,.ptr 0 0)],[(0,.cells (flat eu (.nm .dismissal_way) dismissal_way.zero))]⟩ 16)
def Bq (h:Int) (i:Nat):Prop:=i≤11∧∀ w∈wtab.take i,(w.how==h)=false
def L57 (i:Nat):List (Lspec Nat):= [.out [true] [] [],.next (i+1) [] [],.out [false] [] []]
def Λ57 (h:Int):Nat→Option LoopSum:=find [(2,ck ⟨[],[],16⟩ (J57 h 0) (T57 h))]
def ec (t:Int) (free:Bool) (i:Nat):List Int:=((wtab.take i).filter fun w=>qi w t free).map dismissal_way.how
def J20 (t:Int) (free:Bool) (i:Nat):St:=⟨[(0,.int .u8 t),(1,.bool free),(5,.osl 16 17),(8,.osl 8 8),(9,.int .i64 wtab.length),(10,.int .i64 i)],
 [(8,.row 8 true (.nm .dismissal_way) wtab),(16,.row 17 true (.int .u8) (ec t free i))],fun _=>none,20⟩
def T20 (t:Int) (free:Bool):Tr:= .leaf (.ext 0) ⟨[(5,.osl 16 17)],[(16,.row 17 true (.int .u8) (mv t free))]⟩ 20
def L20 (i:Nat):List (Lspec Nat):= [.next (i+1) [(17,144)] [],.next (i+1) [] [],.out [] [] []]
def qq (i:Nat):Prop:=i≤11
def Λ20 (t:Int) (free:Bool):Nat→Option LoopSum:=find [(3,ck ⟨[],[16],20⟩ (J20 t free 0) (T20 t free))]
end Go.Proofs.YthaeofeigglbhaaGreatDoor
namespace Go.Proofs.YthaeofeigglbhaaGreatDoor
open Go Go.Mir
attribute [local irreducible] Go.Mir.RT.sat Go.Mir.evFn Go.Mir.stepObl
theorem KY :(evFn (kc [] Tryz.f271) (fun _=>none) Tryz.f271 (bh HD ())).sat fun v' rows=>leV v' (wE ()).v∧rows =(wE ()).rows:=by
 refine cast (by kernel_rfl) (?_ :(nat_lit 0=nat_lit 0∧nat_lit 0=nat_lit 0)∧ [RowD.mk (Ty.nm Nm.dismissal_way) [dismissal_way.mk (0:Int) (ByteArray.mk #[78,79,84,79,85,84]) false false false false false,dismissal_way.mk (1:Int) (ByteArray.mk #[66,79,87,76,69,68]) true false false false false,dismissal_way.mk (2:Int) (ByteArray.mk #[67,65,85,71,72,84]) true false false true false,dismissal_way.mk (3:Int) (ByteArray.mk #[76,66,87]) true false false false false,dismissal_way.mk (4:Int) (ByteArray.mk #[83,84,85,77,80,69,68]) true true false true false,dismissal_way.mk (5:Int) (ByteArray.mk #[72,73,84,87,73,67,75,69,84]) true true false false false,dismissal_way.mk (6:Int) (ByteArray.mk #[82,85,78,79,85,84]) true true true true true,dismissal_way.mk (7:Int) (ByteArray.mk #[72,73,84,84,87,73,67,69]) true false true false false,dismissal_way.mk (8:Int) (ByteArray.mk #[79,66,83,84,82,85,67,84,73,78,71]) true true true false true,dismissal_way.mk (9:Int) (ByteArray.mk #[84,73,77,69,68,79,85,84]) false false false false false,dismissal_way.mk (10:Int) (ByteArray.mk #[82,69,84,73,82,69,68]) false false false false false]]=[RowD.mk (Ty.nm Nm.dismissal_way) wtab])
 exact ⟨⟨rfl,rfl⟩,by kernel_rfl⟩
theorem Hb:CtrOK Tryz.prog KK 271 (ar KK HD wE):=by
 refine aR (C:=kc [] Tryz.f271) (jU CtrsOK.nil _) mixed (fn:=Tryz.f271) Tryz.func271 (by kernel_rfl) (by kernel_rfl) (by kernel_rfl) (Λ:=fun _ _=>none) ?_ ?_ ?_
 ·exact fun _ _ _ _ _ _ _ _ h=>by cases h
 ·rintro ⟨⟩
  exact of_decide_eq_true (by kernel_rfl)
 ·rintro ⟨⟩ _ _
  exact KY
theorem KZ (w:dismissal_way) (t:Int) :(evFn (kc [] Tryz.f352) (fun _=>none) Tryz.f352 (bh HE (w,t,()))).sat fun v' rows=>leV v' (wF (w,t,())).v∧rows =(wF (w,t,())).rows:=by
 refine cast (by kernel_rfl) (?_ :(bif t ==(1:Int) then bif w.3 then true else bif t ==(2:Int) then bif w.4 then true else bif t ==(3:Int) then w.5 else false else bif t ==(3:Int) then w.5 else false else bif t ==(2:Int) then bif w.4 then true else bif t ==(3:Int) then w.5 else false else bif t ==(3:Int) then w.5 else false)=onW w t∧([]:List RowD)=[])
 simp only [onW];grind
theorem KC:CtrOK Tryz.prog KK 352 (ar KK HE wF):=by
 refine aR (C:=kc [] Tryz.f352) (jU CtrsOK.nil _) mixed (fn:=Tryz.f352) Tryz.func352 (by kernel_rfl) (by kernel_rfl) (by kernel_rfl) (Λ:=fun _ _=>none) ?_ ?_ ?_
 ·exact fun _ _ _ _ _ _ _ _ h=>by cases h
 ·rintro ⟨w,t,⟨⟩⟩
  exact of_decide_eq_true (by kernel_rfl)
 ·rintro ⟨w,t,⟨⟩⟩ _ _
  exact KZ w t
theorem Le (n:Int) :(evFn (kc [] Tryz.f353) (fun _=>none) Tryz.f353 (bh HF (n,()))).sat fun v' rows=>leV v' (wR (n,())).v∧rows =(wR (n,())).rows:=by
 refine cast (by kernel_rfl) (?_ :(bif decide (n≥(1:Int)) then decide (n≤(11:Int)) else false)=player n∧([]:List RowD)=[])
 simp only [player];grind
theorem LN:CtrOK Tryz.prog KK 353 (ar KK HF wR):=by
 refine aR (C:=kc [] Tryz.f353) (jU CtrsOK.nil _) mixed (fn:=Tryz.f353) Tryz.func353 (by kernel_rfl) (by kernel_rfl) (by kernel_rfl) (Λ:=fun _ _=>none) ?_ ?_ ?_
 ·exact fun _ _ _ _ _ _ _ _ h=>by cases h
 ·rintro ⟨n,⟨⟩⟩
  exact of_decide_eq_true (by kernel_rfl)
 ·rintro ⟨n,⟨⟩⟩ _ _
  exact Le n
theorem Ii:wtab.length=11:=rfl
theorem uS {α:Type} (p:α→Bool) :∀ (xs:List α) (i:Nat) (x:α),xs[i]?=some x→p x=true→(∀ y∈xs.take i,p y=false)→xs.find? p=some x
 | [],_,_,h,_,_=>by simp at h
 | y::xs,0,x,h,hp,_=>by simp at h;subst h;simp [hp]
 | y::xs,i+1,x,h,hp,hn=>by
  have h0:p y=false:=hn y (by simp)
  rw [List.find?_cons_of_neg (by simp [h0])]
  exact uS p xs i x (by simpa using h) hp (fun z hz=>hn z (by simp [hz]))
theorem m8 {α:Type} {xs:List α} {i:Nat} (z:α) (h:i<xs.length):xs[i]?=some (xs.getD i z):=by
 rw [List.getD_eq_getElem?_getD,List.getElem?_eq_getElem h];rfl
theorem JY (h:Int) (i:Nat) (hi:Bq h i) :(stepObl (J57 h) (Bq h) (fun i=>11 - i) i (T57 h) (bm (kc [k61] Tryz.f185) (fun _=>none) (aE Tryz.f185 0) (J57 h i)) (L57 i)).1:=by
 refine cast (by kernel_rfl) (?_ :(decide ((↑i:Int) <(↑wtab.length:Int))=true→((0:Int)≤(↑i:Int)∧(↑i:Int) <(↑wtab.length:Int))∧(((wtab.getD (↑i:Int).toNat (dflt (Ty.nm Nm.dismissal_way))).1==h)=true→(wtab.any fun w=>w.1==h)=true∧(True∧True)∧((wtab.getD (↑i:Int).toNat (dflt (Ty.nm Nm.dismissal_way))).1 =(ofW h).1∧(wtab.getD (↑i:Int).toNat (dflt (Ty.nm Nm.dismissal_way))).2 =(ofW h).2∧(wtab.getD (↑i:Int).toNat (dflt (Ty.nm Nm.dismissal_way))).3 =(ofW h).3∧(wtab.getD (↑i:Int).toNat (dflt (Ty.nm Nm.dismissal_way))).4 =(ofW h).4∧(wtab.getD (↑i:Int).toNat (dflt (Ty.nm Nm.dismissal_way))).5 =(ofW h).5∧(wtab.getD (↑i:Int).toNat (dflt (Ty.nm Nm.dismissal_way))).6 =(ofW h).6∧(wtab.getD (↑i:Int).toNat (dflt (Ty.nm Nm.dismissal_way))).7 =(ofW h).7∧True)∧True)∧(((wtab.getD (↑i:Int).toNat (dflt (Ty.nm Nm.dismissal_way))).1==h)=false→Bq h (i +(1:Nat))∧(11:Nat) - (i +(1:Nat)) <(11:Nat) - i∧(h=h∧True∧True∧(↑wtab.length:Int) =(↑wtab.length:Int)∧IntKind.i64.wrap ((↑i:Int) +(1:Int)) =(↑(i +(1:Nat)):Int)∧True)∧RowD.mk (Ty.nm Nm.dismissal_way) wtab=RowD.mk (Ty.nm Nm.dismissal_way) wtab∧((0:Int) =(0:Int)∧ByteArray.empty=ByteArray.empty∧false=false∧false=false∧false=false∧false=false∧false=false∧True)∧True))∧(decide ((↑i:Int) <(↑wtab.length:Int))=false→(wtab.any fun w=>w.1==h)=false∧(True∧True)∧((0:Int) =(0:Int)∧ByteArray.empty=ByteArray.empty∧false=false∧false=false∧false=false∧false=false∧false=false∧True)∧True))
 have e :(i:Int).toNat=i:=by simp
 rw [e]
 generalize hw:wtab.getD i (dflt (Ty.nm Nm.dismissal_way))=w
 refine ⟨fun h1=>?_,fun h1=>?_⟩
 ·have h1:i<wtab.length:=by simpa using h1
  have h3:wtab[i]?=some w:=by rw [←hw];exact m8 _ h1
  refine ⟨⟨by omega,by omega⟩,fun h2=>?_,fun h2=>?_⟩
  ·have h4:ofW h=w:=by
    unfold ofW
    rw [uS (fun w=>w.how==h) wtab i w h3 h2 hi.2];rfl
   have h5 :(wtab.any fun w=>w.1==h)=true:=List.any_eq_true.2 ⟨w,List.mem_of_getElem? h3,h2⟩
   rw [h4]
   exact ⟨h5,⟨trivial,trivial⟩,⟨rfl,rfl,rfl,rfl,rfl,rfl,rfl,trivial⟩,trivial⟩
  ·rw [Ii] at h1
   refine ⟨⟨by omega,fun y hy=>?_⟩,by omega,⟨rfl,trivial,trivial,rfl,?_,trivial⟩,rfl,⟨rfl,rfl,rfl,rfl,rfl,rfl,rfl,trivial⟩,trivial⟩
   ·rw [List.take_add_one,h3] at hy
    rcases List.mem_append.1 hy with hy|hy
    ·exact hi.2 y hy
    ·simp at hy;subst hy;exact h2
   ·rw [ed (by omega) (by omega)];omega
 ·have h1:wtab.length≤i:=by simpa using h1
  refine ⟨?_,⟨trivial,trivial⟩,⟨rfl,rfl,rfl,rfl,rfl,rfl,rfl,trivial⟩,trivial⟩
  rw [List.any_eq_false]
  intro x hx
  have:=hi.2 x (by rw [List.take_of_length_le h1];exact hx)
  simpa using this
theorem G2 (h:Int):LoopsOK Tryz.prog Tryz.f185.ntmps [aE Tryz.f185 0] (Λ57 h):=
 .cons (L:=ck ⟨[],[],16⟩ (J57 h 0) (T57 h)) (by kernel_rfl) (il (jU (.cons Hb .nil) _) mixed (J57 h) (fun _=>rfl) (Bq h) (fun i=>11 - i) (fun _ _=>none) (fun _ _ _ _ _ h=>by cases h) (T57 h) [] [] 0 ⟨Nat.zero_le _,by simp⟩ L57 (JY h)) .nil
theorem KW (h:Int) :(evFn (kc [k61] Tryz.f185) (Λ57 h) Tryz.f185 (bh HB (h,()))).sat fun v' rows=>leV v' (wC (h,())).v∧rows =(wC (h,())).rows:=by
 refine cast (by kernel_rfl) (?_ :((fh fun x=>none)∧(h=h∧True∧True∧(↑wtab.length:Int) =(↑wtab.length:Int)∧(0:Int) =(↑(0:Nat):Int)∧True)∧RowD.mk (Ty.nm Nm.dismissal_way) wtab=RowD.mk (Ty.nm Nm.dismissal_way) wtab∧((0:Int) =(0:Int)∧ByteArray.empty=ByteArray.empty∧false=false∧false=false∧false=false∧false=false∧false=false∧True)∧True)∧((wtab.any fun w=>w.1==h)=true→((ofW h).1 =(ofW h).1∧(ofW h).2 =(ofW h).2∧(ofW h).3 =(ofW h).3∧(ofW h).4 =(ofW h).4∧(ofW h).5 =(ofW h).5∧(ofW h).6 =(ofW h).6∧(ofW h).7 =(ofW h).7∧True)∧([]:List RowD)=[])∧((wtab.any fun w=>w.1==h)=false→((0:Int) =(ofW h).1∧ByteArray.empty =(ofW h).2∧false =(ofW h).3∧false =(ofW h).4∧false =(ofW h).5∧false =(ofW h).6∧false =(ofW h).7∧True)∧([]:List RowD)=[]))
 refine ⟨⟨rfl,⟨rfl,trivial,trivial,rfl,rfl,trivial⟩,rfl,⟨rfl,rfl,rfl,rfl,rfl,rfl,rfl,trivial⟩,trivial⟩,fun _=>⟨⟨rfl,rfl,rfl,rfl,rfl,rfl,rfl,trivial⟩,rfl⟩,fun h1=>?_⟩
 have h2:ofW h=dismissal_way.zero:=by
  unfold ofW
  rw [List.find?_eq_none.2]
  ·rfl
  ·intro x hx hp
   have:=(List.any_eq_false.1 h1) x hx
   exact this hp
 rw [h2]
 exact ⟨⟨rfl,rfl,rfl,rfl,rfl,rfl,rfl,trivial⟩,rfl⟩
theorem LD:CtrOK Tryz.prog KK 185 (ar KK HB wC):=by
 refine aR (C:=kc [k61] Tryz.f185) (jU (.cons Hb .nil) _) mixed (fn:=Tryz.f185) Tryz.func185 (by kernel_rfl) (by kernel_rfl) (by kernel_rfl) (Λ:=fun x=>Λ57 x.1) ?_ ?_ ?_
 ·rintro ⟨h,⟨⟩⟩ _ _
  exact LoopsOK.at (by kernel_rfl) (G2 h)
 ·rintro ⟨h,⟨⟩⟩
  exact of_decide_eq_true (by kernel_rfl)
 ·rintro ⟨h,⟨⟩⟩ _ _
  exact KW h
theorem Ee (w:dismissal_way) (t:Int) (free:Bool) :(bif onW w t then bif !free then true else bif w.1 ==(6:Int) then true else bif w.1 ==(7:Int) then true else w.1 ==(8:Int) else false)=qi w t free:=by
 simp only [qi];cases onW w t <;> cases free <;> simp <;> grind
theorem za (t:Int) (free:Bool) (i:Nat) {w:dismissal_way} (h:wtab[i]?=some w):ec t free (i+1)=ec t free i ++(bif qi w t free then [w.how] else []):=by
 unfold ec
 rw [List.take_add_one,h,List.filter_append,List.map_append]
 congr 1
 cases hf:qi w t free <;> simp [hf]
theorem Bd (t:Int) (free:Bool) (i:Nat) :(ec t free i).length≤11:=by
 unfold ec
 rw [List.length_map]
 have h1:=List.length_filter_le (fun w=>qi w t free) (wtab.take i)
 have h2 :(wtab.take i).length≤wtab.length:=List.length_take_le' _ _
 rw [Ii] at h2
 omega
theorem JX (t:Int) (free:Bool) (i:Nat) (hi:qq i) :(stepObl (J20 t free) qq (fun i=>11 - i) i (T20 t free) (bm (kc [k61,k62] Tryz.f321) (fun _=>none) (aE Tryz.f321 0) (J20 t free i)) (L20 i)).1:=by
 refine cast (by kernel_rfl) (?_ :(decide ((↑i:Int) <(↑wtab.length:Int))=true→((0:Int)≤(↑i:Int)∧(↑i:Int) <(↑wtab.length:Int))∧((bif onW (wtab.getD (↑i:Int).toNat (dflt (Ty.nm Nm.dismissal_way))) t then bif !free then true else bif (wtab.getD (↑i:Int).toNat (dflt (Ty.nm Nm.dismissal_way))).1 ==(6:Int) then true else bif (wtab.getD (↑i:Int).toNat (dflt (Ty.nm Nm.dismissal_way))).1 ==(7:Int) then true else (wtab.getD (↑i:Int).toNat (dflt (Ty.nm Nm.dismissal_way))).1 ==(8:Int) else false)=true→((ec t free i).length+[(wtab.getD (↑i:Int).toNat (dflt (Ty.nm Nm.dismissal_way))).1].length) *(1:Nat)≤(70368744177664:Nat)∧qq (i +(1:Nat))∧(11:Nat) - (i +(1:Nat)) <(11:Nat) - i∧(t=t∧free=free∧True∧True∧(↑wtab.length:Int) =(↑wtab.length:Int)∧IntKind.i64.wrap ((↑i:Int) +(1:Int)) =(↑(i +(1:Nat)):Int)∧True)∧RowD.mk (Ty.nm Nm.dismissal_way) wtab=RowD.mk (Ty.nm Nm.dismissal_way) wtab∧RowD.mk (Ty.int IntKind.u8) (ec t free i++[(wtab.getD (↑i:Int).toNat (dflt (Ty.nm Nm.dismissal_way))).1])=RowD.mk (Ty.int IntKind.u8) (ec t free (i +(1:Nat)))∧True)∧((bif onW (wtab.getD (↑i:Int).toNat (dflt (Ty.nm Nm.dismissal_way))) t then bif !free then true else bif (wtab.getD (↑i:Int).toNat (dflt (Ty.nm Nm.dismissal_way))).1 ==(6:Int) then true else bif (wtab.getD (↑i:Int).toNat (dflt (Ty.nm Nm.dismissal_way))).1 ==(7:Int) then true else (wtab.getD (↑i:Int).toNat (dflt (Ty.nm Nm.dismissal_way))).1 ==(8:Int) else false)=false→qq (i +(1:Nat))∧(11:Nat) - (i +(1:Nat)) <(11:Nat) - i∧(t=t∧free=free∧True∧True∧(↑wtab.length:Int) =(↑wtab.length:Int)∧IntKind.i64.wrap ((↑i:Int) +(1:Int)) =(↑(i +(1:Nat)):Int)∧True)∧RowD.mk (Ty.nm Nm.dismissal_way) wtab=RowD.mk (Ty.nm Nm.dismissal_way) wtab∧RowD.mk (Ty.int IntKind.u8) (ec t free i)=RowD.mk (Ty.int IntKind.u8) (ec t free (i +(1:Nat)))∧True))∧(decide ((↑i:Int) <(↑wtab.length:Int))=false→True∧(True∧True)∧RowD.mk (Ty.int IntKind.u8) (ec t free i)=RowD.mk (Ty.int IntKind.u8) (mv t free)∧True))
 have e :(i:Int).toNat=i:=by simp
 rw [e]
 generalize hw:wtab.getD i (dflt (Ty.nm Nm.dismissal_way))=w
 rw [Ee]
 refine ⟨fun h1=>?_,fun h1=>?_⟩
 ·have h1:i<wtab.length:=by simpa using h1
  have h3:wtab[i]?=some w:=by rw [←hw];exact m8 _ h1
  have hu:=za t free i h3
  rw [Ii] at h1
  have hwr:IntKind.i64.wrap ((i:Int)+1) =((i+1:Nat):Int):=by rw [ed (by omega) (by omega)];omega
  refine ⟨⟨by omega,by rw [Ii];omega⟩,fun h2=>?_,fun h2=>?_⟩
  ·rw [h2] at hu
   refine ⟨?_,(by unfold qq;omega),by omega,⟨rfl,rfl,trivial,trivial,rfl,hwr,trivial⟩,rfl,by rw [hu];rfl,trivial⟩
   have:=Bd t free i
   simp only [List.length_cons,List.length_nil]
   omega
  ·rw [h2] at hu
   refine ⟨(by unfold qq;omega),by omega,⟨rfl,rfl,trivial,trivial,rfl,hwr,trivial⟩,rfl,by rw [hu];simp,trivial⟩
 ·have h1:wtab.length≤i:=by simpa using h1
  have hu:ec t free i=mv t free:=by unfold ec mv;rw [List.take_of_length_le h1]
  exact ⟨trivial,⟨trivial,trivial⟩,by rw [hu],trivial⟩
theorem G1 (t:Int) (free:Bool):LoopsOK Tryz.prog Tryz.f321.ntmps [aE Tryz.f321 0] (Λ20 t free):=
 .cons (L:=ck ⟨[],[16],20⟩ (J20 t free 0) (T20 t free)) (by kernel_rfl) (il (jU (.cons Hb (.cons KC .nil)) _) mixed (J20 t free) (fun _=>rfl) qq (fun i=>11 - i) (fun _ _=>none) (fun _ _ _ _ _ h=>by cases h) (T20 t free) [] [16] 0 (Nat.zero_le _) L20 (JX t free)) .nil
theorem KL (t:Int) (free:Bool) :(evFn (kc [k61,k62] Tryz.f321) (Λ20 t free) Tryz.f321 (bh Hy (t,free,()))).sat fun v' rows=>leV v' (wo (t,free,())).v∧rows =(wo (t,free,())).rows:=by
 refine cast (by kernel_rfl) (?_ :((fh fun x=>none)∧(t=t∧free=free∧True∧True∧(↑wtab.length:Int) =(↑wtab.length:Int)∧(0:Int) =(↑(0:Nat):Int)∧True)∧RowD.mk (Ty.nm Nm.dismissal_way) wtab=RowD.mk (Ty.nm Nm.dismissal_way) wtab∧ec t free (0:Nat)=[]∧True)∧(nat_lit 0=nat_lit 0∧nat_lit 0=nat_lit 0)∧ [RowD.mk (Ty.int IntKind.u8) (mv t free)]=[RowD.mk (Ty.int IntKind.u8) (mv t free)])
 exact ⟨⟨rfl,⟨rfl,rfl,trivial,trivial,rfl,rfl,trivial⟩,rfl,rfl,trivial⟩,⟨rfl,rfl⟩,rfl⟩
theorem Lx:CtrOK Tryz.prog KK 321 (ar KK Hy wo):=by
 refine aR (C:=kc [k61,k62] Tryz.f321) (jU (.cons Hb (.cons KC .nil)) _) mixed (fn:=Tryz.f321) Tryz.func321 (by kernel_rfl) (by kernel_rfl) (by kernel_rfl) (Λ:=fun x=>Λ20 x.1 x.2.1) ?_ ?_ ?_
 ·rintro ⟨t,free,⟨⟩⟩ _ _
  exact LoopsOK.at (by kernel_rfl) (G1 t free)
 ·rintro ⟨t,free,⟨⟩⟩
  exact of_decide_eq_true (by kernel_rfl)
 ·rintro ⟨t,free,⟨⟩⟩ _ _
  exact KL t free
theorem Bp (xs:List Int) (v i:Int) (hi:0≤i):decide (idx xs v i≥0)=vc xs v:=by
 induction xs generalizing i with
 | nil=>simp [idx,vc]
 | cons x xs ih=>
  by_cases hv:v=x
  ·subst hv;simp [idx,vc,hi]
  ·have h1 :(v==x)=false:=by simpa using hv
   have h2:=ih (i+1) (by omega)
   simp only [idx,h1,cond_false]
   rw [h2]
   simp [vc,hv]
theorem KM (xs:List Int) (v:Int) :(evFn (kc [k63] Tryz.f320) (fun _=>none) Tryz.f320 (bh Hz (xs,v,()))).sat fun v' rows=>leV v' (wq (xs,v,())).v∧rows =(wq (xs,v,())).rows:=by
 refine cast (by kernel_rfl) (?_:decide (idx xs v (0:Int)≥(0:Int))=vc xs v∧([]:List RowD)=[])
 exact ⟨Bp xs v 0 (Int.le_refl 0),rfl⟩
theorem Ly:CtrOK Tryz.prog KK 320 (ar KK Hz wq):=by
 refine aR (C:=kc [k63] Tryz.f320) (jU (.cons LG .nil) _) mixed (fn:=Tryz.f320) Tryz.func320 (by kernel_rfl) (by kernel_rfl) (by kernel_rfl) (Λ:=fun _ _=>none) ?_ ?_ ?_
 ·exact fun _ _ _ _ _ _ _ _ h=>by cases h
 ·rintro ⟨xs,v,⟨⟩⟩
  exact of_decide_eq_true (by kernel_rfl)
 ·rintro ⟨xs,v,⟨⟩⟩ _ _
  exact KM xs v
theorem KX (d:Delivery) (w:dismissal_way) :(evFn (kc [k89] Tryz.f322) (fun _=>none) Tryz.f322 (bh HC (d,w,()))).sat fun v' rows=>leV v' (wD (d,w,())).v∧rows =(wD (d,w,())).rows:=by
 refine cast (by kernel_rfl) (?_ :((bif !w.6==player d.9 then true else bif !w.6 then d.9 !=(0:Int) else false)=true→false=fb d w∧([]:List RowD)=[])∧((bif !w.6==player d.9 then true else bif !w.6 then d.9 !=(0:Int) else false)=false→(bif d.10 ==(0:Int) then true else bif d.7 ==(6:Int) then bif player d.10 then d.10 != d.9 else false else false)=fb d w∧([]:List RowD)=[]))
 simp only [fb];grind
theorem LF:CtrOK Tryz.prog KK 322 (ar KK HC wD):=by
 refine aR (C:=kc [k89] Tryz.f322) (jU (.cons LN .nil) _) mixed (fn:=Tryz.f322) Tryz.func322 (by kernel_rfl) (by kernel_rfl) (by kernel_rfl) (Λ:=fun _ _=>none) ?_ ?_ ?_
 ·exact fun _ _ _ _ _ _ _ _ h=>by cases h
 ·rintro ⟨d,w,⟨⟩⟩
  exact of_decide_eq_true (by kernel_rfl)
 ·rintro ⟨d,w,⟨⟩⟩ _ _
  exact KX d w
theorem KJ (d:Delivery) (free:Bool) :(evFn (kc [k57,k20,k21,k58] Tryz.f268) (fun _=>none) Tryz.f268 (bh psP (d,free,()))).sat fun v' rows=>leV v' (wm (d,free,())).v∧rows =(wm (d,free,())).rows:=by
 refine cast (by kernel_rfl) (?_ :((d.7 ==(0:Int))=true→((d.8 !=(0:Int))=true→(14:Int)=bN d free∧([]:List RowD)=[])∧((d.8 !=(0:Int))=false→((bif d.9 !=(0:Int) then true else bif d.10 !=(0:Int) then true else d.11)=true→(15:Int)=bN d free∧([]:List RowD)=[])∧((bif d.9 !=(0:Int) then true else bif d.10 !=(0:Int) then true else d.11)=false→(0:Int)=bN d free∧([]:List RowD)=[])))∧((d.7 ==(0:Int))=false→((!vc (mv d.1 free) d.7)=true→(13:Int)=bN d free∧([]:List RowD)=[])∧((!vc (mv d.1 free) d.7)=false→((bif !bif d.7 ==(6:Int) then true else d.7 ==(8:Int) then bif d.2 !=(0:Int) then true else d.3 !=(0:Int) else false)=true→(12:Int)=bN d free∧([]:List RowD)=[])∧((bif !bif d.7 ==(6:Int) then true else d.7 ==(8:Int) then bif d.2 !=(0:Int) then true else d.3 !=(0:Int) else false)=false→((bif d.8 !=(1:Int) then bif d.8 !=(2:Int) then true else !(ofW d.7).7 else false)=true→(14:Int)=bN d free∧([]:List RowD)=[])∧((bif d.8 !=(1:Int) then bif d.8 !=(2:Int) then true else !(ofW d.7).7 else false)=false→((!fb d (ofW d.7))=true→(15:Int)=bN d free∧([]:List RowD)=[])∧((!fb d (ofW d.7))=false→((bif d.11 then bif d.7 !=(2:Int) then d.7 !=(6:Int) else false else false)=true→(18:Int)=bN d free∧([]:List RowD)=[])∧((bif d.11 then bif d.7 !=(2:Int) then d.7 !=(6:Int) else false else false)=false→(0:Int)=bN d free∧([]:List RowD)=[])))))))
 simp only [bN,vc]
 repeat' first|refine And.intro ?_ ?_|intro _
 all_goals grind
theorem Ky:CtrOK Tryz.prog KK 268 (ar KK psP wm):=by
 refine aR (C:=kc [k57,k20,k21,k58] Tryz.f268) (jU (.cons LD (.cons Lx (.cons Ly (.cons LF .nil)))) _) mixed (fn:=Tryz.f268) Tryz.func268 (by kernel_rfl) (by kernel_rfl) (by kernel_rfl) (Λ:=fun _ _=>none) ?_ ?_ ?_
 ·exact fun _ _ _ _ _ _ _ _ h=>by cases h
 ·rintro ⟨d,free,⟨⟩⟩
  exact of_decide_eq_true (by kernel_rfl)
 ·rintro ⟨d,free,⟨⟩⟩ _ _
  exact KJ d free
end Go.Proofs.YthaeofeigglbhaaGreatDoor
namespace Go.Proofs.YthaeofeigglbhaaGreatDoor
open Go Go.Mir
attribute [local irreducible] Go.Mir.RT.sat Go.Mir.evFn Go.Mir.stepObl
def kL (n:Int):Prop:= -9223372036854775808≤n∧n≤9223372036854775807
theorem fV {n:Int} (h:wfD (.int .i64) n):kL n:=by
 obtain ⟨S,w,cs,h⟩:=h
 cases h with|int h=>exact ⟨by have:=h.1;simpa [IntKind.min,IntKind.max,IntKind.signed,IntKind.bits] using this,by have:=h.2;simpa [IntKind.min,IntKind.max,IntKind.signed,IntKind.bits] using this⟩
theorem zF {x:Innings} {p:Int} (hp:kL p) (h:bg x p=true):IntKind.i64.wrap (p - 1)=p - 1∧0≤p - 1∧p - 1 <(x.Subs.length:Int):=by
 simp only [bg,Bool.and_eq_true,decide_eq_true_eq] at h
 have:=hp.2
 exact ⟨ed (by omega) (by omega),by omega,by omega⟩
theorem K3 (x:Innings) (p:Int) :(evFn (cf8 [] Tryz.f392) (fun _=>none) Tryz.f392 (bh iY (x,p,()))).sat fun v' rows=>leV v' (wJ (x,p,())).v∧rows =(wJ (x,p,())).rows:=by
 refine cast (by kernel_rfl) (?_ :(bif decide (p≥(1:Int)) then decide (p≤(↑x.21.length:Int)) else false)=bg x p∧([]:List RowD)=[])
 simp only [bg];grind
theorem ER:CtrOK Tryz.prog K8 392 (ar K8 iY wJ):=by
 refine aR (C:=cf8 [] Tryz.f392) (bq (CtrsOK.nil) _) mixed (fn:=Tryz.f392) Tryz.func392 (by kernel_rfl) (by kernel_rfl) (by kernel_rfl) (Λ:=fun _ _=>none) ?_ ?_ ?_
 ·exact fun _ _ _ _ _ _ _ _ h=>by cases h
 ·rintro ⟨x,p,⟨⟩⟩
  exact of_decide_eq_true (by kernel_rfl)
 ·rintro ⟨x,p,⟨⟩⟩ hw hn
  exact K3 x p
theorem K4 (x:Innings) (p:Int) (hp:kL p) :(evFn (cf8 [k73] Tryz.f393) (fun _=>none) Tryz.f393 (bh iY (x,p,()))).sat fun v' rows=>leV v' (wK (x,p,())).v∧rows =(wK (x,p,())).rows:=by
 refine cast (by kernel_rfl) (?_ :((bg x p=true→((0:Int)≤IntKind.i64.wrap (p - (1:Int))∧IntKind.i64.wrap (p - (1:Int)) <(↑x.21.length:Int))∧True)∧(bg x p=false→True))∧(true=true→(bif bg x p then x.21.getD (IntKind.i64.wrap (p - (1:Int))).toNat (dflt Ty.bool) else false)=aO x p∧([]:List RowD)=[]))
 refine ⟨⟨fun h=>⟨?_,trivial⟩,fun _=>trivial⟩,fun _=>⟨?_,rfl⟩⟩
 ·obtain ⟨e,h1,h2⟩:=zF hp h
  rw [e];exact ⟨h1,h2⟩
 ·cases h:bg x p with
  | false=>simp [aO,h]
  | true=>
   obtain ⟨e,h1,h2⟩:=zF hp h
   rw [e];simp only [cond_true,aO,h,Bool.true_and];rfl
theorem Hc:CtrOK Tryz.prog K8 393 (ar K8 iY wK):=by
 refine aR (C:=cf8 [k73] Tryz.f393) (bq (.cons ER .nil) _) mixed (fn:=Tryz.f393) Tryz.func393 (by kernel_rfl) (by kernel_rfl) (by kernel_rfl) (Λ:=fun _ _=>none) ?_ ?_ ?_
 ·exact fun _ _ _ _ _ _ _ _ h=>by cases h
 ·rintro ⟨x,p,⟨⟩⟩
  exact of_decide_eq_true (by kernel_rfl)
 ·rintro ⟨x,p,⟨⟩⟩ hw hn
  exact K4 x p (fV (bo (aY hw)))
theorem GC {n:Nm} {x:n.T} (h:wfD (.nm n) x):wfD n.flds (n.to x):=by
 obtain ⟨S,w,cs,h⟩:=h
 cases h with|nm h=>exact ⟨_,_,_,h⟩
theorem nH {r:Rules} (h:wfD (.nm .Rules) r):r.Power.length≤aW:=
 eZ (bo (aY (aY (aY (aY (aY (aY (aY (aY (aY (aY (aY (aY (aY (GC h)))))))))))))))
theorem J0 (r:Rules) (o:Int) (hx:r.Power.length≤aW) (i:Nat) (hi:Bt r o i) :(stepObl (J75 r o) (Bt r o) (fun i=>r.Power.length - i) i (T75 r o) (bm (cf8 [] Tryz.f400) (fun _=>none) (aE Tryz.f400 0) (J75 r o i)) (L75 i)).1:=by
 refine cast (by kernel_rfl) (?_ :(decide ((↑i:Int) <(↑r.14.length:Int))=true→((0:Int)≤(↑i:Int)∧(↑i:Int) <(↑r.14.length:Int))∧((bif decide ((r.14.getD (↑i:Int).toNat (dflt (Ty.nm Nm.Phase))).1≤IntKind.i64.wrap (o +(1:Int))) then decide (IntKind.i64.wrap (o +(1:Int))≤(r.14.getD (↑i:Int).toNat (dflt (Ty.nm Nm.Phase))).2) else false)=true→r.14.any (dW o)=true∧((r.14.getD (↑i:Int).toNat (dflt (Ty.nm Nm.Phase))).3=cF r o∧True)∧True)∧((bif decide ((r.14.getD (↑i:Int).toNat (dflt (Ty.nm Nm.Phase))).1≤IntKind.i64.wrap (o +(1:Int))) then decide (IntKind.i64.wrap (o +(1:Int))≤(r.14.getD (↑i:Int).toNat (dflt (Ty.nm Nm.Phase))).2) else false)=false→Bt r o (i +(1:Nat))∧r.14.length - (i +(1:Nat))<r.14.length - i∧(o=o∧True∧RowD.mk (Ty.nm Nm.Phase) r.14=RowD.mk (Ty.nm Nm.Phase) r.14∧(↑r.14.length:Int) =(↑r.14.length:Int)∧IntKind.i64.wrap ((↑i:Int) +(1:Int)) =(↑(i +(1:Nat)):Int)∧True)∧(r.1=r.1∧r.2=r.2∧r.3=r.3∧r.4=r.4∧r.5=r.5∧r.6=r.6∧r.7=r.7∧r.8=r.8∧r.9=r.9∧r.10=r.10∧r.11=r.11∧r.12=r.12∧r.13=r.13∧RowD.mk (Ty.nm Nm.Phase) r.14=RowD.mk (Ty.nm Nm.Phase) r.14∧True)∧True))∧(decide ((↑i:Int) <(↑r.14.length:Int))=false→r.14.any (dW o)=false∧(True∧True)∧(r.1=r.1∧r.2=r.2∧r.3=r.3∧r.4=r.4∧r.5=r.5∧r.6=r.6∧r.7=r.7∧r.8=r.8∧r.9=r.9∧r.10=r.10∧r.11=r.11∧r.12=r.12∧r.13=r.13∧RowD.mk (Ty.nm Nm.Phase) r.14=RowD.mk (Ty.nm Nm.Phase) r.14∧True)∧True))
 have e :(i:Int).toNat=i:=by simp
 rw [e]
 generalize hw:r.Power.getD i (dflt (Ty.nm Nm.Phase))=w
 have hc :(bif decide (w.From≤IntKind.i64.wrap (o+1)) then decide (IntKind.i64.wrap (o+1)≤w.To) else false)=dW o w:=by simp only [dW];cases decide (w.From≤IntKind.i64.wrap (o+1)) <;> rfl
 have hb:r.Power.length≤140737488355328:=hx
 refine ⟨fun h1=>?_,fun h1=>?_⟩
 ·have h1:i<r.Power.length:=by simpa using h1
  have h3:r.Power[i]?=some w:=by rw [←hw];exact m8 _ h1
  refine ⟨⟨by omega,by omega⟩,fun h2=>?_,fun h2=>?_⟩
  ·have h2:dW o w=true:=by rw [←hc];exact h2
   have h4:cF r o=w.Outside:=by
    unfold cF
    rw [uS (dW o) r.Power i w h3 h2 hi.2];rfl
   have h5:r.Power.any (dW o)=true:=List.any_eq_true.2 ⟨w,List.mem_of_getElem? h3,h2⟩
   rw [h4]
   simp [h5]
  ·have h2:dW o w=false:=by rw [←hc];exact h2
   refine ⟨⟨by omega,fun y hy=>?_⟩,by omega,⟨rfl,trivial,rfl,rfl,?_,trivial⟩,by simp⟩
   ·rw [List.take_add_one,h3] at hy
    rcases List.mem_append.1 hy with hy|hy
    ·exact hi.2 y hy
    ·simp at hy;subst hy;exact h2
   ·rw [ed (by omega) (by omega)];omega
 ·have h1:r.Power.length≤i:=by simpa using h1
  have:r.Power.any (dW o)=false:=by
   rw [List.any_eq_false]
   intro x hx
   have:=hi.2 x (by rw [List.take_of_length_le h1];exact hx)
   simpa using this
  simp [this]
theorem Jp (r:Rules) (o:Int) (hx:r.Power.length≤aW):LoopOK Tryz.prog Tryz.f400.ntmps (aE Tryz.f400 0) (ck ⟨[],[],48⟩ (J75 r o 0) (T75 r o)):=
 il (bq (CtrsOK.nil) _) mixed (J75 r o) (fun _=>rfl) (Bt r o) (fun i=>r.Power.length - i) (fun _ _=>none) (fun _ _ _ _ _ h=>by cases h) (T75 r o) [] [] 0 (⟨Nat.zero_le _,by simp⟩) L75 (fun i hi=>J0 r o hx i hi)
theorem K5 (r:Rules) (o:Int) (hx:r.Power.length≤aW) :(evFn (cf8 [] Tryz.f400) (Λ75 r o) Tryz.f400 (bh psR (r,o,()))).sat fun v' rows=>leV v' (wL (r,o,())).v∧rows =(wL (r,o,())).rows:=by
 refine cast (by kernel_rfl) (?_ :((fh fun x=>none)∧(o=o∧True∧RowD.mk (Ty.nm Nm.Phase) r.14=RowD.mk (Ty.nm Nm.Phase) r.14∧(↑r.14.length:Int) =(↑r.14.length:Int)∧(0:Int) =(↑(0:Nat):Int)∧True)∧(r.1=r.1∧r.2=r.2∧r.3=r.3∧r.4=r.4∧r.5=r.5∧r.6=r.6∧r.7=r.7∧r.8=r.8∧r.9=r.9∧r.10=r.10∧r.11=r.11∧r.12=r.12∧r.13=r.13∧RowD.mk (Ty.nm Nm.Phase) r.14=RowD.mk (Ty.nm Nm.Phase) r.14∧True)∧True)∧(r.14.any (dW o)=true→cF r o=cF r o∧([]:List RowD)=[])∧(r.14.any (dW o)=false→r.13=cF r o∧([]:List RowD)=[]))
 have hN:r.Power.any (dW o)=false→cF r o=r.Outside:=fun h1=>by
  unfold cF
  rw [List.find?_eq_none.2 fun x hx=>(List.any_eq_false.1 h1) x hx];rfl
 refine ⟨⟨rfl,⟨rfl,trivial,rfl,rfl,rfl,trivial⟩,by simp⟩,fun _=>by simp,fun h=>by rw [hN h];simp⟩
theorem LJ:CtrOK Tryz.prog K8 400 (ar K8 psR wL):=by
 refine aR (C:=cf8 [] Tryz.f400) (bq (CtrsOK.nil) _) mixed (fn:=Tryz.f400) Tryz.func400 (by kernel_rfl) (by kernel_rfl) (by kernel_rfl) (Λ:=fun x=>Λ75 x.1 x.2.1) ?_ ?_ ?_
 ·rintro ⟨r,o,⟨⟩⟩ hw hn
  exact LoopsOK.at (by kernel_rfl) (.cons (by kernel_rfl) (Jp r o (nH (bo hw))) .nil)
 ·rintro ⟨r,o,⟨⟩⟩
  exact of_decide_eq_true (by kernel_rfl)
 ·rintro ⟨r,o,⟨⟩⟩ hw hn
  exact K5 r o (nH (bo hw))
theorem KO (r:Rules) (x:Innings) :(evFn (cf8 [k73,k74,k75] Tryz.f398) (fun _=>none) Tryz.f398 (bh yq (r,x,()))).sat fun v' rows=>leV v' (wt (r,x,())).v∧rows =(wt (r,x,())).rows:=by
 refine cast (by kernel_rfl) (?_ :((bif !bg x x.19 then true else bif aO x x.19 then true else x.19==x.12)=true→(17:Int)=jL r x∧([]:List RowD)=[])∧((bif !bg x x.19 then true else bif aO x x.19 then true else x.19==x.12)=false→(decide (x.20>cF r x.7)=true→(16:Int)=jL r x∧([]:List RowD)=[])∧(decide (x.20>cF r x.7)=false→(0:Int)=jL r x∧([]:List RowD)=[])))
 simp only [jL]
 repeat' first|refine And.intro ?_ ?_|intro _
 all_goals first|rfl|grind
theorem Kz:CtrOK Tryz.prog K8 398 (ar K8 yq wt):=by
 refine aR (C:=cf8 [k73,k74,k75] Tryz.f398) (bq (.cons ER (.cons Hc (.cons LJ .nil))) _) mixed (fn:=Tryz.f398) Tryz.func398 (by kernel_rfl) (by kernel_rfl) (by kernel_rfl) (Λ:=fun _ _=>none) ?_ ?_ ?_
 ·exact fun _ _ _ _ _ _ _ _ h=>by cases h
 ·rintro ⟨r,x,⟨⟩⟩
  exact of_decide_eq_true (by kernel_rfl)
 ·rintro ⟨r,x,⟨⟩⟩ hw hn
  exact KO r x
theorem KP (x:Innings) (d:Delivery) :(evFn (cf8 [k73,k74] Tryz.f399) (fun _=>none) Tryz.f399 (bh HK (x,d,()))).sat fun v' rows=>leV v' (wu (x,d,())).v∧rows =(wu (x,d,())).rows:=by
 refine cast (by kernel_rfl) (?_ :((decide (d.9 >(0:Int))=true→((!bg x d.9)=true→(3:Int)=gI x d∧([]:List RowD)=[])∧((!bg x d.9)=false→((!d.11==aO x d.9)=true→(18:Int)=gI x d∧([]:List RowD)=[])∧((!d.11==aO x d.9)=false→True)))∧(decide (d.9 >(0:Int))=false→True))∧((bif decide (d.9 >(0:Int)) then bif !bg x d.9 then false else !!d.11==aO x d.9 else true)=true→((decide (d.10 >(0:Int))=true→((!bg x d.10)=true→(3:Int)=gI x d∧([]:List RowD)=[])∧((!bg x d.10)=false→(aO x d.10=true→(18:Int)=gI x d∧([]:List RowD)=[])∧(aO x d.10=false→True)))∧(decide (d.10 >(0:Int))=false→True))∧((bif decide (d.10 >(0:Int)) then bif !bg x d.10 then false else !aO x d.10 else true)=true→((bif d.7 ==(4:Int) then (if (0:Int)>d.9 then (0:Int) else d.9) != x.19 else false)=true→(17:Int)=gI x d∧([]:List RowD)=[])∧((bif d.7 ==(4:Int) then (if (0:Int)>d.9 then (0:Int) else d.9) != x.19 else false)=false→(0:Int)=gI x d∧([]:List RowD)=[]))))
 have hm:qT d.Fielder 0=if (0:Int)>d.Fielder then 0 else d.Fielder:=rfl
 simp only [gI,zQ,zR,hm]
 repeat' first|refine And.intro ?_ ?_|intro _
 all_goals first|trivial|rfl|grind
theorem KA:CtrOK Tryz.prog K8 399 (ar K8 HK wu):=by
 refine aR (C:=cf8 [k73,k74] Tryz.f399) (bq (.cons ER (.cons Hc .nil)) _) mixed (fn:=Tryz.f399) Tryz.func399 (by kernel_rfl) (by kernel_rfl) (by kernel_rfl) (Λ:=fun _ _=>none) ?_ ?_ ?_
 ·exact fun _ _ _ _ _ _ _ _ h=>by cases h
 ·rintro ⟨x,d,⟨⟩⟩
  exact of_decide_eq_true (by kernel_rfl)
 ·rintro ⟨x,d,⟨⟩⟩ hw hn
  exact KP x d
theorem KQ (x:List Bool) (hs:x.length≤1000000) :(evFn (cf8 [] Tryz.f228) (fun _=>none) Tryz.f228 (bh HA (x,()))).sat fun v' rows=>leV v' (wv (x,())).v∧rows =(wv (x,())).rows:=by
 refine cast (by kernel_rfl) (?_ :(x.isEmpty=true→(nat_lit 0=nat_lit 0∧nat_lit 0=nat_lit 0)∧ [RowD.mk Ty.bool []]=[RowD.mk Ty.bool x])∧((0:Nat)+x.length) *(1:Nat)≤(70368744177664:Nat)∧(nat_lit 0=nat_lit 0∧nat_lit 0=nat_lit 0)∧ [RowD.mk Ty.bool ([]++x)]=[RowD.mk Ty.bool x])
 refine ⟨fun h=>⟨⟨rfl,rfl⟩,?_⟩,?_,⟨rfl,rfl⟩,rfl⟩
 ·have:x=[]:=List.isEmpty_iff.1 h
  subst this;rfl
 ·omega
theorem G9:CtrOK Tryz.prog K8 228 (ar K8 HA wv):=by
 refine aR (C:=cf8 [] Tryz.f228) (bq (CtrsOK.nil) _) mixed (fn:=Tryz.f228) Tryz.func228 (by kernel_rfl) (by kernel_rfl) (by kernel_rfl) (Λ:=fun _ _=>none) ?_ ?_ ?_
 ·exact fun _ _ _ _ _ _ _ _ h=>by cases h
 ·rintro ⟨x,⟨⟩⟩
  exact of_decide_eq_true (by kernel_rfl)
 ·rintro ⟨x,⟨⟩⟩ hw hn
  exact KQ x (hn _ (List.mem_singleton.2 rfl))
theorem Lg (x:List Int) (hs:x.length≤1000000) :(evFn (cf8 [] Tryz.f226) (fun _=>none) Tryz.f226 (bh HG (x,()))).sat fun v' rows=>leV v' (wS (x,())).v∧rows =(wS (x,())).rows:=by
 refine cast (by kernel_rfl) (?_ :(x.isEmpty=true→(nat_lit 0=nat_lit 0∧nat_lit 0=nat_lit 0)∧ [RowD.mk (Ty.int IntKind.u8) []]=[RowD.mk (Ty.int IntKind.u8) x])∧((0:Nat)+x.length) *(1:Nat)≤(70368744177664:Nat)∧(nat_lit 0=nat_lit 0∧nat_lit 0=nat_lit 0)∧ [RowD.mk (Ty.int IntKind.u8) ([]++x)]=[RowD.mk (Ty.int IntKind.u8) x])
 refine ⟨fun h=>⟨⟨rfl,rfl⟩,?_⟩,?_,⟨rfl,rfl⟩,rfl⟩
 ·have:x=[]:=List.isEmpty_iff.1 h
  subst this;rfl
 ·omega
theorem Hd:CtrOK Tryz.prog K8 226 (ar K8 HG wS):=by
 refine aR (C:=cf8 [] Tryz.f226) (bq (CtrsOK.nil) _) mixed (fn:=Tryz.f226) Tryz.func226 (by kernel_rfl) (by kernel_rfl) (by kernel_rfl) (Λ:=fun _ _=>none) ?_ ?_ ?_
 ·exact fun _ _ _ _ _ _ _ _ h=>by cases h
 ·rintro ⟨x,⟨⟩⟩
  exact of_decide_eq_true (by kernel_rfl)
 ·rintro ⟨x,⟨⟩⟩ hw hn
  exact Lg x (hn _ (List.mem_singleton.2 rfl))
theorem Lh (x:List Int) (hs:x.length≤1000000) :(evFn (cf8 [] Tryz.f227) (fun _=>none) Tryz.f227 (bh HH (x,()))).sat fun v' rows=>leV v' (wT (x,())).v∧rows =(wT (x,())).rows:=by
 refine cast (by kernel_rfl) (?_ :(x.isEmpty=true→(nat_lit 0=nat_lit 0∧nat_lit 0=nat_lit 0)∧ [RowD.mk (Ty.int IntKind.i64) []]=[RowD.mk (Ty.int IntKind.i64) x])∧((0:Nat)+x.length) *(8:Nat)≤(70368744177664:Nat)∧(nat_lit 0=nat_lit 0∧nat_lit 0=nat_lit 0)∧ [RowD.mk (Ty.int IntKind.i64) ([]++x)]=[RowD.mk (Ty.int IntKind.i64) x])
 refine ⟨fun h=>⟨⟨rfl,rfl⟩,?_⟩,?_,⟨rfl,rfl⟩,rfl⟩
 ·have:x=[]:=List.isEmpty_iff.1 h
  subst this;rfl
 ·omega
theorem He:CtrOK Tryz.prog K8 227 (ar K8 HH wT):=by
 refine aR (C:=cf8 [] Tryz.f227) (bq (CtrsOK.nil) _) mixed (fn:=Tryz.f227) Tryz.func227 (by kernel_rfl) (by kernel_rfl) (by kernel_rfl) (Λ:=fun _ _=>none) ?_ ?_ ?_
 ·exact fun _ _ _ _ _ _ _ _ h=>by cases h
 ·rintro ⟨x,⟨⟩⟩
  exact of_decide_eq_true (by kernel_rfl)
 ·rintro ⟨x,⟨⟩⟩ hw hn
  exact Lh x (hn _ (List.mem_singleton.2 rfl))
theorem K6 (x:Innings) (hs:ah x) :(evFn (cf8 [k45,k90,k91] Tryz.f391) (fun _=>none) Tryz.f391 (bh psI (x,()))).sat fun v' rows=>leV v' (fT (x,())).v∧rows =(fT (x,())).rows:=by
 refine cast (by kernel_rfl) (?_:x.11.length≤(1000000:Nat)∧x.13.length≤(1000000:Nat)∧x.14.length≤(1000000:Nat)∧x.16.length≤(1000000:Nat)∧x.21.length≤(1000000:Nat)∧(x.1=x.1∧x.2=x.2∧x.3=x.3∧x.4=x.4∧x.5=x.5∧x.6.1=x.6.1∧x.6.2=x.6.2∧x.6.3=x.6.3∧x.6.4=x.6.4∧x.6.5=x.6.5∧x.7=x.7∧x.8=x.8∧x.9=x.9∧x.10=x.10∧(nat_lit 0=nat_lit 0∧nat_lit 0=nat_lit 0)∧x.12=x.12∧(nat_lit 1=nat_lit 1∧nat_lit 1=nat_lit 1)∧(nat_lit 2=nat_lit 2∧nat_lit 2=nat_lit 2)∧x.15=x.15∧(nat_lit 3=nat_lit 3∧nat_lit 3=nat_lit 3)∧x.17=x.17∧x.18=x.18∧x.19=x.19∧x.20=x.20∧(nat_lit 4=nat_lit 4∧nat_lit 4=nat_lit 4)∧x.22.1=x.22.1∧x.22.2.1=x.22.2.1∧x.23=x.23∧True)∧ [RowD.mk (Ty.int IntKind.u8) x.11,RowD.mk (Ty.int IntKind.i64) x.13,RowD.mk (Ty.int IntKind.i64) x.14,RowD.mk (Ty.int IntKind.i64) x.16,RowD.mk Ty.bool x.21]=[RowD.mk (Ty.int IntKind.u8) x.11,RowD.mk (Ty.int IntKind.i64) x.13,RowD.mk (Ty.int IntKind.i64) x.14,RowD.mk (Ty.int IntKind.i64) x.16,RowD.mk Ty.bool x.21])
 obtain ⟨h1,h2,h3,h4,h5⟩:=hs
 simp [h1,h2,h3,h4,h5]
theorem JE:CtrOK Tryz.prog K8 391 (ar K8 psI fT):=by
 refine aR (C:=cf8 [k45,k90,k91] Tryz.f391) (bq (.cons G9 (.cons Hd (.cons He .nil))) _) mixed (fn:=Tryz.f391) Tryz.func391 (by kernel_rfl) (by kernel_rfl) (by kernel_rfl) (Λ:=fun _ _=>none) ?_ ?_ ?_
 ·exact fun _ _ _ _ _ _ _ _ h=>by cases h
 ·rintro ⟨x,⟨⟩⟩
  exact of_decide_eq_true (by kernel_rfl)
 ·rintro ⟨x,⟨⟩⟩ hw hn
  exact K6 x (hn _ (List.mem_singleton.2 rfl))
theorem K1 (x:Innings) (p:Int) (hs:ah x) :(evFn (cf8 [k73,k74,k78] Tryz.f366) (fun _=>none) Tryz.f366 (bh iY (x,p,()))).sat fun v' rows=>leV v' (wH (x,p,())).v∧rows =(wH (x,p,())).rows:=by
 refine cast (by kernel_rfl) (?_:ah x∧((!bg x p)=true→((x.1 =(ai x p).1∧x.2 =(ai x p).2∧x.3 =(ai x p).3∧x.4 =(ai x p).4∧x.5 =(ai x p).5∧x.6.1 =(ai x p).6.1∧x.6.2 =(ai x p).6.2∧x.6.3 =(ai x p).6.3∧x.6.4 =(ai x p).6.4∧x.6.5 =(ai x p).6.5∧x.7 =(ai x p).7∧x.8 =(ai x p).8∧x.9 =(ai x p).9∧x.10 =(ai x p).10∧(nat_lit 0=nat_lit 0∧nat_lit 0=nat_lit 0)∧x.12 =(ai x p).12∧(nat_lit 1=nat_lit 1∧nat_lit 1=nat_lit 1)∧(nat_lit 2=nat_lit 2∧nat_lit 2=nat_lit 2)∧x.15 =(ai x p).15∧(nat_lit 3=nat_lit 3∧nat_lit 3=nat_lit 3)∧x.17 =(ai x p).17∧x.18 =(ai x p).18∧x.19 =(ai x p).19∧x.20 =(ai x p).20∧(nat_lit 4=nat_lit 4∧nat_lit 4=nat_lit 4)∧x.22.1 =(ai x p).22.1∧x.22.2.1 =(ai x p).22.2.1∧x.23 =(ai x p).23∧True)∧(3:Int)=cU x p∧True)∧ [RowD.mk (Ty.int IntKind.u8) x.11,RowD.mk (Ty.int IntKind.i64) x.13,RowD.mk (Ty.int IntKind.i64) x.14,RowD.mk (Ty.int IntKind.i64) x.16,RowD.mk Ty.bool x.21]=[RowD.mk (Ty.int IntKind.u8) (ai x p).11,RowD.mk (Ty.int IntKind.i64) (ai x p).13,RowD.mk (Ty.int IntKind.i64) (ai x p).14,RowD.mk (Ty.int IntKind.i64) (ai x p).16,RowD.mk Ty.bool (ai x p).21])∧((!bg x p)=false→(aO x p=true→((x.1 =(ai x p).1∧x.2 =(ai x p).2∧x.3 =(ai x p).3∧x.4 =(ai x p).4∧x.5 =(ai x p).5∧x.6.1 =(ai x p).6.1∧x.6.2 =(ai x p).6.2∧x.6.3 =(ai x p).6.3∧x.6.4 =(ai x p).6.4∧x.6.5 =(ai x p).6.5∧x.7 =(ai x p).7∧x.8 =(ai x p).8∧x.9 =(ai x p).9∧x.10 =(ai x p).10∧(nat_lit 0=nat_lit 0∧nat_lit 0=nat_lit 0)∧x.12 =(ai x p).12∧(nat_lit 1=nat_lit 1∧nat_lit 1=nat_lit 1)∧(nat_lit 2=nat_lit 2∧nat_lit 2=nat_lit 2)∧x.15 =(ai x p).15∧(nat_lit 3=nat_lit 3∧nat_lit 3=nat_lit 3)∧x.17 =(ai x p).17∧x.18 =(ai x p).18∧x.19 =(ai x p).19∧x.20 =(ai x p).20∧(nat_lit 4=nat_lit 4∧nat_lit 4=nat_lit 4)∧x.22.1 =(ai x p).22.1∧x.22.2.1 =(ai x p).22.2.1∧x.23 =(ai x p).23∧True)∧(18:Int)=cU x p∧True)∧ [RowD.mk (Ty.int IntKind.u8) x.11,RowD.mk (Ty.int IntKind.i64) x.13,RowD.mk (Ty.int IntKind.i64) x.14,RowD.mk (Ty.int IntKind.i64) x.16,RowD.mk Ty.bool x.21]=[RowD.mk (Ty.int IntKind.u8) (ai x p).11,RowD.mk (Ty.int IntKind.i64) (ai x p).13,RowD.mk (Ty.int IntKind.i64) (ai x p).14,RowD.mk (Ty.int IntKind.i64) (ai x p).16,RowD.mk Ty.bool (ai x p).21])∧(aO x p=false→((bif p==x.12 then true else p==x.19)=true→((x.1 =(ai x p).1∧x.2 =(ai x p).2∧x.3 =(ai x p).3∧x.4 =(ai x p).4∧x.5 =(ai x p).5∧x.6.1 =(ai x p).6.1∧x.6.2 =(ai x p).6.2∧x.6.3 =(ai x p).6.3∧x.6.4 =(ai x p).6.4∧x.6.5 =(ai x p).6.5∧x.7 =(ai x p).7∧x.8 =(ai x p).8∧x.9 =(ai x p).9∧x.10 =(ai x p).10∧(nat_lit 0=nat_lit 0∧nat_lit 0=nat_lit 0)∧x.12 =(ai x p).12∧(nat_lit 1=nat_lit 1∧nat_lit 1=nat_lit 1)∧(nat_lit 2=nat_lit 2∧nat_lit 2=nat_lit 2)∧x.15 =(ai x p).15∧(nat_lit 3=nat_lit 3∧nat_lit 3=nat_lit 3)∧x.17 =(ai x p).17∧x.18 =(ai x p).18∧x.19 =(ai x p).19∧x.20 =(ai x p).20∧(nat_lit 4=nat_lit 4∧nat_lit 4=nat_lit 4)∧x.22.1 =(ai x p).22.1∧x.22.2.1 =(ai x p).22.2.1∧x.23 =(ai x p).23∧True)∧(17:Int)=cU x p∧True)∧ [RowD.mk (Ty.int IntKind.u8) x.11,RowD.mk (Ty.int IntKind.i64) x.13,RowD.mk (Ty.int IntKind.i64) x.14,RowD.mk (Ty.int IntKind.i64) x.16,RowD.mk Ty.bool x.21]=[RowD.mk (Ty.int IntKind.u8) (ai x p).11,RowD.mk (Ty.int IntKind.i64) (ai x p).13,RowD.mk (Ty.int IntKind.i64) (ai x p).14,RowD.mk (Ty.int IntKind.i64) (ai x p).16,RowD.mk Ty.bool (ai x p).21])∧((bif p==x.12 then true else p==x.19)=false→((x.1 =(ai x p).1∧x.2 =(ai x p).2∧x.3 =(ai x p).3∧x.4 =(ai x p).4∧x.5 =(ai x p).5∧x.6.1 =(ai x p).6.1∧x.6.2 =(ai x p).6.2∧x.6.3 =(ai x p).6.3∧x.6.4 =(ai x p).6.4∧x.6.5 =(ai x p).6.5∧x.7 =(ai x p).7∧x.8 =(ai x p).8∧x.9 =(ai x p).9∧x.10 =(ai x p).10∧(nat_lit 0=nat_lit 0∧nat_lit 0=nat_lit 0)∧x.12 =(ai x p).12∧(nat_lit 1=nat_lit 1∧nat_lit 1=nat_lit 1)∧(nat_lit 2=nat_lit 2∧nat_lit 2=nat_lit 2)∧x.15 =(ai x p).15∧(nat_lit 3=nat_lit 3∧nat_lit 3=nat_lit 3)∧x.17 =(ai x p).17∧x.18 =(ai x p).18∧p =(ai x p).19∧x.20 =(ai x p).20∧(nat_lit 4=nat_lit 4∧nat_lit 4=nat_lit 4)∧x.22.1 =(ai x p).22.1∧x.22.2.1 =(ai x p).22.2.1∧x.23 =(ai x p).23∧True)∧(0:Int)=cU x p∧True)∧ [RowD.mk (Ty.int IntKind.u8) x.11,RowD.mk (Ty.int IntKind.i64) x.13,RowD.mk (Ty.int IntKind.i64) x.14,RowD.mk (Ty.int IntKind.i64) x.16,RowD.mk Ty.bool x.21]=[RowD.mk (Ty.int IntKind.u8) (ai x p).11,RowD.mk (Ty.int IntKind.i64) (ai x p).13,RowD.mk (Ty.int IntKind.i64) (ai x p).14,RowD.mk (Ty.int IntKind.i64) (ai x p).16,RowD.mk Ty.bool (ai x p).21]))))
 refine ⟨hs,fun h1=>?_,fun h1=>⟨fun h2=>?_,fun h2=>⟨fun h3=>?_,fun h3=>?_⟩⟩⟩
 ·have k:bg x p=false:=by simpa using h1
  have e:ai x p=x:=by simp [ai,k]
  have l:cU x p=3:=by simp [cU,k]
  rw [e,l];simp
 ·have k:bg x p=true:=by simpa using h1
  have e:ai x p=x:=by simp [ai,k,h2]
  have l:cU x p=18:=by simp [cU,k,h2]
  rw [e,l];simp
 ·have k:bg x p=true:=by simpa using h1
  have h4 :(p==x.Bowler||p==x.Keeper)=true:=by rw [←h3];cases p==x.Bowler <;> rfl
  have e:ai x p=x:=by simp only [ai,k,h2,h4];simp
  have l:cU x p=17:=by simp only [cU,k,h2,h4];simp
  rw [e,l];simp
 ·have k:bg x p=true:=by simpa using h1
  have h4 :(p==x.Bowler||p==x.Keeper)=false:=by rw [←h3];cases p==x.Bowler <;> rfl
  have e:ai x p={ x with Keeper:=p }:=by simp only [ai,k,h2,h4];simp
  have l:cU x p=0:=by simp only [cU,k,h2,h4];simp
  rw [e,l];simp
theorem LH:CtrOK Tryz.prog K8 366 (ar K8 iY wH):=by
 refine aR (C:=cf8 [k73,k74,k78] Tryz.f366) (bq (.cons ER (.cons Hc (.cons JE .nil))) _) mixed (fn:=Tryz.f366) Tryz.func366 (by kernel_rfl) (by kernel_rfl) (by kernel_rfl) (Λ:=fun _ _=>none) ?_ ?_ ?_
 ·exact fun _ _ _ _ _ _ _ _ h=>by cases h
 ·rintro ⟨x,p,⟨⟩⟩
  exact of_decide_eq_true (by kernel_rfl)
 ·rintro ⟨x,p,⟨⟩⟩ hw hn
  exact K1 x p (hn _ (List.mem_singleton.2 rfl))
theorem KR (x:Innings) (p:Int) (on:Bool) (hs:ah x) (hp:kL p) :(evFn (cf8 [k73,k74,k78] Tryz.f367) (fun _=>none) Tryz.f367 (bh B8 (x,p,on,()))).sat fun v' rows=>leV v' (wx (x,p,on,())).v∧rows =(wx (x,p,on,())).rows:=by
 refine cast (by kernel_rfl) (?_:ah x∧((!bg x p)=true→((x.1 =(aw x p on).1∧x.2 =(aw x p on).2∧x.3 =(aw x p on).3∧x.4 =(aw x p on).4∧x.5 =(aw x p on).5∧x.6.1 =(aw x p on).6.1∧x.6.2 =(aw x p on).6.2∧x.6.3 =(aw x p on).6.3∧x.6.4 =(aw x p on).6.4∧x.6.5 =(aw x p on).6.5∧x.7 =(aw x p on).7∧x.8 =(aw x p on).8∧x.9 =(aw x p on).9∧x.10 =(aw x p on).10∧(nat_lit 0=nat_lit 0∧nat_lit 0=nat_lit 0)∧x.12 =(aw x p on).12∧(nat_lit 1=nat_lit 1∧nat_lit 1=nat_lit 1)∧(nat_lit 2=nat_lit 2∧nat_lit 2=nat_lit 2)∧x.15 =(aw x p on).15∧(nat_lit 3=nat_lit 3∧nat_lit 3=nat_lit 3)∧x.17 =(aw x p on).17∧x.18 =(aw x p on).18∧x.19 =(aw x p on).19∧x.20 =(aw x p on).20∧(nat_lit 4=nat_lit 4∧nat_lit 4=nat_lit 4)∧x.22.1 =(aw x p on).22.1∧x.22.2.1 =(aw x p on).22.2.1∧x.23 =(aw x p on).23∧True)∧(3:Int)=fU x p on∧True)∧ [RowD.mk (Ty.int IntKind.u8) x.11,RowD.mk (Ty.int IntKind.i64) x.13,RowD.mk (Ty.int IntKind.i64) x.14,RowD.mk (Ty.int IntKind.i64) x.16,RowD.mk Ty.bool x.21]=[RowD.mk (Ty.int IntKind.u8) (aw x p on).11,RowD.mk (Ty.int IntKind.i64) (aw x p on).13,RowD.mk (Ty.int IntKind.i64) (aw x p on).14,RowD.mk (Ty.int IntKind.i64) (aw x p on).16,RowD.mk Ty.bool (aw x p on).21])∧((!bg x p)=false→((aO x p==on)=true→((x.1 =(aw x p on).1∧x.2 =(aw x p on).2∧x.3 =(aw x p on).3∧x.4 =(aw x p on).4∧x.5 =(aw x p on).5∧x.6.1 =(aw x p on).6.1∧x.6.2 =(aw x p on).6.2∧x.6.3 =(aw x p on).6.3∧x.6.4 =(aw x p on).6.4∧x.6.5 =(aw x p on).6.5∧x.7 =(aw x p on).7∧x.8 =(aw x p on).8∧x.9 =(aw x p on).9∧x.10 =(aw x p on).10∧(nat_lit 0=nat_lit 0∧nat_lit 0=nat_lit 0)∧x.12 =(aw x p on).12∧(nat_lit 1=nat_lit 1∧nat_lit 1=nat_lit 1)∧(nat_lit 2=nat_lit 2∧nat_lit 2=nat_lit 2)∧x.15 =(aw x p on).15∧(nat_lit 3=nat_lit 3∧nat_lit 3=nat_lit 3)∧x.17 =(aw x p on).17∧x.18 =(aw x p on).18∧x.19 =(aw x p on).19∧x.20 =(aw x p on).20∧(nat_lit 4=nat_lit 4∧nat_lit 4=nat_lit 4)∧x.22.1 =(aw x p on).22.1∧x.22.2.1 =(aw x p on).22.2.1∧x.23 =(aw x p on).23∧True)∧(18:Int)=fU x p on∧True)∧ [RowD.mk (Ty.int IntKind.u8) x.11,RowD.mk (Ty.int IntKind.i64) x.13,RowD.mk (Ty.int IntKind.i64) x.14,RowD.mk (Ty.int IntKind.i64) x.16,RowD.mk Ty.bool x.21]=[RowD.mk (Ty.int IntKind.u8) (aw x p on).11,RowD.mk (Ty.int IntKind.i64) (aw x p on).13,RowD.mk (Ty.int IntKind.i64) (aw x p on).14,RowD.mk (Ty.int IntKind.i64) (aw x p on).16,RowD.mk Ty.bool (aw x p on).21])∧((aO x p==on)=false→((0:Int)≤IntKind.i64.wrap (p - (1:Int))∧IntKind.i64.wrap (p - (1:Int)) <(↑x.21.length:Int))∧(((bif bif on then (bif bif on then x.19==p else false then x.12 else x.12)==p else false then bif bif on then x.19==p else false then x.1 else x.1 else bif bif on then x.19==p else false then x.1 else x.1) =(aw x p on).1∧(bif bif on then (bif bif on then x.19==p else false then x.12 else x.12)==p else false then bif bif on then x.19==p else false then x.2 else x.2 else bif bif on then x.19==p else false then x.2 else x.2) =(aw x p on).2∧(bif bif on then (bif bif on then x.19==p else false then x.12 else x.12)==p else false then bif bif on then x.19==p else false then x.3 else x.3 else bif bif on then x.19==p else false then x.3 else x.3) =(aw x p on).3∧(bif bif on then (bif bif on then x.19==p else false then x.12 else x.12)==p else false then bif bif on then x.19==p else false then x.4 else x.4 else bif bif on then x.19==p else false then x.4 else x.4) =(aw x p on).4∧(bif bif on then (bif bif on then x.19==p else false then x.12 else x.12)==p else false then bif bif on then x.19==p else false then x.5 else x.5 else bif bif on then x.19==p else false then x.5 else x.5) =(aw x p on).5∧(bif bif on then (bif bif on then x.19==p else false then x.12 else x.12)==p else false then bif bif on then x.19==p else false then x.6.1 else x.6.1 else bif bif on then x.19==p else false then x.6.1 else x.6.1) =(aw x p on).6.1∧(bif bif on then (bif bif on then x.19==p else false then x.12 else x.12)==p else false then bif bif on then x.19==p else false then x.6.2 else x.6.2 else bif bif on then x.19==p else false then x.6.2 else x.6.2) =(aw x p on).6.2∧(bif bif on then (bif bif on then x.19==p else false then x.12 else x.12)==p else false then bif bif on then x.19==p else false then x.6.3 else x.6.3 else bif bif on then x.19==p else false then x.6.3 else x.6.3) =(aw x p on).6.3∧(bif bif on then (bif bif on then x.19==p else false then x.12 else x.12)==p else false then bif bif on then x.19==p else false then x.6.4 else x.6.4 else bif bif on then x.19==p else false then x.6.4 else x.6.4) =(aw x p on).6.4∧(bif bif on then (bif bif on then x.19==p else false then x.12 else x.12)==p else false then bif bif on then x.19==p else false then x.6.5 else x.6.5 else bif bif on then x.19==p else false then x.6.5 else x.6.5) =(aw x p on).6.5∧(bif bif on then (bif bif on then x.19==p else false then x.12 else x.12)==p else false then bif bif on then x.19==p else false then x.7 else x.7 else bif bif on then x.19==p else false then x.7 else x.7) =(aw x p on).7∧(bif bif on then (bif bif on then x.19==p else false then x.12 else x.12)==p else false then bif bif on then x.19==p else false then x.8 else x.8 else bif bif on then x.19==p else false then x.8 else x.8) =(aw x p on).8∧(bif bif on then (bif bif on then x.19==p else false then x.12 else x.12)==p else false then bif bif on then x.19==p else false then x.9 else x.9 else bif bif on then x.19==p else false then x.9 else x.9) =(aw x p on).9∧(bif bif on then (bif bif on then x.19==p else false then x.12 else x.12)==p else false then bif bif on then x.19==p else false then x.10 else x.10 else bif bif on then x.19==p else false then x.10 else x.10) =(aw x p on).10∧(nat_lit 0=nat_lit 0∧nat_lit 0=nat_lit 0)∧(bif bif on then (bif bif on then x.19==p else false then x.12 else x.12)==p else false then (0:Int) else bif bif on then x.19==p else false then x.12 else x.12) =(aw x p on).12∧(nat_lit 1=nat_lit 1∧nat_lit 1=nat_lit 1)∧(nat_lit 2=nat_lit 2∧nat_lit 2=nat_lit 2)∧(bif bif on then (bif bif on then x.19==p else false then x.12 else x.12)==p else false then bif bif on then x.19==p else false then x.15 else x.15 else bif bif on then x.19==p else false then x.15 else x.15) =(aw x p on).15∧(nat_lit 3=nat_lit 3∧nat_lit 3=nat_lit 3)∧(bif bif on then (bif bif on then x.19==p else false then x.12 else x.12)==p else false then bif bif on then x.19==p else false then x.17 else x.17 else bif bif on then x.19==p else false then x.17 else x.17) =(aw x p on).17∧(bif bif on then (bif bif on then x.19==p else false then x.12 else x.12)==p else false then bif bif on then x.19==p else false then x.18 else x.18 else bif bif on then x.19==p else false then x.18 else x.18) =(aw x p on).18∧(bif bif on then (bif bif on then x.19==p else false then x.12 else x.12)==p else false then bif bif on then x.19==p else false then (0:Int) else x.19 else bif bif on then x.19==p else false then (0:Int) else x.19) =(aw x p on).19∧(bif bif on then (bif bif on then x.19==p else false then x.12 else x.12)==p else false then bif bif on then x.19==p else false then x.20 else x.20 else bif bif on then x.19==p else false then x.20 else x.20) =(aw x p on).20∧(nat_lit 4=nat_lit 4∧nat_lit 4=nat_lit 4)∧(bif bif on then (bif bif on then x.19==p else false then x.12 else x.12)==p else false then bif bif on then x.19==p else false then x.22.1 else x.22.1 else bif bif on then x.19==p else false then x.22.1 else x.22.1) =(aw x p on).22.1∧(bif bif on then (bif bif on then x.19==p else false then x.12 else x.12)==p else false then bif bif on then x.19==p else false then x.22.2.1 else x.22.2.1 else bif bif on then x.19==p else false then x.22.2.1 else x.22.2.1) =(aw x p on).22.2.1∧(bif bif on then (bif bif on then x.19==p else false then x.12 else x.12)==p else false then bif bif on then x.19==p else false then x.23 else x.23 else bif bif on then x.19==p else false then x.23 else x.23) =(aw x p on).23∧True)∧(0:Int)=fU x p on∧True)∧ [RowD.mk (Ty.int IntKind.u8) x.11,RowD.mk (Ty.int IntKind.i64) x.13,RowD.mk (Ty.int IntKind.i64) x.14,RowD.mk (Ty.int IntKind.i64) x.16,RowD.mk Ty.bool (x.21.set (IntKind.i64.wrap (p - (1:Int))).toNat on)]=[RowD.mk (Ty.int IntKind.u8) (aw x p on).11,RowD.mk (Ty.int IntKind.i64) (aw x p on).13,RowD.mk (Ty.int IntKind.i64) (aw x p on).14,RowD.mk (Ty.int IntKind.i64) (aw x p on).16,RowD.mk Ty.bool (aw x p on).21])))
 refine ⟨hs,fun h1=>?_,fun h1=>⟨fun h2=>?_,fun h2=>?_⟩⟩
 ·have k:bg x p=false:=by simpa using h1
  have e:aw x p on=x:=by simp [aw,k]
  have l:fU x p on=3:=by simp [fU,k]
  rw [e,l];simp
 ·have k:bg x p=true:=by simpa using h1
  have e:aw x p on=x:=by simp only [aw,k,h2];simp
  have l:fU x p on=18:=by simp only [fU,k,h2];simp
  rw [e,l];simp
 ·have k:bg x p=true:=by simpa using h1
  have e:aw x p on=oh x p on:=by simp only [aw,k,h2];simp
  have l:fU x p on=0:=by simp only [fU,k,h2];simp
  obtain ⟨ew,a,b⟩:=zF hp k
  rw [e,l,ew]
  refine ⟨⟨a,b⟩,?_⟩
  simp only [Bool.cond_self]
  cases on with
  | false=>simp [oh]
  | true=>cases hk :(x.Keeper==p) <;> cases hb :(x.Bowler==p) <;> simp [oh,hk,hb]
theorem Lz:CtrOK Tryz.prog K8 367 (ar K8 B8 wx):=by
 refine aR (C:=cf8 [k73,k74,k78] Tryz.f367) (bq (.cons ER (.cons Hc (.cons JE .nil))) _) mixed (fn:=Tryz.f367) Tryz.func367 (by kernel_rfl) (by kernel_rfl) (by kernel_rfl) (Λ:=fun _ _=>none) ?_ ?_ ?_
 ·exact fun _ _ _ _ _ _ _ _ h=>by cases h
 ·rintro ⟨x,p,on,⟨⟩⟩
  exact of_decide_eq_true (by kernel_rfl)
 ·rintro ⟨x,p,on,⟨⟩⟩ hw hn
  exact KR x p on (hn _ (List.mem_singleton.2 rfl)) (fV (bo (aY hw)))
theorem K2 (x:Innings) (p:Int) (hs:ah x) :(evFn (cf8 [k78] Tryz.f365) (fun _=>none) Tryz.f365 (bh iY (x,p,()))).sat fun v' rows=>leV v' (wI (x,p,())).v∧rows =(wI (x,p,())).rows:=by
 refine cast (by kernel_rfl) (?_:ah x∧((bif decide (p <(0:Int)) then true else decide (p>IntKind.i64.wrap ((↑x.21.length:Int) - (2:Int))))=true→((x.1 =(au x p).1∧x.2 =(au x p).2∧x.3 =(au x p).3∧x.4 =(au x p).4∧x.5 =(au x p).5∧x.6.1 =(au x p).6.1∧x.6.2 =(au x p).6.2∧x.6.3 =(au x p).6.3∧x.6.4 =(au x p).6.4∧x.6.5 =(au x p).6.5∧x.7 =(au x p).7∧x.8 =(au x p).8∧x.9 =(au x p).9∧x.10 =(au x p).10∧(nat_lit 0=nat_lit 0∧nat_lit 0=nat_lit 0)∧x.12 =(au x p).12∧(nat_lit 1=nat_lit 1∧nat_lit 1=nat_lit 1)∧(nat_lit 2=nat_lit 2∧nat_lit 2=nat_lit 2)∧x.15 =(au x p).15∧(nat_lit 3=nat_lit 3∧nat_lit 3=nat_lit 3)∧x.17 =(au x p).17∧x.18 =(au x p).18∧x.19 =(au x p).19∧x.20 =(au x p).20∧(nat_lit 4=nat_lit 4∧nat_lit 4=nat_lit 4)∧x.22.1 =(au x p).22.1∧x.22.2.1 =(au x p).22.2.1∧x.23 =(au x p).23∧True)∧(16:Int)=eM x p∧True)∧ [RowD.mk (Ty.int IntKind.u8) x.11,RowD.mk (Ty.int IntKind.i64) x.13,RowD.mk (Ty.int IntKind.i64) x.14,RowD.mk (Ty.int IntKind.i64) x.16,RowD.mk Ty.bool x.21]=[RowD.mk (Ty.int IntKind.u8) (au x p).11,RowD.mk (Ty.int IntKind.i64) (au x p).13,RowD.mk (Ty.int IntKind.i64) (au x p).14,RowD.mk (Ty.int IntKind.i64) (au x p).16,RowD.mk Ty.bool (au x p).21])∧((bif decide (p <(0:Int)) then true else decide (p>IntKind.i64.wrap ((↑x.21.length:Int) - (2:Int))))=false→((x.1 =(au x p).1∧x.2 =(au x p).2∧x.3 =(au x p).3∧x.4 =(au x p).4∧x.5 =(au x p).5∧x.6.1 =(au x p).6.1∧x.6.2 =(au x p).6.2∧x.6.3 =(au x p).6.3∧x.6.4 =(au x p).6.4∧x.6.5 =(au x p).6.5∧x.7 =(au x p).7∧x.8 =(au x p).8∧x.9 =(au x p).9∧x.10 =(au x p).10∧(nat_lit 0=nat_lit 0∧nat_lit 0=nat_lit 0)∧x.12 =(au x p).12∧(nat_lit 1=nat_lit 1∧nat_lit 1=nat_lit 1)∧(nat_lit 2=nat_lit 2∧nat_lit 2=nat_lit 2)∧x.15 =(au x p).15∧(nat_lit 3=nat_lit 3∧nat_lit 3=nat_lit 3)∧x.17 =(au x p).17∧x.18 =(au x p).18∧x.19 =(au x p).19∧p =(au x p).20∧(nat_lit 4=nat_lit 4∧nat_lit 4=nat_lit 4)∧x.22.1 =(au x p).22.1∧x.22.2.1 =(au x p).22.2.1∧x.23 =(au x p).23∧True)∧(0:Int)=eM x p∧True)∧ [RowD.mk (Ty.int IntKind.u8) x.11,RowD.mk (Ty.int IntKind.i64) x.13,RowD.mk (Ty.int IntKind.i64) x.14,RowD.mk (Ty.int IntKind.i64) x.16,RowD.mk Ty.bool x.21]=[RowD.mk (Ty.int IntKind.u8) (au x p).11,RowD.mk (Ty.int IntKind.i64) (au x p).13,RowD.mk (Ty.int IntKind.i64) (au x p).14,RowD.mk (Ty.int IntKind.i64) (au x p).16,RowD.mk Ty.bool (au x p).21]))
 have ew:IntKind.i64.wrap ((x.Subs.length:Int) - 2) =(x.Subs.length:Int) - 2:=by
  have:=hs.2.2.2.2
  rw [ed (by omega) (by omega)]
 have hc :(bif decide (p <(0:Int)) then true else decide (p>IntKind.i64.wrap ((x.Subs.length:Int) - (2:Int))))=ox x p:=by
  rw [ew];simp only [ox];cases decide (p<0) <;> rfl
 refine ⟨hs,fun h1=>?_,fun h1=>?_⟩
 ·have h1:ox x p=true:=by rw [←hc];exact h1
  have e:au x p=x:=by simp [au,h1]
  have l:eM x p=16:=by simp [eM,h1]
  rw [e,l];simp
 ·have h1:ox x p=false:=by rw [←hc];exact h1
  have e:au x p={ x with Outside:=p }:=by simp [au,h1]
  have l:eM x p=0:=by simp [eM,h1]
  rw [e,l];simp
theorem LI:CtrOK Tryz.prog K8 365 (ar K8 iY wI):=by
 refine aR (C:=cf8 [k78] Tryz.f365) (bq (.cons JE .nil) _) mixed (fn:=Tryz.f365) Tryz.func365 (by kernel_rfl) (by kernel_rfl) (by kernel_rfl) (Λ:=fun _ _=>none) ?_ ?_ ?_
 ·exact fun _ _ _ _ _ _ _ _ h=>by cases h
 ·rintro ⟨x,p,⟨⟩⟩
  exact of_decide_eq_true (by kernel_rfl)
 ·rintro ⟨x,p,⟨⟩⟩ hw hn
  exact K2 x p (hn _ (List.mem_singleton.2 rfl))
end Go.Proofs.YthaeofeigglbhaaGreatDoor
namespace Go.Proofs.YthaeofeigglbhaaGreatDoor
open Go Go.Mir
attribute [local irreducible] Go.Mir.DT.sat Go.Mir.evPat Go.Mir.RT.sat Go.Mir.evFn
abbrev Is:Ty:= .slice I
abbrev Bs:Ty:= .slice .bool
abbrev Ej:List (Nat×PB):= [(0,.cells [.h I,.h I,.h I,.h I,.h I,.h I,.h I,.h I,.h I,.h I,.h I,.h I,.h I,.h I,.c (.osl 1 2),.h I,.c (.osl 3 4),.c (.osl 5 6),.h .bool,.c (.osl 7 8),.h .bool,.h I,.h I,.h I,.c (.osl 9 10),.h I,.h I,.h U8]),(1,.row 2 U8),(3,.row 4 I),(5,.row 6 I),(7,.row 8 I),(9,.row 10 .bool)]
abbrev I6:Ty:=ez Ej .unit
def inn (x:Den I6):Innings:=⟨x.1,x.2.1,x.2.2.1,x.2.2.2.1,x.2.2.2.2.1,⟨x.2.2.2.2.2.1,x.2.2.2.2.2.2.1,x.2.2.2.2.2.2.2.1,x.2.2.2.2.2.2.2.2.1,x.2.2.2.2.2.2.2.2.2.1⟩,x.2.2.2.2.2.2.2.2.2.2.1,x.2.2.2.2.2.2.2.2.2.2.2.1,x.2.2.2.2.2.2.2.2.2.2.2.2.1,x.2.2.2.2.2.2.2.2.2.2.2.2.2.1,x.2.2.2.2.2.2.2.2.2.2.2.2.2.2.2.2.2.2.2.2.2.2.2.1,x.2.2.2.2.2.2.2.2.2.2.2.2.2.2.1,x.2.2.2.2.2.2.2.2.2.2.2.2.2.2.2.2.2.2.2.2.2.2.2.2.1,x.2.2.2.2.2.2.2.2.2.2.2.2.2.2.2.2.2.2.2.2.2.2.2.2.2.1,x.2.2.2.2.2.2.2.2.2.2.2.2.2.2.2.1,x.2.2.2.2.2.2.2.2.2.2.2.2.2.2.2.2.2.2.2.2.2.2.2.2.2.2.1,x.2.2.2.2.2.2.2.2.2.2.2.2.2.2.2.2.1,x.2.2.2.2.2.2.2.2.2.2.2.2.2.2.2.2.2.1,x.2.2.2.2.2.2.2.2.2.2.2.2.2.2.2.2.2.2.1,x.2.2.2.2.2.2.2.2.2.2.2.2.2.2.2.2.2.2.2.1,x.2.2.2.2.2.2.2.2.2.2.2.2.2.2.2.2.2.2.2.2.2.2.2.2.2.2.2.1,(x.2.2.2.2.2.2.2.2.2.2.2.2.2.2.2.2.2.2.2.2.1,x.2.2.2.2.2.2.2.2.2.2.2.2.2.2.2.2.2.2.2.2.2.1,()),x.2.2.2.2.2.2.2.2.2.2.2.2.2.2.2.2.2.2.2.2.2.2.1⟩
def um (y:Innings):Den I6:=(y.Side,y.Target,y.Overs,y.Runs,y.Wickets,y.Extras.Wides,y.Extras.NoBalls,y.Extras.Byes,y.Extras.LegByes,y.Extras.Penalties,y.Complete,y.InOver,y.Striker,y.Other,y.Bowler,y.Fresh,y.FreeHit,y.BallAge,y.Keeper,y.Outside,y.Reviews.1,y.Reviews.2.1,y.Ending,y.Batters,y.Bowlers,y.Before,y.Bowled,y.Subs,())
abbrev jb:Pat:=cm [.nm .Innings,I]
def aK (x:Innings) (p:Int):Bool:=decide (p≥1)&&decide (p≤(x.Batters.length:Int))
def vY:Den (tyP jb)→List Prop×Den (tyP aC):=fun x=>([],(aK x.1 x.2.1,()))
def ca (x:Innings) (p s:Int):Innings:={ x with Batters:=x.Batters.set (p - 1).toNat s }
def fW (x:Innings) (p:Int):Innings:={(if aK x p then ca x p 2 else x) with Wickets:=W (x.Wickets+1) }
abbrev HT:Pat:=⟨[(0,.c (.ptr 0 0)),(1,.h I)],Ej,11⟩
abbrev Ce:Pat:=⟨[],Ej,11⟩
def JQ:Den (tyP HT)→List Prop×Den (tyP Ce):=fun x=>([],um (fW (inn x.2) x.1))
def cX (x:Innings):Bool:=fa x&&(x.Striker==0||x.Other==0)
def wh:Den (tyP qIn)→List Prop×Den (tyP aC):=fun x=>([],(cX x.1,()))
def DS (x:Innings) (p:Int):Int:=x.Batters.getD (p - 1).toNat 0
def bF (x:Innings) (p:Int):Int:=if !aK x p then 3 else if !cX x||DS x p==1 then 4 else if DS x p==2 then 5 else 0
def AO:Den (tyP jb)→List Prop×Den (tyP bn):=fun x=>([],(bF x.1 x.2.1,()))
def iV (x:Innings) (s o:Int):Innings:=
 if fa x then x else if !aK x s||!aK x o then x else if s==o then x else { ca (ca x s 1) o 1 with Striker:=s,Other:=o }
def kZ (x:Innings) (s o:Int):Int:=if fa x then 1 else if !aK x s||!aK x o then 3 else if s==o then 4 else 0
def jm (x:Innings):Innings:={ x with Striker:=x.Other,Other:=x.Striker }
def jI (x:Innings) (d:Delivery):Int:=if d.How != 0 then (if d.Victim==1&&x.Striker != 0 then 1 else if d.Victim==2&&x.Other != 0 then 2 else 0) else 0
def ix (x:Innings) (d:Delivery):Innings:=if lx d then jm x else x
def dG (x:Innings) (b:Bool):Innings:=if b then { x with Striker:=0 } else { x with Other:=0 }
def cB (x:Innings) (d:Delivery):Innings:=
 if jI x d==0 then ix x d else fW (dG (ix x d) ((jI x d==1) != lx d)) (if jI x d==1 then x.Striker else x.Other)
def jq (x:Innings) (p:Int):Innings:=if bF x p != 0 then x else if x.Striker==0 then { ca x p 1 with Striker:=p } else { ca x p 1 with Other:=p }
def mr (x:Innings) (p:Int):Innings:=if bF x p != 0 then x else fW x p
def Cq (s:Int):Bool:=s==0||s==3
def qK:List Int→Int→List Int
 | [],_=> []
 | s::r,i=>if Cq s then (i+1)::qK r (i+1) else qK r (i+1)
def Ku (l:List Int):List Int:=qK l 0
def xS (x:Innings):List Int:=Ku x.Batters
def kV (x:Innings):Bool:=((xS x).length:Int)==0
def cb (x:Innings) (p:Int) (hurt:Bool):Int:=
 if !aK x p then 3 else if x.Striker==0||x.Other==0 then 6 else if p != x.Striker&&p != x.Other then 4 else if hurt&&kV x then 19 else 0
def dq (x:Innings) (p:Int) (hurt:Bool):Innings:=
 if cb x p hurt != 0 then x else if hurt then ca (dG x (p==x.Striker)) p 3 else fW (dG x (p==x.Striker)) p
def jW:FuncId×Ctr:=(380,ar KE psI fT)
abbrev Cj:Pat:=cm [.nm .Innings,I,I]
abbrev Ci:Pat:=cm [.nm .Innings,I,.bool]
abbrev HV:Pat:=cm [.nm .Innings,.nm .Delivery]
abbrev q2L:Pat:=cm [.nm .Innings,I]
def F7:Den (tyP Cj)→List Prop×Den (tyP q2L):=fun x=>([ah x.1],(iV x.1 x.2.1 x.2.2.1,kZ x.1 x.2.1 x.2.2.1,()))
def JU:Den (tyP HV)→List Prop×Den (tyP qIn):=fun x=>([ah x.1],(cB x.1 x.2.1,()))
def vT:Den (tyP qIn)→List Prop×Den (tyP qIn):=fun x=>([ah x.1],(jm x.1,()))
def AQ:Den (tyP jb)→List Prop×Den (tyP q2L):=fun x=>([ah x.1],(jq x.1 x.2.1,bF x.1 x.2.1,()))
def Gf:Den (tyP jb)→List Prop×Den (tyP q2L):=fun x=>([ah x.1],(mr x.1 x.2.1,bF x.1 x.2.1,()))
abbrev qIs:Pat:=⟨[(0,.c (.osl 0 1))],[(0,.row 1 I)],2⟩
def F0:Den (tyP qIn)→List Prop×Den (tyP qIs):=fun x=>([ah x.1],(xS x.1,()))
def wb:Den (tyP Ci)→List Prop×Den (tyP q2L):=fun x=>([ah x.1],(dq x.1 x.2.1 x.2.2.1,cb x.1 x.2.1 x.2.2.1,()))
theorem lJ {p:Int} (h1:1≤p) (h2:kL p):IntKind.i64.wrap (p - 1)=p - 1:=by
 obtain ⟨a,b⟩:=h2
 exact ed (by omega) (by omega)
theorem HZ (x:Innings) (hs:ah x) :(evFn (an [k45,k90,k91] Tryz.f380) (fun _=>none) Tryz.f380 (bh psI (x,()))).sat fun v' rows=>leV v' (fT (x,())).v∧rows =(fT (x,())).rows:=by
 refine cast (by kernel_rfl) (?_:x.11.length≤(1000000:Nat)∧x.13.length≤(1000000:Nat)∧x.14.length≤(1000000:Nat)∧x.16.length≤(1000000:Nat)∧x.21.length≤(1000000:Nat)∧(x.1=x.1∧x.2=x.2∧x.3=x.3∧x.4=x.4∧x.5=x.5∧x.6.1=x.6.1∧x.6.2=x.6.2∧x.6.3=x.6.3∧x.6.4=x.6.4∧x.6.5=x.6.5∧x.7=x.7∧x.8=x.8∧x.9=x.9∧x.10=x.10∧(nat_lit 0=nat_lit 0∧nat_lit 0=nat_lit 0)∧x.12=x.12∧(nat_lit 1=nat_lit 1∧nat_lit 1=nat_lit 1)∧(nat_lit 2=nat_lit 2∧nat_lit 2=nat_lit 2)∧x.15=x.15∧(nat_lit 3=nat_lit 3∧nat_lit 3=nat_lit 3)∧x.17=x.17∧x.18=x.18∧x.19=x.19∧x.20=x.20∧(nat_lit 4=nat_lit 4∧nat_lit 4=nat_lit 4)∧x.22.1=x.22.1∧x.22.2.1=x.22.2.1∧x.23=x.23∧True)∧ [RowD.mk (Ty.int IntKind.u8) x.11,RowD.mk (Ty.int IntKind.i64) x.13,RowD.mk (Ty.int IntKind.i64) x.14,RowD.mk (Ty.int IntKind.i64) x.16,RowD.mk Ty.bool x.21]=[RowD.mk (Ty.int IntKind.u8) x.11,RowD.mk (Ty.int IntKind.i64) x.13,RowD.mk (Ty.int IntKind.i64) x.14,RowD.mk (Ty.int IntKind.i64) x.16,RowD.mk Ty.bool x.21])
 obtain ⟨h1,h2,h3,h4,h5⟩:=hs
 simp [h1,h2,h3,h4,h5]
theorem oc:CtrOK Tryz.prog KE 380 (ar KE psI fT):=by
 refine aR (C:=an [k45,k90,k91] Tryz.f380) (al (.consU G9 rfl (.consU Hd rfl (.consU He rfl .nil))) _) mixed (fn:=Tryz.f380) Tryz.func380 (by kernel_rfl) (by kernel_rfl) (by kernel_rfl) (Λ:=fun _ _=>none) ?_ ?_ ?_
 ·exact fun _ _ _ _ _ _ _ _ h=>by cases h
 ·rintro ⟨x,⟨⟩⟩
  exact of_decide_eq_true (by kernel_rfl)
 ·rintro ⟨x,⟨⟩⟩ hw hn
  exact HZ x (hn _ (List.mem_singleton.2 rfl))
theorem Db (x:Innings) (p:Int) :(evPat (an [] Tryz.f382) (fun _=>none) Tryz.f382 jb aC (x,p,())).sat fun z_=>z_ =(vY (x,p,())).2:=by
 refine cast (by kernel_rfl) (?_ :(bif decide (p≥(1:Int)) then decide (p≤(↑x.11.length:Int)) else false,()) =(aK x p,()))
 grind [aK]
def ik:FuncId×Ctr:=(382,af KE jb aC vY)
theorem nu:CtrOK Tryz.prog KE 382 (af KE jb aC vY):=by
 refine ax (C:=an [] Tryz.f382) (al (CtrsOK.nil) _) mixed (fn:=Tryz.f382) Tryz.func382 (by kernel_rfl) (by kernel_rfl) (by kernel_rfl) (by kernel_rfl) (by kernel_rfl) (by kernel_rfl) (Λ:=fun _ _=>none) ?_ ?_
 ·exact fun _ _ _ _ _ _ _ _ h=>by cases h
 ·rintro ⟨x,p,⟨⟩⟩ hw hn
  exact Db x p
theorem yG (p:Int) (y:Innings) (hp:kL p) :(evPat (an [ik] Tryz.f390) (fun _=>none) Tryz.f390 HT Ce (p,um y)).sat fun z_=>z_ =(JQ (p,um y)).2:=by
 refine cast (by kernel_rfl) (?_:let r1:Int:=IntKind.i64.wrap (p - (1:Int));((aK y p=true→((0:Int)≤r1∧r1 <(↑y.11.length:Int))∧True)∧(aK y p=false→True))∧(true=true→(y.1,y.2,y.3,y.4,IntKind.i64.wrap (y.5 +(1:Int)),y.6.1,y.6.2,y.6.3,y.6.4,y.6.5,y.7,y.8,y.9,y.10,y.12,y.15,y.17,y.18,y.19,y.20,y.22.1,y.22.2.1,y.23,bif aK y p then y.11.set r1.toNat (2:Int) else y.11,y.13,y.14,y.16,y.21,())=um (fW (inn (um y)) p)))
 intro r1
 clear_value (hr1:r1=_)
 have e1:aK y p=true→r1=p - 1:=fun h=>by
  rw [hr1]
  simp only [aK,Bool.and_eq_true,decide_eq_true_eq] at h
  exact lJ h.1 hp
 refine ⟨⟨fun h=>⟨?_,trivial⟩,fun _=>trivial⟩,fun _=>?_⟩
 ·have:=e1 h
  simp only [aK,Bool.and_eq_true,decide_eq_true_eq] at h
  omega
 ·show _=um (fW y p)
  cases h:aK y p with
  | true=>
   have e:fW y p={ ca y p 2 with Wickets:=W (y.Wickets+1) }:=by simp [fW,h,ca]
   rw [e,e1 h];rfl
  | false=>
   have e:fW y p={ y with Wickets:=W (y.Wickets+1) }:=by simp [fW,h]
   rw [e];rfl
def gn:FuncId×Ctr:=(390,af KE HT Ce JQ)
theorem mR:CtrOK Tryz.prog KE 390 (af KE HT Ce JQ):=by
 refine ax (C:=an [ik] Tryz.f390) (al (.consU nu rfl .nil) _) mixed (fn:=Tryz.f390) Tryz.func390 (by kernel_rfl) (by kernel_rfl) (by kernel_rfl) (by kernel_rfl) (by kernel_rfl) (by kernel_rfl) (Λ:=fun _ _=>none) ?_ ?_
 ·exact fun _ _ _ _ _ _ _ _ h=>by cases h
 ·rintro ⟨p,z⟩ hw hn
  exact yG p (inn z) (fV (bo hw))
theorem Aw (x:Innings) :(evPat (an [pq] Tryz.f373) (fun _=>none) Tryz.f373 qIn aC (x,())).sat fun z_=>z_ =(wh (x,())).2:=by
 refine cast (by kernel_rfl) (?_ :(bif fa x then bif x.9 ==(0:Int) then true else x.10 ==(0:Int) else false,()) =(cX x,()))
 grind [cX]
def fG:FuncId×Ctr:=(373,af KE qIn aC wh)
theorem lW:CtrOK Tryz.prog KE 373 (af KE qIn aC wh):=by
 refine ax (C:=an [pq] Tryz.f373) (al (.consU x8 rfl .nil) _) mixed (fn:=Tryz.f373) Tryz.func373 (by kernel_rfl) (by kernel_rfl) (by kernel_rfl) (by kernel_rfl) (by kernel_rfl) (by kernel_rfl) (Λ:=fun _ _=>none) ?_ ?_
 ·exact fun _ _ _ _ _ _ _ _ h=>by cases h
 ·rintro ⟨x,⟨⟩⟩ hw hn
  exact Aw x
theorem HY (x:Innings) (p:Int) (hp:kL p) :(evPat (an [ik,fG] Tryz.f389) (fun _=>none) Tryz.f389 jb bn (x,p,())).sat fun z_=>z_ =(AO (x,p,())).2:=by
 refine cast (by kernel_rfl) (?_:let r1:Int:=IntKind.i64.wrap (p - (1:Int));let r2:Int:=x.11.getD r1.toNat (dflt (Ty.int IntKind.u8));let r3:Bool:=r2 ==(2:Int);let r4:Bool:=bif !cX x then true else r2 ==(1:Int);((!aK x p)=true→((3:Int),()) =(bF x p,()))∧((!aK x p)=false→(((!cX x)=true→True)∧((!cX x)=false→((0:Int)≤r1∧r1 <(↑x.11.length:Int))∧True))∧(true=true→(r4=true→((4:Int),()) =(bF x p,()))∧(r4=false→((0:Int)≤r1∧r1 <(↑x.11.length:Int))∧(r3=true→((5:Int),()) =(bF x p,()))∧(r3=false→((0:Int),()) =(bF x p,()))))))
 intro r1 r2 r3 r4
 clear_value (hr1:r1=_) (hr2:r2=_) (hr3:r3=_) (hr4:r4=_)
 cases h:aK x p with
 | false=>simp [bF,h]
 | true=>
  have k:1≤p∧p≤x.Batters.length:=by simpa [aK] using h
  have e1:r1=p - 1:=by rw [hr1];exact lJ k.1 hp
  have e2:r2=DS x p:=by rw [hr2,e1];rfl
  have b :(0:Int)≤r1∧r1 <(x.Batters.length:Int):=by omega
  refine ⟨(fun h=>by cases h),fun _=>⟨⟨fun _=>trivial,fun _=>⟨b,trivial⟩⟩,fun _=>⟨fun h4=>?_,fun h4=>⟨b,fun h3=>?_,fun h3=>?_⟩⟩⟩⟩ <;> grind [bF]
def BA:FuncId×Ctr:=(389,af KE jb bn AO)
theorem EW:CtrOK Tryz.prog KE 389 (af KE jb bn AO):=by
 refine ax (C:=an [ik,fG] Tryz.f389) (al (.consU nu rfl (.consU lW rfl .nil)) _) mixed (fn:=Tryz.f389) Tryz.func389 (by kernel_rfl) (by kernel_rfl) (by kernel_rfl) (by kernel_rfl) (by kernel_rfl) (by kernel_rfl) (Λ:=fun _ _=>none) ?_ ?_
 ·exact fun _ _ _ _ _ _ _ _ h=>by cases h
 ·rintro ⟨x,p,⟨⟩⟩ hw hn
  exact HY x p (fV (bo (aY hw)))
theorem H3 (x:Innings) (d:Delivery) (hs:ah x) :(evPat (an [jW,gn] Tryz.f386) (fun _=>none) Tryz.f386 HV qIn (x,d,())).sat fun z_=>z_ =(JU (x,d,())).2:=by
 refine cast (by kernel_rfl) (?_:let r1:Bool:=d.3.tmod (2:Int) !=(0:Int);let r2:Bool:=bif d.8 ==(1:Int) then x.9 !=(0:Int) else false;let r3:Bool:=bif d.8 ==(2:Int) then x.10 !=(0:Int) else false;let r4:Bool:=bif d.6 then !r1 else r1;let r5:Int:=bif r4 then x.1 else x.1;let r6:Int:=bif r4 then x.2 else x.2;let r7:Int:=bif r4 then x.3 else x.3;let r8:Int:=bif r4 then x.4 else x.4;let r9:Int:=bif r4 then x.5 else x.5;let r10:Int:=bif r4 then x.7 else x.7;let r11:Int:=bif r4 then x.8 else x.8;let r12:Int:=bif r4 then x.10 else x.9;let r13:Int:=bif r4 then x.9 else x.10;let r14:Int:=bif r4 then x.12 else x.12;let r15:Bool:=bif r4 then x.15 else x.15;let r16:Bool:=bif r4 then x.17 else x.17;let r17:Int:=bif r4 then x.18 else x.18;let r18:Int:=bif r4 then x.19 else x.19;let r19:Int:=bif r4 then x.20 else x.20;let r20:Int:=bif r4 then x.23 else x.23;let r21:Int:=bif r4 then x.6.1 else x.6.1;let r22:Int:=bif r4 then x.6.2 else x.6.2;let r23:Int:=bif r4 then x.6.3 else x.6.3;let r24:Int:=bif r4 then x.6.4 else x.6.4;let r25:Int:=bif r4 then x.6.5 else x.6.5;let r26:Int:=bif r4 then x.22.1 else x.22.1;let r27:Int:=bif r4 then x.22.2.1 else x.22.2.1;let r28:Int:=bif d.7 !=(0:Int) then bif r2 then x.9 else bif r3 then x.10 else (0:Int) else (0:Int);let r29:Int:=bif d.7 !=(0:Int) then bif r2 then (1:Int) else bif r3 then (2:Int) else (0:Int) else (0:Int);let r30:Bool:=r29 ==(0:Int);let r31:Bool:=!(r29 ==(1:Int))==r4;let r32:Int:=bif r31 then r9 else r9;let r33:Innings:=inn (bif r31 then r5 else r5,bif r31 then r6 else r6,bif r31 then r7 else r7,bif r31 then r8 else r8,r32,bif r31 then r21 else r21,bif r31 then r22 else r22,bif r31 then r23 else r23,bif r31 then r24 else r24,bif r31 then r25 else r25,bif r31 then r10 else r10,bif r31 then r11 else r11,bif r31 then (0:Int) else r12,bif r31 then r13 else (0:Int),bif r31 then r14 else r14,bif r31 then r15 else r15,bif r31 then r16 else r16,bif r31 then r17 else r17,bif r31 then r18 else r18,bif r31 then r19 else r19,bif r31 then r26 else r26,bif r31 then r27 else r27,bif r31 then r20 else r20,x.11,x.13,x.14,x.16,x.21,());let r34:Bool:=aK r33 r28;let r35:Innings:=if r34=true then ca r33 r28 (2:Int) else r33;ah x∧(2:Int)≠(0:Int)∧(r30=true→(Innings.mk r5 r6 r7 r8 r9 (Extras.mk r21 r22 r23 r24 r25) r10 r11 r12 r13 x.11 r14 x.13 x.14 r15 x.16 r16 r17 r18 r19 x.21 (r26,r27,()) r20,()) =(cB x d,()))∧(r30=false→(Innings.mk r35.1 r35.2 r35.3 r35.4 (W (r32 +(1:Int))) r35.6 r35.7 r35.8 r35.9 r35.10 r35.11 r35.12 r35.13 r35.14 r35.15 r35.16 r35.17 r35.18 r35.19 r35.20 r35.21 r35.22 r35.23,()) =(cB x d,())))
 intro r1 r2 r3 r4 r5 r6 r7 r8 r9 r10 r11 r12 r13 r14 r15 r16 r17 r18 r19 r20 r21 r22 r23 r24 r25 r26 r27 r28 r29 r30 r31 r32 r33 r34 r35
 clear_value (hr1:r1=_) (hr2:r2=_) (hr3:r3=_) (hr4:r4=_) (hr5:r5=_) (hr6:r6=_) (hr7:r7=_) (hr8:r8=_) (hr9:r9=_) (hr10:r10=_) (hr11:r11=_) (hr12:r12=_) (hr13:r13=_) (hr14:r14=_) (hr15:r15=_) (hr16:r16=_) (hr17:r17=_) (hr18:r18=_) (hr19:r19=_) (hr20:r20=_) (hr21:r21=_) (hr22:r22=_) (hr23:r23=_) (hr24:r24=_) (hr25:r25=_) (hr26:r26=_) (hr27:r27=_) (hr28:r28=_) (hr29:r29=_) (hr30:r30=_) (hr31:r31=_) (hr32:r32=_) (hr33:r33=_) (hr34:r34=_) (hr35:r35=_)
 simp only [Bool.cond_self] at *
 have hs4:r4=lx d:=by rw [hr4,hr1];unfold lx;cases d.Crossed <;> cases (d.Runs.tmod 2 != 0) <;> rfl
 have ho:r29=jI x d:=by rw [hr29,hr2,hr3];grind [jI]
 have hp:r28=if jI x d==1 then x.Striker else if jI x d==2 then x.Other else 0:=by rw [hr28,hr2,hr3];grind [jI]
 have h012:jI x d=0∨jI x d=1∨jI x d=2:=by grind [jI]
 subst hs4
 clear hr1 hr2 hr3 hr4 hr28 hr29
 subst hr5 hr6 hr7 hr8 hr9 hr10 hr11 hr12 hr13 hr14 hr15 hr16 hr17 hr18 hr19 hr20 hr21 hr22 hr23 hr24 hr25 hr26 hr27 hr32
 refine ⟨hs,by decide,fun h=>?_,fun h=>?_⟩
 ·have h0:jI x d=0:=by grind
  simp only [cB,h0,ix]
  cases lx d <;> rfl
 ·have h0:jI x d=1∨jI x d=2:=by grind
  have e33:r33=dG (ix x d) ((jI x d==1) != lx d):=by
   rw [hr33,hr31,ho]
   simp only [ix,dG]
   rcases h0 with h0|h0 <;> rw [h0] <;> cases lx d <;> rfl
  have e28:r28=if jI x d==1 then x.Striker else x.Other:=by rw [hp];rcases h0 with h0|h0 <;> rw [h0] <;> rfl
  have ew:r33.Wickets=x.Wickets:=by
   rw [e33];simp only [ix,dG];cases lx d <;> cases (jI x d==1) <;> rfl
  have e0 :(jI x d==0)=false:=by rcases h0 with h0|h0 <;> rw [h0] <;> rfl
  simp only [cB,e0]
  rw [←e33,←e28]
  simp only [fW]
  rw [←hr34,←hr35]
  rw [ew]
  rfl
def Ir:FuncId×Ctr:=(386,af KE HV qIn JU)
theorem JJ:CtrOK Tryz.prog KE 386 (af KE HV qIn JU):=by
 refine ax (C:=an [jW,gn] Tryz.f386) (al (.consU oc rfl (.consU mR rfl .nil)) _) mixed (fn:=Tryz.f386) Tryz.func386 (by kernel_rfl) (by kernel_rfl) (by kernel_rfl) (by kernel_rfl) (by kernel_rfl) (by kernel_rfl) (Λ:=fun _ _=>none) ?_ ?_
 ·exact fun _ _ _ _ _ _ _ _ h=>by cases h
 ·rintro ⟨x,d,⟨⟩⟩ hw hn
  exact H3 x d (hn _ List.mem_cons_self)
theorem Au (x:Innings) (hs:ah x) :(evPat (an [jW] Tryz.f388) (fun _=>none) Tryz.f388 qIn qIn (x,())).sat fun z_=>z_ =(vT (x,())).2:=by
 refine cast (by kernel_rfl) (?_:ah x∧(Innings.mk x.1 x.2 x.3 x.4 x.5 x.6 x.7 x.8 x.10 x.9 x.11 x.12 x.13 x.14 x.15 x.16 x.17 x.18 x.19 x.20 x.21 x.22 x.23,()) =(jm x,()))
 exact ⟨hs,rfl⟩
def xI:FuncId×Ctr:=(388,af KE qIn qIn vT)
theorem CU:CtrOK Tryz.prog KE 388 (af KE qIn qIn vT):=by
 refine ax (C:=an [jW] Tryz.f388) (al (.consU oc rfl .nil) _) mixed (fn:=Tryz.f388) Tryz.func388 (by kernel_rfl) (by kernel_rfl) (by kernel_rfl) (by kernel_rfl) (by kernel_rfl) (by kernel_rfl) (Λ:=fun _ _=>none) ?_ ?_
 ·exact fun _ _ _ _ _ _ _ _ h=>by cases h
 ·rintro ⟨x,⟨⟩⟩ hw hn
  exact Au x (hn _ List.mem_cons_self)
theorem Da (x:Innings) (p:Int) (hs:ah x) (hp:kL p) :(evPat (an [jW,BA] Tryz.f363) (fun _=>none) Tryz.f363 jb q2L (x,p,())).sat fun z_=>z_ =(AQ (x,p,())).2:=by
 refine cast (by kernel_rfl) (?_:let r1:Int:=IntKind.i64.wrap (p - (1:Int));ah x∧((bF x p !=(0:Int))=true→(x,bF x p,()) =(jq x p,bF x p,()))∧((bF x p !=(0:Int))=false→((0:Int)≤r1∧r1 <(↑x.11.length:Int))∧(Innings.mk (bif x.9 ==(0:Int) then x.1 else x.1) (bif x.9 ==(0:Int) then x.2 else x.2) (bif x.9 ==(0:Int) then x.3 else x.3) (bif x.9 ==(0:Int) then x.4 else x.4) (bif x.9 ==(0:Int) then x.5 else x.5) (Extras.mk (bif x.9 ==(0:Int) then x.6.1 else x.6.1) (bif x.9 ==(0:Int) then x.6.2 else x.6.2) (bif x.9 ==(0:Int) then x.6.3 else x.6.3) (bif x.9 ==(0:Int) then x.6.4 else x.6.4) (bif x.9 ==(0:Int) then x.6.5 else x.6.5)) (bif x.9 ==(0:Int) then x.7 else x.7) (bif x.9 ==(0:Int) then x.8 else x.8) (bif x.9 ==(0:Int) then p else x.9) (bif x.9 ==(0:Int) then x.10 else p) (x.11.set r1.toNat (1:Int)) (bif x.9 ==(0:Int) then x.12 else x.12) x.13 x.14 (bif x.9 ==(0:Int) then x.15 else x.15) x.16 (bif x.9 ==(0:Int) then x.17 else x.17) (bif x.9 ==(0:Int) then x.18 else x.18) (bif x.9 ==(0:Int) then x.19 else x.19) (bif x.9 ==(0:Int) then x.20 else x.20) x.21 (bif x.9 ==(0:Int) then x.22.1 else x.22.1,bif x.9 ==(0:Int) then x.22.2.1 else x.22.2.1,()) (bif x.9 ==(0:Int) then x.23 else x.23),(0:Int),()) =(jq x p,bF x p,())))
 intro r1
 clear_value (hr1:r1=_)
 refine ⟨hs,fun h=>?_,fun h=>?_⟩
 ·simp only [jq,h];rfl
 ·have h0:bF x p=0:=by simpa using h
  have k:aK x p=true:=by grind [bF]
  have k2:1≤p∧p≤x.Batters.length:=by simpa [aK] using k
  have e1:r1=p - 1:=by rw [hr1];exact lJ k2.1 hp
  refine ⟨by omega,?_⟩
  rw [h0,e1]
  simp only [jq,h0]
  cases hb:x.Striker==0 <;> rfl
def Bz:FuncId×Ctr:=(363,af KE jb q2L AQ)
theorem EV:CtrOK Tryz.prog KE 363 (af KE jb q2L AQ):=by
 refine ax (C:=an [jW,BA] Tryz.f363) (al (.consU oc rfl (.consU EW rfl .nil)) _) mixed (fn:=Tryz.f363) Tryz.func363 (by kernel_rfl) (by kernel_rfl) (by kernel_rfl) (by kernel_rfl) (by kernel_rfl) (by kernel_rfl) (Λ:=fun _ _=>none) ?_ ?_
 ·exact fun _ _ _ _ _ _ _ _ h=>by cases h
 ·rintro ⟨x,p,⟨⟩⟩ hw hn
  exact Da x p (hn _ List.mem_cons_self) (fV (bo (aY hw)))
theorem yH (x:Innings) (p:Int) (hs:ah x) (hp:kL p) :(evPat (an [jW,BA,gn] Tryz.f362) (fun _=>none) Tryz.f362 jb q2L (x,p,())).sat fun z_=>z_ =(Gf (x,p,())).2:=by
 refine cast (by kernel_rfl) (?_:let r1:Innings:=inn (x.1,x.2,x.3,x.4,x.5,x.6.1,x.6.2,x.6.3,x.6.4,x.6.5,x.7,x.8,x.9,x.10,x.12,x.15,x.17,x.18,x.19,x.20,x.22.1,x.22.2.1,x.23,x.11,x.13,x.14,x.16,x.21,());let r2:Bool:=aK r1 p;let r3:Innings:=if r2=true then ca r1 p (2:Int) else r1;ah x∧((bF x p !=(0:Int))=true→(x,bF x p,()) =(mr x p,bF x p,()))∧((bF x p !=(0:Int))=false→(Innings.mk r3.1 r3.2 r3.3 r3.4 (W (x.5 +(1:Int))) r3.6 r3.7 r3.8 r3.9 r3.10 r3.11 r3.12 r3.13 r3.14 r3.15 r3.16 r3.17 r3.18 r3.19 r3.20 r3.21 r3.22 r3.23,(0:Int),()) =(mr x p,bF x p,())))
 intro r1 r2 r3
 clear_value (hr1:r1=_) (hr2:r2=_) (hr3:r3=_)
 refine ⟨hs,fun h=>?_,fun h=>?_⟩
 ·simp only [mr,h];rfl
 ·have h0:bF x p=0:=by simpa using h
  have k:aK x p=true:=by grind [bF]
  have e1:r1=x:=hr1
  have e2:r2=true:=by rw [hr2,e1];exact k
  have e3:r3=ca x p 2:=by rw [hr3,e2,e1];rfl
  rw [h0,e3]
  have e4:mr x p={ ca x p 2 with Wickets:=W (x.Wickets+1) }:=by simp [mr,h0,fW,k,ca]
  rw [e4]
def tu:FuncId×Ctr:=(362,af KE jb q2L Gf)
theorem zU:CtrOK Tryz.prog KE 362 (af KE jb q2L Gf):=by
 refine ax (C:=an [jW,BA,gn] Tryz.f362) (al (.consU oc rfl (.consU EW rfl (.consU mR rfl .nil))) _) mixed (fn:=Tryz.f362) Tryz.func362 (by kernel_rfl) (by kernel_rfl) (by kernel_rfl) (by kernel_rfl) (by kernel_rfl) (by kernel_rfl) (Λ:=fun _ _=>none) ?_ ?_
 ·exact fun _ _ _ _ _ _ _ _ h=>by cases h
 ·rintro ⟨x,p,⟨⟩⟩ hw hn
  exact yH x p (hn _ List.mem_cons_self) (fV (bo (aY hw)))
theorem FD (x:Innings) (s:Int) (o:Int) (hs:ah x) (h1:kL s) (h2:kL o) :(evPat (an [jW,pq,ik] Tryz.f359) (fun _=>none) Tryz.f359 Cj q2L (x,s,o,())).sat fun z_=>z_ =(F7 (x,s,o,())).2:=by
 refine cast (by kernel_rfl) (?_:let r1:Int:=IntKind.i64.wrap (s - (1:Int));let r2:Int:=IntKind.i64.wrap (o - (1:Int));let r3:List Int:=x.11.set r1.toNat (1:Int);ah x∧(fa x=true→(x,(1:Int),()) =(iV x s o,kZ x s o,()))∧(fa x=false→((bif !aK x s then true else !aK x o)=true→(x,(3:Int),()) =(iV x s o,kZ x s o,()))∧((bif !aK x s then true else !aK x o)=false→((s==o)=true→(x,(4:Int),()) =(iV x s o,kZ x s o,()))∧((s==o)=false→((0:Int)≤r1∧r1 <(↑x.11.length:Int))∧((0:Int)≤r2∧r2 <(↑r3.length:Int))∧(Innings.mk x.1 x.2 x.3 x.4 x.5 x.6 x.7 x.8 s o (r3.set r2.toNat (1:Int)) x.12 x.13 x.14 x.15 x.16 x.17 x.18 x.19 x.20 x.21 x.22 x.23,(0:Int),()) =(iV x s o,kZ x s o,())))))
 intro r1 r2 r3
 clear_value (hr1:r1=_) (hr2:r2=_) (hr3:r3=_)
 refine ⟨hs,fun hb=>?_,fun hb=>⟨fun hk=>?_,fun hk=>⟨fun he=>?_,fun he=>?_⟩⟩⟩
 ·simp [iV,kZ,hb]
 ·have hk :(!aK x s||!aK x o)=true:=by grind
  simp only [iV,kZ,hb,hk];rfl
 ·have hk :(!aK x s||!aK x o)=false:=by grind
  simp only [iV,kZ,hb,hk,he];rfl
 ·have hk2 :(!aK x s||!aK x o)=false:=by grind
  have k1:1≤s∧s≤x.Batters.length:=by
   have:aK x s=true:=by grind
   simpa [aK] using this
  have k2:1≤o∧o≤x.Batters.length:=by
   have:aK x o=true:=by grind
   simpa [aK] using this
  have e1:r1=s - 1:=by rw [hr1];exact lJ k1.1 h1
  have e2:r2=o - 1:=by rw [hr2];exact lJ k2.1 h2
  have e3:r3 =(ca x s 1).Batters:=by rw [hr3,e1];rfl
  have e4:r3.length=x.Batters.length:=by rw [e3];simp [ca]
  refine ⟨by omega,by omega,?_⟩
  rw [e3,e2]
  simp only [iV,kZ,hb,hk2,he];rfl
def Ex:FuncId×Ctr:=(359,af KE Cj q2L F7)
theorem Hn:CtrOK Tryz.prog KE 359 (af KE Cj q2L F7):=by
 refine ax (C:=an [jW,pq,ik] Tryz.f359) (al (.consU oc rfl (.consU x8 rfl (.consU nu rfl .nil))) _) mixed (fn:=Tryz.f359) Tryz.func359 (by kernel_rfl) (by kernel_rfl) (by kernel_rfl) (by kernel_rfl) (by kernel_rfl) (by kernel_rfl) (Λ:=fun _ _=>none) ?_ ?_
 ·exact fun _ _ _ _ _ _ _ _ h=>by cases h
 ·rintro ⟨x,s,o,⟨⟩⟩ hw hn
  exact FD x s o (hn _ List.mem_cons_self) (fV (bo (aY hw))) (fV (bo (aY (aY hw))))
end Go.Proofs.YthaeofeigglbhaaGreatDoor
namespace Go.Proofs.YthaeofeigglbhaaGreatDoor
open Go Go.Mir
attribute [local irreducible] Go.Mir.DT.sat Go.Mir.evPat Go.Mir.RT.sat Go.Mir.evFn
abbrev KI:Pat:=⟨[(8,.h I),(9,.h I),(7,.h U8s),(3,.c (.osl 1 2))],[(1,.row 2 I)],3⟩
abbrev Lr:List (Lf×Pat):= [(.ext 0,⟨[(3,.c (.osl 1 2))],[(1,.row 2 I)],3⟩)]
def jy (x:Int×Int×List Int×List Int×Unit):Prop:=dn (x.2.2.1,x.1,x.2.1,())∧x.2.2.1.length≤1000000∧x.2.2.2.1.length≤x.2.1
def jD (x:Int×Int×List Int×List Int×Unit):Nat:=(x.1 - x.2.1).toNat
def eQ (x:Int×Int×List Int×List Int×Unit):List Int×Unit:=(x.2.2.2.1++qK (x.2.2.1.drop x.2.1.toNat) x.2.1,())
noncomputable def lpLLc:Lp:=(⟨0,an [] Tryz.f374,(fun _=>none),(aE Tryz.f374 0),KI,Lr⟩:Lp)
theorem Ib (n:Int) (i:Int) (xs:List Int) (out:List Int) (hi:jy (n,i,xs,out,())) :(Go.Mir.stepG lpLLc eQ (fun y:Den (tyP lpLLc.q)=>jy y∧jD y<jD (n,i,xs,out,())) (n,i,xs,out,())∧Go.Mir.stepE lpLLc eQ (n,i,xs,out,())=eQ (n,i,xs,out,())):=by
 refine cast (by kernel_rfl) (?_:let r1:Int:=IntKind.i64.wrap (i +(1:Int));let r2:List Int:= [r1];let r3:Bool:=bif xs.getD i.toNat (dflt (Ty.int IntKind.u8)) ==(0:Int) then true else xs.getD i.toNat (dflt (Ty.int IntKind.u8)) ==(3:Int);((decide (i<n)=true→((0:Int)≤i∧i <(↑xs.length:Int))∧(r3=true→(out.length+r2.length) *(8:Nat)≤(70368744177664:Nat)∧jy (n,r1,xs,out++r2,())∧jD (n,r1,xs,out++r2,())<jD (n,i,xs,out,()))∧(r3=false→jy (n,r1,xs,out,())∧jD (n,r1,xs,out,())<jD (n,i,xs,out,())))∧(decide (i<n)=false→True))∧(bif decide (i<n) then bif r3 then eQ (n,r1,xs,out++r2,()) else eQ (n,r1,xs,out,()) else (out,()))=eQ (n,i,xs,out,()))
 intro r1 r2 r3
 clear_value (hr1:r1=_) (hr2:r2=_) (hr3:r3=_)
 obtain ⟨⟨h1,h2,h3,h4⟩,h6,h7⟩:=hi
 simp only at h1 h2 h3 h4 h6 h7
 have hw:i<n→r1=i+1:=fun h=>by rw [hr1];exact bM (by omega) (by omega)
 have hl:r2.length=1:=by rw [hr2];rfl
 refine ⟨⟨fun h=>?_,fun _=>trivial⟩,?_⟩
 ·have h:i<n:=of_decide_eq_true h
  have hw:=hw h
  refine ⟨⟨h2,by omega⟩,fun _=>⟨by omega,⟨⟨h1,by simp only;omega,by simp only;omega,h4⟩,h6,by simp only [List.length_append];omega⟩,by simp only [jD];omega⟩,fun _=>⟨⟨⟨h1,by simp only;omega,by simp only;omega,h4⟩,h6,by simp only;omega⟩,by simp only [jD];omega⟩⟩
 ·by_cases h:i<n
  ·have hw:=hw h
   have e:xs.drop i.toNat=xs.getD i.toNat (dflt (Ty.int IntKind.u8))::xs.drop (i+1).toNat:=dT h2 (by omega) _
   have e3:r3=Cq (xs.getD i.toNat (dflt (Ty.int IntKind.u8))):=by
    rw [hr3]
    generalize xs.getD i.toNat (dflt (Ty.int IntKind.u8))=v
    simp only [Cq]
    cases v==0 <;> rfl
   rw [decide_eq_true h,cond_true,e3,hr2,hw]
   generalize xs.getD i.toNat (dflt (Ty.int IntKind.u8))=v at e ⊢
   simp only [eQ,e,qK]
   cases Cq v <;> simp
  ·rw [decide_eq_false h,cond_false]
   simp only [eQ]
   rw [c7 (l:=xs) (by omega)]
   simp [qK]
noncomputable def Gt:LoopSum:=bf lpLLc eQ jy
noncomputable def Fs:Nat:=rid (aE Tryz.f374 0)
theorem GY:LoopOKp Tryz.prog 0 Tryz.f374.ntmps (aE Tryz.f374 0) (bf lpLLc eQ jy):=
 bT lpLLc (al (CtrsOK.nil) _) mixed (fun b hb S hS=>by cases hS) eQ jy jD (fun |⟨n,i,xs,out,⟨⟩⟩,hi=>Ib n i xs out hi)
theorem FC (x:Innings) (hs:ah x) :(evPat (an [] Tryz.f374) (find [(Fs,Gt)]) Tryz.f374 qIn qIs (x,())).sat fun z_=>z_ =(F0 (x,())).2:=by
 refine cast (by kernel_rfl) (?_ :((fh fun x=>none)∧dn (x.11,(↑x.11.length:Int),(0:Int),())∧x.11.length≤(1000000:Nat)∧(↑(0:Nat):Int)≤(0:Int))∧([]++qK (List.drop (Int.toNat (0:Int)) x.11) (0:Int),()) =(xS x,()))
 refine ⟨⟨rfl,⟨rfl,Int.le_refl _,by simp only;omega,?_⟩,hs.1,Int.le_refl _⟩,rfl⟩
 have:=hs.1
 show x.Batters.length≤140737488355328
 omega
def vf:FuncId×Ctr:=(374,af KE qIn qIs F0)
theorem BZ:CtrOK Tryz.prog KE 374 (af KE qIn qIs F0):=by
 refine ax (C:=an [] Tryz.f374) (al (CtrsOK.nil) _) mixed (fn:=Tryz.f374) Tryz.func374 (by kernel_rfl) (by kernel_rfl) (by kernel_rfl) (by kernel_rfl) (by kernel_rfl) (by kernel_rfl) (Λ:=fun x=>find [(Fs,Gt)]) ?_ ?_
 ·rintro ⟨x,⟨⟩⟩ hw hn
  exact LoopsOKp.at (by kernel_rfl) (.cons (by kernel_rfl) (GY) .nil)
 ·rintro ⟨x,⟨⟩⟩ hw hn
  exact FC x (hn _ List.mem_cons_self)
theorem yB {x:Innings} {p:Int} {hurt:Bool} (h1:aK x p=true) (h2 :(x.Striker==0||x.Other==0)=false) (h3 :(p != x.Striker&&p != x.Other)=false) (h4 :(hurt&&kV x)=false) :
  cb x p hurt=0∧dq x p hurt={ dG x (p==x.Striker) with Batters:=x.Batters.set (p - 1).toNat (bif hurt then 3 else 2),Wickets:=(bif hurt then x.Wickets else W (x.Wickets+1)) }:=by
 have e:cb x p hurt=0:=by simp only [cb,h1,h2,h3,h4];rfl
 refine ⟨e,?_⟩
 have kb :∀ b,(dG x b).Batters=x.Batters∧(dG x b).Wickets=x.Wickets:=fun b=>by cases b <;> exact ⟨rfl,rfl⟩
 simp only [dq,e]
 obtain ⟨k1,k2⟩:=kb (p==x.Striker)
 have kk:aK (dG x (p==x.Striker)) p=true:=by unfold aK at h1 ⊢;rw [k1];exact h1
 cases hurt with
 | true=>simp [ca,k1,←k2]
 | false=>simp [fW,kk,ca,k1,k2]
theorem Av (x:Innings) (p:Int) (hurt:Bool) (hs:ah x) (hp:kL p) :(evPat (an [jW,ik,vf,gn] Tryz.f364) (fun _=>none) Tryz.f364 Ci q2L (x,p,hurt,())).sat fun z_=>z_ =(wb (x,p,hurt,())).2:=by
 refine cast (by kernel_rfl) (?_:let r1:Int:=bif p==x.9 then x.1 else x.1;let r2:Int:=bif p==x.9 then x.2 else x.2;let r3:Int:=bif p==x.9 then x.3 else x.3;let r4:Int:=bif p==x.9 then x.4 else x.4;let r5:Int:=bif p==x.9 then x.5 else x.5;let r6:Int:=bif p==x.9 then x.7 else x.7;let r7:Int:=bif p==x.9 then x.8 else x.8;let r8:Int:=bif p==x.9 then x.12 else x.12;let r9:Bool:=bif p==x.9 then x.15 else x.15;let r10:Bool:=bif p==x.9 then x.17 else x.17;let r11:Int:=bif p==x.9 then x.18 else x.18;let r12:Int:=bif p==x.9 then x.19 else x.19;let r13:Int:=bif p==x.9 then x.20 else x.20;let r14:Int:=bif p==x.9 then x.23 else x.23;let r15:Int:=IntKind.i64.wrap (p - (1:Int));let r16:Int:=bif p==x.9 then x.6.1 else x.6.1;let r17:Int:=bif p==x.9 then x.6.2 else x.6.2;let r18:Int:=bif p==x.9 then x.6.3 else x.6.3;let r19:Int:=bif p==x.9 then x.6.4 else x.6.4;let r20:Int:=bif p==x.9 then x.6.5 else x.6.5;let r21:Int:=bif p==x.9 then x.22.1 else x.22.1;let r22:Int:=bif p==x.9 then (0:Int) else x.9;let r23:Int:=bif p==x.9 then x.10 else (0:Int);let r24:Int:=bif p==x.9 then x.22.2.1 else x.22.2.1;let r25:Bool:=bif p != x.9 then p != x.10 else false;let r26:Bool:=bif hurt then (↑(xS x).length:Int) ==(0:Int) else false;let r27:Bool:=bif x.9 ==(0:Int) then true else x.10 ==(0:Int);let r28:Innings:=inn (r1,r2,r3,r4,r5,r16,r17,r18,r19,r20,r6,r7,r22,r23,r8,r9,r10,r11,r12,r13,r21,r24,r14,x.11,x.13,x.14,x.16,x.21,());let r29:Bool:=aK r28 p;let r30:Innings:=if r29=true then ca r28 p (2:Int) else r28;ah x∧((!aK x p)=true→(x,(3:Int),()) =(dq x p hurt,cb x p hurt,()))∧((!aK x p)=false→(r27=true→(x,(6:Int),()) =(dq x p hurt,cb x p hurt,()))∧(r27=false→(r25=true→(x,(4:Int),()) =(dq x p hurt,cb x p hurt,()))∧(r25=false→((hurt=true→ah x∧True)∧(hurt=false→True))∧(true=true→(r26=true→(x,(19:Int),()) =(dq x p hurt,cb x p hurt,()))∧(r26=false→((hurt=true→((0:Int)≤r15∧r15 <(↑x.11.length:Int))∧True)∧(hurt=false→True))∧(true=true→(Innings.mk (bif hurt then r1 else r30.1) (bif hurt then r2 else r30.2) (bif hurt then r3 else r30.3) (bif hurt then r4 else r30.4) (bif hurt then r5 else W (r5 +(1:Int))) (Extras.mk (bif hurt then r16 else r30.6.1) (bif hurt then r17 else r30.6.2) (bif hurt then r18 else r30.6.3) (bif hurt then r19 else r30.6.4) (bif hurt then r20 else r30.6.5)) (bif hurt then r6 else r30.7) (bif hurt then r7 else r30.8) (bif hurt then r22 else r30.9) (bif hurt then r23 else r30.10) (bif hurt then x.11.set r15.toNat (3:Int) else r30.11) (bif hurt then r8 else r30.12) (bif hurt then x.13 else r30.13) (bif hurt then x.14 else r30.14) (bif hurt then r9 else r30.15) (bif hurt then x.16 else r30.16) (bif hurt then r10 else r30.17) (bif hurt then r11 else r30.18) (bif hurt then r12 else r30.19) (bif hurt then r13 else r30.20) (bif hurt then x.21 else r30.21) (bif hurt then r21 else r30.22.1,bif hurt then r24 else r30.22.2.1,()) (bif hurt then r14 else r30.23),(0:Int),()) =(dq x p hurt,cb x p hurt,()))))))))
 intro r1 r2 r3 r4 r5 r6 r7 r8 r9 r10 r11 r12 r13 r14 r15 r16 r17 r18 r19 r20 r21 r22 r23 r24 r25 r26 r27 r28 r29 r30
 clear_value (hr1:r1=_) (hr2:r2=_) (hr3:r3=_) (hr4:r4=_) (hr5:r5=_) (hr6:r6=_) (hr7:r7=_) (hr8:r8=_) (hr9:r9=_) (hr10:r10=_) (hr11:r11=_) (hr12:r12=_) (hr13:r13=_) (hr14:r14=_) (hr15:r15=_) (hr16:r16=_) (hr17:r17=_) (hr18:r18=_) (hr19:r19=_) (hr20:r20=_) (hr21:r21=_) (hr22:r22=_) (hr23:r23=_) (hr24:r24=_) (hr25:r25=_) (hr26:r26=_) (hr27:r27=_) (hr28:r28=_) (hr29:r29=_) (hr30:r30=_)
 simp only [Bool.cond_self] at *
 have t1 :∀ a b:Bool,(bif a then true else b) =(a||b):=by decide
 have t2 :∀ a b:Bool,(bif a then b else false) =(a&&b):=by decide
 have e27:r27 =(x.Striker==0||x.Other==0):=by rw [hr27,t1]
 have e26:r26 =(hurt&&kV x):=by rw [hr26,t2];rfl
 have e25:r25 =(p != x.Striker&&p != x.Other):=by rw [hr25,t2]
 have kb:aK x p=true→(0:Int)≤r15∧r15 <(x.Batters.length:Int)∧r15=p - 1:=fun k=>by
  have k2:1≤p∧p≤x.Batters.length:=by simpa [aK] using k
  have e1:r15=p - 1:=by rw [hr15];exact lJ k2.1 hp
  omega
 have f1 :∀ {k:Int},k≠0→cb x p hurt=k→(x,k,()) =(dq x p hurt,cb x p hurt,()):=fun {k} hk e=>by
  have :(cb x p hurt != 0)=true:=by rw [e];simpa using hk
  rw [e]
  simp only [dq,this];rfl
 refine ⟨hs,fun h=>f1 (by decide) ?_,fun h1=>⟨fun h=>f1 (by decide) ?_,fun h2=>⟨fun h=>f1 (by decide) ?_,fun h3=>⟨⟨fun _=>⟨hs,trivial⟩,fun _=>trivial⟩,fun _=>⟨fun h=>f1 (by decide) ?_,fun h4=>⟨⟨fun _=>⟨?_,trivial⟩,fun _=>trivial⟩,fun _=>?_⟩⟩⟩⟩⟩⟩
 ·simp only [cb,h];rfl
 ·rw [e27] at h;simp only [cb,h1,h];rfl
 ·rw [e27] at h2;rw [e25] at h;simp only [cb,h1,h2,h];rfl
 ·rw [e27] at h2;rw [e25] at h3;rw [e26] at h;simp only [cb,h1,h2,h3,h];rfl
 ·have k1:aK x p=true:=by simpa using h1
  exact ⟨(kb k1).1,(kb k1).2.1⟩
 ·have k1:aK x p=true:=by simpa using h1
  obtain ⟨e,ey⟩:=yB k1 (e27▸h2) (e25▸h3) (e26▸h4)
  have e28:r28=dG x (p==x.Striker):=by
   rw [hr28,hr22,hr23];simp only [dG];cases p==x.Striker <;> simp only [*] <;> rfl
  have k29:r29=true:=by
   rw [hr29,e28]
   unfold aK at k1 ⊢
   cases p==x.Striker <;> exact k1
  have e30:r30=ca (dG x (p==x.Striker)) p 2:=by rw [hr30,k29,e28];rfl
  rw [e,ey,e30,(kb k1).2.2]
  subst hr1 hr2 hr3 hr4 hr5 hr6 hr7 hr8 hr9 hr10 hr11 hr12 hr13 hr14 hr16 hr17 hr18 hr19 hr20 hr21 hr24
  rw [hr22,hr23]
  cases hurt <;> cases p==x.Striker <;> rfl
def xJ:FuncId×Ctr:=(364,af KE Ci q2L wb)
theorem CV:CtrOK Tryz.prog KE 364 (af KE Ci q2L wb):=by
 refine ax (C:=an [jW,ik,vf,gn] Tryz.f364) (al (.consU oc rfl (.consU nu rfl (.consU BZ rfl (.consU mR rfl .nil)))) _) mixed (fn:=Tryz.f364) Tryz.func364 (by kernel_rfl) (by kernel_rfl) (by kernel_rfl) (by kernel_rfl) (by kernel_rfl) (by kernel_rfl) (Λ:=fun _ _=>none) ?_ ?_
 ·exact fun _ _ _ _ _ _ _ _ h=>by cases h
 ·rintro ⟨x,p,hurt,⟨⟩⟩ hw hn
  exact Av x p hurt (hn _ List.mem_cons_self) (fV (bo (aY hw)))
end Go.Proofs.YthaeofeigglbhaaGreatDoor
namespace Go.Proofs.YthaeofeigglbhaaGreatDoor
open Go Go.Mir
attribute [local irreducible] Go.Mir.RT.sat Go.Mir.evFn Go.Mir.stepObl
theorem J1 (xs:List Int) (v:Int) (hx:xs.length≤aW) (i:Nat) (hi:Bu xs v i) :(stepObl (J79 xs v) (Bu xs v) (fun i=>xs.length - i) i (T79 xs v) (bm (cf8 [] Tryz.f356) (fun _=>none) (aE Tryz.f356 0) (J79 xs v i)) (L79 i)).1:=by
 refine cast (by kernel_rfl) (?_ :(decide ((↑i:Int) <(↑xs.length:Int))=true→((0:Int)≤(↑i:Int)∧(↑i:Int) <(↑xs.length:Int))∧((v==xs.getD (↑i:Int).toNat (dflt (Ty.int IntKind.i64)))=true→xs.contains v=true∧((↑i:Int)=idx xs v (0:Int)∧True)∧True)∧((v==xs.getD (↑i:Int).toNat (dflt (Ty.int IntKind.i64)))=false→Bu xs v (i +(1:Nat))∧xs.length - (i +(1:Nat))<xs.length - i∧(RowD.mk (Ty.int IntKind.i64) xs=RowD.mk (Ty.int IntKind.i64) xs∧v=v∧(↑xs.length:Int) =(↑xs.length:Int)∧IntKind.i64.wrap ((↑i:Int) +(1:Int)) =(↑(i +(1:Nat)):Int)∧True)∧True))∧(decide ((↑i:Int) <(↑xs.length:Int))=false→xs.contains v=false∧True∧True))
 have e :(i:Int).toNat=i:=by simp
 rw [e]
 refine ⟨fun h1=>?_,fun h1=>?_⟩
 ·have h1:i<xs.length:=by simpa using h1
  refine ⟨⟨by omega,by omega⟩,fun h2=>?_,fun h2=>?_⟩
  ·have h2:v=xs.getD i (dflt (Ty.int IntKind.i64)):=eq_of_beq h2
   have h3:xs[i]?=some v:=by rw [h2];exact m8 _ h1
   refine ⟨by simpa using List.mem_of_getElem? h3,⟨?_,trivial⟩,trivial⟩
   rw [zE xs v 0 i h3 hi.2];omega
  ·have h2:v≠xs.getD i (0:Int):=ne_of_beq_false h2
   have h3:xs.getD i (0:Int)=xs[i]:=by rw [List.getD_eq_getElem?_getD,List.getElem?_eq_getElem h1];rfl
   refine ⟨⟨by omega,?_⟩,by omega,⟨rfl,rfl,rfl,?_,trivial⟩,trivial⟩
   ·rw [List.take_succ_eq_append_getElem h1,List.mem_append,List.mem_singleton,not_or]
    exact ⟨hi.2,by rw [←h3];exact h2⟩
   ·have:xs.length≤140737488355328:=hx
    rw [ed (by omega) (by omega)];omega
 ·have h1 :¬ i<xs.length:=by simpa using h1
  refine ⟨?_,trivial,trivial⟩
  have:=hi.2
  rw [List.take_of_length_le (by omega)] at this
  simpa using this
theorem Jq (xs:List Int) (v:Int) (hx:xs.length≤aW):LoopOK Tryz.prog Tryz.f356.ntmps (aE Tryz.f356 0) (ck ⟨[],[],0⟩ (J79 xs v 0) (T79 xs v)):=
 il (bq (CtrsOK.nil) _) mixed (J79 xs v) (fun _=>rfl) (Bu xs v) (fun i=>xs.length - i) (fun _ _=>none) (fun _ _ _ _ _ h=>by cases h) (T79 xs v) [] [] 0 (⟨Nat.zero_le _,by simp⟩) L79 (fun i hi=>J1 xs v hx i hi)
theorem K7 (xs:List Int) (v:Int) (hx:xs.length≤aW) :(evFn (cf8 [] Tryz.f356) (Λ79 xs v) Tryz.f356 (bh yp (xs,v,()))).sat fun v' rows=>leV v' (wM (xs,v,())).v∧rows =(wM (xs,v,())).rows:=by
 refine cast (by kernel_rfl) (?_ :((fh fun x=>none)∧(RowD.mk (Ty.int IntKind.i64) xs=RowD.mk (Ty.int IntKind.i64) xs∧v=v∧(↑xs.length:Int) =(↑xs.length:Int)∧(0:Int) =(↑(0:Nat):Int)∧True)∧True)∧(xs.contains v=true→idx xs v (0:Int)=idx xs v (0:Int)∧([]:List RowD)=[])∧(xs.contains v=false→(-1:Int)=idx xs v (0:Int)∧([]:List RowD)=[]))
 refine ⟨⟨rfl,⟨rfl,rfl,rfl,rfl,trivial⟩,trivial⟩,fun _=>⟨rfl,rfl⟩,fun h=>⟨?_,rfl⟩⟩
 rw [qp]
 simpa using h
theorem LK:CtrOK Tryz.prog K8 356 (ar K8 yp wM):=by
 refine aR (C:=cf8 [] Tryz.f356) (bq (CtrsOK.nil) _) mixed (fn:=Tryz.f356) Tryz.func356 (by kernel_rfl) (by kernel_rfl) (by kernel_rfl) (Λ:=fun x=>Λ79 x.1 x.2.1) ?_ ?_ ?_
 ·rintro ⟨xs,v,⟨⟩⟩ hw hn
  exact LoopsOK.at (by kernel_rfl) (.cons (by kernel_rfl) (Jq xs v (eZ (bo hw))) .nil)
 ·rintro ⟨xs,v,⟨⟩⟩
  exact of_decide_eq_true (by kernel_rfl)
 ·rintro ⟨xs,v,⟨⟩⟩ hw hn
  exact K7 xs v (eZ (bo hw))
theorem KS (xs:List Int) (v:Int) :(evFn (cf8 [k79] Tryz.f331) (fun _=>none) Tryz.f331 (bh yp (xs,v,()))).sat fun v' rows=>leV v' (wy (xs,v,())).v∧rows =(wy (xs,v,())).rows:=by
 refine cast (by kernel_rfl) (?_:decide (idx xs v (0:Int)≥(0:Int))=e9 xs v∧([]:List RowD)=[])
 exact ⟨Bp xs v 0 (Int.le_refl 0),rfl⟩
theorem Ha:CtrOK Tryz.prog K8 331 (ar K8 yp wy):=by
 refine aR (C:=cf8 [k79] Tryz.f331) (bq (.cons LK .nil) _) mixed (fn:=Tryz.f331) Tryz.func331 (by kernel_rfl) (by kernel_rfl) (by kernel_rfl) (Λ:=fun _ _=>none) ?_ ?_ ?_
 ·exact fun _ _ _ _ _ _ _ _ h=>by cases h
 ·rintro ⟨xs,v,⟨⟩⟩
  exact of_decide_eq_true (by kernel_rfl)
 ·rintro ⟨xs,v,⟨⟩⟩ hw hn
  exact KS xs v
end Go.Proofs.YthaeofeigglbhaaGreatDoor
namespace Go.Proofs.YthaeofeigglbhaaGreatDoor
open Go Go.Mir
attribute [local irreducible] Go.Mir.DT.sat Go.Mir.evPat Go.Mir.RT.sat Go.Mir.evFn
def l7 (n:Int):Bool:=!inW n 0 1000000000
def JS:Den (tyP bn)→List Prop×Den (tyP aC):=fun x=>([],(l7 x.1,()))
abbrev qNI (f:Nat):Pat:=⟨[(0,.h Is),(1,.c (.fn f [])),(7,.h I),(8,.h I)],[],0⟩
def jf (x:List Int×Int×Int×Unit):Sum (Int×Unit) Unit:=El (cg l7 (x.1.drop x.2.2.1.toNat) x.2.2.1)
abbrev qNF (f:Nat):Pat:=⟨[(0,.h Is),(1,.c (.fn f []))],[],0⟩
def pI (l:List Int):Bool:=l.any l7
def sNI (f:Nat):Den (tyP (qNF f))→List Prop×Den (tyP bn):=fun x=>([],(nt (cg l7 x.1 0),()))
def sNC (f:Nat):Den (tyP (qNF f))→List Prop×Den (tyP aC):=fun x=>([],(pI x.1,()))
def s5 (most:Int):List Int→List Int→Bool
 | _,[]=>true
 | seen,n::r=>if !inW n 1 most||e9 seen n then false else s5 most (seen++[n]) r
def gw (l:List Int) (most:Int):Bool:=s5 most [] l
abbrev qLM:Pat:=cm [Is,I]
def FX:Den (tyP qLM)→List Prop×Den (tyP aC):=fun x=>([],(gw x.1 x.2.1,()))
abbrev qDf:Pat:=⟨[(0,.h Is),(1,.h I),(7,.h Is),(8,.h I),(9,.h I)],[],0⟩
abbrev xDf:List (Lf×Pat):= [(.ret,⟨[(4,.h .bool)],[],0⟩),(.ext 0,⟨[],[],0⟩)]
abbrev TDf:Type:=List Int×Int×List Int×Int×Int×Unit
def ti (x:TDf):Prop:=x.2.2.1=x.1∧dn (x.1,x.2.2.2.1,x.2.2.2.2.1,())
def CJ (x:TDf):Nat:=(x.2.2.2.1 - x.2.2.2.2.1).toNat
def G8 (b:Bool):Sum (Bool×Unit) Unit:=if b then .inr () else .inl (false,())
def ir (x:TDf):Sum (Bool×Unit) Unit:=G8 (s5 x.2.1 (x.1.take x.2.2.2.2.1.toNat) (x.1.drop x.2.2.2.2.1.toNat))
def qW (x:Innings):Bool:=!pI ([x.Target,x.Runs,x.Extras.Wides,x.Extras.NoBalls,x.Extras.Byes,x.Extras.LegByes,x.Extras.Penalties,x.Complete,x.BallAge,x.Outside,x.Reviews.1,x.Reviews.2.1]++x.Bowled)
def F5:Den (tyP qIn)→List Prop×Den (tyP aC):=fun x=>([ah x.1],(qW x.1,()))
theorem yK (n:Int) (lo:Int) (hi:Int) :(evPat (an [] Tryz.f284) (fun _=>none) Tryz.f284 q3 aC (n,lo,hi,())).sat fun z_=>z_ =(sIn (n,lo,hi,())).2:=by
 refine cast (by kernel_rfl) (?_ :(bif decide (n≥lo) then decide (n≤hi) else false,()) =(inW n lo hi,()))
 grind [inW]
def cp:FuncId×Ctr:=(284,af KE q3 aC sIn)
theorem dY:CtrOK Tryz.prog KE 284 (af KE q3 aC sIn):=by
 refine ax (C:=an [] Tryz.f284) (al (CtrsOK.nil) _) mixed (fn:=Tryz.f284) Tryz.func284 (by kernel_rfl) (by kernel_rfl) (by kernel_rfl) (by kernel_rfl) (by kernel_rfl) (by kernel_rfl) (Λ:=fun _ _=>none) ?_ ?_
 ·exact fun _ _ _ _ _ _ _ _ h=>by cases h
 ·rintro ⟨n,lo,hi,⟨⟩⟩ hw hn
  exact yK n lo hi
theorem FJ (n:Int) :(evPat (an [cp] Tryz.f332) (fun _=>none) Tryz.f332 bn aC (n,())).sat fun z_=>z_ =(JS (n,())).2:=by
 refine cast (by kernel_rfl) (?_ :(!inW n (0:Int) (1000000000:Int),()) =(l7 n,()))
 rfl
def zJ:FuncId×Ctr:=(332,af KE bn aC JS)
theorem B0:CtrOK Tryz.prog KE 332 (af KE bn aC JS):=by
 refine ax (C:=an [cp] Tryz.f332) (al (.consU dY rfl .nil) _) mixed (fn:=Tryz.f332) Tryz.func332 (by kernel_rfl) (by kernel_rfl) (by kernel_rfl) (by kernel_rfl) (by kernel_rfl) (by kernel_rfl) (Λ:=fun _ _=>none) ?_ ?_
 ·exact fun _ _ _ _ _ _ _ _ h=>by cases h
 ·rintro ⟨n,⟨⟩⟩ hw hn
  exact FJ n
noncomputable def lpNIl:Lp:=(⟨0,an [zJ] Tryz.f164,(fun _=>none),(aE Tryz.f164 0),(qNI 332),xLI⟩:Lp)
theorem Ic (xs:List Int) (n:Int) (i:Int) (hi:dn (xs,n,i,())) :(Go.Mir.stepG lpNIl jf (fun y:Den (tyP lpNIl.q)=>dn y∧kf y<kf (xs,n,i,())) (xs,n,i,())∧Go.Mir.stepE lpNIl jf (xs,n,i,())=jf (xs,n,i,())):=by
 refine cast (by kernel_rfl) (?_ :((decide (i<n)=true→((0:Int)≤i∧i <(↑xs.length:Int))∧(l7 (xs.getD i.toNat (dflt (Ty.int IntKind.i64)))=true→True)∧(l7 (xs.getD i.toNat (dflt (Ty.int IntKind.i64)))=false→dn (xs,n,IntKind.i64.wrap (i +(1:Int)),())∧kf (xs,n,IntKind.i64.wrap (i +(1:Int)),())<kf (xs,n,i,())))∧(decide (i<n)=false→True))∧(bif decide (i<n) then bif l7 (xs.getD i.toNat (dflt (Ty.int IntKind.i64))) then Sum.inl (i,()) else jf (xs,n,IntKind.i64.wrap (i +(1:Int)),()) else Sum.inr ())=jf (xs,n,i,()))
 obtain ⟨h1,h2,h3,h4⟩:=hi
 simp only at h1 h2 h3 h4
 have h5 :(xs.length:Int)≤140737488355328:=by have:xs.length≤140737488355328:=h4;omega
 refine ⟨⟨fun h=>?_,fun _=>trivial⟩,?_⟩
 ·have h:i<n:=of_decide_eq_true h
  rw [bM (n:=i+1) (by omega) (by omega)]
  refine ⟨⟨h2,by omega⟩,fun _=>trivial,fun _=>⟨⟨h1,by simp only;omega,by simp only;omega,h4⟩,by simp only [kf];omega⟩⟩
 ·by_cases h:i<n
  ·rw [decide_eq_true h,cond_true,bM (n:=i+1) (by omega) (by omega)]
   have e:xs.drop i.toNat=xs.getD i.toNat (dflt (Ty.int IntKind.i64))::xs.drop (i+1).toNat:=dT h2 (by omega) _
   generalize xs.getD i.toNat (dflt (Ty.int IntKind.i64))=v at e ⊢
   simp only [jf,e,cg]
   cases l7 v <;> rfl
  ·rw [decide_eq_false h,cond_false]
   simp only [jf]
   rw [c7 (l:=xs) (by omega)]
   rfl
noncomputable def Gu:LoopSum:=bf lpNIl jf dn
noncomputable def Ft:Nat:=rid (aE Tryz.f164 0)
theorem GZ:LoopOKp Tryz.prog 0 Tryz.f164.ntmps (aE Tryz.f164 0) (bf lpNIl jf dn):=
 bT lpNIl (al (.consU B0 rfl .nil) _) mixed (fun b hb S hS=>by cases hS) jf dn kf (fun |⟨xs,n,i,⟨⟩⟩,hi=>Ic xs n i hi)
theorem Fz (xs:List Int) (hx:xs.length≤aW) :(evPat (an [zJ] Tryz.f164) (find [(Ft,Gu)]) Tryz.f164 (qNF 332) bn (xs,())).sat fun z_=>z_ =((sNI 332) (xs,())).2:=by
 refine cast (by kernel_rfl) (?_:let r1:Bool:=isL (jf (xs,(↑xs.length:Int),(0:Int),()));((fh fun x=>none)∧(↑xs.length:Int) =(↑xs.length:Int)∧(0:Int)≤(0:Int)∧(0:Int)≤(↑xs.length:Int)∧xs.length≤aW)∧(r1=true→nU (dflt (I.prod Ty.unit)) (jf (xs,(↑xs.length:Int),(0:Int),())) =(nt (cg l7 xs (0:Int)),()))∧(r1=false→((-1:Int),()) =(nt (cg l7 xs (0:Int)),())))
 intro r1
 clear_value (hr1:r1=_)
 have e:jf (xs,(xs.length:Int),0,())=El (cg l7 xs 0):=rfl
 try subst hr1
 rw [e]
 refine ⟨⟨rfl,rfl,Int.le_refl _,by omega,hx⟩,fun h=>?_,fun h=>?_⟩ <;> cases hf:cg l7 xs 0 <;> rw [hf] at h <;> first|rfl|cases h
def Eu:FuncId×Ctr:=(164,af KE (qNF 332) bn (sNI 332))
theorem Hi:CtrOK Tryz.prog KE 164 (af KE (qNF 332) bn (sNI 332)):=by
 refine ax (C:=an [zJ] Tryz.f164) (al (.consU B0 rfl .nil) _) mixed (fn:=Tryz.f164) Tryz.func164 (by kernel_rfl) (by kernel_rfl) (by kernel_rfl) (by kernel_rfl) (by kernel_rfl) (by kernel_rfl) (Λ:=fun x=>find [(Ft,Gu)]) ?_ ?_
 ·rintro ⟨xs,⟨⟩⟩ hw hn
  exact LoopsOKp.at (by kernel_rfl) (.cons (by kernel_rfl) (GZ) .nil)
 ·rintro ⟨xs,⟨⟩⟩ hw hn
  exact Fz xs (eZ (bo hw))
theorem Fv (xs:List Int) :(evPat (an [Eu] Tryz.f91) (fun _=>none) Tryz.f91 (qNF 332) aC (xs,())).sat fun z_=>z_ =((sNC 332) (xs,())).2:=by
 refine cast (by kernel_rfl) (?_ :(decide (nt (cg l7 xs (0:Int))≥(0:Int)),()) =(pI xs,()))
 have e:=ju (p:=l7) (l:=xs) (i:=0)
 unfold pI
 rw [←e]
 cases hf:cg l7 xs 0 with
 | none=>rfl
 | some k=>
  have:=m6 hf
  simp [this,nt]
def Ep:FuncId×Ctr:=(91,af KE (qNF 332) aC (sNC 332))
theorem Hf:CtrOK Tryz.prog KE 91 (af KE (qNF 332) aC (sNC 332)):=by
 refine ax (C:=an [Eu] Tryz.f91) (al (.consU Hi rfl .nil) _) mixed (fn:=Tryz.f91) Tryz.func91 (by kernel_rfl) (by kernel_rfl) (by kernel_rfl) (by kernel_rfl) (by kernel_rfl) (by kernel_rfl) (Λ:=fun _ _=>none) ?_ ?_
 ·exact fun _ _ _ _ _ _ _ _ h=>by cases h
 ·rintro ⟨xs,⟨⟩⟩ hw hn
  exact Fv xs
noncomputable def lpDf:Lp:=(⟨0,an [cp,k47] Tryz.f286,(fun _=>none),(aE Tryz.f286 0),qDf,xDf⟩:Lp)
theorem J7 (l:List Int) (most:Int) (l2:List Int) (n:Int) (i:Int) (hi:ti (l,most,l2,n,i,())) :(Go.Mir.stepG lpDf ir (fun y:Den (tyP lpDf.q)=>ti y∧CJ y<CJ (l,most,l2,n,i,())) (l,most,l2,n,i,())∧Go.Mir.stepE lpDf ir (l,most,l2,n,i,())=ir (l,most,l2,n,i,())):=by
 refine cast (by kernel_rfl) (?_:let r1:Bool:=!inW (l2.getD i.toNat (dflt (Ty.int IntKind.i64))) (1:Int) most;let r2:Bool:=bif r1 then true else e9 (List.drop (Int.toNat (0:Int)) (List.take i.toNat l)) (l2.getD i.toNat (dflt (Ty.int IntKind.i64)));((decide (i<n)=true→((0:Int)≤i∧i <(↑l2.length:Int))∧((r1=true→True)∧(r1=false→((0:Int)≤(0:Int)∧(0:Int)≤i∧i≤(↑l.length:Int))∧True))∧(true=true→(r2=true→True)∧(r2=false→ti (l,most,l2,n,IntKind.i64.wrap (i +(1:Int)),())∧CJ (l,most,l2,n,IntKind.i64.wrap (i +(1:Int)),())<CJ (l,most,l2,n,i,()))))∧(decide (i<n)=false→True))∧(bif decide (i<n) then bif true&&true then bif r2 then Sum.inl (false,()) else ir (l,most,l2,n,IntKind.i64.wrap (i +(1:Int)),()) else bif true then bif r2 then Sum.inl (false,()) else ir (l,most,l2,n,IntKind.i64.wrap (i +(1:Int)),()) else bif r1 then Sum.inl (dflt (Ty.bool.prod Ty.unit)) else Sum.inl (dflt (Ty.bool.prod Ty.unit)) else Sum.inr ())=ir (l,most,l2,n,i,()))
 intro r1 r2
 clear_value (hr1:r1=_) (hr2:r2=_)
 obtain ⟨h0,h1,h2,h3,h4⟩:=hi
 simp only at h0 h1 h2 h3 h4
 subst h0
 have h5 :(l2.length:Int)≤140737488355328:=by have:l2.length≤140737488355328:=h4;omega
 refine ⟨⟨fun h=>?_,fun _=>trivial⟩,?_⟩
 ·have h:i<n:=of_decide_eq_true h
  rw [bM (n:=i+1) (by omega) (by omega)]
  exact ⟨⟨h2,by omega⟩,⟨fun _=>trivial,fun _=>⟨⟨Int.le_refl _,h2,by omega⟩,trivial⟩⟩,fun _=>⟨fun _=>trivial,fun _=>⟨⟨rfl,h1,by simp only;omega,by simp only;omega,h4⟩,by simp only [CJ];omega⟩⟩⟩
 ·by_cases h:i<n
  ·rw [decide_eq_true h,cond_true,bM (n:=i+1) (by omega) (by omega)]
   have e:l2.drop i.toNat=l2.getD i.toNat (dflt (Ty.int IntKind.i64))::l2.drop (i+1).toNat:=dT h2 (by omega) _
   have et:l2.take (i+1).toNat=l2.take i.toNat++[l2.getD i.toNat (dflt (Ty.int IntKind.i64))]:=Ie h2 (by omega) _
   rw [hr2,hr1]
   generalize l2.getD i.toNat (dflt (Ty.int IntKind.i64))=v at e et ⊢
   simp only [ir,e,et,s5,Int.toNat_zero,List.drop_zero]
   cases inW v 1 most <;> cases e9 (l2.take i.toNat) v <;> rfl
  ·rw [decide_eq_false h]
   show (Sum.inr ():Sum (Bool×Unit) Unit)=_
   simp only [ir]
   rw [c7 (l:=l2) (by omega)]
   rfl
noncomputable def IY:LoopSum:=bf lpDf ir ti
noncomputable def II:Nat:=rid (aE Tryz.f286 0)
theorem Jw:LoopOKp Tryz.prog 0 Tryz.f286.ntmps (aE Tryz.f286 0) (bf lpDf ir ti):=
 bT lpDf (al (.consU dY rfl (.consU Ha rfl .nil)) _) mixed (fun b hb S hS=>by cases hS) ir ti CJ (fun |⟨l,most,l2,n,i,⟨⟩⟩,hi=>J7 l most l2 n i hi)
theorem FI (l:List Int) (most:Int) (hx:l.length≤aW) :(evPat (an [cp,k47] Tryz.f286) (find [(II,IY)]) Tryz.f286 qLM aC (l,most,())).sat fun z_=>z_ =(FX (l,most,())).2:=by
 refine cast (by kernel_rfl) (?_:let r1:Bool:=isL (ir (l,most,l,(↑l.length:Int),(0:Int),()));((fh fun x=>none)∧l=l∧dn (l,(↑l.length:Int),(0:Int),()))∧(r1=true→nU (dflt (Ty.bool.prod Ty.unit)) (ir (l,most,l,(↑l.length:Int),(0:Int),())) =(gw l most,()))∧(r1=false→(true,()) =(gw l most,())))
 intro r1
 clear_value (hr1:r1=_)
 have e:ir (l,most,l,(l.length:Int),0,())=G8 (gw l most):=rfl
 try subst hr1
 rw [e]
 refine ⟨⟨rfl,rfl,rfl,Int.le_refl _,by simp only;omega,hx⟩,fun h=>?_,fun h=>?_⟩ <;> cases hf:gw l most <;> rw [hf] at h <;> first|rfl|cases h
def EB:FuncId×Ctr:=(286,af KE qLM aC FX)
theorem Hq:CtrOK Tryz.prog KE 286 (af KE qLM aC FX):=by
 refine ax (C:=an [cp,k47] Tryz.f286) (al (.consU dY rfl (.consU Ha rfl .nil)) _) mixed (fn:=Tryz.f286) Tryz.func286 (by kernel_rfl) (by kernel_rfl) (by kernel_rfl) (by kernel_rfl) (by kernel_rfl) (by kernel_rfl) (Λ:=fun x=>find [(II,IY)]) ?_ ?_
 ·rintro ⟨l,most,⟨⟩⟩ hw hn
  exact LoopsOKp.at (by kernel_rfl) (.cons (by kernel_rfl) (Jw) .nil)
 ·rintro ⟨l,most,⟨⟩⟩ hw hn
  exact FI l most (eZ (bo hw))
theorem yM (x:Innings) (hs:ah x) :(evPat (an [Ep] Tryz.f287) (fun _=>none) Tryz.f287 qIn aC (x,())).sat fun z_=>z_ =(F5 (x,())).2:=by
 refine cast (by kernel_rfl) (?_:let r1:List Int:= [x.2,x.4,x.6.1,x.6.2,x.6.3,x.6.4,x.6.5,x.7,x.18,x.20,x.22.1,x.22.2.1];((0:Int)≤(0:Int)∧(0:Int) <(↑(2:Nat):Int))∧((0:Int)≤(1:Int)∧(1:Int) <(↑(2:Nat):Int))∧(r1.length+x.16.length) *(8:Nat)≤(70368744177664:Nat)∧(!pI (r1++x.16),()) =(qW x,()))
 intro r1
 clear_value (hr1:r1=_)
 have hl:r1.length=12:=by rw [hr1];rfl
 have:=hs.2.2.2.1
 refine ⟨by omega,by omega,by omega,?_⟩
 rw [hr1];rfl
def tx:FuncId×Ctr:=(287,af KE qIn aC F5)
theorem zY:CtrOK Tryz.prog KE 287 (af KE qIn aC F5):=by
 refine ax (C:=an [Ep] Tryz.f287) (al (.consU Hf rfl .nil) _) mixed (fn:=Tryz.f287) Tryz.func287 (by kernel_rfl) (by kernel_rfl) (by kernel_rfl) (by kernel_rfl) (by kernel_rfl) (by kernel_rfl) (Λ:=fun _ _=>none) ?_ ?_
 ·exact fun _ _ _ _ _ _ _ _ h=>by cases h
 ·rintro ⟨x,⟨⟩⟩ hw hn
  exact yM x (hn _ List.mem_cons_self)
end Go.Proofs.YthaeofeigglbhaaGreatDoor
namespace Go.Proofs.YthaeofeigglbhaaGreatDoor
open Go Go.Mir
attribute [local irreducible] Go.Mir.DT.sat Go.Mir.evPat Go.Mir.RT.sat Go.Mir.evFn
def ka (S O:Int):List Int→Int→Int→Int→Bool→Option (Int×Int×Bool)
 | [],_,o,b,g=>some (o,b,g)
 | s::r,i,o,b,g=>if s>3 then none
  else if s==1 then (if S != i+1&&O != i+1 then none else ka S O r (i+1) o (b+1) true)
  else ka S O r (i+1) (if s==2 then o+1 else o) b (g||s != 0)
abbrev qBc:Pat:=⟨[(2,.c (.ptr 0 0)),(1,.h I),(5,.h I),(6,.h I),(7,.h .bool),(12,.h U8s),(13,.h I),(14,.h I)],[(0,.dat (.nm .Innings))],1⟩
abbrev xBc:List (Lf×Pat):= [(.ret,⟨[(4,.h .bool)],[],0⟩),(.ext 0,⟨[(2,.c (.ptr 0 0)),(1,.h I),(5,.h I),(6,.h I),(7,.h .bool)],[(0,.dat (.nm .Innings))],1⟩)]
abbrev TBc:Type:=Int×Int×Int×Bool×List Int×Int×Int×Innings×Unit
def qt (x:TBc):Prop:=dn (x.2.2.2.2.1,x.2.2.2.2.2.1,x.2.2.2.2.2.2.1,())∧x.2.2.2.2.1.length≤1000000∧(0≤x.2.1∧x.2.1≤x.2.2.2.2.2.2.1)∧(0≤x.2.2.1∧x.2.2.1≤x.2.2.2.2.2.2.1)
def xY (x:TBc):Nat:=(x.2.2.2.2.2.1 - x.2.2.2.2.2.2.1).toNat
def tR (side:Int) (x:Innings):Option (Int×Int×Bool)→Sum (Bool×Unit) (Int×Int×Int×Bool×Innings×Unit)
 | none=> .inl (false,())
 | some (o,b,g)=> .inr (side,o,b,g,x,())
def fK (x:TBc):Sum (Bool×Unit) (Int×Int×Int×Bool×Innings×Unit):=
 tR x.1 x.2.2.2.2.2.2.2.1 (ka x.2.2.2.2.2.2.2.1.Striker x.2.2.2.2.2.2.2.1.Other (x.2.2.2.2.1.drop x.2.2.2.2.2.2.1.toNat) x.2.2.2.2.2.2.1 x.2.1 x.2.2.1 x.2.2.2.1)
def lX (x:Innings):Int:=(if x.Striker != 0 then 1 else 0) +(if x.Other != 0 then 1 else 0)
def DU (x:Innings) (side:Int):Option (Int×Int×Bool)→Bool
 | none=>false
 | some (o,b,g)=>if !inW x.Striker 0 side||!inW x.Other 0 side||x.Striker==x.Other&&x.Striker != 0 then false
  else lX x==b&&(!g||decide (lX x>0))&&o==x.Wickets
def oX (x:Innings) (side:Int):Bool:=DU x side (ka x.Striker x.Other x.Batters 0 0 0 false)
def FT:Den (tyP jb)→List Prop×Den (tyP aC):=fun x=>([ah x.1],(oX x.1 x.2.1,()))
noncomputable def lpBc:Lp:=(⟨0,an [cp] Tryz.f285,(fun _=>none),(aE Tryz.f285 0),qBc,xBc⟩:Lp)
theorem J5 (side:Int) (o:Int) (b:Int) (g:Bool) (xs:List Int) (n:Int) (i:Int) (x:Innings) (hi:qt (side,o,b,g,xs,n,i,x,())) :(Go.Mir.stepG lpBc fK (fun y:Den (tyP lpBc.q)=>qt y∧xY y<xY (side,o,b,g,xs,n,i,x,())) (side,o,b,g,xs,n,i,x,())∧Go.Mir.stepE lpBc fK (side,o,b,g,xs,n,i,x,())=fK (side,o,b,g,xs,n,i,x,())):=by
 refine cast (by kernel_rfl) (?_:let r1:Int:=IntKind.i64.wrap (i +(1:Int));let r2:Bool:=xs.getD i.toNat (dflt (Ty.int IntKind.u8)) ==(1:Int);let r3:Bool:=xs.getD i.toNat (dflt (Ty.int IntKind.u8)) ==(2:Int);let r4:Bool:=bif g then true else xs.getD i.toNat (dflt (Ty.int IntKind.u8)) !=(0:Int);let r5:Bool:=decide (xs.getD i.toNat (dflt (Ty.int IntKind.u8)) >(3:Int));let r6:Bool:=bif x.9 != r1 then x.10 != r1 else false;let r7:Bool:=bif r5 then false else bif r2 then !r6 else true;((decide (i<n)=true→(r7=true→(((0:Int)≤i∧i <(↑xs.length:Int))∧(r5=true→False)∧(r5=false→(r2=true→(r6=true→False)∧(r6=false→True))∧(r2=false→(r3=true→True)∧(r3=false→True))))∧qt (side,bif r2 then o else bif r3 then IntKind.i64.wrap (o +(1:Int)) else o,bif r2 then IntKind.i64.wrap (b +(1:Int)) else b,bif r2 then r4 else bif r3 then r4 else r4,xs,n,r1,x,())∧xY (side,bif r2 then o else bif r3 then IntKind.i64.wrap (o +(1:Int)) else o,bif r2 then IntKind.i64.wrap (b +(1:Int)) else b,bif r2 then r4 else bif r3 then r4 else r4,xs,n,r1,x,())<xY (side,o,b,g,xs,n,i,x,()))∧(r7=false→((0:Int)≤i∧i <(↑xs.length:Int))∧(r5=true→True)∧(r5=false→(r2=true→(r6=true→True)∧(r6=false→True))∧(r2=false→(r3=true→True)∧(r3=false→True)))))∧(decide (i<n)=false→True))∧(bif decide (i<n) then bif false&&(false&&true&&(true&&true)) then fK (side,bif r2 then o else bif r3 then IntKind.i64.wrap (o +(1:Int)) else o,bif r2 then IntKind.i64.wrap (b +(1:Int)) else b,bif r2 then r4 else bif r3 then r4 else r4,xs,n,r1,x,()) else bif r7 then fK (side,bif r2 then o else bif r3 then IntKind.i64.wrap (o +(1:Int)) else o,bif r2 then IntKind.i64.wrap (b +(1:Int)) else b,bif r2 then r4 else bif r3 then r4 else r4,xs,n,r1,x,()) else bif r5 then Sum.inl (false,()) else bif r2 then bif r6 then Sum.inl (false,()) else Sum.inl (dflt (Ty.bool.prod Ty.unit)) else bif r3 then Sum.inl (dflt (Ty.bool.prod Ty.unit)) else Sum.inl (dflt (Ty.bool.prod Ty.unit)) else Sum.inr (side,o,b,g,x,()))=fK (side,o,b,g,xs,n,i,x,()))
 intro r1 r2 r3 r4 r5 r6 r7
 clear_value (hr1:r1=_) (hr2:r2=_) (hr3:r3=_) (hr4:r4=_) (hr5:r5=_) (hr6:r6=_) (hr7:r7=_)
 obtain ⟨⟨h1,h2,h3,h4⟩,h6,⟨h7,h8⟩,⟨h9,h10⟩⟩:=hi
 simp only at h1 h2 h3 h4 h6 h7 h8 h9 h10
 by_cases h:i<n
 ·have e:xs.drop i.toNat=xs.getD i.toNat (dflt (Ty.int IntKind.u8))::xs.drop (i+1).toNat:=dT h2 (by omega) _
  have hw:r1=i+1:=by rw [hr1];exact bM (by omega) (by omega)
  have ho:IntKind.i64.wrap (o+1)=o+1:=bM (by omega) (by omega)
  have hb:IntKind.i64.wrap (b+1)=b+1:=bM (by omega) (by omega)
  generalize xs.getD i.toNat (dflt (Ty.int IntKind.u8))=v at *
  have hx :(0:Int)≤i∧i <(xs.length:Int):=by omega
  have inv :∀ o' b' g',(o'=o∨o'=o+1)→(b'=b∨b'=b+1)→qt (side,o',b',g',xs,n,i+1,x,())∧xY (side,o',b',g',xs,n,i+1,x,())<xY (side,o,b,g,xs,n,i,x,()):=fun o' b' g' ho hb=>by
   refine ⟨⟨⟨h1,by simp only;omega,by simp only;omega,h4⟩,h6,⟨?_,?_⟩,⟨?_,?_⟩⟩,?_⟩ <;> simp only [xY] <;> omega
  have er:fK (side,o,b,g,xs,n,i,x,())=tR side x (ka x.Striker x.Other (v::xs.drop (i+1).toNat) i o b g):=by rw [←e];rfl
  have er2 :∀ o' b' g',fK (side,o',b',g',xs,n,i+1,x,())=tR side x (ka x.Striker x.Other (xs.drop (i+1).toNat) (i+1) o' b' g'):=fun _ _ _=>rfl
  rw [er,hw,ho,hb]
  rw [hw] at hr6
  by_cases hv:v>3
  ·have e5:r5=true:=by rw [hr5];simpa using hv
   subst hr7
   simp [e5,h,hx,ka,hv,tR]
  ·have e5:r5=false:=by rw [hr5];simpa using hv
   have hv2 :¬(3:Int)<v:=hv
   by_cases hs:v=1
   ·have e2:r2=true:=by rw [hr2,hs];rfl
    have e4:r4=true:=by rw [hr4,hs];cases g <;> rfl
    cases h6':r6 with
    | true=>
     have h6'' :(x.Striker != i+1&&x.Other != i+1)=true:=by grind
     have hn:ka x.Striker x.Other (v::xs.drop (i+1).toNat) i o b g=none:=by
      rw [hs];unfold ka;rw [if_neg (by omega),h6''];rfl
     rw [hn]
     subst hr7
     simp [e5,e2,h,hx,h6',tR]
    | false=>
     have h6'' :(x.Striker != i+1&&x.Other != i+1)=false:=by grind
     have hn:ka x.Striker x.Other (v::xs.drop (i+1).toNat) i o b g=ka x.Striker x.Other (xs.drop (i+1).toNat) (i+1) o (b+1) true:=by
      rw [hs]
      conv=>lhs;unfold ka
      rw [if_neg (by omega),h6''];rfl
     rw [hn,←er2]
     subst hr7
     have:=inv o (b+1) true (.inl rfl) (.inr rfl)
     simp [e5,e2,e4,h,hx,h6',this]
   ·have e2:r2=false:=by rw [hr2];simpa using hs
    have e4:r4 =(g||v != 0):=by rw [hr4];cases g <;> rfl
    have hn:ka x.Striker x.Other (v::xs.drop (i+1).toNat) i o b g=ka x.Striker x.Other (xs.drop (i+1).toNat) (i+1) (if r3 then o+1 else o) b r4:=by
     conv=>lhs;unfold ka
     rw [if_neg hv,←hr2,e2,←hr3,←e4];rfl
    rw [hn,←er2]
    subst hr7
    have:=inv (if r3 then o+1 else o) b r4 (by split <;> simp) (.inl rfl)
    cases h3':r3 <;> rw [h3'] at this <;> simp at this <;> simp [e5,e2,h,hx,this]
 ·have er:fK (side,o,b,g,xs,n,i,x,()) = .inr (side,o,b,g,x,()):=by
   simp only [fK]
   rw [c7 (l:=xs) (by omega)]
   rfl
  rw [er]
  simp [h]
noncomputable def IW:LoopSum:=bf lpBc fK qt
noncomputable def IG:Nat:=rid (aE Tryz.f285 0)
theorem Ju:LoopOKp Tryz.prog 0 Tryz.f285.ntmps (aE Tryz.f285 0) (bf lpBc fK qt):=
 bT lpBc (al (.consU dY rfl .nil) _) mixed (fun b hb S hS=>by cases hS) fK qt xY (fun |⟨side,o,b,g,xs,n,i,x,⟨⟩⟩,hi=>J5 side o b g xs n i x hi)
theorem yJ (x:Innings) (side:Int) (hs:ah x) :(evPat (an [cp] Tryz.f285) (find [(IG,IW)]) Tryz.f285 jb aC (x,side,())).sat fun z_=>z_ =(FT (x,side,())).2:=by
 refine cast (by kernel_rfl) (?_:let r1:Bool:=isL (fK (side,(0:Int),(0:Int),false,x.11,(↑x.11.length:Int),(0:Int),x,()));let r2:Int×Int×Int×Bool×Innings×PUnit:=zD (dflt (I.prod (I.prod (I.prod (Ty.bool.prod ((Ty.nm Nm.Innings).prod Ty.unit)))))) (fK (side,(0:Int),(0:Int),false,x.11,(↑x.11.length:Int),(0:Int),x,()));let r3:Bool:=r2.2.2.2.2.1.9 !=(0:Int);let r4:Int:=bif r3 then IntKind.i64.wrap ((0:Int) +(1:Int)) else (0:Int);let r5:Bool:=r2.2.1==r2.2.2.2.2.1.5;let r6:Int:=bif r2.2.2.2.2.1.10 !=(0:Int) then IntKind.i64.wrap (r4 +(1:Int)) else r4;let r7:Bool:=bif !inW r2.2.2.2.2.1.9 (0:Int) r2.1 then true else bif !inW r2.2.2.2.2.1.10 (0:Int) r2.1 then true else bif r2.2.2.2.2.1.9==r2.2.2.2.2.1.10 then r3 else false;((fh fun x=>none)∧dn (x.11,(↑x.11.length:Int),(0:Int),())∧x.11.length≤(1000000:Nat)∧((0:Int)≤(0:Int)∧(0:Int)≤(0:Int))∧(0:Int)≤(0:Int)∧(0:Int)≤(0:Int))∧(r1=true→nU (dflt (Ty.bool.prod Ty.unit)) (fK (side,(0:Int),(0:Int),false,x.11,(↑x.11.length:Int),(0:Int),x,())) =(oX x side,()))∧(r1=false→(r7=true→(false,()) =(oX x side,()))∧(r7=false→(bif r6==r2.2.2.1 then bif !r2.2.2.2.1 then r5 else bif decide (r6 >(0:Int)) then r5 else false else false,()) =(oX x side,()))))
 intro r1 r2 r3 r4 r5 r6 r7
 clear_value (hr1:r1=_) (hr2:r2=_) (hr3:r3=_) (hr4:r4=_) (hr5:r5=_) (hr6:r6=_) (hr7:r7=_)
 have er:fK (side,0,0,false,x.Batters,(x.Batters.length:Int),0,x,())=tR side x (ka x.Striker x.Other x.Batters 0 0 0 false):=rfl
 try rw [er] at hr1
 try rw [er] at hr2
 try rw [er]
 have hw1:IntKind.i64.wrap ((0:Int)+1)=1:=rfl
 have hw2:IntKind.i64.wrap ((1:Int)+1)=2:=rfl
 refine ⟨⟨rfl,⟨rfl,Int.le_refl _,by simp only;omega,?_⟩,hs.1,⟨Int.le_refl _,Int.le_refl _⟩,Int.le_refl _,Int.le_refl _⟩,fun h=>?_,fun h=>?_⟩
 ·have:=hs.1
  show x.Batters.length≤140737488355328
  omega
 ·cases hb:ka x.Striker x.Other x.Batters 0 0 0 false with
  | none=>simp only [oX,hb];rfl
  | some q=>rw [hb] at hr1;rw [hr1] at h;cases h
 ·cases hb:ka x.Striker x.Other x.Batters 0 0 0 false with
  | none=>rw [hb] at hr1;rw [hr1] at h;cases h
  | some q=>
   obtain ⟨o,b,g⟩:=q
   rw [hb] at hr2
   have e2:r2 =(side,o,b,g,x,()):=hr2
   subst e2
   simp only at hr3 hr5 hr6 hr7 ⊢
   have e6:r6=lX x:=by
    rw [hr6,hr4,hr3,hw1]
    unfold lX
    cases x.Striker != 0 <;> cases x.Other != 0 <;> rfl
   have e7:r7 =(!inW x.Striker 0 side||!inW x.Other 0 side||x.Striker==x.Other&&x.Striker != 0):=by
    rw [hr7,hr3]
    cases inW x.Striker 0 side <;> cases inW x.Other 0 side <;> cases x.Striker==x.Other <;> rfl
   rw [e6,hr5]
   simp only [oX,hb,DU]
   rw [←e7]
   refine ⟨fun h7=>by rw [h7];rfl,fun h7=>?_⟩
   rw [h7]
   cases lX x==b <;> cases g <;> cases decide (lX x>0) <;> rfl
def tv:FuncId×Ctr:=(285,af KE jb aC FT)
theorem zW:CtrOK Tryz.prog KE 285 (af KE jb aC FT):=by
 refine ax (C:=an [cp] Tryz.f285) (al (.consU dY rfl .nil) _) mixed (fn:=Tryz.f285) Tryz.func285 (by kernel_rfl) (by kernel_rfl) (by kernel_rfl) (by kernel_rfl) (by kernel_rfl) (by kernel_rfl) (Λ:=fun x=>find [(IG,IW)]) ?_ ?_
 ·rintro ⟨x,side,⟨⟩⟩ hw hn
  exact LoopsOKp.at (by kernel_rfl) (.cons (by kernel_rfl) (Ju) .nil)
 ·rintro ⟨x,side,⟨⟩⟩ hw hn
  exact yJ x side (hn _ List.mem_cons_self)
end Go.Proofs.YthaeofeigglbhaaGreatDoor
namespace Go.Proofs.YthaeofeigglbhaaGreatDoor
open Go Go.Mir
def aU (n lo hi:Int):Bool:=decide (n≥lo)&&decide (n≤hi)
def cH (r:Rules):Bool:=
 aU r.Side 2 11&&(aU r.Innings 1 2&&(aU r.Overs 0 90&&(aU r.Balls 4 8&&(aU r.Quota 0 90&&(aU r.Wide 1 5&&(aU r.NoBall 1 5&&(
 aU r.NewBall 0 200&&(aU r.FollowOn 0 1000&&(aU r.Reviews 0 9&&aU r.Outside 0 11)))))))))
def cE (r:Rules) (i:Nat):Phase:=r.Power.getD i Phase.zero
def rk (r:Rules) (p:Phase):Bool:=decide (p.From<1) ||(decide (p.From>p.To) ||(decide (p.To>r.Overs)||!aU p.Outside 0 11))
def mj (r:Rules) (i:Nat):Int:=
 if rk r (cE r i) then 2 else if decide ((i:Int)>0)&&decide ((cE r i).From≤(cE r (i - 1)).To) then 8 else 0
def dF (r:Rules):Nat→Nat→Int
 | _,0=>0
 | i,n+1=>if mj r i != 0 then mj r i else dF r (i+1) n
def fC (r:Rules):Int:=if (r.Power.length:Int)>8 then 9 else dF r 0 r.Power.length
def pN (s:ByteArray) (i:Nat):Int:=((s.data.getD i 0).toNat:Int)
def BN (c:Int):Bool:=decide (c≥65)&&decide (c≤90)
def Bf (i:Int) (c:Int):Bool:=!BN c&&(i==0 ||(c != 95&&(c != 45&&(decide (c<48)||decide (c>57)))))
def mh (s:ByteArray):Bool:=(List.range s.size).all (fun i=>!Bf i (pN s i))&&(decide ((s.size:Int)≥1)&&decide ((s.size:Int)≤16))
def HI:Ty:= .prod (.int .i64) (.prod (.int .i64) (.prod (.int .i64) .unit))
def wX:Den HI→PRes:=fun x=>⟨[],.bool (aU x.1 x.2.1 x.2.2.1),[]⟩
def pb:Ty:= .prod (.nm .Rules) .unit
def wU:Den pb→PRes:=fun x=>⟨[],.bool (cH x.1),[]⟩
def wV:Den pb→PRes:=fun x=>⟨[],.int .i64 (fC x.1),[]⟩
def HN:Ty:= .prod .str .unit
def wW:Den HN→PRes:=fun x=>⟨[],.bool (mh x.1),[]⟩
def bs (x:Innings) (p:Int):Bool:=decide (p≥1)&&decide (p≤(x.Bowled.length:Int))
def wP:Den iY→PRes:=fun x=>⟨[],.bool (bs x.1 x.2.1),[]⟩
def k97:FuncId×Ctr:=(295,ar K8 HI wX)
def k93:FuncId×Ctr:=(230,ar K8 pb wU)
def k94:FuncId×Ctr:=(231,ar K8 pb wV)
def k92:FuncId×Ctr:=(229,ar K8 HN wW)
def k84:FuncId×Ctr:=(396,ar K8 iY wP)
def k83:FuncId×Ctr:=(383,ar K8 psI fT)
def Bv (r:Rules) (i:Nat):Prop:=i≤r.Power.length∧dF r 0 r.Power.length=dF r i (r.Power.length - i)
def L94 (i:Nat):List (Lspec Nat):= [.out [true] [] [],.out [true] [] [],.next (i+1) [] [],.out [false] [] []]
def J94 (r:Rules) (i:Nat):St:=⟨[(1,.ptr 0 0),(10,.fsl (.nm .Phase) r.Power),(11,.int .i64 r.Power.length),(12,.int .i64 i)],[(0,.cells (flat eu (.nm .Rules) r))],fun _=>none,8⟩
def T94 (r:Rules):Tr:= .br (dF r 0 r.Power.length != 0) (.leaf .ret ⟨[(2,.int .i64 (dF r 0 r.Power.length))],[]⟩ 8) (.leaf (.ext 0) ⟨[],[]⟩ 8)
def Λ94 (r:Rules):Nat→Option LoopSum:=find [(4,ck ⟨[],[],8⟩ (J94 r 0) (T94 r))]
def jx (s:ByteArray) (i:Nat):Bool:=(List.range i).all (fun k=>!Bf k (pN s k))
def Bw (s:ByteArray) (i:Nat):Prop:=i≤s.size∧jx s i=true
def L95 (i:Nat):List (Lspec Nat):= [.out [false] [] [],.next (i+1) [] [],.out [true] [] []]
end Go.Proofs.YthaeofeigglbhaaGreatDoor
namespace Go.Proofs.YthaeofeigglbhaaGreatDoor
open Go Go.Mir
def ux (r:Rules):Bool:=(r.FollowOn != 0&&r.Innings==1) ||((r.Quota != 0||decide ((r.Power.length:Int)>0))&&r.Overs==0)
def uE (r:Rules):Bool:=r.Quota != 0&&decide (IntKind.i64.wrap (r.Quota*r.Side)<r.Overs)
def az (r:Rules):Int:=if !mh r.Name then 5 else if !cH r then 2 else if ux r then 1 else if uE r then 13 else fC r
def wQ:Den pb→PRes:=fun x=>⟨[],.int .i64 (az x.1),[]⟩
def k85:FuncId×Ctr:=(143,ar K8 pb wQ)
def jY:Ty:= .prod (.nm .Rules) (.prod (.nm .Innings) (.prod (.int .i64) .unit))
def jh (r:Rules) (x:Innings) (p:Int):Int:=
 if !bs x p||az r != 0 then 0 else if r.Quota==0 then -1
 else qT (IntKind.i64.wrap (IntKind.i64.wrap (r.Quota*r.Balls) - qT (x.Bowled.getD (p - 1).toNat 0) 0)) 0
def wN:Den jY→PRes:=fun x=>⟨[],.int .i64 (jh x.1 x.2.1 x.2.2.1),[]⟩
def k81:FuncId×Ctr:=(397,ar K8 jY wN)
end Go.Proofs.YthaeofeigglbhaaGreatDoor
namespace Go.Proofs.YthaeofeigglbhaaGreatDoor
open Go Go.Mir
def cI (r:Rules) (x:Innings) (p:Int):Int:=
 if !bs x p||az r != 0 then 3
 else if p==x.Keeper ||(p==x.Bowler||aO x p) then 7
 else if e9 x.Before p then 8
 else if jh r x p != -1&&decide (x.InOver<IntKind.i64.wrap (r.Balls - jh r x p)) then 9 else 0
def wO:Den jY→PRes:=fun x=>⟨[],.int .i64 (cI x.1 x.2.1 x.2.2.1),[]⟩
def k82:FuncId×Ctr:=(384,ar K8 jY wO)
def bE (r:Rules) (x:Innings) (p:Int):Innings:=if cI r x p==0 then { x with Bowler:=p } else x
def wz:Den jY→PRes:=fun x=>⟨[ah x.2.1],.tup [Ao (bE x.1 x.2.1 x.2.2.1),.int .i64 (cI x.1 x.2.1 x.2.2.1)],rA (bE x.1 x.2.1 x.2.2.1)⟩
def k50:FuncId×Ctr:=(360,ar K8 jY wz)
def BU (r:Rules) (x:Innings):Bool:=az r != 0 ||(r.NewBall==0||decide (x.BallAge<IntKind.i64.wrap (r.NewBall*r.Balls)))
def bk (r:Rules) (x:Innings):Innings:=if BU r x then x else { x with BallAge:=0 }
def vr (r:Rules) (x:Innings):Int:=if BU r x then 22 else 0
def wB:Den yq→PRes:=fun x=>⟨[ah x.2.1],.tup [Ao (bk x.1 x.2.1),.int .i64 (vr x.1 x.2.1)],rA (bk x.1 x.2.1)⟩
def k55:FuncId×Ctr:=(368,ar K8 yq wB)
def eB (x:Innings):List Int:=if e9 x.Bowlers x.Bowler then x.Bowlers else x.Bowlers++[x.Bowler]
def pM (x:Innings):List Int:=x.Bowled.set (x.Bowler - 1).toNat (IntKind.i64.wrap (x.Bowled.getD (x.Bowler - 1).toNat 0+1))
def cS (x:Innings) (c:Bool):Innings:=
 if c then { x with Bowlers:=eB x,Bowled:=pM x,InOver:=IntKind.i64.wrap (x.InOver+1),BallAge:=IntKind.i64.wrap (x.BallAge+1) } else { x with Bowlers:=eB x }
def yf (y:Innings):Innings:={ y with Complete:=IntKind.i64.wrap (y.Complete+1),InOver:=0,Before:=y.Bowlers,Bowlers:= [],Bowler:=0 }
def jF (r:Rules) (x:Innings):Bool:=!bs x x.Bowler||az r != 0
def ao (r:Rules) (x:Innings) (c:Bool):Innings:=if jF r x then x else if (cS x c).InOver<r.Balls then cS x c else yf (cS x c)
def hJ (r:Rules) (x:Innings) (c:Bool):Bool:=if jF r x then false else if (cS x c).InOver<r.Balls then false else true
def B9:Ty:= .prod (.nm .Rules) (.prod (.nm .Innings) (.prod .bool .unit))
def wA:Den B9→PRes:=fun x=>⟨[ah x.2.1],.tup [Ao (ao x.1 x.2.1 x.2.2.1),.bool (hJ x.1 x.2.1 x.2.2.1)],rA (ao x.1 x.2.1 x.2.2.1)⟩
def k51:FuncId×Ctr:=(387,ar K8 B9 wA)
end Go.Proofs.YthaeofeigglbhaaGreatDoor
namespace Go.Proofs.YthaeofeigglbhaaGreatDoor
open Go Go.Mir
def J92 (s:ByteArray) (i:Nat):St:=⟨[(0,.str s),(7,.osl 16 16),(8,.int .i64 (aN s).length),(9,.int .i64 i)],[(16,.row 16 true (.int .u8) (aN s))],fun _=>none,40⟩
def T92 (s:ByteArray):Tr:= .br (jx s s.size) (.leaf (.ext 0) ⟨[(0,.str s)],[]⟩ 40) (.leaf .ret ⟨[(2,.kb false)],[]⟩ 40)
def Λ92 (s:ByteArray):Nat→Option LoopSum:=find [(2,ck ⟨[],[],40⟩ (J92 s 0) (T92 s))]
end Go.Proofs.YthaeofeigglbhaaGreatDoor
