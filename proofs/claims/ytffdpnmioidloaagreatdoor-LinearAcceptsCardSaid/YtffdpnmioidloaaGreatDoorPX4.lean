/- Texts of the mirror and contracts, put together. -/
import Derived.Test.YtffdpnmioidloaaGreatDoorPX3
namespace Go.Proofs.YtffdpnmioidloaaGreatDoor
open Go Go.Mir
abbrev KK:Nat:=4
def cfg (l:rD) (n:Nat):Cfg:=⟨tbl,find l,KK,n⟩
def lf (l:rD) (fn:Func):Cfg:=cfg l fn.ntmps
theorem mixed:Tryz.prog.follows .mixedOrders=true:=by kernel_rfl
theorem kS {l:rD} (h:CtrsOK Tryz.prog KK l) (n:Nat):CfgOK Tryz.prog (cfg l n):=⟨Ep,by show 1≤KK;decide,h⟩
theorem dI {n:Int} (h1:-9223372036854775808≤n) (h2:n≤9223372036854775807):IntKind.i64.wrap n=n:=by
 simp only [IntKind.wrap,IntKind.bits,IntKind.signed]
 simp
 omega
def idx:List Int→Int→Int→Int
 | [],_,_=> -1
 | x::xs,v,i=>bif v==x then i else idx xs v (i+1)
theorem sI :∀ (xs:List Int) (v i:Int),v∉xs→idx xs v i = -1
 | [],_,_,_=>rfl
 | x::xs,v,i,h=>by
  simp only [List.mem_cons,not_or] at h
  have :(v==x)=false:=by simpa using h.1
  simp only [idx,this,cond_false]
  exact sI xs v (i+1) h.2
theorem Cy :∀ (xs:List Int) (v i:Int) (k:Nat),xs[k]?=some v→v∉xs.take k→idx xs v i=i+k
 | [],_,_,_,h,_=>by simp at h
 | x::xs,v,i,0,h,_=>by
  simp only [List.getElem?_cons_zero,Option.some.injEq] at h
  subst h
  simp [idx]
 | x::xs,v,i,k+1,h,hn=>by
  simp only [List.getElem?_cons_succ] at h
  simp only [List.take_succ_cons,List.mem_cons,not_or] at hn
  have :(v==x)=false:=by simpa using hn.1
  simp only [idx,this,cond_false]
  rw [Cy xs v (i+1) k h hn.2]
  omega
def J63 (xs:List Int) (v:Int) (i:Nat):St:=⟨[(0,.fsl (.int .u8) xs),(1,.int .u8 v),(7,.int .i64 xs.length),(8,.int .i64 i)],[],fun _=>none,0⟩
def T63 (xs:List Int) (v:Int):Tr:= .br (xs.contains v) (.leaf .ret ⟨[(4,.int .i64 (idx xs v 0))],[]⟩ 0) (.leaf (.ext 0) ⟨[],[]⟩ 0)
def GG:Ty:= .prod (.slice (.int .u8)) (.prod (.int .u8) .unit)
def Λ63 (x:Den GG):Nat→Option LoopSum:=find [(2,c7 ⟨[],[],0⟩ (J63 x.1 x.2.1 0) (T63 x.1 x.2.1))]
def yY:Den GG→PRes:=fun x=>⟨[],.int .i64 (idx x.1 x.2.1 0),[]⟩
def EM (xs:List Int) (v:Int) (i:Nat):Prop:=i≤xs.length∧v∉xs.take i
def L63 (i:Nat):List (Lspec Nat):= [.out [true] [] [],.next (i+1) [] [],.out [false] [] []]
theorem OY (xs:List Int) (v:Int) (hx:xs.length≤aO) (i:Nat) (hi:EM xs v i) :
  (stepObl (J63 xs v) (EM xs v) (fun i=>xs.length - i) i (T63 xs v) (bs (cfg [] 19) (fun _=>none) (aG Tryz.f250 0) (J63 xs v i)) (L63 i)).1:=by
 have h :((decide ((i:Int) <(xs.length:Int))=true→
  (0≤(i:Int)∧(i:Int) <(xs.length:Int))∧
   ((v ==(xs.getD (i:Int).toNat 0))=true→xs.contains v=true∧((i:Int)=idx xs v 0∧True)∧True)∧
    ((v ==(xs.getD (i:Int).toNat 0))=false→
     EM xs v (i+1)∧
      xs.length - (i+1)<xs.length - i∧
       (RowD.mk (.int .u8) xs=RowD.mk (.int .u8) xs∧
         v=v∧(xs.length:Int) =(xs.length:Int)∧IntKind.i64.wrap ((i:Int)+1) =((i+1:Nat):Int)∧True)∧
        True))∧
  (decide ((i:Int) <(xs.length:Int))=false→xs.contains v=false∧True∧True)):=by
  have e :(i:Int).toNat=i:=by simp
  rw [e]
  refine ⟨fun h1=>?_,fun h1=>?_⟩
  ·have h1:i<xs.length:=by simpa using h1
   refine ⟨⟨by omega,by omega⟩,fun h2=>?_,fun h2=>?_⟩
   ·have h2:v=xs.getD i 0:=by simpa using h2
    have h3:xs[i]?=some v:=by rw [h2,List.getD_eq_getElem?_getD,List.getElem?_eq_getElem h1];rfl
    refine ⟨by simpa using List.mem_of_getElem? h3,⟨?_,trivial⟩,trivial⟩
    rw [Cy xs v 0 i h3 hi.2];omega
   ·have h2 :¬ v=xs.getD i 0:=by simpa using h2
    have h3:xs.getD i 0=xs[i]:=by rw [List.getD_eq_getElem?_getD,List.getElem?_eq_getElem h1];rfl
    refine ⟨⟨by omega,?_⟩,by omega,⟨rfl,rfl,rfl,?_,trivial⟩,trivial⟩
    ·rw [List.take_succ_eq_append_getElem h1,List.mem_append,List.mem_singleton,not_or]
     exact ⟨hi.2,by rw [←h3];exact h2⟩
    ·have:xs.length≤140737488355328:=hx
     rw [dI (by omega) (by omega)];omega
  ·have h1 :¬ i<xs.length:=by simpa using h1
   refine ⟨?_,trivial,trivial⟩
   have:=hi.2
   rw [List.take_of_length_le (by omega)] at this
   simpa using this
 exact cast (by kernel_rfl) h
theorem F0 {S:Nat→Prop} {w:World} {t:Ty} {xs:List (Den t)} {cs:List Value} (h:Rd S w (.slice t) xs cs):xs.length≤aO:=by
 cases h with
 | nil=>exact Nat.zero_le _
 | slice _ _ _ _ h _=>exact h
theorem dE {t:Ty} {xs:List (Den t)} (h:wfD (.slice t) xs):xs.length≤aO:=by
 obtain ⟨S,w,cs,h⟩:=h
 exact F0 h
theorem bg {a b:Ty} {x:Den a} {y:Den b} (h:wfD (.prod a b) (x,y)):wfD a x:=by
 obtain ⟨S,w,cs,h⟩:=h
 cases h with|prod h _=>exact ⟨_,_,_,h⟩
theorem aH {a b:Ty} {x:Den a} {y:Den b} (h:wfD (.prod a b) (x,y)):wfD b y:=by
 obtain ⟨S,w,cs,h⟩:=h
 cases h with|prod _ h=>exact ⟨_,_,_,h⟩
theorem Ln (xs:List Int) (v:Int) (hx:xs.length≤aO):LoopsOK Tryz.prog 19 [aG Tryz.f250 0] (Λ63 (xs,v,())):=by
 refine .cons (L:=c7 ⟨[],[],0⟩ (J63 xs v 0) (T63 xs v)) (by kernel_rfl) ?_ .nil
 exact kA (kS CtrsOK.nil 19) mixed (J63 xs v) (fun _=>rfl) (EM xs v) (fun i=>xs.length - i) (fun _ _=>none) (fun _ _ _ _ _ h=>by cases h) (T63 xs v) [] [] 0 ⟨Nat.zero_le _,by simp⟩ L63 (fun i hi=>OY xs v hx i hi)
theorem Qs (xs:List Int) (v:Int) :(evFn (cfg [] 19) (Λ63 (xs,v,())) Tryz.f250 (bo GG (xs,v,()))).sat fun v' rows=>leV v' (yY (xs,v,())).v∧rows =(yY (xs,v,())).rows:=by
 have h :((fi fun _=>none)∧
   (RowD.mk (.int .u8) xs=RowD.mk (.int .u8) xs∧v=v∧(xs.length:Int) =(xs.length:Int)∧(0:Int) =((0:Nat):Int)∧True)∧True)∧
  (xs.contains v=true→idx xs v 0=idx xs v 0∧([]:List RowD)=[])∧(xs.contains v=false→ -1=idx xs v 0∧([]:List RowD)=[]):=by
  refine ⟨⟨rfl,⟨rfl,rfl,rfl,rfl,trivial⟩,trivial⟩,fun _=>⟨rfl,rfl⟩,fun h=>⟨?_,rfl⟩⟩
  rw [sI]
  simpa using h
 exact cast (by kernel_rfl) h
theorem Ra:CtrOK Tryz.prog KK 250 (au KK GG yY):=by
 refine ba (C:=cfg [] 19) (kS CtrsOK.nil 19) mixed (fn:=Tryz.f250) Tryz.func250 (by kernel_rfl) (by kernel_rfl) (by kernel_rfl) (Λ:=Λ63) ?_ ?_ ?_
 ·rintro ⟨xs,v,⟨⟩⟩ hw _
  exact LoopsOK.at (by kernel_rfl) (Ln xs v (dE (bg hw)))
 ·rintro ⟨xs,v,⟨⟩⟩
  exact (by decide:2≤19)
 ·rintro ⟨xs,v,⟨⟩⟩ _ _
  exact Qs xs v
end Go.Proofs.YtffdpnmioidloaaGreatDoor
namespace Go.Mir
open Go.RowKit
variable {P:Program}
theorem CtrOK.mono {K K':Nat} {f:FuncId} {c:Ctr} (h:CtrOK P K f c) (hK:K≤K'):CtrOK P K' f c:=⟨h.fn,fun B E hE args av hav m hm ps v dh hc hp=>
 (h.calls B E hE args av hav m (fun n h1 h2=>hm n h1 (by omega)) ps v dh hc hp).mono fun _ _ ⟨E',v',h1,G,h2⟩=>
  ⟨E',v',h1,⟨G.rel,G.ext,G.w,G.h,fun n hn=>(G.u n hn).imp id fun h=>⟨h.1,by have:=h.2;omega⟩⟩,h2⟩⟩
theorem CtrsOK.consU {K' K:Nat} {f:FuncId} {c:Ctr} {l:rD} (h:CtrOK P K' f c) (hle:Nat.ble K' K=true) (hl:CtrsOK P K l):CtrsOK P K ((f,c)::l):= .cons (h.mono (Nat.le_of_ble_eq_true hle)) hl
def LoopsOKp (P:Program) (p N:Nat) (l:List Code) (Λ:Nat→Option LoopSum):Prop:=∀ b∈l,∀ L,Λ (rid b)=some L→LoopOKp P p N b L
theorem LoopsOKp.nil {p N:Nat} {Λ:Nat→Option LoopSum}:LoopsOKp P p N [] Λ:=fun b hb=>by simp at hb
theorem LoopsOKp.cons {p N:Nat} {b:Code} {l:List Code} {Λ:Nat→Option LoopSum} {L:LoopSum} (h0:Λ (rid b)=some L) (h1:LoopOKp P p N b L) (h2:LoopsOKp P p N l Λ):LoopsOKp P p N (b::l) Λ:=fun b' hb L' hL=>by
 rcases List.mem_cons.1 hb with rfl|hb
 ·rw [h0] at hL;cases hL;exact h1
 ·exact h2 b' hb L' hL
theorem LoopsOKp.at {p N:Nat} {fn:Func} {l:List Code} {Λ:Nat→Option LoopSum} (he:aN Λ (nI fn)=l) (h:LoopsOKp P p N l Λ) :∀ c,fn.body=some c→∀ b∈aN Λ c,∀ L,Λ (rid b)=some L→LoopOKp P p N b L:=fun c hc=>by
 have:nI fn=c:=by unfold nI;rw [hc]
 rw [←this,he]
 exact h
theorem HI {K:Nat} {f:FuncId} {fn:Func} (hf:P.funcs[f]?=some fn) (hbody:fn.body.isSome=true) (hname :(fn.name == "runtime.NumGoroutine")=false) {ps:Ty} {spec:Den ps→PRes} (hfl :∀ x,(spec x).rows=[]∧(spec x).v.noF=true)
  (h :∀ (x:Den ps) (av:List Value) (w:World) (E:Env),wfD ps x→(∀ p∈(spec x).needs,p)→ae E (bo ps x) av→Calls P f av.toArray w fun e w'=>∃ v',e = .returned v'∧w'=w∧∀ E':Env,aa E' ((spec x).v.shift 0) v') (hsh :∀ x m,(spec x).v.shift m =(spec x).v.shift 0):CtrOK P K f (au K ps spec):=by
 refine ⟨⟨fn,hf,hbody,hname⟩,fun B E hE args av hav m hm ps' v dh hct hps=>?_⟩
 unfold au at hct
 simp only at hct
 split at hct
 case h_2=>cases hct
 rename_i x hx
 obtain ⟨hr,hn⟩:=hfl x
 have hflat :(spec x).flat=true:=by unfold PRes.flat;rw [hn,hr];rfl
 rw [hr,hflat] at hct
 simp only [List.length_nil,iY,cond_true,List.append_nil] at hct
 cases hle:Nat.ble 0 K with
 | false=>rw [hle] at hct;cases hct
 | true=>
  rw [hle] at hct
  simp only [cond_true,Option.some.injEq,Prod.mk.injEq] at hct
  obtain ⟨rfl,rfl,rfl⟩:=hct
  obtain ⟨hSE,XS⟩:=cR hE (hss args)
  obtain ⟨hav0,cs,hrd⟩:=fB hSE (Ec:=cd E (hss args)) rfl rfl (bc XS _ _ hav) hx
  refine (h x av E.w _ ⟨_,_,_,hrd⟩ hps hav0).mono fun e w' ⟨v',h1,h2,h3⟩=>?_
  subst h2
  refine ⟨E,v',h1,⟨hE,Ext.refl E,rfl,by funext z;simp [aK,find],fun n hn=> .inl hn⟩,?_⟩
  rw [hsh x m]
  exact h3 E
def bX (ts:List Ty):Pat:=⟨eV 0 (ts.map .h),[],0⟩
end Go.Mir
namespace Go.Proofs.YtffdpnmioidloaaGreatDoor
open Go Go.Mir
abbrev KE:Nat:=64
def an (l:rD) (fn:Func):Cfg:=⟨tbl,find l,KE,fn.ntmps⟩
theorem al {l:rD} (h:CtrsOK Tryz.prog KE l) (fn:Func):CfgOK Tryz.prog (an l fn):=⟨Ep,by show 1≤KE;decide,h⟩
end Go.Proofs.YtffdpnmioidloaaGreatDoor
namespace Go.Proofs.YtffdpnmioidloaaGreatDoor
open Go Go.Mir
attribute [local irreducible] Go.Mir.DT.sat Go.Mir.evPat
abbrev I:Ty:= .int .i64
abbrev U8:Ty:= .int .u8
abbrev qD:Pat:=bX [.nm .Delivery]
abbrev bA:Pat:=bX [I]
abbrev aF:Pat:=bX [.bool]
def BV (d:Delivery):Bool:=
 if d.Typ==2 then d.Source==0&&d.Boundary != 6 else if d.Source==0 then d.Runs==0&&d.Boundary==0 else if d.Source==1 then d.Boundary != 6||d.Runs==0 else d.Boundary != 6&&(decide (d.Runs>0)||d.Boundary != 0)
def QR (d:Delivery):Bool:=
 if d.Typ==2 then d.Source==0&&d.Boundary != 6 else if d.Source==0 then d.Runs==0&&d.Boundary==0 else if d.Boundary==0 then decide (d.Runs>0) else if d.Boundary==6 then d.Source==1&&d.Runs==0 else true
def inW (n lo hi:Int):Bool:=decide (n≥lo)&&decide (n≤hi)
def bL (d:Delivery):Int:=
 if decide (d.Typ<1) ||(decide (d.Typ>3) ||(decide (d.Source>3) ||(decide (d.How>10)||!inW d.Sector 0 8))) then 11
 else if !inW d.Runs 0 7 ||(!inW d.Short 0 d.Runs ||(d.Boundary != 0&&(d.Boundary != 4&&d.Boundary != 6))) then 12
 else if !QR d then 11
 else if d.Sector != 0&&(d.Source != 1&&d.How != 2) then 11
 else if d.Boundary != 0&&d.How != 0 then 11
 else if d.Crossed&&(d.How != 6&&d.How != 8) then 11 else 0
def rQ (h:Int):Bool:=decide (h≥1)&&decide (h≤5)
def jz (d:Delivery):Bool:=(d.Runs.tmod 2 != 0) != d.Crossed
def Kq:Den (tyP qD)→List Prop×Den (tyP aF):=fun x=>([],(BV x.1,()))
abbrev q3:Pat:=bX [I,I,I]
def sIn:Den (tyP q3)→List Prop×Den (tyP aF):=fun x=>([],(inW x.1 x.2.1 x.2.2.1,()))
def DR:Den (tyP qD)→List Prop×Den (tyP bA):=fun x=>([],(bL x.1,()))
abbrev qH:Pat:=bX [U8]
def J9:Den (tyP qH)→List Prop×Den (tyP aF):=fun x=>([],(rQ x.1,()))
abbrev W (n:Int):Int:=IntKind.i64.wrap n
def nv (d:Delivery):Int:=W (W (d.Runs - d.Short)+d.Boundary)
def dv (d:Delivery):Int:=if d.Typ != 2&&d.Source==1 then nv d else 0
def fb (r:Rules) (d:Delivery):Int:=if d.Typ==2 then W (r.Wide+nv d) else 0
def noW (r:Rules) (d:Delivery):Int:=if d.Typ==3 then r.NoBall else 0
def m9 (d:Delivery):Int:=if d.Typ != 2&&d.Source==2 then nv d else 0
def gC (d:Delivery):Int:=if d.Typ != 2&&d.Source==3 then nv d else 0
def aB (r:Rules) (d:Delivery):Credit:=
 if bL d==0 then ⟨dv d,fb r d,noW r d,m9 d,gC d,W (W (dv d+fb r d)+noW r d),d.Typ==1,d.Typ != 2,rQ d.How,jz d⟩ else Credit.zero
abbrev qRD:Pat:=bX [.nm .Rules,.nm .Delivery]
abbrev qC:Pat:=bX [.nm .Credit]
def yt:Den (tyP qRD)→List Prop×Den (tyP qC):=fun x=>([],(aB x.1 x.2.1,()))
def b7 (c:Credit):Int:=W (W (W (W (c.Batter+c.Wides)+c.NoBalls)+c.Byes)+c.LegByes)
def D6:Den (tyP qC)→List Prop×Den (tyP bA):=fun x=>([],(b7 x.1,()))
theorem MH (d:Delivery) :(evPat (an [] Tryz.f162) (fun _=>none) Tryz.f162 qD aF (d,())).sat fun z_=>z_ =(Kq (d,())).2:=by
 refine cast (by kernel_rfl) (?_ :((d.1 ==(2:Int))=true→(bif d.2 ==(0:Int) then d.5 !=(6:Int) else false,()) =(BV d,()))∧((d.1 ==(2:Int))=false→((d.2 ==(0:Int))=true→(bif d.3 ==(0:Int) then d.5 ==(0:Int) else false,()) =(BV d,()))∧((d.2 ==(0:Int))=false→((d.2 ==(1:Int))=true→(bif d.5 !=(6:Int) then true else d.3 ==(0:Int),()) =(BV d,()))∧((d.2 ==(1:Int))=false→(bif d.5 !=(6:Int) then bif decide (d.3 >(0:Int)) then true else d.5 !=(0:Int) else false,()) =(BV d,())))))
 grind [BV]
def Nd:FuncId×Ctr:=(162,af KE qD aF Kq)
theorem OI:CtrOK Tryz.prog KE 162 (af KE qD aF Kq):=by
 refine ar (C:=an [] Tryz.f162) (al (CtrsOK.nil) _) mixed (fn:=Tryz.f162) Tryz.func162 (by kernel_rfl) (by kernel_rfl) (by kernel_rfl) (by kernel_rfl) (by kernel_rfl) (by kernel_rfl) (Λ:=fun _ _=>none) ?_ ?_
 ·exact fun _ _ _ _ _ _ _ _ h=>by cases h
 ·rintro ⟨d,⟨⟩⟩ hw hn
  exact MH d
theorem JU (h:Int) :(evPat (an [] Tryz.f163) (fun _=>none) Tryz.f163 qH aF (h,())).sat fun z_=>z_ =(J9 (h,())).2:=by
 refine cast (by kernel_rfl) (?_ :(bif decide (h≥(1:Int)) then decide (h≤(5:Int)) else false,()) =(rQ h,()))
 grind [rQ]
def Ix:FuncId×Ctr:=(163,af KE qH aF J9)
theorem LM:CtrOK Tryz.prog KE 163 (af KE qH aF J9):=by
 refine ar (C:=an [] Tryz.f163) (al (CtrsOK.nil) _) mixed (fn:=Tryz.f163) Tryz.func163 (by kernel_rfl) (by kernel_rfl) (by kernel_rfl) (by kernel_rfl) (by kernel_rfl) (by kernel_rfl) (Λ:=fun _ _=>none) ?_ ?_
 ·exact fun _ _ _ _ _ _ _ _ h=>by cases h
 ·rintro ⟨h,⟨⟩⟩ hw hn
  exact JU h
theorem GP (d:Delivery) :(evPat (an [Nd] Tryz.f93) (fun _=>none) Tryz.f93 qD bA (d,())).sat fun z_=>z_ =(DR (d,())).2:=by
 refine cast (by kernel_rfl) (?_:let r1:Bool:=bif d.5 !=(0:Int) then d.7 !=(0:Int) else false;let r2:Bool:=bif d.6 then bif d.7 !=(6:Int) then d.7 !=(8:Int) else false else false;let r3:Bool:=bif d.12 !=(0:Int) then bif d.2 !=(1:Int) then d.7 !=(2:Int) else false else false;let r4:Bool:=bif !BV d then true else bif d.1 !=(2:Int) then bif d.2 ==(1:Int) then bif d.3 ==(0:Int) then d.5 ==(0:Int) else false else false else false;let r5:Bool:=bif decide (d.3 <(0:Int)) then true else bif decide (d.3 >(7:Int)) then true else bif decide (d.4 <(0:Int)) then true else bif decide (d.4>d.3) then true else bif d.5 !=(0:Int) then bif d.5 !=(4:Int) then d.5 !=(6:Int) else false else false;let r6:Bool:=bif decide (d.1 <(1:Int)) then true else bif decide (d.1 >(3:Int)) then true else bif decide (d.2 >(3:Int)) then true else bif decide (d.7 >(10:Int)) then true else bif decide (d.12 <(0:Int)) then true else decide (d.12 >(8:Int));(r6=true→((11:Int),()) =(bL d,()))∧(r6=false→(r5=true→((12:Int),()) =(bL d,()))∧(r5=false→(r4=true→((11:Int),()) =(bL d,()))∧(r4=false→(r3=true→((11:Int),()) =(bL d,()))∧(r3=false→(r1=true→((11:Int),()) =(bL d,()))∧(r1=false→(r2=true→((11:Int),()) =(bL d,()))∧(r2=false→((0:Int),()) =(bL d,()))))))))
 intro r1 r2 r3 r4 r5 r6
 clear_value (hr1:r1=_) (hr2:r2=_) (hr3:r3=_) (hr4:r4=_) (hr5:r5=_) (hr6:r6=_)
 repeat' (first|refine And.intro ?_ ?_|intro h)
 all_goals grind (splits:=40) [bL,BV,QR,inW]
def hZ:FuncId×Ctr:=(93,af KE qD bA DR)
theorem lZ:CtrOK Tryz.prog KE 93 (af KE qD bA DR):=by
 refine ar (C:=an [Nd] Tryz.f93) (al (.consU OI rfl .nil) _) mixed (fn:=Tryz.f93) Tryz.func93 (by kernel_rfl) (by kernel_rfl) (by kernel_rfl) (by kernel_rfl) (by kernel_rfl) (by kernel_rfl) (Λ:=fun _ _=>none) ?_ ?_
 ·exact fun _ _ _ _ _ _ _ _ h=>by cases h
 ·rintro ⟨d,⟨⟩⟩ hw hn
  exact GP d
theorem KG {d:Delivery} (h:bL d=0) :((bif d.Crossed then W (d.Runs+1) else d.Runs).tmod 2==1)=jz d:=by
 have hr:0≤d.Runs∧d.Runs≤7:=by grind [bL,inW]
 have hw:W (d.Runs+1)=d.Runs+1:=dI (by omega) (by omega)
 unfold jz
 rw [hw,Int.tmod_eq_emod_of_nonneg hr.1]
 cases d.Crossed
 ·rw [cond_false,Int.tmod_eq_emod_of_nonneg hr.1]
  grind
 ·rw [cond_true,Int.tmod_eq_emod_of_nonneg (by omega)]
  grind
theorem Dr (r:Rules) (d:Delivery) :(evPat (an [hZ,Ix] Tryz.f95) (fun _=>none) Tryz.f95 qRD qC (r,d,())).sat fun z_=>z_ =(yt (r,d,())).2:=by
 refine cast (by kernel_rfl) (?_:let r1:Int:=IntKind.i64.wrap (IntKind.i64.wrap (d.3 - d.4)+d.5);let r2:Int:=bif d.1 ==(3:Int) then (0:Int) else (0:Int);let r3:Bool:=bif d.1 ==(2:Int) then rQ d.7 else bif d.1 ==(3:Int) then rQ d.7 else rQ d.7;let r4:Bool:=(bif d.6 then IntKind.i64.wrap (d.3 +(1:Int)) else d.3).tmod (2:Int) ==(1:Int);let r5:Int:=bif d.1 ==(2:Int) then (0:Int) else bif d.1 ==(3:Int) then r.8 else (0:Int);let r6:Int:=bif d.1 ==(2:Int) then (0:Int) else r2;let r7:Bool:=bif d.1 ==(2:Int) then d.1 ==(1:Int) else bif d.1 ==(3:Int) then d.1 ==(1:Int) else d.1 ==(1:Int);let r8:Bool:=bif d.1 ==(2:Int) then d.1 !=(2:Int) else bif d.1 ==(3:Int) then d.1 !=(2:Int) else d.1 !=(2:Int);let r9:Int:=bif d.1 ==(2:Int) then IntKind.i64.wrap (r.7+r1) else r2;let r10:Int:=bif d.2 ==(3:Int) then r6 else r6;let r11:Bool:=bif d.1 ==(2:Int) then r4 else bif d.1 ==(3:Int) then r4 else r4;let r12:Int:=bif d.1 !=(2:Int) then bif d.2 ==(1:Int) then r1 else bif d.2 ==(2:Int) then r6 else r10 else r6;let r13:Int:=bif d.1 !=(2:Int) then bif d.2 ==(1:Int) then r5 else bif d.2 ==(2:Int) then r5 else bif d.2 ==(3:Int) then r5 else r5 else r5;let r14:Int:=bif d.1 !=(2:Int) then bif d.2 ==(1:Int) then r9 else bif d.2 ==(2:Int) then r9 else bif d.2 ==(3:Int) then r9 else r9 else r9;((bL d !=(0:Int))=true→(Credit.mk (0:Int) (0:Int) (0:Int) (0:Int) (0:Int) (0:Int) false false false false,()) =(aB r d,()))∧((bL d !=(0:Int))=false→(2:Int)≠(0:Int)∧(Credit.mk r12 r14 r13 (bif d.1 !=(2:Int) then bif d.2 ==(1:Int) then r6 else bif d.2 ==(2:Int) then r1 else r10 else r6) (bif d.1 !=(2:Int) then bif d.2 ==(1:Int) then r6 else bif d.2 ==(2:Int) then r6 else bif d.2 ==(3:Int) then r1 else r6 else r6) (IntKind.i64.wrap (IntKind.i64.wrap (r12+r14)+r13)) (bif d.1 !=(2:Int) then bif d.2 ==(1:Int) then r7 else bif d.2 ==(2:Int) then r7 else bif d.2 ==(3:Int) then r7 else r7 else r7) (bif d.1 !=(2:Int) then bif d.2 ==(1:Int) then r8 else bif d.2 ==(2:Int) then r8 else bif d.2 ==(3:Int) then r8 else r8 else r8) (bif d.1 !=(2:Int) then bif d.2 ==(1:Int) then r3 else bif d.2 ==(2:Int) then r3 else bif d.2 ==(3:Int) then r3 else r3 else r3) (bif d.1 !=(2:Int) then bif d.2 ==(1:Int) then r11 else bif d.2 ==(2:Int) then r11 else bif d.2 ==(3:Int) then r11 else r11 else r11),()) =(aB r d,())))
 intro r1 r2 r3 r4 r5 r6 r7 r8 r9 r10 r11 r12 r13 r14
 clear_value (hr1:r1=_) (hr2:r2=_) (hr3:r3=_) (hr4:r4=_) (hr5:r5=_) (hr6:r6=_) (hr7:r7=_) (hr8:r8=_) (hr9:r9=_) (hr10:r10=_) (hr11:r11=_) (hr12:r12=_) (hr13:r13=_) (hr14:r14=_)
 refine ⟨fun h=>?_,fun h=>⟨by decide,?_⟩⟩
 ·grind [aB,Credit.zero]
 ·have h:bL d=0:=by simpa using h
  have e:=KG h
  simp only [W] at e
  simp only [aB,h,dv,fb,noW,m9,gC,nv,W,←e]
  grind
def iJ:FuncId×Ctr:=(95,af KE qRD qC yt)
theorem mS:CtrOK Tryz.prog KE 95 (af KE qRD qC yt):=by
 refine ar (C:=an [hZ,Ix] Tryz.f95) (al (.consU lZ rfl (.consU LM rfl .nil)) _) mixed (fn:=Tryz.f95) Tryz.func95 (by kernel_rfl) (by kernel_rfl) (by kernel_rfl) (by kernel_rfl) (by kernel_rfl) (by kernel_rfl) (Λ:=fun _ _=>none) ?_ ?_
 ·exact fun _ _ _ _ _ _ _ _ h=>by cases h
 ·rintro ⟨r,d,⟨⟩⟩ hw hn
  exact Dr r d
theorem GQ (c:Credit) :(evPat (an [] Tryz.f96) (fun _=>none) Tryz.f96 qC bA (c,())).sat fun z_=>z_ =(D6 (c,())).2:=by
 refine cast (by kernel_rfl) (?_ :(IntKind.i64.wrap (IntKind.i64.wrap (IntKind.i64.wrap (IntKind.i64.wrap (c.1+c.2)+c.3)+c.4)+c.5),()) =(b7 c,()))
 rfl
def oI:FuncId×Ctr:=(96,af KE qC bA D6)
theorem ti:CtrOK Tryz.prog KE 96 (af KE qC bA D6):=by
 refine ar (C:=an [] Tryz.f96) (al (CtrsOK.nil) _) mixed (fn:=Tryz.f96) Tryz.func96 (by kernel_rfl) (by kernel_rfl) (by kernel_rfl) (by kernel_rfl) (by kernel_rfl) (by kernel_rfl) (Λ:=fun _ _=>none) ?_ ?_
 ·exact fun _ _ _ _ _ _ _ _ h=>by cases h
 ·rintro ⟨c,⟨⟩⟩ hw hn
  exact GQ c
end Go.Proofs.YtffdpnmioidloaaGreatDoor
namespace Go.Proofs.YtffdpnmioidloaaGreatDoor
open Go Go.Mir
attribute [local irreducible] Go.Mir.DT.sat Go.Mir.evPat
def cH (p:Int→Bool):List Int→Int→Option Int
 | [],_=>none
 | x::r,i=>if p x then some i else cH p r (i+1)
def cY (s:Int):Bool:=s != 0
def Ii:Option Int→Sum (Int×Unit) Unit
 | some k=> .inl (k,())
 | none=> .inr ()
def oY (o:Option Int):Int:=o.getD (-1)
def lp (l:List Int):Bool:=l.any cY
abbrev U8s:Ty:= .slice U8
abbrev qU1:Pat:=bX [U8]
def p8:Den (tyP qU1)→List Prop×Den (tyP aF):=fun x=>([],(cY x.1,()))
abbrev qLI (f:Nat):Pat:=⟨[(0,.h U8s),(1,.c (.fn f [])),(7,.h I),(8,.h I)],[],0⟩
abbrev xLI:List (Lf×Pat):= [(.ret,⟨[(4,.h I)],[],0⟩),(.ext 0,⟨[],[],0⟩)]
def dJ (x:List Int×Int×Int×Unit):Prop:=x.2.1=x.1.length∧0≤x.2.2.1∧x.2.2.1≤x.2.1∧x.1.length≤aO
def lh (x:List Int×Int×Int×Unit):Nat:=(x.2.1 - x.2.2.1).toNat
def dq (x:List Int×Int×Int×Unit):Sum (Int×Unit) Unit:=Ii (cH cY (x.1.drop x.2.2.1.toNat) x.2.2.1)
abbrev qF (f:Nat):Pat:=⟨[(0,.h U8s),(1,.c (.fn f []))],[],0⟩
def sIF (f:Nat):Den (tyP (qF f))→List Prop×Den (tyP bA):=fun x=>([],(oY (cH cY x.1 0),()))
def sCF (f:Nat):Den (tyP (qF f))→List Prop×Den (tyP aF):=fun x=>([],(lp x.1,()))
abbrev qIn:Pat:=bX [.nm .Innings]
def eM (x:Innings):Bool:=lp x.Batters
def pZ:Den (tyP qIn)→List Prop×Den (tyP aF):=fun x=>([],(eM x.1,()))
theorem kr {p:Int→Bool} :∀ {l:List Int} {i:Int},(cH p l i).isSome=l.any p
 | [],_=>rfl
 | x::r,i=>by
  simp only [cH,List.any_cons]
  cases hp:p x with
  | true=>simp
  | false=>simpa using kr
theorem oz {p:Int→Bool} :∀ {l:List Int} {i k:Int},cH p l i=some k→i≤k
 | [],_,_,h=>by simp [cH] at h
 | x::r,i,k,h=>by
  simp only [cH] at h
  split at h
  ·cases h;exact Int.le_refl _
  ·have:=oz h;omega
theorem cZ {α:Type} {l:List α} {i:Int} (h0:0≤i) (h:i<l.length) (d:α):l.drop i.toNat=l.getD i.toNat d::l.drop (i+1).toNat:=by
 have h1:i.toNat<l.length:=by omega
 rw [List.drop_eq_getElem_cons h1,show (i+1).toNat=i.toNat+1 by omega,List.getD_eq_getElem?_getD,List.getElem?_eq_getElem h1]
 rfl
theorem MV {α:Type} {l:List α} {i:Int} (h0:0≤i) (h:i<l.length) (d:α):l.take (i+1).toNat=l.take i.toNat++[l.getD i.toNat d]:=by
 have h1:i.toNat<l.length:=by omega
 have:l.getD i.toNat d=l[i.toNat]:=by rw [List.getD_eq_getElem?_getD,List.getElem?_eq_getElem h1];rfl
 rw [this,show (i+1).toNat=i.toNat+1 by omega,List.take_succ_eq_append_getElem h1]
theorem cq {α:Type} {l:List α} {i:Int} (h :(l.length:Int)≤i):l.drop i.toNat=[]:=List.drop_of_length_le (by omega)
theorem bd {n:Int} (h1:-9223372036854775808≤n) (h2:n≤9223372036854775807):IntKind.i64.wrap n=n:=dI h1 h2
theorem Dm (s:Int) :(evPat (an [] Tryz.f392) (fun _=>none) Tryz.f392 qU1 aF (s,())).sat fun z_=>z_ =(p8 (s,())).2:=by
 refine cast (by kernel_rfl) (?_ :(s !=(0:Int),()) =(cY s,()))
 rfl
def sN:FuncId×Ctr:=(392,af KE qU1 aF p8)
theorem wa:CtrOK Tryz.prog KE 392 (af KE qU1 aF p8):=by
 refine ar (C:=an [] Tryz.f392) (al (CtrsOK.nil) _) mixed (fn:=Tryz.f392) Tryz.func392 (by kernel_rfl) (by kernel_rfl) (by kernel_rfl) (by kernel_rfl) (by kernel_rfl) (by kernel_rfl) (Λ:=fun _ _=>none) ?_ ?_
 ·exact fun _ _ _ _ _ _ _ _ h=>by cases h
 ·rintro ⟨s,⟨⟩⟩ hw hn
  exact Dm s
theorem Dt (s:Int) :(evPat (an [] Tryz.f340) (fun _=>none) Tryz.f340 qU1 aF (s,())).sat fun z_=>z_ =(p8 (s,())).2:=by
 refine cast (by kernel_rfl) (?_ :(s !=(0:Int),()) =(cY s,()))
 rfl
def sO:FuncId×Ctr:=(340,af KE qU1 aF p8)
theorem wb:CtrOK Tryz.prog KE 340 (af KE qU1 aF p8):=by
 refine ar (C:=an [] Tryz.f340) (al (CtrsOK.nil) _) mixed (fn:=Tryz.f340) Tryz.func340 (by kernel_rfl) (by kernel_rfl) (by kernel_rfl) (by kernel_rfl) (by kernel_rfl) (by kernel_rfl) (Λ:=fun _ _=>none) ?_ ?_
 ·exact fun _ _ _ _ _ _ _ _ h=>by cases h
 ·rintro ⟨s,⟨⟩⟩ hw hn
  exact Dt s
noncomputable def lpLIc:Lp:=(⟨0,an [sN] Tryz.f369,(fun _=>none),(aG Tryz.f369 0),(qLI 392),xLI⟩:Lp)
theorem MO (xs:List Int) (n:Int) (i:Int) (hi:dJ (xs,n,i,())) :(Go.Mir.stepG lpLIc dq (fun y:Den (tyP lpLIc.q)=>dJ y∧lh y<lh (xs,n,i,())) (xs,n,i,())∧Go.Mir.stepE lpLIc dq (xs,n,i,())=dq (xs,n,i,())):=by
 refine cast (by kernel_rfl) (?_ :((decide (i<n)=true→((0:Int)≤i∧i <(↑xs.length:Int))∧(cY (xs.getD i.toNat (dflt (Ty.int IntKind.u8)))=true→True)∧(cY (xs.getD i.toNat (dflt (Ty.int IntKind.u8)))=false→dJ (xs,n,IntKind.i64.wrap (i +(1:Int)),())∧lh (xs,n,IntKind.i64.wrap (i +(1:Int)),())<lh (xs,n,i,())))∧(decide (i<n)=false→True))∧(bif decide (i<n) then bif cY (xs.getD i.toNat (dflt (Ty.int IntKind.u8))) then Sum.inl (i,()) else dq (xs,n,IntKind.i64.wrap (i +(1:Int)),()) else Sum.inr ())=dq (xs,n,i,()))
 obtain ⟨h1,h2,h3,h4⟩:=hi
 simp only at h1 h2 h3 h4
 have h5 :(xs.length:Int)≤140737488355328:=by have:xs.length≤140737488355328:=h4;omega
 refine ⟨⟨fun h=>?_,fun _=>trivial⟩,?_⟩
 ·have h:i<n:=of_decide_eq_true h
  rw [bd (n:=i+1) (by omega) (by omega)]
  refine ⟨⟨h2,by omega⟩,fun _=>trivial,fun _=>⟨⟨h1,by simp only;omega,by simp only;omega,h4⟩,by simp only [lh];omega⟩⟩
 ·by_cases h:i<n
  ·rw [decide_eq_true h,cond_true,bd (n:=i+1) (by omega) (by omega)]
   have e:xs.drop i.toNat=xs.getD i.toNat (dflt (Ty.int IntKind.u8))::xs.drop (i+1).toNat:=cZ h2 (by omega) _
   generalize xs.getD i.toNat (dflt (Ty.int IntKind.u8))=v at e ⊢
   simp only [dq,e,cH]
   cases cY v <;> rfl
  ·rw [decide_eq_false h,cond_false]
   simp only [dq]
   rw [cq (l:=xs) (by omega)]
   rfl
noncomputable def KA:LoopSum:=bb lpLIc dq dJ
noncomputable def JE:Nat:=rid (aG Tryz.f369 0)
theorem Lg:LoopOKp Tryz.prog 0 Tryz.f369.ntmps (aG Tryz.f369 0) (bb lpLIc dq dJ):=
 bJ lpLIc (al (.consU wa rfl .nil) _) mixed (fun b hb S hS=>by cases hS) dq dJ lh (fun |⟨xs,n,i,⟨⟩⟩,hi=>MO xs n i hi)
noncomputable def lpLIi:Lp:=(⟨0,an [sO] Tryz.f369,(fun _=>none),(aG Tryz.f369 0),(qLI 340),xLI⟩:Lp)
theorem MP (xs:List Int) (n:Int) (i:Int) (hi:dJ (xs,n,i,())) :(Go.Mir.stepG lpLIi dq (fun y:Den (tyP lpLIi.q)=>dJ y∧lh y<lh (xs,n,i,())) (xs,n,i,())∧Go.Mir.stepE lpLIi dq (xs,n,i,())=dq (xs,n,i,())):=by
 refine cast (by kernel_rfl) (?_ :((decide (i<n)=true→((0:Int)≤i∧i <(↑xs.length:Int))∧(cY (xs.getD i.toNat (dflt (Ty.int IntKind.u8)))=true→True)∧(cY (xs.getD i.toNat (dflt (Ty.int IntKind.u8)))=false→dJ (xs,n,IntKind.i64.wrap (i +(1:Int)),())∧lh (xs,n,IntKind.i64.wrap (i +(1:Int)),())<lh (xs,n,i,())))∧(decide (i<n)=false→True))∧(bif decide (i<n) then bif cY (xs.getD i.toNat (dflt (Ty.int IntKind.u8))) then Sum.inl (i,()) else dq (xs,n,IntKind.i64.wrap (i +(1:Int)),()) else Sum.inr ())=dq (xs,n,i,()))
 obtain ⟨h1,h2,h3,h4⟩:=hi
 simp only at h1 h2 h3 h4
 have h5 :(xs.length:Int)≤140737488355328:=by have:xs.length≤140737488355328:=h4;omega
 refine ⟨⟨fun h=>?_,fun _=>trivial⟩,?_⟩
 ·have h:i<n:=of_decide_eq_true h
  rw [bd (n:=i+1) (by omega) (by omega)]
  refine ⟨⟨h2,by omega⟩,fun _=>trivial,fun _=>⟨⟨h1,by simp only;omega,by simp only;omega,h4⟩,by simp only [lh];omega⟩⟩
 ·by_cases h:i<n
  ·rw [decide_eq_true h,cond_true,bd (n:=i+1) (by omega) (by omega)]
   have e:xs.drop i.toNat=xs.getD i.toNat (dflt (Ty.int IntKind.u8))::xs.drop (i+1).toNat:=cZ h2 (by omega) _
   generalize xs.getD i.toNat (dflt (Ty.int IntKind.u8))=v at e ⊢
   simp only [dq,e,cH]
   cases cY v <;> rfl
  ·rw [decide_eq_false h,cond_false]
   simp only [dq]
   rw [cq (l:=xs) (by omega)]
   rfl
noncomputable def KC:LoopSum:=bb lpLIi dq dJ
noncomputable def JF:Nat:=rid (aG Tryz.f369 0)
theorem Lh:LoopOKp Tryz.prog 0 Tryz.f369.ntmps (aG Tryz.f369 0) (bb lpLIi dq dJ):=
 bJ lpLIi (al (.consU wb rfl .nil) _) mixed (fun b hb S hS=>by cases hS) dq dJ lh (fun |⟨xs,n,i,⟨⟩⟩,hi=>MP xs n i hi)
theorem JQ (xs:List Int) (hx:xs.length≤aO) :(evPat (an [sN] Tryz.f369) (find [(JE,KA)]) Tryz.f369 (qF 392) bA (xs,())).sat fun z_=>z_ =((sIF 392) (xs,())).2:=by
 refine cast (by kernel_rfl) (?_:let r1:Bool:=isL (dq (xs,(↑xs.length:Int),(0:Int),()));((fi fun x=>none)∧(↑xs.length:Int) =(↑xs.length:Int)∧(0:Int)≤(0:Int)∧(0:Int)≤(↑xs.length:Int)∧xs.length≤aO)∧(r1=true→nU (dflt (I.prod Ty.unit)) (dq (xs,(↑xs.length:Int),(0:Int),())) =(oY (cH cY xs (0:Int)),()))∧(r1=false→((-1:Int),()) =(oY (cH cY xs (0:Int)),())))
 intro r1
 clear_value (hr1:r1=_)
 have e:dq (xs,(xs.length:Int),0,())=Ii (cH cY xs 0):=rfl
 try subst hr1
 rw [e]
 refine ⟨⟨rfl,rfl,Int.le_refl _,by omega,hx⟩,fun h=>?_,fun h=>?_⟩ <;> cases hf:cH cY xs 0 <;> rw [hf] at h <;> first|rfl|cases h
def Iu:FuncId×Ctr:=(369,af KE (qF 392) bA (sIF 392))
theorem LH:CtrOK Tryz.prog KE 369 (af KE (qF 392) bA (sIF 392)):=by
 refine ar (C:=an [sN] Tryz.f369) (al (.consU wa rfl .nil) _) mixed (fn:=Tryz.f369) Tryz.func369 (by kernel_rfl) (by kernel_rfl) (by kernel_rfl) (by kernel_rfl) (by kernel_rfl) (by kernel_rfl) (Λ:=fun x=>find [(JE,KA)]) ?_ ?_
 ·rintro ⟨xs,⟨⟩⟩ hw hn
  exact LoopsOKp.at (by kernel_rfl) (.cons (by kernel_rfl) (Lg) .nil)
 ·rintro ⟨xs,⟨⟩⟩ hw hn
  exact JQ xs (dE (bg hw))
theorem JL (xs:List Int) :(evPat (an [Iu] Tryz.f339) (fun _=>none) Tryz.f339 (qF 392) aF (xs,())).sat fun z_=>z_ =((sCF 392) (xs,())).2:=by
 refine cast (by kernel_rfl) (?_ :(decide (oY (cH cY xs (0:Int))≥(0:Int)),()) =(lp xs,()))
 have e:=kr (p:=cY) (l:=xs) (i:=0)
 unfold lp
 rw [←e]
 cases hf:cH cY xs 0 with
 | none=>rfl
 | some k=>
  have:=oz hf
  simp [this,oY]
def Im:FuncId×Ctr:=(339,af KE (qF 392) aF (sCF 392))
theorem LB:CtrOK Tryz.prog KE 339 (af KE (qF 392) aF (sCF 392)):=by
 refine ar (C:=an [Iu] Tryz.f339) (al (.consU LH rfl .nil) _) mixed (fn:=Tryz.f339) Tryz.func339 (by kernel_rfl) (by kernel_rfl) (by kernel_rfl) (by kernel_rfl) (by kernel_rfl) (by kernel_rfl) (Λ:=fun _ _=>none) ?_ ?_
 ·exact fun _ _ _ _ _ _ _ _ h=>by cases h
 ·rintro ⟨xs,⟨⟩⟩ hw hn
  exact JL xs
theorem JR (xs:List Int) (hx:xs.length≤aO) :(evPat (an [sO] Tryz.f369) (find [(JF,KC)]) Tryz.f369 (qF 340) bA (xs,())).sat fun z_=>z_ =((sIF 340) (xs,())).2:=by
 refine cast (by kernel_rfl) (?_:let r1:Bool:=isL (dq (xs,(↑xs.length:Int),(0:Int),()));((fi fun x=>none)∧(↑xs.length:Int) =(↑xs.length:Int)∧(0:Int)≤(0:Int)∧(0:Int)≤(↑xs.length:Int)∧xs.length≤aO)∧(r1=true→nU (dflt (I.prod Ty.unit)) (dq (xs,(↑xs.length:Int),(0:Int),())) =(oY (cH cY xs (0:Int)),()))∧(r1=false→((-1:Int),()) =(oY (cH cY xs (0:Int)),())))
 intro r1
 clear_value (hr1:r1=_)
 have e:dq (xs,(xs.length:Int),0,())=Ii (cH cY xs 0):=rfl
 try subst hr1
 rw [e]
 refine ⟨⟨rfl,rfl,Int.le_refl _,by omega,hx⟩,fun h=>?_,fun h=>?_⟩ <;> cases hf:cH cY xs 0 <;> rw [hf] at h <;> first|rfl|cases h
def Iv:FuncId×Ctr:=(369,af KE (qF 340) bA (sIF 340))
theorem LI:CtrOK Tryz.prog KE 369 (af KE (qF 340) bA (sIF 340)):=by
 refine ar (C:=an [sO] Tryz.f369) (al (.consU wb rfl .nil) _) mixed (fn:=Tryz.f369) Tryz.func369 (by kernel_rfl) (by kernel_rfl) (by kernel_rfl) (by kernel_rfl) (by kernel_rfl) (by kernel_rfl) (Λ:=fun x=>find [(JF,KC)]) ?_ ?_
 ·rintro ⟨xs,⟨⟩⟩ hw hn
  exact LoopsOKp.at (by kernel_rfl) (.cons (by kernel_rfl) (Lh) .nil)
 ·rintro ⟨xs,⟨⟩⟩ hw hn
  exact JR xs (dE (bg hw))
theorem JM (xs:List Int) :(evPat (an [Iv] Tryz.f339) (fun _=>none) Tryz.f339 (qF 340) aF (xs,())).sat fun z_=>z_ =((sCF 340) (xs,())).2:=by
 refine cast (by kernel_rfl) (?_ :(decide (oY (cH cY xs (0:Int))≥(0:Int)),()) =(lp xs,()))
 have e:=kr (p:=cY) (l:=xs) (i:=0)
 unfold lp
 rw [←e]
 cases hf:cH cY xs 0 with
 | none=>rfl
 | some k=>
  have:=oz hf
  simp [this,oY]
def Ip:FuncId×Ctr:=(339,af KE (qF 340) aF (sCF 340))
theorem LC:CtrOK Tryz.prog KE 339 (af KE (qF 340) aF (sCF 340)):=by
 refine ar (C:=an [Iv] Tryz.f339) (al (.consU LI rfl .nil) _) mixed (fn:=Tryz.f339) Tryz.func339 (by kernel_rfl) (by kernel_rfl) (by kernel_rfl) (by kernel_rfl) (by kernel_rfl) (by kernel_rfl) (Λ:=fun _ _=>none) ?_ ?_
 ·exact fun _ _ _ _ _ _ _ _ h=>by cases h
 ·rintro ⟨xs,⟨⟩⟩ hw hn
  exact JM xs
theorem GM (x:Innings) :(evPat (an [Im] Tryz.f371) (fun _=>none) Tryz.f371 qIn aF (x,())).sat fun z_=>z_ =(pZ (x,())).2:=by
 refine cast (by kernel_rfl) (?_ :(lp x.11,()) =(eM x,()))
 rfl
def ri:FuncId×Ctr:=(371,af KE qIn aF pZ)
theorem AR:CtrOK Tryz.prog KE 371 (af KE qIn aF pZ):=by
 refine ar (C:=an [Im] Tryz.f371) (al (.consU LB rfl .nil) _) mixed (fn:=Tryz.f371) Tryz.func371 (by kernel_rfl) (by kernel_rfl) (by kernel_rfl) (by kernel_rfl) (by kernel_rfl) (by kernel_rfl) (Λ:=fun _ _=>none) ?_ ?_
 ·exact fun _ _ _ _ _ _ _ _ h=>by cases h
 ·rintro ⟨x,⟨⟩⟩ hw hn
  exact GM x
theorem GV (x:Innings) :(evPat (an [Ip] Tryz.f320) (fun _=>none) Tryz.f320 qIn aF (x,())).sat fun z_=>z_ =(pZ (x,())).2:=by
 refine cast (by kernel_rfl) (?_ :(lp x.11,()) =(eM x,()))
 rfl
def E3:FuncId×Ctr:=(320,af KE qIn aF pZ)
theorem Jb:CtrOK Tryz.prog KE 320 (af KE qIn aF pZ):=by
 refine ar (C:=an [Ip] Tryz.f320) (al (.consU LC rfl .nil) _) mixed (fn:=Tryz.f320) Tryz.func320 (by kernel_rfl) (by kernel_rfl) (by kernel_rfl) (by kernel_rfl) (by kernel_rfl) (by kernel_rfl) (Λ:=fun _ _=>none) ?_ ?_
 ·exact fun _ _ _ _ _ _ _ _ h=>by cases h
 ·rintro ⟨x,⟨⟩⟩ hw hn
  exact GV x
end Go.Proofs.YtffdpnmioidloaaGreatDoor
namespace Go.Proofs.YtffdpnmioidloaaGreatDoor
open Go Go.Mir
abbrev K8:Nat:=8
def Pz (l:rD) (n:Nat):Cfg:=⟨tbl,find l,K8,n⟩
def cf8 (l:rD) (fn:Func):Cfg:=Pz l fn.ntmps
theorem bK {l:rD} (h:CtrsOK Tryz.prog K8 l) (n:Nat):CfgOK Tryz.prog (Pz l n):=⟨Ep,by show 1≤K8;decide,h⟩
def GB:Nat→List V→List V×List RowD
 | _,[]=>([],[])
 | k,.fsl t xs::r=>(.osl k k ::(GB (k+1) r).1,⟨t,xs⟩ ::(GB (k+1) r).2)
 | k,v::r=>(v ::(GB k r).1,(GB k r).2)
def Di (x:Innings):V:= .agg (GB 0 (flat fh (.nm .Innings) x)).1
def tM (x:Innings):List RowD:=(GB 0 (flat fh (.nm .Innings) x)).2
def bl (x:Innings) (p:Int):Bool:=decide (p≥1)&&decide (p≤(x.Subs.length:Int))
def QO (x:Innings) (p:Int):Bool:=x.Subs.getD (p - 1).toNat false
def aU (x:Innings) (p:Int):Bool:=bl x p&&QO x p
def eQ (over:Int) (p:Phase):Bool:=decide (p.From≤IntKind.i64.wrap (over+1))&&decide (IntKind.i64.wrap (over+1)≤p.To)
def c9 (r:Rules) (over:Int):Int:=((r.Power.find? (eQ over)).map Phase.Outside).getD r.Outside
def kK (r:Rules) (x:Innings):Int:=
 if !bl x x.Keeper||aU x x.Keeper||x.Keeper==x.Bowler then 17 else if x.Outside>c9 r x.Complete then 16 else 0
def CK (x:Innings) (d:Delivery):Int:=
 if d.Fielder>0 then (if !bl x d.Fielder then 3 else if aU x d.Fielder != d.Sub then 18 else 0) else 0
def CL (x:Innings) (d:Delivery):Int:=
 if d.Second>0 then (if !bl x d.Second then 3 else if aU x d.Second then 18 else 0) else 0
def iP (x:Innings) (d:Delivery):Int:=
 if CK x d != 0 then CK x d else if CL x d != 0 then CL x d
 else if d.How==4&&xQ d.Fielder 0 != x.Keeper then 17 else 0
def ai (x:Innings) (p:Int):Innings:=if !bl x p then x else if aU x p then x else if p==x.Bowler||p==x.Keeper then x else { x with Keeper:=p }
def dw (x:Innings) (p:Int):Int:=if !bl x p then 3 else if aU x p then 18 else if p==x.Bowler||p==x.Keeper then 17 else 0
def pV (x:Innings) (p:Int) (on:Bool):Innings:=
 { x with Subs:=x.Subs.set (p - 1).toNat on,Keeper:=bif on&&x.Keeper==p then 0 else x.Keeper,Bowler:=bif on&&x.Bowler==p then 0 else x.Bowler }
def ax (x:Innings) (p:Int) (on:Bool):Innings:=if !bl x p then x else if aU x p==on then x else pV x p on
def gT (x:Innings) (p:Int) (on:Bool):Int:=if !bl x p then 3 else if aU x p==on then 18 else 0
def p9 (x:Innings) (n:Int):Bool:=decide (n<0)||decide (n >(x.Subs.length:Int) - 2)
def aw (x:Innings) (n:Int):Innings:=if p9 x n then x else { x with Outside:=n }
def fA (x:Innings) (n:Int):Int:=if p9 x n then 16 else 0
def ah (x:Innings):Prop:=x.Batters.length≤1000000∧x.Bowlers.length≤1000000∧x.Before.length≤1000000∧x.Bowled.length≤1000000∧x.Subs.length≤1000000
def psI:Ty:= .prod (.nm .Innings) .unit
def jT:Ty:= .prod (.nm .Innings) (.prod (.int .i64) .unit)
def Fu:Ty:= .prod (.nm .Innings) (.prod (.int .i64) (.prod .bool .unit))
def psR:Ty:= .prod (.nm .Rules) (.prod (.int .i64) .unit)
def Bj:Ty:= .prod (.nm .Rules) (.prod (.nm .Innings) .unit)
def Md:Ty:= .prod (.nm .Innings) (.prod (.nm .Delivery) .unit)
def y4:Den jT→PRes:=fun x=>⟨[],.bool (bl x.1 x.2.1),[]⟩
def y5:Den jT→PRes:=fun x=>⟨[],.bool (aU x.1 x.2.1),[]⟩
def y6:Den psR→PRes:=fun x=>⟨[],.int .i64 (c9 x.1 x.2.1),[]⟩
def yM:Den Bj→PRes:=fun x=>⟨[],.int .i64 (kK x.1 x.2.1),[]⟩
def yN:Den Md→PRes:=fun x=>⟨[],.int .i64 (iP x.1 x.2.1),[]⟩
def gS:Den psI→PRes:=fun x=>⟨[ah x.1],Di x.1,tM x.1⟩
def yZ:Den jT→PRes:=fun x=>⟨[ah x.1],.tup [Di (ai x.1 x.2.1),.int .i64 (dw x.1 x.2.1)],tM (ai x.1 x.2.1)⟩
def yP:Den Fu→PRes:=fun x=>⟨[ah x.1],.tup [Di (ax x.1 x.2.1 x.2.2.1),.int .i64 (gT x.1 x.2.1 x.2.2.1)],tM (ax x.1 x.2.1 x.2.2.1)⟩
def y3:Den jT→PRes:=fun x=>⟨[ah x.1],.tup [Di (aw x.1 x.2.1),.int .i64 (fA x.1 x.2.1)],tM (aw x.1 x.2.1)⟩
def LX:Ty:= .prod (.slice .bool) .unit
def yO:Den LX→PRes:=fun x=>⟨[x.1.length≤1000000],.osl 0 0,[⟨.bool,x.1⟩]⟩
def Ma:Ty:= .prod (.slice (.int .u8)) .unit
def zg:Den Ma→PRes:=fun x=>⟨[x.1.length≤1000000],.osl 0 0,[⟨.int .u8,x.1⟩]⟩
def Mb:Ty:= .prod (.slice (.int .i64)) .unit
def zi:Den Mb→PRes:=fun x=>⟨[x.1.length≤1000000],.osl 0 0,[⟨.int .i64,x.1⟩]⟩
def k73:FuncId×Ctr:=(382,au K8 jT y4)
def k74:FuncId×Ctr:=(383,au K8 jT y5)
def k75:FuncId×Ctr:=(397,au K8 psR y6)
def k40:FuncId×Ctr:=(395,au K8 Bj yM)
def k42:FuncId×Ctr:=(396,au K8 Md yN)
def k78:FuncId×Ctr:=(381,au K8 psI gS)
def k66:FuncId×Ctr:=(348,au K8 jT yZ)
def k46:FuncId×Ctr:=(349,au K8 Fu yP)
def k67:FuncId×Ctr:=(347,au K8 jT y3)
def k45:FuncId×Ctr:=(305,au K8 LX yO)
def k90:FuncId×Ctr:=(303,au K8 Ma zg)
def k91:FuncId×Ctr:=(304,au K8 Mb zi)
def Bi:Ty:= .prod (.slice (.int .i64)) (.prod (.int .i64) .unit)
def fK (xs:List Int) (v:Int):Bool:=xs.contains v
def yQ:Den Bi→PRes:=fun x=>⟨[],.bool (fK x.1 x.2.1),[]⟩
def y7:Den Bi→PRes:=fun x=>⟨[],.int .i64 (idx x.1 x.2.1 0),[]⟩
def k47:FuncId×Ctr:=(318,au K8 Bi yQ)
def k79:FuncId×Ctr:=(338,au K8 Bi y7)
def EO (xs:List Int) (v:Int) (i:Nat):Prop:=i≤xs.length∧v∉xs.take i
def L79 (i:Nat):List (Lspec Nat):= [.out [true] [] [],.next (i+1) [] [],.out [false] [] []]
def J79 (xs:List Int) (v:Int) (i:Nat):St:=⟨[(0,.fsl (.int .i64) xs),(1,.int .i64 v),(7,.int .i64 xs.length),(8,.int .i64 i)],[],fun _=>none,0⟩
def T79 (xs:List Int) (v:Int):Tr:= .br (xs.contains v) (.leaf .ret ⟨[(4,.int .i64 (idx xs v 0))],[]⟩ 0) (.leaf (.ext 0) ⟨[],[]⟩ 0)
def Λ79 (xs:List Int) (v:Int):Nat→Option LoopSum:=find [(2,c7 ⟨[],[],0⟩ (J79 xs v 0) (T79 xs v))]
def EN (r:Rules) (o:Int) (i:Nat):Prop:=i≤r.Power.length∧∀ p∈r.Power.take i,eQ o p=false
def L75 (i:Nat):List (Lspec Nat):= [.out [true] [] [],.next (i+1) [] [],.out [false] [] []]
def T75 (r:Rules) (o:Int):Tr:= .br (r.Power.any (eQ o)) (.leaf .ret ⟨[(4,.int .i64 (c9 r o))],[]⟩ 48) (.leaf (.ext 0) ⟨[(2,.ptr 0 0)],[(0,.cells (flat fh (.nm .Rules) r))]⟩ 48)
def J75 (r:Rules) (o:Int) (i:Nat):St:=⟨[(1,.int .i64 o),(2,.ptr 0 0),(8,.fsl (.nm .Phase) r.Power),(9,.int .i64 r.Power.length),(10,.int .i64 i)],[(0,.cells (flat fh (.nm .Rules) r))],fun _=>none,48⟩
def Λ75 (r:Rules) (o:Int):Nat→Option LoopSum:=find [(2,c7 ⟨[],[],48⟩ (J75 r o 0) (T75 r o))]
end Go.Proofs.YtffdpnmioidloaaGreatDoor
namespace Go.Proofs.YtffdpnmioidloaaGreatDoor
open Go Go.Mir
def wtab:List dismissal_way:=
 [{ how:=0,name:={ data:=#[78,79,84,79,85,84] },fair:=false,wide:=false,no:=false,fielder:=false,either:=false },
  { how:=1,name:={ data:=#[66,79,87,76,69,68] },fair:=true,wide:=false,no:=false,fielder:=false,either:=false },
  { how:=2,name:={ data:=#[67,65,85,71,72,84] },fair:=true,wide:=false,no:=false,fielder:=true,either:=false },
  { how:=3,name:={ data:=#[76,66,87] },fair:=true,wide:=false,no:=false,fielder:=false,either:=false },
  { how:=4,name:={ data:=#[83,84,85,77,80,69,68] },fair:=true,wide:=true,no:=false,fielder:=true,either:=false },
  { how:=5,name:={ data:=#[72,73,84,87,73,67,75,69,84] },fair:=true,wide:=true,no:=false,fielder:=false,either:=false },
  { how:=6,name:={ data:=#[82,85,78,79,85,84] },fair:=true,wide:=true,no:=true,fielder:=true,either:=true },
  { how:=7,name:={ data:=#[72,73,84,84,87,73,67,69] },fair:=true,wide:=false,no:=true,fielder:=false,either:=false },
  { how:=8,name:={ data:=#[79,66,83,84,82,85,67,84,73,78,71] },fair:=true,wide:=true,no:=true,fielder:=false,either:=true },
  { how:=9,name:={ data:=#[84,73,77,69,68,79,85,84] },fair:=false,wide:=false,no:=false,fielder:=false,either:=false },
  { how:=10,name:={ data:=#[82,69,84,73,82,69,68] },fair:=false,wide:=false,no:=false,fielder:=false,either:=false }]
def onW (w:dismissal_way) (t:Int):Bool:=(t==1&&w.fair) ||(t==2&&w.wide) ||(t==3&&w.no)
def ofW (h:Int):dismissal_way:=(wtab.find? fun w=>w.how==h).getD dismissal_way.zero
def sE (w:dismissal_way) (t:Int) (free:Bool):Bool:=onW w t&&(!free||w.how==6||w.how==7||w.how==8)
def nB (t:Int) (free:Bool):List Int:=(wtab.filter fun w=>sE w t free).map dismissal_way.how
def l8 (n:Int):Bool:=decide (n≥1)&&decide (n≤11)
def fS (d:Delivery) (w:dismissal_way):Bool:=
 !((w.fielder != l8 d.Fielder) ||(!w.fielder&&d.Fielder != 0))&&(d.Second==0 ||(d.How==6&&l8 d.Second&&d.Second != d.Fielder))
def bD (d:Delivery) (free:Bool):Int:=
 if d.How==0 then (if d.Victim != 0 then 14 else if d.Fielder != 0||d.Second != 0||d.Sub then 15 else 0)
 else if !(nB d.Typ free).contains d.How then 13
 else if !(d.How==6||d.How==8)&&(d.Source != 0||d.Runs != 0) then 12
 else if d.Victim != 1&&(d.Victim != 2||!(ofW d.How).either) then 14
 else if !fS d (ofW d.How) then 15
 else if d.Sub&&d.How != 2&&d.How != 6 then 18
 else 0
def PT (h:Int):Bool:=h==6
def Qa (h:Int):Bool:=h==2||h==4||h==6
def xF (xs:List Int) (v:Int):Bool:=xs.contains v
def LZ:Ty:= .unit
def yW:Den LZ→PRes:=fun _=>⟨[],.osl 0 0,[⟨.nm .dismissal_way,wtab⟩]⟩
def L0:Ty:= .prod (.nm .dismissal_way) (.prod (.int .u8) .unit)
def yX:Den L0→PRes:=fun x=>⟨[],.bool (onW x.1 x.2.1),[]⟩
def GF:Ty:= .prod (.int .u8) .unit
def yU:Den GF→PRes:=fun x=>⟨[],.agg (flat fh (.nm .dismissal_way) (ofW x.1)),[]⟩
def LV:Ty:= .prod (.int .u8) (.prod .bool .unit)
def yK:Den LV→PRes:=fun x=>⟨[],.osl 0 0,[⟨.int .u8,nB x.1 x.2.1⟩]⟩
def LW:Ty:=GG
def yL:Den LW→PRes:=fun x=>⟨[],.bool (xF x.1 x.2.1),[]⟩
def L9:Ty:= .prod (.int .i64) .unit
def ze:Den L9→PRes:=fun x=>⟨[],.bool (l8 x.1),[]⟩
def LY:Ty:= .prod (.nm .Delivery) (.prod (.nm .dismissal_way) .unit)
def yV:Den LY→PRes:=fun x=>⟨[],.bool (fS x.1 x.2.1),[]⟩
def psP:Ty:= .prod (.nm .Delivery) (.prod .bool .unit)
def yJ:Den psP→PRes:=fun x=>⟨[],.int .i64 (bD x.1 x.2.1),[]⟩
def OU:Den GF→PRes:=fun x=>⟨[],.tup [.bool (Qa x.1),.bool (Qa x.1),.bool (PT x.1)],[]⟩
def k61:FuncId×Ctr:=(168,au KK LZ yW)
def k62:FuncId×Ctr:=(251,au KK L0 yX)
def k57:FuncId×Ctr:=(104,au KK GF yU)
def k20:FuncId×Ctr:=(207,au KK LV yK)
def k63:FuncId×Ctr:=(250,au KK GG yY)
def k21:FuncId×Ctr:=(206,au KK LW yL)
def k89:FuncId×Ctr:=(252,au KK L9 ze)
def k58:FuncId×Ctr:=(208,au KK LY yV)
def k17:FuncId×Ctr:=(164,au KK psP yJ)
def k29:FuncId×Ctr:=(389,au KK GF OU)
def J57 (h:Int) (i:Nat):St:=⟨[(0,.int .u8 h),(2,.ptr 0 0),(5,.osl 4 4),(6,.int .i64 wtab.length),(7,.int .i64 i)],
 [(4,.row 4 true (.nm .dismissal_way) wtab),(0,.cells (flat fh (.nm .dismissal_way) dismissal_way.zero))],fun _=>none,16⟩
def T57 (h:Int):Tr:= .br (wtab.any fun w=>w.how==h) (.leaf .ret ⟨[(2,.ptr 0 0)],[(0,.cells (flat fh (.nm .dismissal_way) (ofW h)))]⟩ 16)
 (.leaf (.ext 0) ⟨[(2,.ptr 0 0)],[(0,.cells (flat fh (.nm .dismissal_way) dismissal_way.zero))]⟩ 16)
def EL (h:Int) (i:Nat):Prop:=i≤11∧∀ w∈wtab.take i,(w.how==h)=false
def L57 (i:Nat):List (Lspec Nat):= [.out [true] [] [],.next (i+1) [] [],.out [false] [] []]
def Λ57 (h:Int):Nat→Option LoopSum:=find [(2,c7 ⟨[],[],16⟩ (J57 h 0) (T57 h))]
def fa (t:Int) (free:Bool) (i:Nat):List Int:=((wtab.take i).filter fun w=>sE w t free).map dismissal_way.how
def J20 (t:Int) (free:Bool) (i:Nat):St:=⟨[(0,.int .u8 t),(1,.bool free),(5,.osl 16 17),(8,.osl 8 8),(9,.int .i64 wtab.length),(10,.int .i64 i)],
 [(8,.row 8 true (.nm .dismissal_way) wtab),(16,.row 17 true (.int .u8) (fa t free i))],fun _=>none,20⟩
def T20 (t:Int) (free:Bool):Tr:= .leaf (.ext 0) ⟨[(5,.osl 16 17)],[(16,.row 17 true (.int .u8) (nB t free))]⟩ 20
def L20 (i:Nat):List (Lspec Nat):= [.next (i+1) [(17,144)] [],.next (i+1) [] [],.out [] [] []]
def sJ (i:Nat):Prop:=i≤11
def Λ20 (t:Int) (free:Bool):Nat→Option LoopSum:=find [(3,c7 ⟨[],[16],20⟩ (J20 t free 0) (T20 t free))]
end Go.Proofs.YtffdpnmioidloaaGreatDoor
namespace Go.Proofs.YtffdpnmioidloaaGreatDoor
open Go Go.Mir
attribute [local irreducible] Go.Mir.RT.sat Go.Mir.evFn Go.Mir.stepObl
theorem Qq :(evFn (lf [] Tryz.f168) (fun _=>none) Tryz.f168 (bo LZ ())).sat fun v' rows=>leV v' (yW ()).v∧rows =(yW ()).rows:=by
 refine cast (by kernel_rfl) (?_ :(nat_lit 0=nat_lit 0∧nat_lit 0=nat_lit 0)∧ [RowD.mk (Ty.nm Nm.dismissal_way) [dismissal_way.mk (0:Int) (ByteArray.mk #[78,79,84,79,85,84]) false false false false false,dismissal_way.mk (1:Int) (ByteArray.mk #[66,79,87,76,69,68]) true false false false false,dismissal_way.mk (2:Int) (ByteArray.mk #[67,65,85,71,72,84]) true false false true false,dismissal_way.mk (3:Int) (ByteArray.mk #[76,66,87]) true false false false false,dismissal_way.mk (4:Int) (ByteArray.mk #[83,84,85,77,80,69,68]) true true false true false,dismissal_way.mk (5:Int) (ByteArray.mk #[72,73,84,87,73,67,75,69,84]) true true false false false,dismissal_way.mk (6:Int) (ByteArray.mk #[82,85,78,79,85,84]) true true true true true,dismissal_way.mk (7:Int) (ByteArray.mk #[72,73,84,84,87,73,67,69]) true false true false false,dismissal_way.mk (8:Int) (ByteArray.mk #[79,66,83,84,82,85,67,84,73,78,71]) true true true false true,dismissal_way.mk (9:Int) (ByteArray.mk #[84,73,77,69,68,79,85,84]) false false false false false,dismissal_way.mk (10:Int) (ByteArray.mk #[82,69,84,73,82,69,68]) false false false false false]]=[RowD.mk (Ty.nm Nm.dismissal_way) wtab])
 exact ⟨⟨rfl,rfl⟩,by kernel_rfl⟩
theorem Lw:CtrOK Tryz.prog KK 168 (au KK LZ yW):=by
 refine ba (C:=lf [] Tryz.f168) (kS CtrsOK.nil _) mixed (fn:=Tryz.f168) Tryz.func168 (by kernel_rfl) (by kernel_rfl) (by kernel_rfl) (Λ:=fun _ _=>none) ?_ ?_ ?_
 ·exact fun _ _ _ _ _ _ _ _ h=>by cases h
 ·rintro ⟨⟩
  exact of_decide_eq_true (by kernel_rfl)
 ·rintro ⟨⟩ _ _
  exact Qq
theorem Qr (w:dismissal_way) (t:Int) :(evFn (lf [] Tryz.f251) (fun _=>none) Tryz.f251 (bo L0 (w,t,()))).sat fun v' rows=>leV v' (yX (w,t,())).v∧rows =(yX (w,t,())).rows:=by
 refine cast (by kernel_rfl) (?_ :(bif t ==(1:Int) then bif w.3 then true else bif t ==(2:Int) then bif w.4 then true else bif t ==(3:Int) then w.5 else false else bif t ==(3:Int) then w.5 else false else bif t ==(2:Int) then bif w.4 then true else bif t ==(3:Int) then w.5 else false else bif t ==(3:Int) then w.5 else false)=onW w t∧([]:List RowD)=[])
 simp only [onW];grind
theorem P9:CtrOK Tryz.prog KK 251 (au KK L0 yX):=by
 refine ba (C:=lf [] Tryz.f251) (kS CtrsOK.nil _) mixed (fn:=Tryz.f251) Tryz.func251 (by kernel_rfl) (by kernel_rfl) (by kernel_rfl) (Λ:=fun _ _=>none) ?_ ?_ ?_
 ·exact fun _ _ _ _ _ _ _ _ h=>by cases h
 ·rintro ⟨w,t,⟨⟩⟩
  exact of_decide_eq_true (by kernel_rfl)
 ·rintro ⟨w,t,⟨⟩⟩ _ _
  exact Qr w t
theorem QF (n:Int) :(evFn (lf [] Tryz.f252) (fun _=>none) Tryz.f252 (bo L9 (n,()))).sat fun v' rows=>leV v' (ze (n,())).v∧rows =(ze (n,())).rows:=by
 refine cast (by kernel_rfl) (?_ :(bif decide (n≥(1:Int)) then decide (n≤(11:Int)) else false)=l8 n∧([]:List RowD)=[])
 simp only [l8];grind
theorem Ri:CtrOK Tryz.prog KK 252 (au KK L9 ze):=by
 refine ba (C:=lf [] Tryz.f252) (kS CtrsOK.nil _) mixed (fn:=Tryz.f252) Tryz.func252 (by kernel_rfl) (by kernel_rfl) (by kernel_rfl) (Λ:=fun _ _=>none) ?_ ?_ ?_
 ·exact fun _ _ _ _ _ _ _ _ h=>by cases h
 ·rintro ⟨n,⟨⟩⟩
  exact of_decide_eq_true (by kernel_rfl)
 ·rintro ⟨n,⟨⟩⟩ _ _
  exact QF n
theorem M4:wtab.length=11:=rfl
theorem xx {α:Type} (p:α→Bool) :∀ (xs:List α) (i:Nat) (x:α),xs[i]?=some x→p x=true→(∀ y∈xs.take i,p y=false)→xs.find? p=some x
 | [],_,_,h,_,_=>by simp at h
 | y::xs,0,x,h,hp,_=>by simp at h;subst h;simp [hp]
 | y::xs,i+1,x,h,hp,hn=>by
  have h0:p y=false:=hn y (by simp)
  rw [List.find?_cons_of_neg (by simp [h0])]
  exact xx p xs i x (by simpa using h) hp (fun z hz=>hn z (by simp [hz]))
theorem rb {α:Type} {xs:List α} {i:Nat} (z:α) (h:i<xs.length):xs[i]?=some (xs.getD i z):=by
 rw [List.getD_eq_getElem?_getD,List.getElem?_eq_getElem h];rfl
theorem OX (h:Int) (i:Nat) (hi:EL h i) :(stepObl (J57 h) (EL h) (fun i=>11 - i) i (T57 h) (bs (lf [k61] Tryz.f104) (fun _=>none) (aG Tryz.f104 0) (J57 h i)) (L57 i)).1:=by
 refine cast (by kernel_rfl) (?_ :(decide ((↑i:Int) <(↑wtab.length:Int))=true→((0:Int)≤(↑i:Int)∧(↑i:Int) <(↑wtab.length:Int))∧(((wtab.getD (↑i:Int).toNat (dflt (Ty.nm Nm.dismissal_way))).1==h)=true→(wtab.any fun w=>w.1==h)=true∧(True∧True)∧((wtab.getD (↑i:Int).toNat (dflt (Ty.nm Nm.dismissal_way))).1 =(ofW h).1∧(wtab.getD (↑i:Int).toNat (dflt (Ty.nm Nm.dismissal_way))).2 =(ofW h).2∧(wtab.getD (↑i:Int).toNat (dflt (Ty.nm Nm.dismissal_way))).3 =(ofW h).3∧(wtab.getD (↑i:Int).toNat (dflt (Ty.nm Nm.dismissal_way))).4 =(ofW h).4∧(wtab.getD (↑i:Int).toNat (dflt (Ty.nm Nm.dismissal_way))).5 =(ofW h).5∧(wtab.getD (↑i:Int).toNat (dflt (Ty.nm Nm.dismissal_way))).6 =(ofW h).6∧(wtab.getD (↑i:Int).toNat (dflt (Ty.nm Nm.dismissal_way))).7 =(ofW h).7∧True)∧True)∧(((wtab.getD (↑i:Int).toNat (dflt (Ty.nm Nm.dismissal_way))).1==h)=false→EL h (i +(1:Nat))∧(11:Nat) - (i +(1:Nat)) <(11:Nat) - i∧(h=h∧True∧True∧(↑wtab.length:Int) =(↑wtab.length:Int)∧IntKind.i64.wrap ((↑i:Int) +(1:Int)) =(↑(i +(1:Nat)):Int)∧True)∧RowD.mk (Ty.nm Nm.dismissal_way) wtab=RowD.mk (Ty.nm Nm.dismissal_way) wtab∧((0:Int) =(0:Int)∧ByteArray.empty=ByteArray.empty∧false=false∧false=false∧false=false∧false=false∧false=false∧True)∧True))∧(decide ((↑i:Int) <(↑wtab.length:Int))=false→(wtab.any fun w=>w.1==h)=false∧(True∧True)∧((0:Int) =(0:Int)∧ByteArray.empty=ByteArray.empty∧false=false∧false=false∧false=false∧false=false∧false=false∧True)∧True))
 have e :(i:Int).toNat=i:=by simp
 rw [e]
 generalize hw:wtab.getD i (dflt (Ty.nm Nm.dismissal_way))=w
 refine ⟨fun h1=>?_,fun h1=>?_⟩
 ·have h1:i<wtab.length:=by simpa using h1
  have h3:wtab[i]?=some w:=by rw [←hw];exact rb _ h1
  refine ⟨⟨by omega,by omega⟩,fun h2=>?_,fun h2=>?_⟩
  ·have h4:ofW h=w:=by
    unfold ofW
    rw [xx (fun w=>w.how==h) wtab i w h3 h2 hi.2];rfl
   have h5 :(wtab.any fun w=>w.1==h)=true:=List.any_eq_true.2 ⟨w,List.mem_of_getElem? h3,h2⟩
   rw [h4]
   exact ⟨h5,⟨trivial,trivial⟩,⟨rfl,rfl,rfl,rfl,rfl,rfl,rfl,trivial⟩,trivial⟩
  ·rw [M4] at h1
   refine ⟨⟨by omega,fun y hy=>?_⟩,by omega,⟨rfl,trivial,trivial,rfl,?_,trivial⟩,rfl,⟨rfl,rfl,rfl,rfl,rfl,rfl,rfl,trivial⟩,trivial⟩
   ·rw [List.take_add_one,h3] at hy
    rcases List.mem_append.1 hy with hy|hy
    ·exact hi.2 y hy
    ·simp at hy;subst hy;exact h2
   ·rw [dI (by omega) (by omega)];omega
 ·have h1:wtab.length≤i:=by simpa using h1
  refine ⟨?_,⟨trivial,trivial⟩,⟨rfl,rfl,rfl,rfl,rfl,rfl,rfl,trivial⟩,trivial⟩
  rw [List.any_eq_false]
  intro x hx
  have:=hi.2 x (by rw [List.take_of_length_le h1];exact hx)
  simpa using this
theorem Lm (h:Int):LoopsOK Tryz.prog Tryz.f104.ntmps [aG Tryz.f104 0] (Λ57 h):=
 .cons (L:=c7 ⟨[],[],16⟩ (J57 h 0) (T57 h)) (by kernel_rfl) (kA (kS (.cons Lw .nil) _) mixed (J57 h) (fun _=>rfl) (EL h) (fun i=>11 - i) (fun _ _=>none) (fun _ _ _ _ _ h=>by cases h) (T57 h) [] [] 0 ⟨Nat.zero_le _,by simp⟩ L57 (OX h)) .nil
theorem Qo (h:Int) :(evFn (lf [k61] Tryz.f104) (Λ57 h) Tryz.f104 (bo GF (h,()))).sat fun v' rows=>leV v' (yU (h,())).v∧rows =(yU (h,())).rows:=by
 refine cast (by kernel_rfl) (?_ :((fi fun x=>none)∧(h=h∧True∧True∧(↑wtab.length:Int) =(↑wtab.length:Int)∧(0:Int) =(↑(0:Nat):Int)∧True)∧RowD.mk (Ty.nm Nm.dismissal_way) wtab=RowD.mk (Ty.nm Nm.dismissal_way) wtab∧((0:Int) =(0:Int)∧ByteArray.empty=ByteArray.empty∧false=false∧false=false∧false=false∧false=false∧false=false∧True)∧True)∧((wtab.any fun w=>w.1==h)=true→((ofW h).1 =(ofW h).1∧(ofW h).2 =(ofW h).2∧(ofW h).3 =(ofW h).3∧(ofW h).4 =(ofW h).4∧(ofW h).5 =(ofW h).5∧(ofW h).6 =(ofW h).6∧(ofW h).7 =(ofW h).7∧True)∧([]:List RowD)=[])∧((wtab.any fun w=>w.1==h)=false→((0:Int) =(ofW h).1∧ByteArray.empty =(ofW h).2∧false =(ofW h).3∧false =(ofW h).4∧false =(ofW h).5∧false =(ofW h).6∧false =(ofW h).7∧True)∧([]:List RowD)=[]))
 refine ⟨⟨rfl,⟨rfl,trivial,trivial,rfl,rfl,trivial⟩,rfl,⟨rfl,rfl,rfl,rfl,rfl,rfl,rfl,trivial⟩,trivial⟩,fun _=>⟨⟨rfl,rfl,rfl,rfl,rfl,rfl,rfl,trivial⟩,rfl⟩,fun h1=>?_⟩
 have h2:ofW h=dismissal_way.zero:=by
  unfold ofW
  rw [List.find?_eq_none.2]
  ·rfl
  ·intro x hx hp
   have:=(List.any_eq_false.1 h1) x hx
   exact this hp
 rw [h2]
 exact ⟨⟨rfl,rfl,rfl,rfl,rfl,rfl,rfl,trivial⟩,rfl⟩
theorem Q8:CtrOK Tryz.prog KK 104 (au KK GF yU):=by
 refine ba (C:=lf [k61] Tryz.f104) (kS (.cons Lw .nil) _) mixed (fn:=Tryz.f104) Tryz.func104 (by kernel_rfl) (by kernel_rfl) (by kernel_rfl) (Λ:=fun x=>Λ57 x.1) ?_ ?_ ?_
 ·rintro ⟨h,⟨⟩⟩ _ _
  exact LoopsOK.at (by kernel_rfl) (Lm h)
 ·rintro ⟨h,⟨⟩⟩
  exact of_decide_eq_true (by kernel_rfl)
 ·rintro ⟨h,⟨⟩⟩ _ _
  exact Qo h
theorem HX (w:dismissal_way) (t:Int) (free:Bool) :(bif onW w t then bif !free then true else bif w.1 ==(6:Int) then true else bif w.1 ==(7:Int) then true else w.1 ==(8:Int) else false)=sE w t free:=by
 simp only [sE];cases onW w t <;> cases free <;> simp <;> grind
theorem B2 (t:Int) (free:Bool) (i:Nat) {w:dismissal_way} (h:wtab[i]?=some w):fa t free (i+1)=fa t free i ++(bif sE w t free then [w.how] else []):=by
 unfold fa
 rw [List.take_add_one,h,List.filter_append,List.map_append]
 congr 1
 cases hf:sE w t free <;> simp [hf]
theorem Et (t:Int) (free:Bool) (i:Nat) :(fa t free i).length≤11:=by
 unfold fa
 rw [List.length_map]
 have h1:=List.length_filter_le (fun w=>sE w t free) (wtab.take i)
 have h2 :(wtab.take i).length≤wtab.length:=List.length_take_le' _ _
 rw [M4] at h2
 omega
theorem OW (t:Int) (free:Bool) (i:Nat) (hi:sJ i) :(stepObl (J20 t free) sJ (fun i=>11 - i) i (T20 t free) (bs (lf [k61,k62] Tryz.f207) (fun _=>none) (aG Tryz.f207 0) (J20 t free i)) (L20 i)).1:=by
 refine cast (by kernel_rfl) (?_ :(decide ((↑i:Int) <(↑wtab.length:Int))=true→((0:Int)≤(↑i:Int)∧(↑i:Int) <(↑wtab.length:Int))∧((bif onW (wtab.getD (↑i:Int).toNat (dflt (Ty.nm Nm.dismissal_way))) t then bif !free then true else bif (wtab.getD (↑i:Int).toNat (dflt (Ty.nm Nm.dismissal_way))).1 ==(6:Int) then true else bif (wtab.getD (↑i:Int).toNat (dflt (Ty.nm Nm.dismissal_way))).1 ==(7:Int) then true else (wtab.getD (↑i:Int).toNat (dflt (Ty.nm Nm.dismissal_way))).1 ==(8:Int) else false)=true→((fa t free i).length+[(wtab.getD (↑i:Int).toNat (dflt (Ty.nm Nm.dismissal_way))).1].length) *(1:Nat)≤(70368744177664:Nat)∧sJ (i +(1:Nat))∧(11:Nat) - (i +(1:Nat)) <(11:Nat) - i∧(t=t∧free=free∧True∧True∧(↑wtab.length:Int) =(↑wtab.length:Int)∧IntKind.i64.wrap ((↑i:Int) +(1:Int)) =(↑(i +(1:Nat)):Int)∧True)∧RowD.mk (Ty.nm Nm.dismissal_way) wtab=RowD.mk (Ty.nm Nm.dismissal_way) wtab∧RowD.mk (Ty.int IntKind.u8) (fa t free i++[(wtab.getD (↑i:Int).toNat (dflt (Ty.nm Nm.dismissal_way))).1])=RowD.mk (Ty.int IntKind.u8) (fa t free (i +(1:Nat)))∧True)∧((bif onW (wtab.getD (↑i:Int).toNat (dflt (Ty.nm Nm.dismissal_way))) t then bif !free then true else bif (wtab.getD (↑i:Int).toNat (dflt (Ty.nm Nm.dismissal_way))).1 ==(6:Int) then true else bif (wtab.getD (↑i:Int).toNat (dflt (Ty.nm Nm.dismissal_way))).1 ==(7:Int) then true else (wtab.getD (↑i:Int).toNat (dflt (Ty.nm Nm.dismissal_way))).1 ==(8:Int) else false)=false→sJ (i +(1:Nat))∧(11:Nat) - (i +(1:Nat)) <(11:Nat) - i∧(t=t∧free=free∧True∧True∧(↑wtab.length:Int) =(↑wtab.length:Int)∧IntKind.i64.wrap ((↑i:Int) +(1:Int)) =(↑(i +(1:Nat)):Int)∧True)∧RowD.mk (Ty.nm Nm.dismissal_way) wtab=RowD.mk (Ty.nm Nm.dismissal_way) wtab∧RowD.mk (Ty.int IntKind.u8) (fa t free i)=RowD.mk (Ty.int IntKind.u8) (fa t free (i +(1:Nat)))∧True))∧(decide ((↑i:Int) <(↑wtab.length:Int))=false→True∧(True∧True)∧RowD.mk (Ty.int IntKind.u8) (fa t free i)=RowD.mk (Ty.int IntKind.u8) (nB t free)∧True))
 have e :(i:Int).toNat=i:=by simp
 rw [e]
 generalize hw:wtab.getD i (dflt (Ty.nm Nm.dismissal_way))=w
 rw [HX]
 refine ⟨fun h1=>?_,fun h1=>?_⟩
 ·have h1:i<wtab.length:=by simpa using h1
  have h3:wtab[i]?=some w:=by rw [←hw];exact rb _ h1
  have hu:=B2 t free i h3
  rw [M4] at h1
  have hwr:IntKind.i64.wrap ((i:Int)+1) =((i+1:Nat):Int):=by rw [dI (by omega) (by omega)];omega
  refine ⟨⟨by omega,by rw [M4];omega⟩,fun h2=>?_,fun h2=>?_⟩
  ·rw [h2] at hu
   refine ⟨?_,(by unfold sJ;omega),by omega,⟨rfl,rfl,trivial,trivial,rfl,hwr,trivial⟩,rfl,by rw [hu];rfl,trivial⟩
   have:=Et t free i
   simp only [List.length_cons,List.length_nil]
   omega
  ·rw [h2] at hu
   refine ⟨(by unfold sJ;omega),by omega,⟨rfl,rfl,trivial,trivial,rfl,hwr,trivial⟩,rfl,by rw [hu];simp,trivial⟩
 ·have h1:wtab.length≤i:=by simpa using h1
  have hu:fa t free i=nB t free:=by unfold fa nB;rw [List.take_of_length_le h1]
  exact ⟨trivial,⟨trivial,trivial⟩,by rw [hu],trivial⟩
theorem Ll (t:Int) (free:Bool):LoopsOK Tryz.prog Tryz.f207.ntmps [aG Tryz.f207 0] (Λ20 t free):=
 .cons (L:=c7 ⟨[],[16],20⟩ (J20 t free 0) (T20 t free)) (by kernel_rfl) (kA (kS (.cons Lw (.cons P9 .nil)) _) mixed (J20 t free) (fun _=>rfl) sJ (fun i=>11 - i) (fun _ _=>none) (fun _ _ _ _ _ h=>by cases h) (T20 t free) [] [16] 0 (Nat.zero_le _) L20 (OW t free)) .nil
theorem Qe (t:Int) (free:Bool) :(evFn (lf [k61,k62] Tryz.f207) (Λ20 t free) Tryz.f207 (bo LV (t,free,()))).sat fun v' rows=>leV v' (yK (t,free,())).v∧rows =(yK (t,free,())).rows:=by
 refine cast (by kernel_rfl) (?_ :((fi fun x=>none)∧(t=t∧free=free∧True∧True∧(↑wtab.length:Int) =(↑wtab.length:Int)∧(0:Int) =(↑(0:Nat):Int)∧True)∧RowD.mk (Ty.nm Nm.dismissal_way) wtab=RowD.mk (Ty.nm Nm.dismissal_way) wtab∧fa t free (0:Nat)=[]∧True)∧(nat_lit 0=nat_lit 0∧nat_lit 0=nat_lit 0)∧ [RowD.mk (Ty.int IntKind.u8) (nB t free)]=[RowD.mk (Ty.int IntKind.u8) (nB t free)])
 exact ⟨⟨rfl,⟨rfl,rfl,trivial,trivial,rfl,rfl,trivial⟩,rfl,rfl,trivial⟩,⟨rfl,rfl⟩,rfl⟩
theorem Q2:CtrOK Tryz.prog KK 207 (au KK LV yK):=by
 refine ba (C:=lf [k61,k62] Tryz.f207) (kS (.cons Lw (.cons P9 .nil)) _) mixed (fn:=Tryz.f207) Tryz.func207 (by kernel_rfl) (by kernel_rfl) (by kernel_rfl) (Λ:=fun x=>Λ20 x.1 x.2.1) ?_ ?_ ?_
 ·rintro ⟨t,free,⟨⟩⟩ _ _
  exact LoopsOK.at (by kernel_rfl) (Ll t free)
 ·rintro ⟨t,free,⟨⟩⟩
  exact of_decide_eq_true (by kernel_rfl)
 ·rintro ⟨t,free,⟨⟩⟩ _ _
  exact Qe t free
theorem EJ (xs:List Int) (v i:Int) (hi:0≤i):decide (idx xs v i≥0)=xF xs v:=by
 induction xs generalizing i with
 | nil=>simp [idx,xF]
 | cons x xs ih=>
  by_cases hv:v=x
  ·subst hv;simp [idx,xF,hi]
  ·have h1 :(v==x)=false:=by simpa using hv
   have h2:=ih (i+1) (by omega)
   simp only [idx,h1,cond_false]
   rw [h2]
   simp [xF,hv]
theorem Qf (xs:List Int) (v:Int) :(evFn (lf [k63] Tryz.f206) (fun _=>none) Tryz.f206 (bo LW (xs,v,()))).sat fun v' rows=>leV v' (yL (xs,v,())).v∧rows =(yL (xs,v,())).rows:=by
 refine cast (by kernel_rfl) (?_:decide (idx xs v (0:Int)≥(0:Int))=xF xs v∧([]:List RowD)=[])
 exact ⟨EJ xs v 0 (Int.le_refl 0),rfl⟩
theorem Q3:CtrOK Tryz.prog KK 206 (au KK LW yL):=by
 refine ba (C:=lf [k63] Tryz.f206) (kS (.cons Ra .nil) _) mixed (fn:=Tryz.f206) Tryz.func206 (by kernel_rfl) (by kernel_rfl) (by kernel_rfl) (Λ:=fun _ _=>none) ?_ ?_ ?_
 ·exact fun _ _ _ _ _ _ _ _ h=>by cases h
 ·rintro ⟨xs,v,⟨⟩⟩
  exact of_decide_eq_true (by kernel_rfl)
 ·rintro ⟨xs,v,⟨⟩⟩ _ _
  exact Qf xs v
theorem Qp (d:Delivery) (w:dismissal_way) :(evFn (lf [k89] Tryz.f208) (fun _=>none) Tryz.f208 (bo LY (d,w,()))).sat fun v' rows=>leV v' (yV (d,w,())).v∧rows =(yV (d,w,())).rows:=by
 refine cast (by kernel_rfl) (?_ :((bif !w.6==l8 d.9 then true else bif !w.6 then d.9 !=(0:Int) else false)=true→false=fS d w∧([]:List RowD)=[])∧((bif !w.6==l8 d.9 then true else bif !w.6 then d.9 !=(0:Int) else false)=false→(bif d.10 ==(0:Int) then true else bif d.7 ==(6:Int) then bif l8 d.10 then d.10 != d.9 else false else false)=fS d w∧([]:List RowD)=[]))
 simp only [fS];grind
theorem Q9:CtrOK Tryz.prog KK 208 (au KK LY yV):=by
 refine ba (C:=lf [k89] Tryz.f208) (kS (.cons Ri .nil) _) mixed (fn:=Tryz.f208) Tryz.func208 (by kernel_rfl) (by kernel_rfl) (by kernel_rfl) (Λ:=fun _ _=>none) ?_ ?_ ?_
 ·exact fun _ _ _ _ _ _ _ _ h=>by cases h
 ·rintro ⟨d,w,⟨⟩⟩
  exact of_decide_eq_true (by kernel_rfl)
 ·rintro ⟨d,w,⟨⟩⟩ _ _
  exact Qp d w
theorem Qd (d:Delivery) (free:Bool) :(evFn (lf [k57,k20,k21,k58] Tryz.f164) (fun _=>none) Tryz.f164 (bo psP (d,free,()))).sat fun v' rows=>leV v' (yJ (d,free,())).v∧rows =(yJ (d,free,())).rows:=by
 refine cast (by kernel_rfl) (?_ :((d.7 ==(0:Int))=true→((d.8 !=(0:Int))=true→(14:Int)=bD d free∧([]:List RowD)=[])∧((d.8 !=(0:Int))=false→((bif d.9 !=(0:Int) then true else bif d.10 !=(0:Int) then true else d.11)=true→(15:Int)=bD d free∧([]:List RowD)=[])∧((bif d.9 !=(0:Int) then true else bif d.10 !=(0:Int) then true else d.11)=false→(0:Int)=bD d free∧([]:List RowD)=[])))∧((d.7 ==(0:Int))=false→((!xF (nB d.1 free) d.7)=true→(13:Int)=bD d free∧([]:List RowD)=[])∧((!xF (nB d.1 free) d.7)=false→((bif !bif d.7 ==(6:Int) then true else d.7 ==(8:Int) then bif d.2 !=(0:Int) then true else d.3 !=(0:Int) else false)=true→(12:Int)=bD d free∧([]:List RowD)=[])∧((bif !bif d.7 ==(6:Int) then true else d.7 ==(8:Int) then bif d.2 !=(0:Int) then true else d.3 !=(0:Int) else false)=false→((bif d.8 !=(1:Int) then bif d.8 !=(2:Int) then true else !(ofW d.7).7 else false)=true→(14:Int)=bD d free∧([]:List RowD)=[])∧((bif d.8 !=(1:Int) then bif d.8 !=(2:Int) then true else !(ofW d.7).7 else false)=false→((!fS d (ofW d.7))=true→(15:Int)=bD d free∧([]:List RowD)=[])∧((!fS d (ofW d.7))=false→((bif d.11 then bif d.7 !=(2:Int) then d.7 !=(6:Int) else false else false)=true→(18:Int)=bD d free∧([]:List RowD)=[])∧((bif d.11 then bif d.7 !=(2:Int) then d.7 !=(6:Int) else false else false)=false→(0:Int)=bD d free∧([]:List RowD)=[])))))))
 simp only [bD,xF]
 repeat' first|refine And.intro ?_ ?_|intro _
 all_goals grind
theorem P6:CtrOK Tryz.prog KK 164 (au KK psP yJ):=by
 refine ba (C:=lf [k57,k20,k21,k58] Tryz.f164) (kS (.cons Q8 (.cons Q2 (.cons Q3 (.cons Q9 .nil)))) _) mixed (fn:=Tryz.f164) Tryz.func164 (by kernel_rfl) (by kernel_rfl) (by kernel_rfl) (Λ:=fun _ _=>none) ?_ ?_ ?_
 ·exact fun _ _ _ _ _ _ _ _ h=>by cases h
 ·rintro ⟨d,free,⟨⟩⟩
  exact of_decide_eq_true (by kernel_rfl)
 ·rintro ⟨d,free,⟨⟩⟩ _ _
  exact Qd d free
end Go.Proofs.YtffdpnmioidloaaGreatDoor
namespace Go.Proofs.YtffdpnmioidloaaGreatDoor
open Go Go.Mir
attribute [local irreducible] Go.Mir.RT.sat Go.Mir.evFn Go.Mir.stepObl
def lM (n:Int):Prop:= -9223372036854775808≤n∧n≤9223372036854775807
theorem gU {n:Int} (h:wfD (.int .i64) n):lM n:=by
 obtain ⟨S,w,cs,h⟩:=h
 cases h with|int h=>exact ⟨by have:=h.1;simpa [IntKind.min,IntKind.max,IntKind.signed,IntKind.bits] using this,by have:=h.2;simpa [IntKind.min,IntKind.max,IntKind.signed,IntKind.bits] using this⟩
theorem Cz {x:Innings} {p:Int} (hp:lM p) (h:bl x p=true):IntKind.i64.wrap (p - 1)=p - 1∧0≤p - 1∧p - 1 <(x.Subs.length:Int):=by
 simp only [bl,Bool.and_eq_true,decide_eq_true_eq] at h
 have:=hp.2
 exact ⟨dI (by omega) (by omega),by omega,by omega⟩
theorem Qv (x:Innings) (p:Int) :(evFn (cf8 [] Tryz.f382) (fun _=>none) Tryz.f382 (bo jT (x,p,()))).sat fun v' rows=>leV v' (y4 (x,p,())).v∧rows =(y4 (x,p,())).rows:=by
 refine cast (by kernel_rfl) (?_ :(bif decide (p≥(1:Int)) then decide (p≤(↑x.21.length:Int)) else false)=bl x p∧([]:List RowD)=[])
 simp only [bl];grind
theorem I1:CtrOK Tryz.prog K8 382 (au K8 jT y4):=by
 refine ba (C:=cf8 [] Tryz.f382) (bK (CtrsOK.nil) _) mixed (fn:=Tryz.f382) Tryz.func382 (by kernel_rfl) (by kernel_rfl) (by kernel_rfl) (Λ:=fun _ _=>none) ?_ ?_ ?_
 ·exact fun _ _ _ _ _ _ _ _ h=>by cases h
 ·rintro ⟨x,p,⟨⟩⟩
  exact of_decide_eq_true (by kernel_rfl)
 ·rintro ⟨x,p,⟨⟩⟩ hw hn
  exact Qv x p
theorem Qw (x:Innings) (p:Int) (hp:lM p) :(evFn (cf8 [k73] Tryz.f383) (fun _=>none) Tryz.f383 (bo jT (x,p,()))).sat fun v' rows=>leV v' (y5 (x,p,())).v∧rows =(y5 (x,p,())).rows:=by
 refine cast (by kernel_rfl) (?_ :((bl x p=true→((0:Int)≤IntKind.i64.wrap (p - (1:Int))∧IntKind.i64.wrap (p - (1:Int)) <(↑x.21.length:Int))∧True)∧(bl x p=false→True))∧(true=true→(bif bl x p then x.21.getD (IntKind.i64.wrap (p - (1:Int))).toNat (dflt Ty.bool) else false)=aU x p∧([]:List RowD)=[]))
 refine ⟨⟨fun h=>⟨?_,trivial⟩,fun _=>trivial⟩,fun _=>⟨?_,rfl⟩⟩
 ·obtain ⟨e,h1,h2⟩:=Cz hp h
  rw [e];exact ⟨h1,h2⟩
 ·cases h:bl x p with
  | false=>simp [aU,h]
  | true=>
   obtain ⟨e,h1,h2⟩:=Cz hp h
   rw [e];simp only [cond_true,aU,h,Bool.true_and];rfl
theorem Lx:CtrOK Tryz.prog K8 383 (au K8 jT y5):=by
 refine ba (C:=cf8 [k73] Tryz.f383) (bK (.cons I1 .nil) _) mixed (fn:=Tryz.f383) Tryz.func383 (by kernel_rfl) (by kernel_rfl) (by kernel_rfl) (Λ:=fun _ _=>none) ?_ ?_ ?_
 ·exact fun _ _ _ _ _ _ _ _ h=>by cases h
 ·rintro ⟨x,p,⟨⟩⟩
  exact of_decide_eq_true (by kernel_rfl)
 ·rintro ⟨x,p,⟨⟩⟩ hw hn
  exact Qw x p (gU (bg (aH hw)))
theorem B3 {n:Nm} {x:n.T} (h:wfD (.nm n) x):wfD n.flds (n.to x):=by
 obtain ⟨S,w,cs,h⟩:=h
 cases h with|nm h=>exact ⟨_,_,_,h⟩
theorem pj {r:Rules} (h:wfD (.nm .Rules) r):r.Power.length≤aO:=
 dE (bg (aH (aH (aH (aH (aH (aH (aH (aH (aH (aH (aH (aH (aH (B3 h)))))))))))))))
theorem OZ (r:Rules) (o:Int) (hx:r.Power.length≤aO) (i:Nat) (hi:EN r o i) :(stepObl (J75 r o) (EN r o) (fun i=>r.Power.length - i) i (T75 r o) (bs (cf8 [] Tryz.f397) (fun _=>none) (aG Tryz.f397 0) (J75 r o i)) (L75 i)).1:=by
 refine cast (by kernel_rfl) (?_ :(decide ((↑i:Int) <(↑r.14.length:Int))=true→((0:Int)≤(↑i:Int)∧(↑i:Int) <(↑r.14.length:Int))∧((bif decide ((r.14.getD (↑i:Int).toNat (dflt (Ty.nm Nm.Phase))).1≤IntKind.i64.wrap (o +(1:Int))) then decide (IntKind.i64.wrap (o +(1:Int))≤(r.14.getD (↑i:Int).toNat (dflt (Ty.nm Nm.Phase))).2) else false)=true→r.14.any (eQ o)=true∧((r.14.getD (↑i:Int).toNat (dflt (Ty.nm Nm.Phase))).3=c9 r o∧True)∧True)∧((bif decide ((r.14.getD (↑i:Int).toNat (dflt (Ty.nm Nm.Phase))).1≤IntKind.i64.wrap (o +(1:Int))) then decide (IntKind.i64.wrap (o +(1:Int))≤(r.14.getD (↑i:Int).toNat (dflt (Ty.nm Nm.Phase))).2) else false)=false→EN r o (i +(1:Nat))∧r.14.length - (i +(1:Nat))<r.14.length - i∧(o=o∧True∧RowD.mk (Ty.nm Nm.Phase) r.14=RowD.mk (Ty.nm Nm.Phase) r.14∧(↑r.14.length:Int) =(↑r.14.length:Int)∧IntKind.i64.wrap ((↑i:Int) +(1:Int)) =(↑(i +(1:Nat)):Int)∧True)∧(r.1=r.1∧r.2=r.2∧r.3=r.3∧r.4=r.4∧r.5=r.5∧r.6=r.6∧r.7=r.7∧r.8=r.8∧r.9=r.9∧r.10=r.10∧r.11=r.11∧r.12=r.12∧r.13=r.13∧RowD.mk (Ty.nm Nm.Phase) r.14=RowD.mk (Ty.nm Nm.Phase) r.14∧True)∧True))∧(decide ((↑i:Int) <(↑r.14.length:Int))=false→r.14.any (eQ o)=false∧(True∧True)∧(r.1=r.1∧r.2=r.2∧r.3=r.3∧r.4=r.4∧r.5=r.5∧r.6=r.6∧r.7=r.7∧r.8=r.8∧r.9=r.9∧r.10=r.10∧r.11=r.11∧r.12=r.12∧r.13=r.13∧RowD.mk (Ty.nm Nm.Phase) r.14=RowD.mk (Ty.nm Nm.Phase) r.14∧True)∧True))
 have e :(i:Int).toNat=i:=by simp
 rw [e]
 generalize hw:r.Power.getD i (dflt (Ty.nm Nm.Phase))=w
 have hc :(bif decide (w.From≤IntKind.i64.wrap (o+1)) then decide (IntKind.i64.wrap (o+1)≤w.To) else false)=eQ o w:=by simp only [eQ];cases decide (w.From≤IntKind.i64.wrap (o+1)) <;> rfl
 have hb:r.Power.length≤140737488355328:=hx
 refine ⟨fun h1=>?_,fun h1=>?_⟩
 ·have h1:i<r.Power.length:=by simpa using h1
  have h3:r.Power[i]?=some w:=by rw [←hw];exact rb _ h1
  refine ⟨⟨by omega,by omega⟩,fun h2=>?_,fun h2=>?_⟩
  ·have h2:eQ o w=true:=by rw [←hc];exact h2
   have h4:c9 r o=w.Outside:=by
    unfold c9
    rw [xx (eQ o) r.Power i w h3 h2 hi.2];rfl
   have h5:r.Power.any (eQ o)=true:=List.any_eq_true.2 ⟨w,List.mem_of_getElem? h3,h2⟩
   rw [h4]
   simp [h5]
  ·have h2:eQ o w=false:=by rw [←hc];exact h2
   refine ⟨⟨by omega,fun y hy=>?_⟩,by omega,⟨rfl,trivial,rfl,rfl,?_,trivial⟩,by simp⟩
   ·rw [List.take_add_one,h3] at hy
    rcases List.mem_append.1 hy with hy|hy
    ·exact hi.2 y hy
    ·simp at hy;subst hy;exact h2
   ·rw [dI (by omega) (by omega)];omega
 ·have h1:r.Power.length≤i:=by simpa using h1
  have:r.Power.any (eQ o)=false:=by
   rw [List.any_eq_false]
   intro x hx
   have:=hi.2 x (by rw [List.take_of_length_le h1];exact hx)
   simpa using this
  simp [this]
theorem Od (r:Rules) (o:Int) (hx:r.Power.length≤aO):LoopOK Tryz.prog Tryz.f397.ntmps (aG Tryz.f397 0) (c7 ⟨[],[],48⟩ (J75 r o 0) (T75 r o)):=
 kA (bK (CtrsOK.nil) _) mixed (J75 r o) (fun _=>rfl) (EN r o) (fun i=>r.Power.length - i) (fun _ _=>none) (fun _ _ _ _ _ h=>by cases h) (T75 r o) [] [] 0 (⟨Nat.zero_le _,by simp⟩) L75 (fun i hi=>OZ r o hx i hi)
theorem Qx (r:Rules) (o:Int) (hx:r.Power.length≤aO) :(evFn (cf8 [] Tryz.f397) (Λ75 r o) Tryz.f397 (bo psR (r,o,()))).sat fun v' rows=>leV v' (y6 (r,o,())).v∧rows =(y6 (r,o,())).rows:=by
 refine cast (by kernel_rfl) (?_ :((fi fun x=>none)∧(o=o∧True∧RowD.mk (Ty.nm Nm.Phase) r.14=RowD.mk (Ty.nm Nm.Phase) r.14∧(↑r.14.length:Int) =(↑r.14.length:Int)∧(0:Int) =(↑(0:Nat):Int)∧True)∧(r.1=r.1∧r.2=r.2∧r.3=r.3∧r.4=r.4∧r.5=r.5∧r.6=r.6∧r.7=r.7∧r.8=r.8∧r.9=r.9∧r.10=r.10∧r.11=r.11∧r.12=r.12∧r.13=r.13∧RowD.mk (Ty.nm Nm.Phase) r.14=RowD.mk (Ty.nm Nm.Phase) r.14∧True)∧True)∧(r.14.any (eQ o)=true→c9 r o=c9 r o∧([]:List RowD)=[])∧(r.14.any (eQ o)=false→r.13=c9 r o∧([]:List RowD)=[]))
 have hN:r.Power.any (eQ o)=false→c9 r o=r.Outside:=fun h1=>by
  unfold c9
  rw [List.find?_eq_none.2 fun x hx=>(List.any_eq_false.1 h1) x hx];rfl
 refine ⟨⟨rfl,⟨rfl,trivial,rfl,rfl,rfl,trivial⟩,by simp⟩,fun _=>by simp,fun h=>by rw [hN h];simp⟩
theorem Re:CtrOK Tryz.prog K8 397 (au K8 psR y6):=by
 refine ba (C:=cf8 [] Tryz.f397) (bK (CtrsOK.nil) _) mixed (fn:=Tryz.f397) Tryz.func397 (by kernel_rfl) (by kernel_rfl) (by kernel_rfl) (Λ:=fun x=>Λ75 x.1 x.2.1) ?_ ?_ ?_
 ·rintro ⟨r,o,⟨⟩⟩ hw hn
  exact LoopsOK.at (by kernel_rfl) (.cons (by kernel_rfl) (Od r o (pj (bg hw))) .nil)
 ·rintro ⟨r,o,⟨⟩⟩
  exact of_decide_eq_true (by kernel_rfl)
 ·rintro ⟨r,o,⟨⟩⟩ hw hn
  exact Qx r o (pj (bg hw))
theorem Qg (r:Rules) (x:Innings) :(evFn (cf8 [k73,k74,k75] Tryz.f395) (fun _=>none) Tryz.f395 (bo Bj (r,x,()))).sat fun v' rows=>leV v' (yM (r,x,())).v∧rows =(yM (r,x,())).rows:=by
 refine cast (by kernel_rfl) (?_ :((bif !bl x x.19 then true else bif aU x x.19 then true else x.19==x.12)=true→(17:Int)=kK r x∧([]:List RowD)=[])∧((bif !bl x x.19 then true else bif aU x x.19 then true else x.19==x.12)=false→(decide (x.20>c9 r x.7)=true→(16:Int)=kK r x∧([]:List RowD)=[])∧(decide (x.20>c9 r x.7)=false→(0:Int)=kK r x∧([]:List RowD)=[])))
 simp only [kK]
 repeat' first|refine And.intro ?_ ?_|intro _
 all_goals first|rfl|grind
theorem P7:CtrOK Tryz.prog K8 395 (au K8 Bj yM):=by
 refine ba (C:=cf8 [k73,k74,k75] Tryz.f395) (bK (.cons I1 (.cons Lx (.cons Re .nil))) _) mixed (fn:=Tryz.f395) Tryz.func395 (by kernel_rfl) (by kernel_rfl) (by kernel_rfl) (Λ:=fun _ _=>none) ?_ ?_ ?_
 ·exact fun _ _ _ _ _ _ _ _ h=>by cases h
 ·rintro ⟨r,x,⟨⟩⟩
  exact of_decide_eq_true (by kernel_rfl)
 ·rintro ⟨r,x,⟨⟩⟩ hw hn
  exact Qg r x
theorem Qh (x:Innings) (d:Delivery) :(evFn (cf8 [k73,k74] Tryz.f396) (fun _=>none) Tryz.f396 (bo Md (x,d,()))).sat fun v' rows=>leV v' (yN (x,d,())).v∧rows =(yN (x,d,())).rows:=by
 refine cast (by kernel_rfl) (?_ :((decide (d.9 >(0:Int))=true→((!bl x d.9)=true→(3:Int)=iP x d∧([]:List RowD)=[])∧((!bl x d.9)=false→((!d.11==aU x d.9)=true→(18:Int)=iP x d∧([]:List RowD)=[])∧((!d.11==aU x d.9)=false→True)))∧(decide (d.9 >(0:Int))=false→True))∧((bif decide (d.9 >(0:Int)) then bif !bl x d.9 then false else !!d.11==aU x d.9 else true)=true→((decide (d.10 >(0:Int))=true→((!bl x d.10)=true→(3:Int)=iP x d∧([]:List RowD)=[])∧((!bl x d.10)=false→(aU x d.10=true→(18:Int)=iP x d∧([]:List RowD)=[])∧(aU x d.10=false→True)))∧(decide (d.10 >(0:Int))=false→True))∧((bif decide (d.10 >(0:Int)) then bif !bl x d.10 then false else !aU x d.10 else true)=true→((bif d.7 ==(4:Int) then (if (0:Int)>d.9 then (0:Int) else d.9) != x.19 else false)=true→(17:Int)=iP x d∧([]:List RowD)=[])∧((bif d.7 ==(4:Int) then (if (0:Int)>d.9 then (0:Int) else d.9) != x.19 else false)=false→(0:Int)=iP x d∧([]:List RowD)=[]))))
 have hm:xQ d.Fielder 0=if (0:Int)>d.Fielder then 0 else d.Fielder:=rfl
 simp only [iP,CK,CL,hm]
 repeat' first|refine And.intro ?_ ?_|intro _
 all_goals first|trivial|rfl|grind
theorem P8:CtrOK Tryz.prog K8 396 (au K8 Md yN):=by
 refine ba (C:=cf8 [k73,k74] Tryz.f396) (bK (.cons I1 (.cons Lx .nil)) _) mixed (fn:=Tryz.f396) Tryz.func396 (by kernel_rfl) (by kernel_rfl) (by kernel_rfl) (Λ:=fun _ _=>none) ?_ ?_ ?_
 ·exact fun _ _ _ _ _ _ _ _ h=>by cases h
 ·rintro ⟨x,d,⟨⟩⟩
  exact of_decide_eq_true (by kernel_rfl)
 ·rintro ⟨x,d,⟨⟩⟩ hw hn
  exact Qh x d
theorem Qi (x:List Bool) (hs:x.length≤1000000) :(evFn (cf8 [] Tryz.f305) (fun _=>none) Tryz.f305 (bo LX (x,()))).sat fun v' rows=>leV v' (yO (x,())).v∧rows =(yO (x,())).rows:=by
 refine cast (by kernel_rfl) (?_ :(x.isEmpty=true→(nat_lit 0=nat_lit 0∧nat_lit 0=nat_lit 0)∧ [RowD.mk Ty.bool []]=[RowD.mk Ty.bool x])∧((0:Nat)+x.length) *(1:Nat)≤(70368744177664:Nat)∧(nat_lit 0=nat_lit 0∧nat_lit 0=nat_lit 0)∧ [RowD.mk Ty.bool ([]++x)]=[RowD.mk Ty.bool x])
 refine ⟨fun h=>⟨⟨rfl,rfl⟩,?_⟩,?_,⟨rfl,rfl⟩,rfl⟩
 ·have:x=[]:=List.isEmpty_iff.1 h
  subst this;rfl
 ·omega
theorem Lu:CtrOK Tryz.prog K8 305 (au K8 LX yO):=by
 refine ba (C:=cf8 [] Tryz.f305) (bK (CtrsOK.nil) _) mixed (fn:=Tryz.f305) Tryz.func305 (by kernel_rfl) (by kernel_rfl) (by kernel_rfl) (Λ:=fun _ _=>none) ?_ ?_ ?_
 ·exact fun _ _ _ _ _ _ _ _ h=>by cases h
 ·rintro ⟨x,⟨⟩⟩
  exact of_decide_eq_true (by kernel_rfl)
 ·rintro ⟨x,⟨⟩⟩ hw hn
  exact Qi x (hn _ (List.mem_singleton.2 rfl))
theorem QG (x:List Int) (hs:x.length≤1000000) :(evFn (cf8 [] Tryz.f303) (fun _=>none) Tryz.f303 (bo Ma (x,()))).sat fun v' rows=>leV v' (zg (x,())).v∧rows =(zg (x,())).rows:=by
 refine cast (by kernel_rfl) (?_ :(x.isEmpty=true→(nat_lit 0=nat_lit 0∧nat_lit 0=nat_lit 0)∧ [RowD.mk (Ty.int IntKind.u8) []]=[RowD.mk (Ty.int IntKind.u8) x])∧((0:Nat)+x.length) *(1:Nat)≤(70368744177664:Nat)∧(nat_lit 0=nat_lit 0∧nat_lit 0=nat_lit 0)∧ [RowD.mk (Ty.int IntKind.u8) ([]++x)]=[RowD.mk (Ty.int IntKind.u8) x])
 refine ⟨fun h=>⟨⟨rfl,rfl⟩,?_⟩,?_,⟨rfl,rfl⟩,rfl⟩
 ·have:x=[]:=List.isEmpty_iff.1 h
  subst this;rfl
 ·omega
theorem Ly:CtrOK Tryz.prog K8 303 (au K8 Ma zg):=by
 refine ba (C:=cf8 [] Tryz.f303) (bK (CtrsOK.nil) _) mixed (fn:=Tryz.f303) Tryz.func303 (by kernel_rfl) (by kernel_rfl) (by kernel_rfl) (Λ:=fun _ _=>none) ?_ ?_ ?_
 ·exact fun _ _ _ _ _ _ _ _ h=>by cases h
 ·rintro ⟨x,⟨⟩⟩
  exact of_decide_eq_true (by kernel_rfl)
 ·rintro ⟨x,⟨⟩⟩ hw hn
  exact QG x (hn _ (List.mem_singleton.2 rfl))
theorem QH (x:List Int) (hs:x.length≤1000000) :(evFn (cf8 [] Tryz.f304) (fun _=>none) Tryz.f304 (bo Mb (x,()))).sat fun v' rows=>leV v' (zi (x,())).v∧rows =(zi (x,())).rows:=by
 refine cast (by kernel_rfl) (?_ :(x.isEmpty=true→(nat_lit 0=nat_lit 0∧nat_lit 0=nat_lit 0)∧ [RowD.mk (Ty.int IntKind.i64) []]=[RowD.mk (Ty.int IntKind.i64) x])∧((0:Nat)+x.length) *(8:Nat)≤(70368744177664:Nat)∧(nat_lit 0=nat_lit 0∧nat_lit 0=nat_lit 0)∧ [RowD.mk (Ty.int IntKind.i64) ([]++x)]=[RowD.mk (Ty.int IntKind.i64) x])
 refine ⟨fun h=>⟨⟨rfl,rfl⟩,?_⟩,?_,⟨rfl,rfl⟩,rfl⟩
 ·have:x=[]:=List.isEmpty_iff.1 h
  subst this;rfl
 ·omega
theorem Lz:CtrOK Tryz.prog K8 304 (au K8 Mb zi):=by
 refine ba (C:=cf8 [] Tryz.f304) (bK (CtrsOK.nil) _) mixed (fn:=Tryz.f304) Tryz.func304 (by kernel_rfl) (by kernel_rfl) (by kernel_rfl) (Λ:=fun _ _=>none) ?_ ?_ ?_
 ·exact fun _ _ _ _ _ _ _ _ h=>by cases h
 ·rintro ⟨x,⟨⟩⟩
  exact of_decide_eq_true (by kernel_rfl)
 ·rintro ⟨x,⟨⟩⟩ hw hn
  exact QH x (hn _ (List.mem_singleton.2 rfl))
theorem Qy (x:Innings) (hs:ah x) :(evFn (cf8 [k45,k90,k91] Tryz.f381) (fun _=>none) Tryz.f381 (bo psI (x,()))).sat fun v' rows=>leV v' (gS (x,())).v∧rows =(gS (x,())).rows:=by
 refine cast (by kernel_rfl) (?_:x.11.length≤(1000000:Nat)∧x.13.length≤(1000000:Nat)∧x.14.length≤(1000000:Nat)∧x.16.length≤(1000000:Nat)∧x.21.length≤(1000000:Nat)∧(x.1=x.1∧x.2=x.2∧x.3=x.3∧x.4=x.4∧x.5=x.5∧x.6.1=x.6.1∧x.6.2=x.6.2∧x.6.3=x.6.3∧x.6.4=x.6.4∧x.6.5=x.6.5∧x.7=x.7∧x.8=x.8∧x.9=x.9∧x.10=x.10∧(nat_lit 0=nat_lit 0∧nat_lit 0=nat_lit 0)∧x.12=x.12∧(nat_lit 1=nat_lit 1∧nat_lit 1=nat_lit 1)∧(nat_lit 2=nat_lit 2∧nat_lit 2=nat_lit 2)∧x.15=x.15∧(nat_lit 3=nat_lit 3∧nat_lit 3=nat_lit 3)∧x.17=x.17∧x.18=x.18∧x.19=x.19∧x.20=x.20∧(nat_lit 4=nat_lit 4∧nat_lit 4=nat_lit 4)∧x.22.1=x.22.1∧x.22.2.1=x.22.2.1∧x.23=x.23∧True)∧ [RowD.mk (Ty.int IntKind.u8) x.11,RowD.mk (Ty.int IntKind.i64) x.13,RowD.mk (Ty.int IntKind.i64) x.14,RowD.mk (Ty.int IntKind.i64) x.16,RowD.mk Ty.bool x.21]=[RowD.mk (Ty.int IntKind.u8) x.11,RowD.mk (Ty.int IntKind.i64) x.13,RowD.mk (Ty.int IntKind.i64) x.14,RowD.mk (Ty.int IntKind.i64) x.16,RowD.mk Ty.bool x.21])
 obtain ⟨h1,h2,h3,h4,h5⟩:=hs
 simp [h1,h2,h3,h4,h5]
theorem Oz:CtrOK Tryz.prog K8 381 (au K8 psI gS):=by
 refine ba (C:=cf8 [k45,k90,k91] Tryz.f381) (bK (.cons Lu (.cons Ly (.cons Lz .nil))) _) mixed (fn:=Tryz.f381) Tryz.func381 (by kernel_rfl) (by kernel_rfl) (by kernel_rfl) (Λ:=fun _ _=>none) ?_ ?_ ?_
 ·exact fun _ _ _ _ _ _ _ _ h=>by cases h
 ·rintro ⟨x,⟨⟩⟩
  exact of_decide_eq_true (by kernel_rfl)
 ·rintro ⟨x,⟨⟩⟩ hw hn
  exact Qy x (hn _ (List.mem_singleton.2 rfl))
theorem Qt (x:Innings) (p:Int) (hs:ah x) :(evFn (cf8 [k73,k74,k78] Tryz.f348) (fun _=>none) Tryz.f348 (bo jT (x,p,()))).sat fun v' rows=>leV v' (yZ (x,p,())).v∧rows =(yZ (x,p,())).rows:=by
 refine cast (by kernel_rfl) (?_:ah x∧((!bl x p)=true→((x.1 =(ai x p).1∧x.2 =(ai x p).2∧x.3 =(ai x p).3∧x.4 =(ai x p).4∧x.5 =(ai x p).5∧x.6.1 =(ai x p).6.1∧x.6.2 =(ai x p).6.2∧x.6.3 =(ai x p).6.3∧x.6.4 =(ai x p).6.4∧x.6.5 =(ai x p).6.5∧x.7 =(ai x p).7∧x.8 =(ai x p).8∧x.9 =(ai x p).9∧x.10 =(ai x p).10∧(nat_lit 0=nat_lit 0∧nat_lit 0=nat_lit 0)∧x.12 =(ai x p).12∧(nat_lit 1=nat_lit 1∧nat_lit 1=nat_lit 1)∧(nat_lit 2=nat_lit 2∧nat_lit 2=nat_lit 2)∧x.15 =(ai x p).15∧(nat_lit 3=nat_lit 3∧nat_lit 3=nat_lit 3)∧x.17 =(ai x p).17∧x.18 =(ai x p).18∧x.19 =(ai x p).19∧x.20 =(ai x p).20∧(nat_lit 4=nat_lit 4∧nat_lit 4=nat_lit 4)∧x.22.1 =(ai x p).22.1∧x.22.2.1 =(ai x p).22.2.1∧x.23 =(ai x p).23∧True)∧(3:Int)=dw x p∧True)∧ [RowD.mk (Ty.int IntKind.u8) x.11,RowD.mk (Ty.int IntKind.i64) x.13,RowD.mk (Ty.int IntKind.i64) x.14,RowD.mk (Ty.int IntKind.i64) x.16,RowD.mk Ty.bool x.21]=[RowD.mk (Ty.int IntKind.u8) (ai x p).11,RowD.mk (Ty.int IntKind.i64) (ai x p).13,RowD.mk (Ty.int IntKind.i64) (ai x p).14,RowD.mk (Ty.int IntKind.i64) (ai x p).16,RowD.mk Ty.bool (ai x p).21])∧((!bl x p)=false→(aU x p=true→((x.1 =(ai x p).1∧x.2 =(ai x p).2∧x.3 =(ai x p).3∧x.4 =(ai x p).4∧x.5 =(ai x p).5∧x.6.1 =(ai x p).6.1∧x.6.2 =(ai x p).6.2∧x.6.3 =(ai x p).6.3∧x.6.4 =(ai x p).6.4∧x.6.5 =(ai x p).6.5∧x.7 =(ai x p).7∧x.8 =(ai x p).8∧x.9 =(ai x p).9∧x.10 =(ai x p).10∧(nat_lit 0=nat_lit 0∧nat_lit 0=nat_lit 0)∧x.12 =(ai x p).12∧(nat_lit 1=nat_lit 1∧nat_lit 1=nat_lit 1)∧(nat_lit 2=nat_lit 2∧nat_lit 2=nat_lit 2)∧x.15 =(ai x p).15∧(nat_lit 3=nat_lit 3∧nat_lit 3=nat_lit 3)∧x.17 =(ai x p).17∧x.18 =(ai x p).18∧x.19 =(ai x p).19∧x.20 =(ai x p).20∧(nat_lit 4=nat_lit 4∧nat_lit 4=nat_lit 4)∧x.22.1 =(ai x p).22.1∧x.22.2.1 =(ai x p).22.2.1∧x.23 =(ai x p).23∧True)∧(18:Int)=dw x p∧True)∧ [RowD.mk (Ty.int IntKind.u8) x.11,RowD.mk (Ty.int IntKind.i64) x.13,RowD.mk (Ty.int IntKind.i64) x.14,RowD.mk (Ty.int IntKind.i64) x.16,RowD.mk Ty.bool x.21]=[RowD.mk (Ty.int IntKind.u8) (ai x p).11,RowD.mk (Ty.int IntKind.i64) (ai x p).13,RowD.mk (Ty.int IntKind.i64) (ai x p).14,RowD.mk (Ty.int IntKind.i64) (ai x p).16,RowD.mk Ty.bool (ai x p).21])∧(aU x p=false→((bif p==x.12 then true else p==x.19)=true→((x.1 =(ai x p).1∧x.2 =(ai x p).2∧x.3 =(ai x p).3∧x.4 =(ai x p).4∧x.5 =(ai x p).5∧x.6.1 =(ai x p).6.1∧x.6.2 =(ai x p).6.2∧x.6.3 =(ai x p).6.3∧x.6.4 =(ai x p).6.4∧x.6.5 =(ai x p).6.5∧x.7 =(ai x p).7∧x.8 =(ai x p).8∧x.9 =(ai x p).9∧x.10 =(ai x p).10∧(nat_lit 0=nat_lit 0∧nat_lit 0=nat_lit 0)∧x.12 =(ai x p).12∧(nat_lit 1=nat_lit 1∧nat_lit 1=nat_lit 1)∧(nat_lit 2=nat_lit 2∧nat_lit 2=nat_lit 2)∧x.15 =(ai x p).15∧(nat_lit 3=nat_lit 3∧nat_lit 3=nat_lit 3)∧x.17 =(ai x p).17∧x.18 =(ai x p).18∧x.19 =(ai x p).19∧x.20 =(ai x p).20∧(nat_lit 4=nat_lit 4∧nat_lit 4=nat_lit 4)∧x.22.1 =(ai x p).22.1∧x.22.2.1 =(ai x p).22.2.1∧x.23 =(ai x p).23∧True)∧(17:Int)=dw x p∧True)∧ [RowD.mk (Ty.int IntKind.u8) x.11,RowD.mk (Ty.int IntKind.i64) x.13,RowD.mk (Ty.int IntKind.i64) x.14,RowD.mk (Ty.int IntKind.i64) x.16,RowD.mk Ty.bool x.21]=[RowD.mk (Ty.int IntKind.u8) (ai x p).11,RowD.mk (Ty.int IntKind.i64) (ai x p).13,RowD.mk (Ty.int IntKind.i64) (ai x p).14,RowD.mk (Ty.int IntKind.i64) (ai x p).16,RowD.mk Ty.bool (ai x p).21])∧((bif p==x.12 then true else p==x.19)=false→((x.1 =(ai x p).1∧x.2 =(ai x p).2∧x.3 =(ai x p).3∧x.4 =(ai x p).4∧x.5 =(ai x p).5∧x.6.1 =(ai x p).6.1∧x.6.2 =(ai x p).6.2∧x.6.3 =(ai x p).6.3∧x.6.4 =(ai x p).6.4∧x.6.5 =(ai x p).6.5∧x.7 =(ai x p).7∧x.8 =(ai x p).8∧x.9 =(ai x p).9∧x.10 =(ai x p).10∧(nat_lit 0=nat_lit 0∧nat_lit 0=nat_lit 0)∧x.12 =(ai x p).12∧(nat_lit 1=nat_lit 1∧nat_lit 1=nat_lit 1)∧(nat_lit 2=nat_lit 2∧nat_lit 2=nat_lit 2)∧x.15 =(ai x p).15∧(nat_lit 3=nat_lit 3∧nat_lit 3=nat_lit 3)∧x.17 =(ai x p).17∧x.18 =(ai x p).18∧p =(ai x p).19∧x.20 =(ai x p).20∧(nat_lit 4=nat_lit 4∧nat_lit 4=nat_lit 4)∧x.22.1 =(ai x p).22.1∧x.22.2.1 =(ai x p).22.2.1∧x.23 =(ai x p).23∧True)∧(0:Int)=dw x p∧True)∧ [RowD.mk (Ty.int IntKind.u8) x.11,RowD.mk (Ty.int IntKind.i64) x.13,RowD.mk (Ty.int IntKind.i64) x.14,RowD.mk (Ty.int IntKind.i64) x.16,RowD.mk Ty.bool x.21]=[RowD.mk (Ty.int IntKind.u8) (ai x p).11,RowD.mk (Ty.int IntKind.i64) (ai x p).13,RowD.mk (Ty.int IntKind.i64) (ai x p).14,RowD.mk (Ty.int IntKind.i64) (ai x p).16,RowD.mk Ty.bool (ai x p).21]))))
 refine ⟨hs,fun h1=>?_,fun h1=>⟨fun h2=>?_,fun h2=>⟨fun h3=>?_,fun h3=>?_⟩⟩⟩
 ·have k:bl x p=false:=by simpa using h1
  have e:ai x p=x:=by simp [ai,k]
  have l:dw x p=3:=by simp [dw,k]
  rw [e,l];simp
 ·have k:bl x p=true:=by simpa using h1
  have e:ai x p=x:=by simp [ai,k,h2]
  have l:dw x p=18:=by simp [dw,k,h2]
  rw [e,l];simp
 ·have k:bl x p=true:=by simpa using h1
  have h4 :(p==x.Bowler||p==x.Keeper)=true:=by rw [←h3];cases p==x.Bowler <;> rfl
  have e:ai x p=x:=by simp only [ai,k,h2,h4];simp
  have l:dw x p=17:=by simp only [dw,k,h2,h4];simp
  rw [e,l];simp
 ·have k:bl x p=true:=by simpa using h1
  have h4 :(p==x.Bowler||p==x.Keeper)=false:=by rw [←h3];cases p==x.Bowler <;> rfl
  have e:ai x p={ x with Keeper:=p }:=by simp only [ai,k,h2,h4];simp
  have l:dw x p=0:=by simp only [dw,k,h2,h4];simp
  rw [e,l];simp
theorem Rb:CtrOK Tryz.prog K8 348 (au K8 jT yZ):=by
 refine ba (C:=cf8 [k73,k74,k78] Tryz.f348) (bK (.cons I1 (.cons Lx (.cons Oz .nil))) _) mixed (fn:=Tryz.f348) Tryz.func348 (by kernel_rfl) (by kernel_rfl) (by kernel_rfl) (Λ:=fun _ _=>none) ?_ ?_ ?_
 ·exact fun _ _ _ _ _ _ _ _ h=>by cases h
 ·rintro ⟨x,p,⟨⟩⟩
  exact of_decide_eq_true (by kernel_rfl)
 ·rintro ⟨x,p,⟨⟩⟩ hw hn
  exact Qt x p (hn _ (List.mem_singleton.2 rfl))
theorem Qj (x:Innings) (p:Int) (on:Bool) (hs:ah x) (hp:lM p) :(evFn (cf8 [k73,k74,k78] Tryz.f349) (fun _=>none) Tryz.f349 (bo Fu (x,p,on,()))).sat fun v' rows=>leV v' (yP (x,p,on,())).v∧rows =(yP (x,p,on,())).rows:=by
 refine cast (by kernel_rfl) (?_:ah x∧((!bl x p)=true→((x.1 =(ax x p on).1∧x.2 =(ax x p on).2∧x.3 =(ax x p on).3∧x.4 =(ax x p on).4∧x.5 =(ax x p on).5∧x.6.1 =(ax x p on).6.1∧x.6.2 =(ax x p on).6.2∧x.6.3 =(ax x p on).6.3∧x.6.4 =(ax x p on).6.4∧x.6.5 =(ax x p on).6.5∧x.7 =(ax x p on).7∧x.8 =(ax x p on).8∧x.9 =(ax x p on).9∧x.10 =(ax x p on).10∧(nat_lit 0=nat_lit 0∧nat_lit 0=nat_lit 0)∧x.12 =(ax x p on).12∧(nat_lit 1=nat_lit 1∧nat_lit 1=nat_lit 1)∧(nat_lit 2=nat_lit 2∧nat_lit 2=nat_lit 2)∧x.15 =(ax x p on).15∧(nat_lit 3=nat_lit 3∧nat_lit 3=nat_lit 3)∧x.17 =(ax x p on).17∧x.18 =(ax x p on).18∧x.19 =(ax x p on).19∧x.20 =(ax x p on).20∧(nat_lit 4=nat_lit 4∧nat_lit 4=nat_lit 4)∧x.22.1 =(ax x p on).22.1∧x.22.2.1 =(ax x p on).22.2.1∧x.23 =(ax x p on).23∧True)∧(3:Int)=gT x p on∧True)∧ [RowD.mk (Ty.int IntKind.u8) x.11,RowD.mk (Ty.int IntKind.i64) x.13,RowD.mk (Ty.int IntKind.i64) x.14,RowD.mk (Ty.int IntKind.i64) x.16,RowD.mk Ty.bool x.21]=[RowD.mk (Ty.int IntKind.u8) (ax x p on).11,RowD.mk (Ty.int IntKind.i64) (ax x p on).13,RowD.mk (Ty.int IntKind.i64) (ax x p on).14,RowD.mk (Ty.int IntKind.i64) (ax x p on).16,RowD.mk Ty.bool (ax x p on).21])∧((!bl x p)=false→((aU x p==on)=true→((x.1 =(ax x p on).1∧x.2 =(ax x p on).2∧x.3 =(ax x p on).3∧x.4 =(ax x p on).4∧x.5 =(ax x p on).5∧x.6.1 =(ax x p on).6.1∧x.6.2 =(ax x p on).6.2∧x.6.3 =(ax x p on).6.3∧x.6.4 =(ax x p on).6.4∧x.6.5 =(ax x p on).6.5∧x.7 =(ax x p on).7∧x.8 =(ax x p on).8∧x.9 =(ax x p on).9∧x.10 =(ax x p on).10∧(nat_lit 0=nat_lit 0∧nat_lit 0=nat_lit 0)∧x.12 =(ax x p on).12∧(nat_lit 1=nat_lit 1∧nat_lit 1=nat_lit 1)∧(nat_lit 2=nat_lit 2∧nat_lit 2=nat_lit 2)∧x.15 =(ax x p on).15∧(nat_lit 3=nat_lit 3∧nat_lit 3=nat_lit 3)∧x.17 =(ax x p on).17∧x.18 =(ax x p on).18∧x.19 =(ax x p on).19∧x.20 =(ax x p on).20∧(nat_lit 4=nat_lit 4∧nat_lit 4=nat_lit 4)∧x.22.1 =(ax x p on).22.1∧x.22.2.1 =(ax x p on).22.2.1∧x.23 =(ax x p on).23∧True)∧(18:Int)=gT x p on∧True)∧ [RowD.mk (Ty.int IntKind.u8) x.11,RowD.mk (Ty.int IntKind.i64) x.13,RowD.mk (Ty.int IntKind.i64) x.14,RowD.mk (Ty.int IntKind.i64) x.16,RowD.mk Ty.bool x.21]=[RowD.mk (Ty.int IntKind.u8) (ax x p on).11,RowD.mk (Ty.int IntKind.i64) (ax x p on).13,RowD.mk (Ty.int IntKind.i64) (ax x p on).14,RowD.mk (Ty.int IntKind.i64) (ax x p on).16,RowD.mk Ty.bool (ax x p on).21])∧((aU x p==on)=false→((0:Int)≤IntKind.i64.wrap (p - (1:Int))∧IntKind.i64.wrap (p - (1:Int)) <(↑x.21.length:Int))∧(((bif bif on then (bif bif on then x.19==p else false then x.12 else x.12)==p else false then bif bif on then x.19==p else false then x.1 else x.1 else bif bif on then x.19==p else false then x.1 else x.1) =(ax x p on).1∧(bif bif on then (bif bif on then x.19==p else false then x.12 else x.12)==p else false then bif bif on then x.19==p else false then x.2 else x.2 else bif bif on then x.19==p else false then x.2 else x.2) =(ax x p on).2∧(bif bif on then (bif bif on then x.19==p else false then x.12 else x.12)==p else false then bif bif on then x.19==p else false then x.3 else x.3 else bif bif on then x.19==p else false then x.3 else x.3) =(ax x p on).3∧(bif bif on then (bif bif on then x.19==p else false then x.12 else x.12)==p else false then bif bif on then x.19==p else false then x.4 else x.4 else bif bif on then x.19==p else false then x.4 else x.4) =(ax x p on).4∧(bif bif on then (bif bif on then x.19==p else false then x.12 else x.12)==p else false then bif bif on then x.19==p else false then x.5 else x.5 else bif bif on then x.19==p else false then x.5 else x.5) =(ax x p on).5∧(bif bif on then (bif bif on then x.19==p else false then x.12 else x.12)==p else false then bif bif on then x.19==p else false then x.6.1 else x.6.1 else bif bif on then x.19==p else false then x.6.1 else x.6.1) =(ax x p on).6.1∧(bif bif on then (bif bif on then x.19==p else false then x.12 else x.12)==p else false then bif bif on then x.19==p else false then x.6.2 else x.6.2 else bif bif on then x.19==p else false then x.6.2 else x.6.2) =(ax x p on).6.2∧(bif bif on then (bif bif on then x.19==p else false then x.12 else x.12)==p else false then bif bif on then x.19==p else false then x.6.3 else x.6.3 else bif bif on then x.19==p else false then x.6.3 else x.6.3) =(ax x p on).6.3∧(bif bif on then (bif bif on then x.19==p else false then x.12 else x.12)==p else false then bif bif on then x.19==p else false then x.6.4 else x.6.4 else bif bif on then x.19==p else false then x.6.4 else x.6.4) =(ax x p on).6.4∧(bif bif on then (bif bif on then x.19==p else false then x.12 else x.12)==p else false then bif bif on then x.19==p else false then x.6.5 else x.6.5 else bif bif on then x.19==p else false then x.6.5 else x.6.5) =(ax x p on).6.5∧(bif bif on then (bif bif on then x.19==p else false then x.12 else x.12)==p else false then bif bif on then x.19==p else false then x.7 else x.7 else bif bif on then x.19==p else false then x.7 else x.7) =(ax x p on).7∧(bif bif on then (bif bif on then x.19==p else false then x.12 else x.12)==p else false then bif bif on then x.19==p else false then x.8 else x.8 else bif bif on then x.19==p else false then x.8 else x.8) =(ax x p on).8∧(bif bif on then (bif bif on then x.19==p else false then x.12 else x.12)==p else false then bif bif on then x.19==p else false then x.9 else x.9 else bif bif on then x.19==p else false then x.9 else x.9) =(ax x p on).9∧(bif bif on then (bif bif on then x.19==p else false then x.12 else x.12)==p else false then bif bif on then x.19==p else false then x.10 else x.10 else bif bif on then x.19==p else false then x.10 else x.10) =(ax x p on).10∧(nat_lit 0=nat_lit 0∧nat_lit 0=nat_lit 0)∧(bif bif on then (bif bif on then x.19==p else false then x.12 else x.12)==p else false then (0:Int) else bif bif on then x.19==p else false then x.12 else x.12) =(ax x p on).12∧(nat_lit 1=nat_lit 1∧nat_lit 1=nat_lit 1)∧(nat_lit 2=nat_lit 2∧nat_lit 2=nat_lit 2)∧(bif bif on then (bif bif on then x.19==p else false then x.12 else x.12)==p else false then bif bif on then x.19==p else false then x.15 else x.15 else bif bif on then x.19==p else false then x.15 else x.15) =(ax x p on).15∧(nat_lit 3=nat_lit 3∧nat_lit 3=nat_lit 3)∧(bif bif on then (bif bif on then x.19==p else false then x.12 else x.12)==p else false then bif bif on then x.19==p else false then x.17 else x.17 else bif bif on then x.19==p else false then x.17 else x.17) =(ax x p on).17∧(bif bif on then (bif bif on then x.19==p else false then x.12 else x.12)==p else false then bif bif on then x.19==p else false then x.18 else x.18 else bif bif on then x.19==p else false then x.18 else x.18) =(ax x p on).18∧(bif bif on then (bif bif on then x.19==p else false then x.12 else x.12)==p else false then bif bif on then x.19==p else false then (0:Int) else x.19 else bif bif on then x.19==p else false then (0:Int) else x.19) =(ax x p on).19∧(bif bif on then (bif bif on then x.19==p else false then x.12 else x.12)==p else false then bif bif on then x.19==p else false then x.20 else x.20 else bif bif on then x.19==p else false then x.20 else x.20) =(ax x p on).20∧(nat_lit 4=nat_lit 4∧nat_lit 4=nat_lit 4)∧(bif bif on then (bif bif on then x.19==p else false then x.12 else x.12)==p else false then bif bif on then x.19==p else false then x.22.1 else x.22.1 else bif bif on then x.19==p else false then x.22.1 else x.22.1) =(ax x p on).22.1∧(bif bif on then (bif bif on then x.19==p else false then x.12 else x.12)==p else false then bif bif on then x.19==p else false then x.22.2.1 else x.22.2.1 else bif bif on then x.19==p else false then x.22.2.1 else x.22.2.1) =(ax x p on).22.2.1∧(bif bif on then (bif bif on then x.19==p else false then x.12 else x.12)==p else false then bif bif on then x.19==p else false then x.23 else x.23 else bif bif on then x.19==p else false then x.23 else x.23) =(ax x p on).23∧True)∧(0:Int)=gT x p on∧True)∧ [RowD.mk (Ty.int IntKind.u8) x.11,RowD.mk (Ty.int IntKind.i64) x.13,RowD.mk (Ty.int IntKind.i64) x.14,RowD.mk (Ty.int IntKind.i64) x.16,RowD.mk Ty.bool (x.21.set (IntKind.i64.wrap (p - (1:Int))).toNat on)]=[RowD.mk (Ty.int IntKind.u8) (ax x p on).11,RowD.mk (Ty.int IntKind.i64) (ax x p on).13,RowD.mk (Ty.int IntKind.i64) (ax x p on).14,RowD.mk (Ty.int IntKind.i64) (ax x p on).16,RowD.mk Ty.bool (ax x p on).21])))
 refine ⟨hs,fun h1=>?_,fun h1=>⟨fun h2=>?_,fun h2=>?_⟩⟩
 ·have k:bl x p=false:=by simpa using h1
  have e:ax x p on=x:=by simp [ax,k]
  have l:gT x p on=3:=by simp [gT,k]
  rw [e,l];simp
 ·have k:bl x p=true:=by simpa using h1
  have e:ax x p on=x:=by simp only [ax,k,h2];simp
  have l:gT x p on=18:=by simp only [gT,k,h2];simp
  rw [e,l];simp
 ·have k:bl x p=true:=by simpa using h1
  have e:ax x p on=pV x p on:=by simp only [ax,k,h2];simp
  have l:gT x p on=0:=by simp only [gT,k,h2];simp
  obtain ⟨ew,a,b⟩:=Cz hp k
  rw [e,l,ew]
  refine ⟨⟨a,b⟩,?_⟩
  simp only [Bool.cond_self]
  cases on with
  | false=>simp [pV]
  | true=>cases hk :(x.Keeper==p) <;> cases hb :(x.Bowler==p) <;> simp [pV,hk,hb]
theorem Q4:CtrOK Tryz.prog K8 349 (au K8 Fu yP):=by
 refine ba (C:=cf8 [k73,k74,k78] Tryz.f349) (bK (.cons I1 (.cons Lx (.cons Oz .nil))) _) mixed (fn:=Tryz.f349) Tryz.func349 (by kernel_rfl) (by kernel_rfl) (by kernel_rfl) (Λ:=fun _ _=>none) ?_ ?_ ?_
 ·exact fun _ _ _ _ _ _ _ _ h=>by cases h
 ·rintro ⟨x,p,on,⟨⟩⟩
  exact of_decide_eq_true (by kernel_rfl)
 ·rintro ⟨x,p,on,⟨⟩⟩ hw hn
  exact Qj x p on (hn _ (List.mem_singleton.2 rfl)) (gU (bg (aH hw)))
theorem Qu (x:Innings) (p:Int) (hs:ah x) :(evFn (cf8 [k78] Tryz.f347) (fun _=>none) Tryz.f347 (bo jT (x,p,()))).sat fun v' rows=>leV v' (y3 (x,p,())).v∧rows =(y3 (x,p,())).rows:=by
 refine cast (by kernel_rfl) (?_:ah x∧((bif decide (p <(0:Int)) then true else decide (p>IntKind.i64.wrap ((↑x.21.length:Int) - (2:Int))))=true→((x.1 =(aw x p).1∧x.2 =(aw x p).2∧x.3 =(aw x p).3∧x.4 =(aw x p).4∧x.5 =(aw x p).5∧x.6.1 =(aw x p).6.1∧x.6.2 =(aw x p).6.2∧x.6.3 =(aw x p).6.3∧x.6.4 =(aw x p).6.4∧x.6.5 =(aw x p).6.5∧x.7 =(aw x p).7∧x.8 =(aw x p).8∧x.9 =(aw x p).9∧x.10 =(aw x p).10∧(nat_lit 0=nat_lit 0∧nat_lit 0=nat_lit 0)∧x.12 =(aw x p).12∧(nat_lit 1=nat_lit 1∧nat_lit 1=nat_lit 1)∧(nat_lit 2=nat_lit 2∧nat_lit 2=nat_lit 2)∧x.15 =(aw x p).15∧(nat_lit 3=nat_lit 3∧nat_lit 3=nat_lit 3)∧x.17 =(aw x p).17∧x.18 =(aw x p).18∧x.19 =(aw x p).19∧x.20 =(aw x p).20∧(nat_lit 4=nat_lit 4∧nat_lit 4=nat_lit 4)∧x.22.1 =(aw x p).22.1∧x.22.2.1 =(aw x p).22.2.1∧x.23 =(aw x p).23∧True)∧(16:Int)=fA x p∧True)∧ [RowD.mk (Ty.int IntKind.u8) x.11,RowD.mk (Ty.int IntKind.i64) x.13,RowD.mk (Ty.int IntKind.i64) x.14,RowD.mk (Ty.int IntKind.i64) x.16,RowD.mk Ty.bool x.21]=[RowD.mk (Ty.int IntKind.u8) (aw x p).11,RowD.mk (Ty.int IntKind.i64) (aw x p).13,RowD.mk (Ty.int IntKind.i64) (aw x p).14,RowD.mk (Ty.int IntKind.i64) (aw x p).16,RowD.mk Ty.bool (aw x p).21])∧((bif decide (p <(0:Int)) then true else decide (p>IntKind.i64.wrap ((↑x.21.length:Int) - (2:Int))))=false→((x.1 =(aw x p).1∧x.2 =(aw x p).2∧x.3 =(aw x p).3∧x.4 =(aw x p).4∧x.5 =(aw x p).5∧x.6.1 =(aw x p).6.1∧x.6.2 =(aw x p).6.2∧x.6.3 =(aw x p).6.3∧x.6.4 =(aw x p).6.4∧x.6.5 =(aw x p).6.5∧x.7 =(aw x p).7∧x.8 =(aw x p).8∧x.9 =(aw x p).9∧x.10 =(aw x p).10∧(nat_lit 0=nat_lit 0∧nat_lit 0=nat_lit 0)∧x.12 =(aw x p).12∧(nat_lit 1=nat_lit 1∧nat_lit 1=nat_lit 1)∧(nat_lit 2=nat_lit 2∧nat_lit 2=nat_lit 2)∧x.15 =(aw x p).15∧(nat_lit 3=nat_lit 3∧nat_lit 3=nat_lit 3)∧x.17 =(aw x p).17∧x.18 =(aw x p).18∧x.19 =(aw x p).19∧p =(aw x p).20∧(nat_lit 4=nat_lit 4∧nat_lit 4=nat_lit 4)∧x.22.1 =(aw x p).22.1∧x.22.2.1 =(aw x p).22.2.1∧x.23 =(aw x p).23∧True)∧(0:Int)=fA x p∧True)∧ [RowD.mk (Ty.int IntKind.u8) x.11,RowD.mk (Ty.int IntKind.i64) x.13,RowD.mk (Ty.int IntKind.i64) x.14,RowD.mk (Ty.int IntKind.i64) x.16,RowD.mk Ty.bool x.21]=[RowD.mk (Ty.int IntKind.u8) (aw x p).11,RowD.mk (Ty.int IntKind.i64) (aw x p).13,RowD.mk (Ty.int IntKind.i64) (aw x p).14,RowD.mk (Ty.int IntKind.i64) (aw x p).16,RowD.mk Ty.bool (aw x p).21]))
 have ew:IntKind.i64.wrap ((x.Subs.length:Int) - 2) =(x.Subs.length:Int) - 2:=by
  have:=hs.2.2.2.2
  rw [dI (by omega) (by omega)]
 have hc :(bif decide (p <(0:Int)) then true else decide (p>IntKind.i64.wrap ((x.Subs.length:Int) - (2:Int))))=p9 x p:=by
  rw [ew];simp only [p9];cases decide (p<0) <;> rfl
 refine ⟨hs,fun h1=>?_,fun h1=>?_⟩
 ·have h1:p9 x p=true:=by rw [←hc];exact h1
  have e:aw x p=x:=by simp [aw,h1]
  have l:fA x p=16:=by simp [fA,h1]
  rw [e,l];simp
 ·have h1:p9 x p=false:=by rw [←hc];exact h1
  have e:aw x p={ x with Outside:=p }:=by simp [aw,h1]
  have l:fA x p=0:=by simp [fA,h1]
  rw [e,l];simp
theorem Rc:CtrOK Tryz.prog K8 347 (au K8 jT y3):=by
 refine ba (C:=cf8 [k78] Tryz.f347) (bK (.cons Oz .nil) _) mixed (fn:=Tryz.f347) Tryz.func347 (by kernel_rfl) (by kernel_rfl) (by kernel_rfl) (Λ:=fun _ _=>none) ?_ ?_ ?_
 ·exact fun _ _ _ _ _ _ _ _ h=>by cases h
 ·rintro ⟨x,p,⟨⟩⟩
  exact of_decide_eq_true (by kernel_rfl)
 ·rintro ⟨x,p,⟨⟩⟩ hw hn
  exact Qu x p (hn _ (List.mem_singleton.2 rfl))
end Go.Proofs.YtffdpnmioidloaaGreatDoor
namespace Go.Proofs.YtffdpnmioidloaaGreatDoor
open Go Go.Mir
attribute [local irreducible] Go.Mir.DT.sat Go.Mir.evPat Go.Mir.RT.sat Go.Mir.evFn
abbrev Is:Ty:= .slice I
abbrev Bs:Ty:= .slice .bool
abbrev Ic:List (Nat×PB):= [(0,.cells [.h I,.h I,.h I,.h I,.h I,.h I,.h I,.h I,.h I,.h I,.h I,.h I,.h I,.h I,.c (.osl 1 2),.h I,.c (.osl 3 4),.c (.osl 5 6),.h .bool,.c (.osl 7 8),.h .bool,.h I,.h I,.h I,.c (.osl 9 10),.h I,.h I,.h U8]),(1,.row 2 U8),(3,.row 4 I),(5,.row 6 I),(7,.row 8 I),(9,.row 10 .bool)]
abbrev NT:Ty:=fj Ic .unit
def inn (x:Den NT):Innings:=⟨x.1,x.2.1,x.2.2.1,x.2.2.2.1,x.2.2.2.2.1,⟨x.2.2.2.2.2.1,x.2.2.2.2.2.2.1,x.2.2.2.2.2.2.2.1,x.2.2.2.2.2.2.2.2.1,x.2.2.2.2.2.2.2.2.2.1⟩,x.2.2.2.2.2.2.2.2.2.2.1,x.2.2.2.2.2.2.2.2.2.2.2.1,x.2.2.2.2.2.2.2.2.2.2.2.2.1,x.2.2.2.2.2.2.2.2.2.2.2.2.2.1,x.2.2.2.2.2.2.2.2.2.2.2.2.2.2.2.2.2.2.2.2.2.2.2.1,x.2.2.2.2.2.2.2.2.2.2.2.2.2.2.1,x.2.2.2.2.2.2.2.2.2.2.2.2.2.2.2.2.2.2.2.2.2.2.2.2.1,x.2.2.2.2.2.2.2.2.2.2.2.2.2.2.2.2.2.2.2.2.2.2.2.2.2.1,x.2.2.2.2.2.2.2.2.2.2.2.2.2.2.2.1,x.2.2.2.2.2.2.2.2.2.2.2.2.2.2.2.2.2.2.2.2.2.2.2.2.2.2.1,x.2.2.2.2.2.2.2.2.2.2.2.2.2.2.2.2.1,x.2.2.2.2.2.2.2.2.2.2.2.2.2.2.2.2.2.1,x.2.2.2.2.2.2.2.2.2.2.2.2.2.2.2.2.2.2.1,x.2.2.2.2.2.2.2.2.2.2.2.2.2.2.2.2.2.2.2.1,x.2.2.2.2.2.2.2.2.2.2.2.2.2.2.2.2.2.2.2.2.2.2.2.2.2.2.2.1,(x.2.2.2.2.2.2.2.2.2.2.2.2.2.2.2.2.2.2.2.2.1,x.2.2.2.2.2.2.2.2.2.2.2.2.2.2.2.2.2.2.2.2.2.1,()),x.2.2.2.2.2.2.2.2.2.2.2.2.2.2.2.2.2.2.2.2.2.2.1⟩
def wS (y:Innings):Den NT:=(y.Side,y.Target,y.Overs,y.Runs,y.Wickets,y.Extras.Wides,y.Extras.NoBalls,y.Extras.Byes,y.Extras.LegByes,y.Extras.Penalties,y.Complete,y.InOver,y.Striker,y.Other,y.Bowler,y.Fresh,y.FreeHit,y.BallAge,y.Keeper,y.Outside,y.Reviews.1,y.Reviews.2.1,y.Ending,y.Batters,y.Bowlers,y.Before,y.Bowled,y.Subs,())
abbrev jV:Pat:=bX [.nm .Innings,I]
def aJ (x:Innings) (p:Int):Bool:=decide (p≥1)&&decide (p≤(x.Batters.length:Int))
def yu:Den (tyP jV)→List Prop×Den (tyP aF):=fun x=>([],(aJ x.1 x.2.1,()))
def cn (x:Innings) (p s:Int):Innings:={ x with Batters:=x.Batters.set (p - 1).toNat s }
def ek (x:Innings) (p:Int):Innings:={(if aJ x p then cn x p 2 else x) with Wickets:=W (x.Wickets+1) }
abbrev Mu:Pat:=⟨[(0,.c (.ptr 0 0)),(1,.h I)],Ic,11⟩
abbrev Fy:Pat:=⟨[],Ic,11⟩
def OO:Den (tyP Mu)→List Prop×Den (tyP Fy):=fun x=>([],wS (ek (inn x.2) x.1))
def cS (x:Innings):Bool:=eM x&&(x.Striker==0||x.Other==0)
def yE:Den (tyP qIn)→List Prop×Den (tyP aF):=fun x=>([],(cS x.1,()))
def HC (x:Innings) (p:Int):Int:=x.Batters.getD (p - 1).toNat 0
def bZ (x:Innings) (p:Int):Int:=if !aJ x p then 3 else if !cS x||HC x p==1 then 4 else if HC x p==2 then 5 else 0
def DK:Den (tyP jV)→List Prop×Den (tyP bA):=fun x=>([],(bZ x.1 x.2.1,()))
def js (x:Innings) (s o:Int):Innings:=
 if eM x then x else if !aJ x s||!aJ x o then x else if s==o then x else { cn (cn x s 1) o 1 with Striker:=s,Other:=o }
def l5 (x:Innings) (s o:Int):Int:=if eM x then 1 else if !aJ x s||!aJ x o then 3 else if s==o then 4 else 0
def kf (x:Innings):Innings:={ x with Striker:=x.Other,Other:=x.Striker }
def ib (x:Innings) (d:Delivery):Int:=if d.How != 0 then (if d.Victim==1&&x.Striker != 0 then 1 else if d.Victim==2&&x.Other != 0 then 2 else 0) else 0
def cm (x:Innings) (d:Delivery):Innings:=if jz d then kf x else x
def cz (x:Innings) (b:Bool):Innings:=if b then { x with Striker:=0 } else { x with Other:=0 }
def bC (x:Innings) (d:Delivery):Innings:=
 if ib x d==0 then cm x d else ek (cz (cm x d) ((ib x d==1) != jz d)) (if ib x d==1 then x.Striker else x.Other)
def jB (x:Innings) (p:Int):Innings:=if bZ x p != 0 then x else if x.Striker==0 then { cn x p 1 with Striker:=p } else { cn x p 1 with Other:=p }
def ml (x:Innings) (p:Int):Innings:=if bZ x p != 0 then x else ek x p
def FJ (s:Int):Bool:=s==0||s==3
def sR:List Int→Int→List Int
 | [],_=> []
 | s::r,i=>if FJ s then (i+1)::sR r (i+1) else sR r (i+1)
def PX (l:List Int):List Int:=sR l 0
def AJ (x:Innings):List Int:=PX x.Batters
def lV (x:Innings):Bool:=((AJ x).length:Int)==0
def cA (x:Innings) (p:Int) (hurt:Bool):Int:=
 if !aJ x p then 3 else if x.Striker==0||x.Other==0 then 6 else if p != x.Striker&&p != x.Other then 4 else if hurt&&lV x then 19 else 0
def dz (x:Innings) (p:Int) (hurt:Bool):Innings:=
 if cA x p hurt != 0 then x else if hurt then cn (cz x (p==x.Striker)) p 3 else ek (cz x (p==x.Striker)) p
def kW:FuncId×Ctr:=(370,au KE psI gS)
abbrev FD:Pat:=bX [.nm .Innings,I,I]
abbrev FC:Pat:=bX [.nm .Innings,I,.bool]
abbrev Mx:Pat:=bX [.nm .Innings,.nm .Delivery]
abbrev q2L:Pat:=bX [.nm .Innings,I]
def Ki:Den (tyP FD)→List Prop×Den (tyP q2L):=fun x=>([ah x.1],(js x.1 x.2.1 x.2.2.1,l5 x.1 x.2.1 x.2.2.1,()))
def OT:Den (tyP Mx)→List Prop×Den (tyP qIn):=fun x=>([ah x.1],(bC x.1 x.2.1,()))
def ym:Den (tyP qIn)→List Prop×Den (tyP qIn):=fun x=>([ah x.1],(kf x.1,()))
def DP:Den (tyP jV)→List Prop×Den (tyP q2L):=fun x=>([ah x.1],(jB x.1 x.2.1,bZ x.1 x.2.1,()))
def Kp:Den (tyP jV)→List Prop×Den (tyP q2L):=fun x=>([ah x.1],(ml x.1 x.2.1,bZ x.1 x.2.1,()))
abbrev qIs:Pat:=⟨[(0,.c (.osl 0 1))],[(0,.row 1 I)],2⟩
def Ke:Den (tyP qIn)→List Prop×Den (tyP qIs):=fun x=>([ah x.1],(AJ x.1,()))
def yy:Den (tyP FC)→List Prop×Den (tyP q2L):=fun x=>([ah x.1],(dz x.1 x.2.1 x.2.2.1,cA x.1 x.2.1 x.2.2.1,()))
theorem mG {p:Int} (h1:1≤p) (h2:lM p):IntKind.i64.wrap (p - 1)=p - 1:=by
 obtain ⟨a,b⟩:=h2
 exact dI (by omega) (by omega)
theorem MF (x:Innings) (hs:ah x) :(evFn (an [k45,k90,k91] Tryz.f370) (fun _=>none) Tryz.f370 (bo psI (x,()))).sat fun v' rows=>leV v' (gS (x,())).v∧rows =(gS (x,())).rows:=by
 refine cast (by kernel_rfl) (?_:x.11.length≤(1000000:Nat)∧x.13.length≤(1000000:Nat)∧x.14.length≤(1000000:Nat)∧x.16.length≤(1000000:Nat)∧x.21.length≤(1000000:Nat)∧(x.1=x.1∧x.2=x.2∧x.3=x.3∧x.4=x.4∧x.5=x.5∧x.6.1=x.6.1∧x.6.2=x.6.2∧x.6.3=x.6.3∧x.6.4=x.6.4∧x.6.5=x.6.5∧x.7=x.7∧x.8=x.8∧x.9=x.9∧x.10=x.10∧(nat_lit 0=nat_lit 0∧nat_lit 0=nat_lit 0)∧x.12=x.12∧(nat_lit 1=nat_lit 1∧nat_lit 1=nat_lit 1)∧(nat_lit 2=nat_lit 2∧nat_lit 2=nat_lit 2)∧x.15=x.15∧(nat_lit 3=nat_lit 3∧nat_lit 3=nat_lit 3)∧x.17=x.17∧x.18=x.18∧x.19=x.19∧x.20=x.20∧(nat_lit 4=nat_lit 4∧nat_lit 4=nat_lit 4)∧x.22.1=x.22.1∧x.22.2.1=x.22.2.1∧x.23=x.23∧True)∧ [RowD.mk (Ty.int IntKind.u8) x.11,RowD.mk (Ty.int IntKind.i64) x.13,RowD.mk (Ty.int IntKind.i64) x.14,RowD.mk (Ty.int IntKind.i64) x.16,RowD.mk Ty.bool x.21]=[RowD.mk (Ty.int IntKind.u8) x.11,RowD.mk (Ty.int IntKind.i64) x.13,RowD.mk (Ty.int IntKind.i64) x.14,RowD.mk (Ty.int IntKind.i64) x.16,RowD.mk Ty.bool x.21])
 obtain ⟨h1,h2,h3,h4,h5⟩:=hs
 simp [h1,h2,h3,h4,h5]
theorem pQ:CtrOK Tryz.prog KE 370 (au KE psI gS):=by
 refine ba (C:=an [k45,k90,k91] Tryz.f370) (al (.consU Lu rfl (.consU Ly rfl (.consU Lz rfl .nil))) _) mixed (fn:=Tryz.f370) Tryz.func370 (by kernel_rfl) (by kernel_rfl) (by kernel_rfl) (Λ:=fun _ _=>none) ?_ ?_ ?_
 ·exact fun _ _ _ _ _ _ _ _ h=>by cases h
 ·rintro ⟨x,⟨⟩⟩
  exact of_decide_eq_true (by kernel_rfl)
 ·rintro ⟨x,⟨⟩⟩ hw hn
  exact MF x (hn _ (List.mem_singleton.2 rfl))
theorem GO (x:Innings) (p:Int) :(evPat (an [] Tryz.f372) (fun _=>none) Tryz.f372 jV aF (x,p,())).sat fun z_=>z_ =(yu (x,p,())).2:=by
 refine cast (by kernel_rfl) (?_ :(bif decide (p≥(1:Int)) then decide (p≤(↑x.11.length:Int)) else false,()) =(aJ x p,()))
 grind [aJ]
def jo:FuncId×Ctr:=(372,af KE jV aF yu)
theorem oZ:CtrOK Tryz.prog KE 372 (af KE jV aF yu):=by
 refine ar (C:=an [] Tryz.f372) (al (CtrsOK.nil) _) mixed (fn:=Tryz.f372) Tryz.func372 (by kernel_rfl) (by kernel_rfl) (by kernel_rfl) (by kernel_rfl) (by kernel_rfl) (by kernel_rfl) (Λ:=fun _ _=>none) ?_ ?_
 ·exact fun _ _ _ _ _ _ _ _ h=>by cases h
 ·rintro ⟨x,p,⟨⟩⟩ hw hn
  exact GO x p
theorem Bv (p:Int) (y:Innings) (hp:lM p) :(evPat (an [jo] Tryz.f380) (fun _=>none) Tryz.f380 Mu Fy (p,wS y)).sat fun z_=>z_ =(OO (p,wS y)).2:=by
 refine cast (by kernel_rfl) (?_:let r1:Int:=IntKind.i64.wrap (p - (1:Int));((aJ y p=true→((0:Int)≤r1∧r1 <(↑y.11.length:Int))∧True)∧(aJ y p=false→True))∧(true=true→(y.1,y.2,y.3,y.4,IntKind.i64.wrap (y.5 +(1:Int)),y.6.1,y.6.2,y.6.3,y.6.4,y.6.5,y.7,y.8,y.9,y.10,y.12,y.15,y.17,y.18,y.19,y.20,y.22.1,y.22.2.1,y.23,bif aJ y p then y.11.set r1.toNat (2:Int) else y.11,y.13,y.14,y.16,y.21,())=wS (ek (inn (wS y)) p)))
 intro r1
 clear_value (hr1:r1=_)
 have e1:aJ y p=true→r1=p - 1:=fun h=>by
  rw [hr1]
  simp only [aJ,Bool.and_eq_true,decide_eq_true_eq] at h
  exact mG h.1 hp
 refine ⟨⟨fun h=>⟨?_,trivial⟩,fun _=>trivial⟩,fun _=>?_⟩
 ·have:=e1 h
  simp only [aJ,Bool.and_eq_true,decide_eq_true_eq] at h
  omega
 ·show _=wS (ek y p)
  cases h:aJ y p with
  | true=>
   have e:ek y p={ cn y p 2 with Wickets:=W (y.Wickets+1) }:=by simp [ek,h,cn]
   rw [e,e1 h];rfl
  | false=>
   have e:ek y p={ y with Wickets:=W (y.Wickets+1) }:=by simp [ek,h]
   rw [e];rfl
def ir:FuncId×Ctr:=(380,af KE Mu Fy OO)
theorem oc:CtrOK Tryz.prog KE 380 (af KE Mu Fy OO):=by
 refine ar (C:=an [jo] Tryz.f380) (al (.consU oZ rfl .nil) _) mixed (fn:=Tryz.f380) Tryz.func380 (by kernel_rfl) (by kernel_rfl) (by kernel_rfl) (by kernel_rfl) (by kernel_rfl) (by kernel_rfl) (Λ:=fun _ _=>none) ?_ ?_
 ·exact fun _ _ _ _ _ _ _ _ h=>by cases h
 ·rintro ⟨p,z⟩ hw hn
  exact Bv p (inn z) (gU (bg hw))
theorem Dq (x:Innings) :(evPat (an [ri] Tryz.f355) (fun _=>none) Tryz.f355 qIn aF (x,())).sat fun z_=>z_ =(yE (x,())).2:=by
 refine cast (by kernel_rfl) (?_ :(bif eM x then bif x.9 ==(0:Int) then true else x.10 ==(0:Int) else false,()) =(cS x,()))
 grind [cS]
def gB:FuncId×Ctr:=(355,af KE qIn aF yE)
theorem mR:CtrOK Tryz.prog KE 355 (af KE qIn aF yE):=by
 refine ar (C:=an [ri] Tryz.f355) (al (.consU AR rfl .nil) _) mixed (fn:=Tryz.f355) Tryz.func355 (by kernel_rfl) (by kernel_rfl) (by kernel_rfl) (by kernel_rfl) (by kernel_rfl) (by kernel_rfl) (Λ:=fun _ _=>none) ?_ ?_
 ·exact fun _ _ _ _ _ _ _ _ h=>by cases h
 ·rintro ⟨x,⟨⟩⟩ hw hn
  exact Dq x
theorem ME (x:Innings) (p:Int) (hp:lM p) :(evPat (an [jo,gB] Tryz.f379) (fun _=>none) Tryz.f379 jV bA (x,p,())).sat fun z_=>z_ =(DK (x,p,())).2:=by
 refine cast (by kernel_rfl) (?_:let r1:Int:=IntKind.i64.wrap (p - (1:Int));let r2:Int:=x.11.getD r1.toNat (dflt (Ty.int IntKind.u8));let r3:Bool:=r2 ==(2:Int);let r4:Bool:=bif !cS x then true else r2 ==(1:Int);((!aJ x p)=true→((3:Int),()) =(bZ x p,()))∧((!aJ x p)=false→(((!cS x)=true→True)∧((!cS x)=false→((0:Int)≤r1∧r1 <(↑x.11.length:Int))∧True))∧(true=true→(r4=true→((4:Int),()) =(bZ x p,()))∧(r4=false→((0:Int)≤r1∧r1 <(↑x.11.length:Int))∧(r3=true→((5:Int),()) =(bZ x p,()))∧(r3=false→((0:Int),()) =(bZ x p,()))))))
 intro r1 r2 r3 r4
 clear_value (hr1:r1=_) (hr2:r2=_) (hr3:r3=_) (hr4:r4=_)
 cases h:aJ x p with
 | false=>simp [bZ,h]
 | true=>
  have k:1≤p∧p≤x.Batters.length:=by simpa [aJ] using h
  have e1:r1=p - 1:=by rw [hr1];exact mG k.1 hp
  have e2:r2=HC x p:=by rw [hr2,e1];rfl
  have b :(0:Int)≤r1∧r1 <(x.Batters.length:Int):=by omega
  refine ⟨(fun h=>by cases h),fun _=>⟨⟨fun _=>trivial,fun _=>⟨b,trivial⟩⟩,fun _=>⟨fun h4=>?_,fun h4=>⟨b,fun h3=>?_,fun h3=>?_⟩⟩⟩⟩ <;> grind [bZ]
def EV:FuncId×Ctr:=(379,af KE jV bA DK)
theorem I7:CtrOK Tryz.prog KE 379 (af KE jV bA DK):=by
 refine ar (C:=an [jo,gB] Tryz.f379) (al (.consU oZ rfl (.consU mR rfl .nil)) _) mixed (fn:=Tryz.f379) Tryz.func379 (by kernel_rfl) (by kernel_rfl) (by kernel_rfl) (by kernel_rfl) (by kernel_rfl) (by kernel_rfl) (Λ:=fun _ _=>none) ?_ ?_
 ·exact fun _ _ _ _ _ _ _ _ h=>by cases h
 ·rintro ⟨x,p,⟨⟩⟩ hw hn
  exact ME x p (gU (bg (aH hw)))
theorem MG (x:Innings) (d:Delivery) (hs:ah x) :(evPat (an [kW,ir] Tryz.f376) (fun _=>none) Tryz.f376 Mx qIn (x,d,())).sat fun z_=>z_ =(OT (x,d,())).2:=by
 refine cast (by kernel_rfl) (?_:let r1:Bool:=d.3.tmod (2:Int) !=(0:Int);let r2:Bool:=bif d.8 ==(1:Int) then x.9 !=(0:Int) else false;let r3:Bool:=bif d.8 ==(2:Int) then x.10 !=(0:Int) else false;let r4:Bool:=bif d.6 then !r1 else r1;let r5:Int:=bif r4 then x.1 else x.1;let r6:Int:=bif r4 then x.2 else x.2;let r7:Int:=bif r4 then x.3 else x.3;let r8:Int:=bif r4 then x.4 else x.4;let r9:Int:=bif r4 then x.5 else x.5;let r10:Int:=bif r4 then x.7 else x.7;let r11:Int:=bif r4 then x.8 else x.8;let r12:Int:=bif r4 then x.10 else x.9;let r13:Int:=bif r4 then x.9 else x.10;let r14:Int:=bif r4 then x.12 else x.12;let r15:Bool:=bif r4 then x.15 else x.15;let r16:Bool:=bif r4 then x.17 else x.17;let r17:Int:=bif r4 then x.18 else x.18;let r18:Int:=bif r4 then x.19 else x.19;let r19:Int:=bif r4 then x.20 else x.20;let r20:Int:=bif r4 then x.23 else x.23;let r21:Int:=bif r4 then x.6.1 else x.6.1;let r22:Int:=bif r4 then x.6.2 else x.6.2;let r23:Int:=bif r4 then x.6.3 else x.6.3;let r24:Int:=bif r4 then x.6.4 else x.6.4;let r25:Int:=bif r4 then x.6.5 else x.6.5;let r26:Int:=bif r4 then x.22.1 else x.22.1;let r27:Int:=bif r4 then x.22.2.1 else x.22.2.1;let r28:Int:=bif d.7 !=(0:Int) then bif r2 then x.9 else bif r3 then x.10 else (0:Int) else (0:Int);let r29:Int:=bif d.7 !=(0:Int) then bif r2 then (1:Int) else bif r3 then (2:Int) else (0:Int) else (0:Int);let r30:Bool:=r29 ==(0:Int);let r31:Bool:=!(r29 ==(1:Int))==r4;let r32:Int:=bif r31 then r9 else r9;let r33:Innings:=inn (bif r31 then r5 else r5,bif r31 then r6 else r6,bif r31 then r7 else r7,bif r31 then r8 else r8,r32,bif r31 then r21 else r21,bif r31 then r22 else r22,bif r31 then r23 else r23,bif r31 then r24 else r24,bif r31 then r25 else r25,bif r31 then r10 else r10,bif r31 then r11 else r11,bif r31 then (0:Int) else r12,bif r31 then r13 else (0:Int),bif r31 then r14 else r14,bif r31 then r15 else r15,bif r31 then r16 else r16,bif r31 then r17 else r17,bif r31 then r18 else r18,bif r31 then r19 else r19,bif r31 then r26 else r26,bif r31 then r27 else r27,bif r31 then r20 else r20,x.11,x.13,x.14,x.16,x.21,());let r34:Bool:=aJ r33 r28;let r35:Innings:=if r34=true then cn r33 r28 (2:Int) else r33;ah x∧(2:Int)≠(0:Int)∧(r30=true→(Innings.mk r5 r6 r7 r8 r9 (Extras.mk r21 r22 r23 r24 r25) r10 r11 r12 r13 x.11 r14 x.13 x.14 r15 x.16 r16 r17 r18 r19 x.21 (r26,r27,()) r20,()) =(bC x d,()))∧(r30=false→(Innings.mk r35.1 r35.2 r35.3 r35.4 (W (r32 +(1:Int))) r35.6 r35.7 r35.8 r35.9 r35.10 r35.11 r35.12 r35.13 r35.14 r35.15 r35.16 r35.17 r35.18 r35.19 r35.20 r35.21 r35.22 r35.23,()) =(bC x d,())))
 intro r1 r2 r3 r4 r5 r6 r7 r8 r9 r10 r11 r12 r13 r14 r15 r16 r17 r18 r19 r20 r21 r22 r23 r24 r25 r26 r27 r28 r29 r30 r31 r32 r33 r34 r35
 clear_value (hr1:r1=_) (hr2:r2=_) (hr3:r3=_) (hr4:r4=_) (hr5:r5=_) (hr6:r6=_) (hr7:r7=_) (hr8:r8=_) (hr9:r9=_) (hr10:r10=_) (hr11:r11=_) (hr12:r12=_) (hr13:r13=_) (hr14:r14=_) (hr15:r15=_) (hr16:r16=_) (hr17:r17=_) (hr18:r18=_) (hr19:r19=_) (hr20:r20=_) (hr21:r21=_) (hr22:r22=_) (hr23:r23=_) (hr24:r24=_) (hr25:r25=_) (hr26:r26=_) (hr27:r27=_) (hr28:r28=_) (hr29:r29=_) (hr30:r30=_) (hr31:r31=_) (hr32:r32=_) (hr33:r33=_) (hr34:r34=_) (hr35:r35=_)
 simp only [Bool.cond_self] at *
 have hs4:r4=jz d:=by rw [hr4,hr1];unfold jz;cases d.Crossed <;> cases (d.Runs.tmod 2 != 0) <;> rfl
 have ho:r29=ib x d:=by rw [hr29,hr2,hr3];grind [ib]
 have hp:r28=if ib x d==1 then x.Striker else if ib x d==2 then x.Other else 0:=by rw [hr28,hr2,hr3];grind [ib]
 have h012:ib x d=0∨ib x d=1∨ib x d=2:=by grind [ib]
 subst hs4
 clear hr1 hr2 hr3 hr4 hr28 hr29
 subst hr5 hr6 hr7 hr8 hr9 hr10 hr11 hr12 hr13 hr14 hr15 hr16 hr17 hr18 hr19 hr20 hr21 hr22 hr23 hr24 hr25 hr26 hr27 hr32
 refine ⟨hs,by decide,fun h=>?_,fun h=>?_⟩
 ·have h0:ib x d=0:=by grind
  simp only [bC,h0,cm]
  cases jz d <;> rfl
 ·have h0:ib x d=1∨ib x d=2:=by grind
  have e33:r33=cz (cm x d) ((ib x d==1) != jz d):=by
   rw [hr33,hr31,ho]
   simp only [cm,cz]
   rcases h0 with h0|h0 <;> rw [h0] <;> cases jz d <;> rfl
  have e28:r28=if ib x d==1 then x.Striker else x.Other:=by rw [hp];rcases h0 with h0|h0 <;> rw [h0] <;> rfl
  have ew:r33.Wickets=x.Wickets:=by
   rw [e33];simp only [cm,cz];cases jz d <;> cases (ib x d==1) <;> rfl
  have e0 :(ib x d==0)=false:=by rcases h0 with h0|h0 <;> rw [h0] <;> rfl
  simp only [bC,e0]
  rw [←e33,←e28]
  simp only [ek]
  rw [←hr34,←hr35]
  rw [ew]
  rfl
def Nc:FuncId×Ctr:=(376,af KE Mx qIn OT)
theorem OH:CtrOK Tryz.prog KE 376 (af KE Mx qIn OT):=by
 refine ar (C:=an [kW,ir] Tryz.f376) (al (.consU pQ rfl (.consU oc rfl .nil)) _) mixed (fn:=Tryz.f376) Tryz.func376 (by kernel_rfl) (by kernel_rfl) (by kernel_rfl) (by kernel_rfl) (by kernel_rfl) (by kernel_rfl) (Λ:=fun _ _=>none) ?_ ?_
 ·exact fun _ _ _ _ _ _ _ _ h=>by cases h
 ·rintro ⟨x,d,⟨⟩⟩ hw hn
  exact MG x d (hn _ List.mem_cons_self)
theorem Dn (x:Innings) (hs:ah x) :(evPat (an [kW] Tryz.f378) (fun _=>none) Tryz.f378 qIn qIn (x,())).sat fun z_=>z_ =(ym (x,())).2:=by
 refine cast (by kernel_rfl) (?_:ah x∧(Innings.mk x.1 x.2 x.3 x.4 x.5 x.6 x.7 x.8 x.10 x.9 x.11 x.12 x.13 x.14 x.15 x.16 x.17 x.18 x.19 x.20 x.21 x.22 x.23,()) =(kf x,()))
 exact ⟨hs,rfl⟩
def Av:FuncId×Ctr:=(378,af KE qIn qIn ym)
theorem Gr:CtrOK Tryz.prog KE 378 (af KE qIn qIn ym):=by
 refine ar (C:=an [kW] Tryz.f378) (al (.consU pQ rfl .nil) _) mixed (fn:=Tryz.f378) Tryz.func378 (by kernel_rfl) (by kernel_rfl) (by kernel_rfl) (by kernel_rfl) (by kernel_rfl) (by kernel_rfl) (Λ:=fun _ _=>none) ?_ ?_
 ·exact fun _ _ _ _ _ _ _ _ h=>by cases h
 ·rintro ⟨x,⟨⟩⟩ hw hn
  exact Dn x (hn _ List.mem_cons_self)
theorem GN (x:Innings) (p:Int) (hs:ah x) (hp:lM p) :(evPat (an [kW,EV] Tryz.f345) (fun _=>none) Tryz.f345 jV q2L (x,p,())).sat fun z_=>z_ =(DP (x,p,())).2:=by
 refine cast (by kernel_rfl) (?_:let r1:Int:=IntKind.i64.wrap (p - (1:Int));ah x∧((bZ x p !=(0:Int))=true→(x,bZ x p,()) =(jB x p,bZ x p,()))∧((bZ x p !=(0:Int))=false→((0:Int)≤r1∧r1 <(↑x.11.length:Int))∧(Innings.mk (bif x.9 ==(0:Int) then x.1 else x.1) (bif x.9 ==(0:Int) then x.2 else x.2) (bif x.9 ==(0:Int) then x.3 else x.3) (bif x.9 ==(0:Int) then x.4 else x.4) (bif x.9 ==(0:Int) then x.5 else x.5) (Extras.mk (bif x.9 ==(0:Int) then x.6.1 else x.6.1) (bif x.9 ==(0:Int) then x.6.2 else x.6.2) (bif x.9 ==(0:Int) then x.6.3 else x.6.3) (bif x.9 ==(0:Int) then x.6.4 else x.6.4) (bif x.9 ==(0:Int) then x.6.5 else x.6.5)) (bif x.9 ==(0:Int) then x.7 else x.7) (bif x.9 ==(0:Int) then x.8 else x.8) (bif x.9 ==(0:Int) then p else x.9) (bif x.9 ==(0:Int) then x.10 else p) (x.11.set r1.toNat (1:Int)) (bif x.9 ==(0:Int) then x.12 else x.12) x.13 x.14 (bif x.9 ==(0:Int) then x.15 else x.15) x.16 (bif x.9 ==(0:Int) then x.17 else x.17) (bif x.9 ==(0:Int) then x.18 else x.18) (bif x.9 ==(0:Int) then x.19 else x.19) (bif x.9 ==(0:Int) then x.20 else x.20) x.21 (bif x.9 ==(0:Int) then x.22.1 else x.22.1,bif x.9 ==(0:Int) then x.22.2.1 else x.22.2.1,()) (bif x.9 ==(0:Int) then x.23 else x.23),(0:Int),()) =(jB x p,bZ x p,())))
 intro r1
 clear_value (hr1:r1=_)
 refine ⟨hs,fun h=>?_,fun h=>?_⟩
 ·simp only [jB,h];rfl
 ·have h0:bZ x p=0:=by simpa using h
  have k:aJ x p=true:=by grind [bZ]
  have k2:1≤p∧p≤x.Batters.length:=by simpa [aJ] using k
  have e1:r1=p - 1:=by rw [hr1];exact mG k2.1 hp
  refine ⟨by omega,?_⟩
  rw [h0,e1]
  simp only [jB,h0]
  cases hb:x.Striker==0 <;> rfl
def EU:FuncId×Ctr:=(345,af KE jV q2L DP)
theorem I6:CtrOK Tryz.prog KE 345 (af KE jV q2L DP):=by
 refine ar (C:=an [kW,EV] Tryz.f345) (al (.consU pQ rfl (.consU I7 rfl .nil)) _) mixed (fn:=Tryz.f345) Tryz.func345 (by kernel_rfl) (by kernel_rfl) (by kernel_rfl) (by kernel_rfl) (by kernel_rfl) (by kernel_rfl) (Λ:=fun _ _=>none) ?_ ?_
 ·exact fun _ _ _ _ _ _ _ _ h=>by cases h
 ·rintro ⟨x,p,⟨⟩⟩ hw hn
  exact GN x p (hn _ List.mem_cons_self) (gU (bg (aH hw)))
theorem Bw (x:Innings) (p:Int) (hs:ah x) (hp:lM p) :(evPat (an [kW,EV,ir] Tryz.f344) (fun _=>none) Tryz.f344 jV q2L (x,p,())).sat fun z_=>z_ =(Kp (x,p,())).2:=by
 refine cast (by kernel_rfl) (?_:let r1:Innings:=inn (x.1,x.2,x.3,x.4,x.5,x.6.1,x.6.2,x.6.3,x.6.4,x.6.5,x.7,x.8,x.9,x.10,x.12,x.15,x.17,x.18,x.19,x.20,x.22.1,x.22.2.1,x.23,x.11,x.13,x.14,x.16,x.21,());let r2:Bool:=aJ r1 p;let r3:Innings:=if r2=true then cn r1 p (2:Int) else r1;ah x∧((bZ x p !=(0:Int))=true→(x,bZ x p,()) =(ml x p,bZ x p,()))∧((bZ x p !=(0:Int))=false→(Innings.mk r3.1 r3.2 r3.3 r3.4 (W (x.5 +(1:Int))) r3.6 r3.7 r3.8 r3.9 r3.10 r3.11 r3.12 r3.13 r3.14 r3.15 r3.16 r3.17 r3.18 r3.19 r3.20 r3.21 r3.22 r3.23,(0:Int),()) =(ml x p,bZ x p,())))
 intro r1 r2 r3
 clear_value (hr1:r1=_) (hr2:r2=_) (hr3:r3=_)
 refine ⟨hs,fun h=>?_,fun h=>?_⟩
 ·simp only [ml,h];rfl
 ·have h0:bZ x p=0:=by simpa using h
  have k:aJ x p=true:=by grind [bZ]
  have e1:r1=x:=hr1
  have e2:r2=true:=by rw [hr2,e1];exact k
  have e3:r3=cn x p 2:=by rw [hr3,e2,e1];rfl
  rw [h0,e3]
  have e4:ml x p={ cn x p 2 with Wickets:=W (x.Wickets+1) }:=by simp [ml,h0,ek,k,cn]
  rw [e4]
def vH:FuncId×Ctr:=(344,af KE jV q2L Kp)
theorem CO:CtrOK Tryz.prog KE 344 (af KE jV q2L Kp):=by
 refine ar (C:=an [kW,EV,ir] Tryz.f344) (al (.consU pQ rfl (.consU I7 rfl (.consU oc rfl .nil))) _) mixed (fn:=Tryz.f344) Tryz.func344 (by kernel_rfl) (by kernel_rfl) (by kernel_rfl) (by kernel_rfl) (by kernel_rfl) (by kernel_rfl) (Λ:=fun _ _=>none) ?_ ?_
 ·exact fun _ _ _ _ _ _ _ _ h=>by cases h
 ·rintro ⟨x,p,⟨⟩⟩ hw hn
  exact Bw x p (hn _ List.mem_cons_self) (gU (bg (aH hw)))
theorem JT (x:Innings) (s:Int) (o:Int) (hs:ah x) (h1:lM s) (h2:lM o) :(evPat (an [kW,ri,jo] Tryz.f341) (fun _=>none) Tryz.f341 FD q2L (x,s,o,())).sat fun z_=>z_ =(Ki (x,s,o,())).2:=by
 refine cast (by kernel_rfl) (?_:let r1:Int:=IntKind.i64.wrap (s - (1:Int));let r2:Int:=IntKind.i64.wrap (o - (1:Int));let r3:List Int:=x.11.set r1.toNat (1:Int);ah x∧(eM x=true→(x,(1:Int),()) =(js x s o,l5 x s o,()))∧(eM x=false→((bif !aJ x s then true else !aJ x o)=true→(x,(3:Int),()) =(js x s o,l5 x s o,()))∧((bif !aJ x s then true else !aJ x o)=false→((s==o)=true→(x,(4:Int),()) =(js x s o,l5 x s o,()))∧((s==o)=false→((0:Int)≤r1∧r1 <(↑x.11.length:Int))∧((0:Int)≤r2∧r2 <(↑r3.length:Int))∧(Innings.mk x.1 x.2 x.3 x.4 x.5 x.6 x.7 x.8 s o (r3.set r2.toNat (1:Int)) x.12 x.13 x.14 x.15 x.16 x.17 x.18 x.19 x.20 x.21 x.22 x.23,(0:Int),()) =(js x s o,l5 x s o,())))))
 intro r1 r2 r3
 clear_value (hr1:r1=_) (hr2:r2=_) (hr3:r3=_)
 refine ⟨hs,fun hb=>?_,fun hb=>⟨fun hk=>?_,fun hk=>⟨fun he=>?_,fun he=>?_⟩⟩⟩
 ·simp [js,l5,hb]
 ·have hk :(!aJ x s||!aJ x o)=true:=by grind
  simp only [js,l5,hb,hk];rfl
 ·have hk :(!aJ x s||!aJ x o)=false:=by grind
  simp only [js,l5,hb,hk,he];rfl
 ·have hk2 :(!aJ x s||!aJ x o)=false:=by grind
  have k1:1≤s∧s≤x.Batters.length:=by
   have:aJ x s=true:=by grind
   simpa [aJ] using this
  have k2:1≤o∧o≤x.Batters.length:=by
   have:aJ x o=true:=by grind
   simpa [aJ] using this
  have e1:r1=s - 1:=by rw [hr1];exact mG k1.1 h1
  have e2:r2=o - 1:=by rw [hr2];exact mG k2.1 h2
  have e3:r3 =(cn x s 1).Batters:=by rw [hr3,e1];rfl
  have e4:r3.length=x.Batters.length:=by rw [e3];simp [cn]
  refine ⟨by omega,by omega,?_⟩
  rw [e3,e2]
  simp only [js,l5,hb,hk2,he];rfl
def Iw:FuncId×Ctr:=(341,af KE FD q2L Ki)
theorem LL:CtrOK Tryz.prog KE 341 (af KE FD q2L Ki):=by
 refine ar (C:=an [kW,ri,jo] Tryz.f341) (al (.consU pQ rfl (.consU AR rfl (.consU oZ rfl .nil))) _) mixed (fn:=Tryz.f341) Tryz.func341 (by kernel_rfl) (by kernel_rfl) (by kernel_rfl) (by kernel_rfl) (by kernel_rfl) (by kernel_rfl) (Λ:=fun _ _=>none) ?_ ?_
 ·exact fun _ _ _ _ _ _ _ _ h=>by cases h
 ·rintro ⟨x,s,o,⟨⟩⟩ hw hn
  exact JT x s o (hn _ List.mem_cons_self) (gU (bg (aH hw))) (gU (bg (aH (aH hw))))
theorem Af (x:Innings) (d:Delivery) (b:Bool) (p:Int):ek (cz (cm x d) b) p={ cz (cm x d) b with Batters:=(bif aJ x p then x.Batters.set (p - 1).toNat 2 else x.Batters),Wickets:=W (x.Wickets+1) }:=by
 have e :(cz (cm x d) b).Batters=x.Batters∧(cz (cm x d) b).Wickets=x.Wickets:=by
  simp only [cz,cm];cases b <;> cases jz d <;> exact ⟨rfl,rfl⟩
 have k:aJ (cz (cm x d) b) p=aJ x p:=by unfold aJ;rw [e.1]
 unfold ek
 rw [k]
 cases h:aJ x p with
 | true=>simp [cn,e.1,e.2]
 | false=>simp [←e.1,e.2]
end Go.Proofs.YtffdpnmioidloaaGreatDoor
namespace Go.Proofs.YtffdpnmioidloaaGreatDoor
open Go Go.Mir
attribute [local irreducible] Go.Mir.DT.sat Go.Mir.evPat Go.Mir.RT.sat Go.Mir.evFn
abbrev Qc:Pat:=⟨[(8,.h I),(9,.h I),(7,.h U8s),(3,.c (.osl 1 2))],[(1,.row 2 I)],3⟩
abbrev QU:List (Lf×Pat):= [(.ext 0,⟨[(3,.c (.osl 1 2))],[(1,.row 2 I)],3⟩)]
def ky (x:Int×Int×List Int×List Int×Unit):Prop:=dJ (x.2.2.1,x.1,x.2.1,())∧x.2.2.1.length≤1000000∧x.2.2.2.1.length≤x.2.1
def kF (x:Int×Int×List Int×List Int×Unit):Nat:=(x.1 - x.2.1).toNat
def fF (x:Int×Int×List Int×List Int×Unit):List Int×Unit:=(x.2.2.2.1++sR (x.2.2.1.drop x.2.1.toNat) x.2.1,())
noncomputable def lpLLc:Lp:=(⟨0,an [] Tryz.f356,(fun _=>none),(aG Tryz.f356 0),Qc,QU⟩:Lp)
theorem MQ (n:Int) (i:Int) (xs:List Int) (out:List Int) (hi:ky (n,i,xs,out,())) :(Go.Mir.stepG lpLLc fF (fun y:Den (tyP lpLLc.q)=>ky y∧kF y<kF (n,i,xs,out,())) (n,i,xs,out,())∧Go.Mir.stepE lpLLc fF (n,i,xs,out,())=fF (n,i,xs,out,())):=by
 refine cast (by kernel_rfl) (?_:let r1:Int:=IntKind.i64.wrap (i +(1:Int));let r2:List Int:= [r1];let r3:Bool:=bif xs.getD i.toNat (dflt (Ty.int IntKind.u8)) ==(0:Int) then true else xs.getD i.toNat (dflt (Ty.int IntKind.u8)) ==(3:Int);((decide (i<n)=true→((0:Int)≤i∧i <(↑xs.length:Int))∧(r3=true→(out.length+r2.length) *(8:Nat)≤(70368744177664:Nat)∧ky (n,r1,xs,out++r2,())∧kF (n,r1,xs,out++r2,())<kF (n,i,xs,out,()))∧(r3=false→ky (n,r1,xs,out,())∧kF (n,r1,xs,out,())<kF (n,i,xs,out,())))∧(decide (i<n)=false→True))∧(bif decide (i<n) then bif r3 then fF (n,r1,xs,out++r2,()) else fF (n,r1,xs,out,()) else (out,()))=fF (n,i,xs,out,()))
 intro r1 r2 r3
 clear_value (hr1:r1=_) (hr2:r2=_) (hr3:r3=_)
 obtain ⟨⟨h1,h2,h3,h4⟩,h6,h7⟩:=hi
 simp only at h1 h2 h3 h4 h6 h7
 have hw:i<n→r1=i+1:=fun h=>by rw [hr1];exact bd (by omega) (by omega)
 have hl:r2.length=1:=by rw [hr2];rfl
 refine ⟨⟨fun h=>?_,fun _=>trivial⟩,?_⟩
 ·have h:i<n:=of_decide_eq_true h
  have hw:=hw h
  refine ⟨⟨h2,by omega⟩,fun _=>⟨by omega,⟨⟨h1,by simp only;omega,by simp only;omega,h4⟩,h6,by simp only [List.length_append];omega⟩,by simp only [kF];omega⟩,fun _=>⟨⟨⟨h1,by simp only;omega,by simp only;omega,h4⟩,h6,by simp only;omega⟩,by simp only [kF];omega⟩⟩
 ·by_cases h:i<n
  ·have hw:=hw h
   have e:xs.drop i.toNat=xs.getD i.toNat (dflt (Ty.int IntKind.u8))::xs.drop (i+1).toNat:=cZ h2 (by omega) _
   have e3:r3=FJ (xs.getD i.toNat (dflt (Ty.int IntKind.u8))):=by
    rw [hr3]
    generalize xs.getD i.toNat (dflt (Ty.int IntKind.u8))=v
    simp only [FJ]
    cases v==0 <;> rfl
   rw [decide_eq_true h,cond_true,e3,hr2,hw]
   generalize xs.getD i.toNat (dflt (Ty.int IntKind.u8))=v at e ⊢
   simp only [fF,e,sR]
   cases FJ v <;> simp
  ·rw [decide_eq_false h,cond_false]
   simp only [fF]
   rw [cq (l:=xs) (by omega)]
   simp [sR]
noncomputable def KD:LoopSum:=bb lpLLc fF ky
noncomputable def JG:Nat:=rid (aG Tryz.f356 0)
theorem Li:LoopOKp Tryz.prog 0 Tryz.f356.ntmps (aG Tryz.f356 0) (bb lpLLc fF ky):=
 bJ lpLLc (al (CtrsOK.nil) _) mixed (fun b hb S hS=>by cases hS) fF ky kF (fun |⟨n,i,xs,out,⟨⟩⟩,hi=>MQ n i xs out hi)
theorem JS (x:Innings) (hs:ah x) :(evPat (an [] Tryz.f356) (find [(JG,KD)]) Tryz.f356 qIn qIs (x,())).sat fun z_=>z_ =(Ke (x,())).2:=by
 refine cast (by kernel_rfl) (?_ :((fi fun x=>none)∧dJ (x.11,(↑x.11.length:Int),(0:Int),())∧x.11.length≤(1000000:Nat)∧(↑(0:Nat):Int)≤(0:Int))∧([]++sR (List.drop (Int.toNat (0:Int)) x.11) (0:Int),()) =(AJ x,()))
 refine ⟨⟨rfl,⟨rfl,Int.le_refl _,by simp only;omega,?_⟩,hs.1,Int.le_refl _⟩,rfl⟩
 have:=hs.1
 show x.Batters.length≤140737488355328
 omega
def xI:FuncId×Ctr:=(356,af KE qIn qIs Ke)
theorem Fl:CtrOK Tryz.prog KE 356 (af KE qIn qIs Ke):=by
 refine ar (C:=an [] Tryz.f356) (al (CtrsOK.nil) _) mixed (fn:=Tryz.f356) Tryz.func356 (by kernel_rfl) (by kernel_rfl) (by kernel_rfl) (by kernel_rfl) (by kernel_rfl) (by kernel_rfl) (Λ:=fun x=>find [(JG,KD)]) ?_ ?_
 ·rintro ⟨x,⟨⟩⟩ hw hn
  exact LoopsOKp.at (by kernel_rfl) (.cons (by kernel_rfl) (Li) .nil)
 ·rintro ⟨x,⟨⟩⟩ hw hn
  exact JS x (hn _ List.mem_cons_self)
theorem Br {x:Innings} {p:Int} {hurt:Bool} (h1:aJ x p=true) (h2 :(x.Striker==0||x.Other==0)=false) (h3 :(p != x.Striker&&p != x.Other)=false) (h4 :(hurt&&lV x)=false) :
  cA x p hurt=0∧dz x p hurt={ cz x (p==x.Striker) with Batters:=x.Batters.set (p - 1).toNat (bif hurt then 3 else 2),Wickets:=(bif hurt then x.Wickets else W (x.Wickets+1)) }:=by
 have e:cA x p hurt=0:=by simp only [cA,h1,h2,h3,h4];rfl
 refine ⟨e,?_⟩
 have kb :∀ b,(cz x b).Batters=x.Batters∧(cz x b).Wickets=x.Wickets:=fun b=>by cases b <;> exact ⟨rfl,rfl⟩
 simp only [dz,e]
 obtain ⟨k1,k2⟩:=kb (p==x.Striker)
 have kk:aJ (cz x (p==x.Striker)) p=true:=by unfold aJ at h1 ⊢;rw [k1];exact h1
 cases hurt with
 | true=>simp [cn,k1,←k2]
 | false=>simp [ek,kk,cn,k1,k2]
theorem Dp (x:Innings) (p:Int) (hurt:Bool) (hs:ah x) (hp:lM p) :(evPat (an [kW,jo,xI,ir] Tryz.f346) (fun _=>none) Tryz.f346 FC q2L (x,p,hurt,())).sat fun z_=>z_ =(yy (x,p,hurt,())).2:=by
 refine cast (by kernel_rfl) (?_:let r1:Int:=bif p==x.9 then x.1 else x.1;let r2:Int:=bif p==x.9 then x.2 else x.2;let r3:Int:=bif p==x.9 then x.3 else x.3;let r4:Int:=bif p==x.9 then x.4 else x.4;let r5:Int:=bif p==x.9 then x.5 else x.5;let r6:Int:=bif p==x.9 then x.7 else x.7;let r7:Int:=bif p==x.9 then x.8 else x.8;let r8:Int:=bif p==x.9 then x.12 else x.12;let r9:Bool:=bif p==x.9 then x.15 else x.15;let r10:Bool:=bif p==x.9 then x.17 else x.17;let r11:Int:=bif p==x.9 then x.18 else x.18;let r12:Int:=bif p==x.9 then x.19 else x.19;let r13:Int:=bif p==x.9 then x.20 else x.20;let r14:Int:=bif p==x.9 then x.23 else x.23;let r15:Int:=IntKind.i64.wrap (p - (1:Int));let r16:Int:=bif p==x.9 then x.6.1 else x.6.1;let r17:Int:=bif p==x.9 then x.6.2 else x.6.2;let r18:Int:=bif p==x.9 then x.6.3 else x.6.3;let r19:Int:=bif p==x.9 then x.6.4 else x.6.4;let r20:Int:=bif p==x.9 then x.6.5 else x.6.5;let r21:Int:=bif p==x.9 then x.22.1 else x.22.1;let r22:Int:=bif p==x.9 then (0:Int) else x.9;let r23:Int:=bif p==x.9 then x.10 else (0:Int);let r24:Int:=bif p==x.9 then x.22.2.1 else x.22.2.1;let r25:Bool:=bif p != x.9 then p != x.10 else false;let r26:Bool:=bif hurt then (↑(AJ x).length:Int) ==(0:Int) else false;let r27:Bool:=bif x.9 ==(0:Int) then true else x.10 ==(0:Int);let r28:Innings:=inn (r1,r2,r3,r4,r5,r16,r17,r18,r19,r20,r6,r7,r22,r23,r8,r9,r10,r11,r12,r13,r21,r24,r14,x.11,x.13,x.14,x.16,x.21,());let r29:Bool:=aJ r28 p;let r30:Innings:=if r29=true then cn r28 p (2:Int) else r28;ah x∧((!aJ x p)=true→(x,(3:Int),()) =(dz x p hurt,cA x p hurt,()))∧((!aJ x p)=false→(r27=true→(x,(6:Int),()) =(dz x p hurt,cA x p hurt,()))∧(r27=false→(r25=true→(x,(4:Int),()) =(dz x p hurt,cA x p hurt,()))∧(r25=false→((hurt=true→ah x∧True)∧(hurt=false→True))∧(true=true→(r26=true→(x,(19:Int),()) =(dz x p hurt,cA x p hurt,()))∧(r26=false→((hurt=true→((0:Int)≤r15∧r15 <(↑x.11.length:Int))∧True)∧(hurt=false→True))∧(true=true→(Innings.mk (bif hurt then r1 else r30.1) (bif hurt then r2 else r30.2) (bif hurt then r3 else r30.3) (bif hurt then r4 else r30.4) (bif hurt then r5 else W (r5 +(1:Int))) (Extras.mk (bif hurt then r16 else r30.6.1) (bif hurt then r17 else r30.6.2) (bif hurt then r18 else r30.6.3) (bif hurt then r19 else r30.6.4) (bif hurt then r20 else r30.6.5)) (bif hurt then r6 else r30.7) (bif hurt then r7 else r30.8) (bif hurt then r22 else r30.9) (bif hurt then r23 else r30.10) (bif hurt then x.11.set r15.toNat (3:Int) else r30.11) (bif hurt then r8 else r30.12) (bif hurt then x.13 else r30.13) (bif hurt then x.14 else r30.14) (bif hurt then r9 else r30.15) (bif hurt then x.16 else r30.16) (bif hurt then r10 else r30.17) (bif hurt then r11 else r30.18) (bif hurt then r12 else r30.19) (bif hurt then r13 else r30.20) (bif hurt then x.21 else r30.21) (bif hurt then r21 else r30.22.1,bif hurt then r24 else r30.22.2.1,()) (bif hurt then r14 else r30.23),(0:Int),()) =(dz x p hurt,cA x p hurt,()))))))))
 intro r1 r2 r3 r4 r5 r6 r7 r8 r9 r10 r11 r12 r13 r14 r15 r16 r17 r18 r19 r20 r21 r22 r23 r24 r25 r26 r27 r28 r29 r30
 clear_value (hr1:r1=_) (hr2:r2=_) (hr3:r3=_) (hr4:r4=_) (hr5:r5=_) (hr6:r6=_) (hr7:r7=_) (hr8:r8=_) (hr9:r9=_) (hr10:r10=_) (hr11:r11=_) (hr12:r12=_) (hr13:r13=_) (hr14:r14=_) (hr15:r15=_) (hr16:r16=_) (hr17:r17=_) (hr18:r18=_) (hr19:r19=_) (hr20:r20=_) (hr21:r21=_) (hr22:r22=_) (hr23:r23=_) (hr24:r24=_) (hr25:r25=_) (hr26:r26=_) (hr27:r27=_) (hr28:r28=_) (hr29:r29=_) (hr30:r30=_)
 simp only [Bool.cond_self] at *
 have t1 :∀ a b:Bool,(bif a then true else b) =(a||b):=by decide
 have t2 :∀ a b:Bool,(bif a then b else false) =(a&&b):=by decide
 have e27:r27 =(x.Striker==0||x.Other==0):=by rw [hr27,t1]
 have e26:r26 =(hurt&&lV x):=by rw [hr26,t2];rfl
 have e25:r25 =(p != x.Striker&&p != x.Other):=by rw [hr25,t2]
 have kb:aJ x p=true→(0:Int)≤r15∧r15 <(x.Batters.length:Int)∧r15=p - 1:=fun k=>by
  have k2:1≤p∧p≤x.Batters.length:=by simpa [aJ] using k
  have e1:r15=p - 1:=by rw [hr15];exact mG k2.1 hp
  omega
 have f1 :∀ {k:Int},k≠0→cA x p hurt=k→(x,k,()) =(dz x p hurt,cA x p hurt,()):=fun {k} hk e=>by
  have :(cA x p hurt != 0)=true:=by rw [e];simpa using hk
  rw [e]
  simp only [dz,this];rfl
 refine ⟨hs,fun h=>f1 (by decide) ?_,fun h1=>⟨fun h=>f1 (by decide) ?_,fun h2=>⟨fun h=>f1 (by decide) ?_,fun h3=>⟨⟨fun _=>⟨hs,trivial⟩,fun _=>trivial⟩,fun _=>⟨fun h=>f1 (by decide) ?_,fun h4=>⟨⟨fun _=>⟨?_,trivial⟩,fun _=>trivial⟩,fun _=>?_⟩⟩⟩⟩⟩⟩
 ·simp only [cA,h];rfl
 ·rw [e27] at h;simp only [cA,h1,h];rfl
 ·rw [e27] at h2;rw [e25] at h;simp only [cA,h1,h2,h];rfl
 ·rw [e27] at h2;rw [e25] at h3;rw [e26] at h;simp only [cA,h1,h2,h3,h];rfl
 ·have k1:aJ x p=true:=by simpa using h1
  exact ⟨(kb k1).1,(kb k1).2.1⟩
 ·have k1:aJ x p=true:=by simpa using h1
  obtain ⟨e,ey⟩:=Br k1 (e27▸h2) (e25▸h3) (e26▸h4)
  have e28:r28=cz x (p==x.Striker):=by
   rw [hr28,hr22,hr23];simp only [cz];cases p==x.Striker <;> simp only [*] <;> rfl
  have k29:r29=true:=by
   rw [hr29,e28]
   unfold aJ at k1 ⊢
   cases p==x.Striker <;> exact k1
  have e30:r30=cn (cz x (p==x.Striker)) p 2:=by rw [hr30,k29,e28];rfl
  rw [e,ey,e30,(kb k1).2.2]
  subst hr1 hr2 hr3 hr4 hr5 hr6 hr7 hr8 hr9 hr10 hr11 hr12 hr13 hr14 hr16 hr17 hr18 hr19 hr20 hr21 hr24
  rw [hr22,hr23]
  cases hurt <;> cases p==x.Striker <;> rfl
def Aw:FuncId×Ctr:=(346,af KE FC q2L yy)
theorem Gs:CtrOK Tryz.prog KE 346 (af KE FC q2L yy):=by
 refine ar (C:=an [kW,jo,xI,ir] Tryz.f346) (al (.consU pQ rfl (.consU oZ rfl (.consU Fl rfl (.consU oc rfl .nil)))) _) mixed (fn:=Tryz.f346) Tryz.func346 (by kernel_rfl) (by kernel_rfl) (by kernel_rfl) (by kernel_rfl) (by kernel_rfl) (by kernel_rfl) (Λ:=fun _ _=>none) ?_ ?_
 ·exact fun _ _ _ _ _ _ _ _ h=>by cases h
 ·rintro ⟨x,p,hurt,⟨⟩⟩ hw hn
  exact Dp x p hurt (hn _ List.mem_cons_self) (gU (bg (aH hw)))
end Go.Proofs.YtffdpnmioidloaaGreatDoor
namespace Go.Proofs.YtffdpnmioidloaaGreatDoor
open Go Go.Mir
attribute [local irreducible] Go.Mir.RT.sat Go.Mir.evFn Go.Mir.stepObl
theorem O0 (xs:List Int) (v:Int) (hx:xs.length≤aO) (i:Nat) (hi:EO xs v i) :(stepObl (J79 xs v) (EO xs v) (fun i=>xs.length - i) i (T79 xs v) (bs (cf8 [] Tryz.f338) (fun _=>none) (aG Tryz.f338 0) (J79 xs v i)) (L79 i)).1:=by
 refine cast (by kernel_rfl) (?_ :(decide ((↑i:Int) <(↑xs.length:Int))=true→((0:Int)≤(↑i:Int)∧(↑i:Int) <(↑xs.length:Int))∧((v==xs.getD (↑i:Int).toNat (dflt (Ty.int IntKind.i64)))=true→xs.contains v=true∧((↑i:Int)=idx xs v (0:Int)∧True)∧True)∧((v==xs.getD (↑i:Int).toNat (dflt (Ty.int IntKind.i64)))=false→EO xs v (i +(1:Nat))∧xs.length - (i +(1:Nat))<xs.length - i∧(RowD.mk (Ty.int IntKind.i64) xs=RowD.mk (Ty.int IntKind.i64) xs∧v=v∧(↑xs.length:Int) =(↑xs.length:Int)∧IntKind.i64.wrap ((↑i:Int) +(1:Int)) =(↑(i +(1:Nat)):Int)∧True)∧True))∧(decide ((↑i:Int) <(↑xs.length:Int))=false→xs.contains v=false∧True∧True))
 have e :(i:Int).toNat=i:=by simp
 rw [e]
 refine ⟨fun h1=>?_,fun h1=>?_⟩
 ·have h1:i<xs.length:=by simpa using h1
  refine ⟨⟨by omega,by omega⟩,fun h2=>?_,fun h2=>?_⟩
  ·have h2:v=xs.getD i (dflt (Ty.int IntKind.i64)):=eq_of_beq h2
   have h3:xs[i]?=some v:=by rw [h2];exact rb _ h1
   refine ⟨by simpa using List.mem_of_getElem? h3,⟨?_,trivial⟩,trivial⟩
   rw [Cy xs v 0 i h3 hi.2];omega
  ·have h2:v≠xs.getD i (0:Int):=ne_of_beq_false h2
   have h3:xs.getD i (0:Int)=xs[i]:=by rw [List.getD_eq_getElem?_getD,List.getElem?_eq_getElem h1];rfl
   refine ⟨⟨by omega,?_⟩,by omega,⟨rfl,rfl,rfl,?_,trivial⟩,trivial⟩
   ·rw [List.take_succ_eq_append_getElem h1,List.mem_append,List.mem_singleton,not_or]
    exact ⟨hi.2,by rw [←h3];exact h2⟩
   ·have:xs.length≤140737488355328:=hx
    rw [dI (by omega) (by omega)];omega
 ·have h1 :¬ i<xs.length:=by simpa using h1
  refine ⟨?_,trivial,trivial⟩
  have:=hi.2
  rw [List.take_of_length_le (by omega)] at this
  simpa using this
theorem Oe (xs:List Int) (v:Int) (hx:xs.length≤aO):LoopOK Tryz.prog Tryz.f338.ntmps (aG Tryz.f338 0) (c7 ⟨[],[],0⟩ (J79 xs v 0) (T79 xs v)):=
 kA (bK (CtrsOK.nil) _) mixed (J79 xs v) (fun _=>rfl) (EO xs v) (fun i=>xs.length - i) (fun _ _=>none) (fun _ _ _ _ _ h=>by cases h) (T79 xs v) [] [] 0 (⟨Nat.zero_le _,by simp⟩) L79 (fun i hi=>O0 xs v hx i hi)
theorem Qz (xs:List Int) (v:Int) (hx:xs.length≤aO) :(evFn (cf8 [] Tryz.f338) (Λ79 xs v) Tryz.f338 (bo Bi (xs,v,()))).sat fun v' rows=>leV v' (y7 (xs,v,())).v∧rows =(y7 (xs,v,())).rows:=by
 refine cast (by kernel_rfl) (?_ :((fi fun x=>none)∧(RowD.mk (Ty.int IntKind.i64) xs=RowD.mk (Ty.int IntKind.i64) xs∧v=v∧(↑xs.length:Int) =(↑xs.length:Int)∧(0:Int) =(↑(0:Nat):Int)∧True)∧True)∧(xs.contains v=true→idx xs v (0:Int)=idx xs v (0:Int)∧([]:List RowD)=[])∧(xs.contains v=false→(-1:Int)=idx xs v (0:Int)∧([]:List RowD)=[]))
 refine ⟨⟨rfl,⟨rfl,rfl,rfl,rfl,trivial⟩,trivial⟩,fun _=>⟨rfl,rfl⟩,fun h=>⟨?_,rfl⟩⟩
 rw [sI]
 simpa using h
theorem Rf:CtrOK Tryz.prog K8 338 (au K8 Bi y7):=by
 refine ba (C:=cf8 [] Tryz.f338) (bK (CtrsOK.nil) _) mixed (fn:=Tryz.f338) Tryz.func338 (by kernel_rfl) (by kernel_rfl) (by kernel_rfl) (Λ:=fun x=>Λ79 x.1 x.2.1) ?_ ?_ ?_
 ·rintro ⟨xs,v,⟨⟩⟩ hw hn
  exact LoopsOK.at (by kernel_rfl) (.cons (by kernel_rfl) (Oe xs v (dE (bg hw))) .nil)
 ·rintro ⟨xs,v,⟨⟩⟩
  exact of_decide_eq_true (by kernel_rfl)
 ·rintro ⟨xs,v,⟨⟩⟩ hw hn
  exact Qz xs v (dE (bg hw))
theorem Qk (xs:List Int) (v:Int) :(evFn (cf8 [k79] Tryz.f318) (fun _=>none) Tryz.f318 (bo Bi (xs,v,()))).sat fun v' rows=>leV v' (yQ (xs,v,())).v∧rows =(yQ (xs,v,())).rows:=by
 refine cast (by kernel_rfl) (?_:decide (idx xs v (0:Int)≥(0:Int))=fK xs v∧([]:List RowD)=[])
 exact ⟨EJ xs v 0 (Int.le_refl 0),rfl⟩
theorem Lv:CtrOK Tryz.prog K8 318 (au K8 Bi yQ):=by
 refine ba (C:=cf8 [k79] Tryz.f318) (bK (.cons Rf .nil) _) mixed (fn:=Tryz.f318) Tryz.func318 (by kernel_rfl) (by kernel_rfl) (by kernel_rfl) (Λ:=fun _ _=>none) ?_ ?_ ?_
 ·exact fun _ _ _ _ _ _ _ _ h=>by cases h
 ·rintro ⟨xs,v,⟨⟩⟩
  exact of_decide_eq_true (by kernel_rfl)
 ·rintro ⟨xs,v,⟨⟩⟩ hw hn
  exact Qk xs v
end Go.Proofs.YtffdpnmioidloaaGreatDoor
namespace Go.Proofs.YtffdpnmioidloaaGreatDoor
open Go Go.Mir
attribute [local irreducible] Go.Mir.DT.sat Go.Mir.evPat Go.Mir.RT.sat Go.Mir.evFn
def m2 (n:Int):Bool:=!inW n 0 1000000000
def OQ:Den (tyP bA)→List Prop×Den (tyP aF):=fun x=>([],(m2 x.1,()))
abbrev qNI (f:Nat):Pat:=⟨[(0,.h Is),(1,.c (.fn f [])),(7,.h I),(8,.h I)],[],0⟩
def jX (x:List Int×Int×Int×Unit):Sum (Int×Unit) Unit:=Ii (cH m2 (x.1.drop x.2.2.1.toNat) x.2.2.1)
abbrev qNF (f:Nat):Pat:=⟨[(0,.h Is),(1,.c (.fn f []))],[],0⟩
def rH (l:List Int):Bool:=l.any m2
def sNI (f:Nat):Den (tyP (qNF f))→List Prop×Den (tyP bA):=fun x=>([],(oY (cH m2 x.1 0),()))
def sNC (f:Nat):Den (tyP (qNF f))→List Prop×Den (tyP aF):=fun x=>([],(rH x.1,()))
def vk (most:Int):List Int→List Int→Bool
 | _,[]=>true
 | seen,n::r=>if !inW n 1 most||fK seen n then false else vk most (seen++[n]) r
def iy (l:List Int) (most:Int):Bool:=vk most [] l
abbrev qLM:Pat:=bX [Is,I]
def Kb:Den (tyP qLM)→List Prop×Den (tyP aF):=fun x=>([],(iy x.1 x.2.1,()))
abbrev qDf:Pat:=⟨[(0,.h Is),(1,.h I),(7,.h Is),(8,.h I),(9,.h I)],[],0⟩
abbrev xDf:List (Lf×Pat):= [(.ret,⟨[(4,.h .bool)],[],0⟩),(.ext 0,⟨[],[],0⟩)]
abbrev TDf:Type:=List Int×Int×List Int×Int×Int×Unit
def vB (x:TDf):Prop:=x.2.2.1=x.1∧dJ (x.1,x.2.2.2.1,x.2.2.2.2.1,())
def Ge (x:TDf):Nat:=(x.2.2.2.1 - x.2.2.2.2.1).toNat
def P3 (b:Bool):Sum (Bool×Unit) Unit:=if b then .inr () else .inl (false,())
def ju (x:TDf):Sum (Bool×Unit) Unit:=P3 (vk x.2.1 (x.1.take x.2.2.2.2.1.toNat) (x.1.drop x.2.2.2.2.1.toNat))
def s9 (x:Innings):Bool:=!rH ([x.Target,x.Runs,x.Extras.Wides,x.Extras.NoBalls,x.Extras.Byes,x.Extras.LegByes,x.Extras.Penalties,x.Complete,x.BallAge,x.Outside,x.Reviews.1,x.Reviews.2.1]++x.Bowled)
def Kg:Den (tyP qIn)→List Prop×Den (tyP aF):=fun x=>([ah x.1],(s9 x.1,()))
theorem BB (n:Int) (lo:Int) (hi:Int) :(evPat (an [] Tryz.f298) (fun _=>none) Tryz.f298 q3 aF (n,lo,hi,())).sat fun z_=>z_ =(sIn (n,lo,hi,())).2:=by
 refine cast (by kernel_rfl) (?_ :(bif decide (n≥lo) then decide (n≤hi) else false,()) =(inW n lo hi,()))
 grind [inW]
def cM:FuncId×Ctr:=(298,af KE q3 aF sIn)
theorem eY:CtrOK Tryz.prog KE 298 (af KE q3 aF sIn):=by
 refine ar (C:=an [] Tryz.f298) (al (CtrsOK.nil) _) mixed (fn:=Tryz.f298) Tryz.func298 (by kernel_rfl) (by kernel_rfl) (by kernel_rfl) (by kernel_rfl) (by kernel_rfl) (by kernel_rfl) (Λ:=fun _ _=>none) ?_ ?_
 ·exact fun _ _ _ _ _ _ _ _ h=>by cases h
 ·rintro ⟨n,lo,hi,⟨⟩⟩ hw hn
  exact BB n lo hi
theorem JY (n:Int) :(evPat (an [cM] Tryz.f319) (fun _=>none) Tryz.f319 bA aF (n,())).sat fun z_=>z_ =(OQ (n,())).2:=by
 refine cast (by kernel_rfl) (?_ :(!inW n (0:Int) (1000000000:Int),()) =(m2 n,()))
 rfl
def CC:FuncId×Ctr:=(319,af KE bA aF OQ)
theorem Fm:CtrOK Tryz.prog KE 319 (af KE bA aF OQ):=by
 refine ar (C:=an [cM] Tryz.f319) (al (.consU eY rfl .nil) _) mixed (fn:=Tryz.f319) Tryz.func319 (by kernel_rfl) (by kernel_rfl) (by kernel_rfl) (by kernel_rfl) (by kernel_rfl) (by kernel_rfl) (Λ:=fun _ _=>none) ?_ ?_
 ·exact fun _ _ _ _ _ _ _ _ h=>by cases h
 ·rintro ⟨n,⟨⟩⟩ hw hn
  exact JY n
noncomputable def lpNIl:Lp:=(⟨0,an [CC] Tryz.f114,(fun _=>none),(aG Tryz.f114 0),(qNI 319),xLI⟩:Lp)
theorem MR (xs:List Int) (n:Int) (i:Int) (hi:dJ (xs,n,i,())) :(Go.Mir.stepG lpNIl jX (fun y:Den (tyP lpNIl.q)=>dJ y∧lh y<lh (xs,n,i,())) (xs,n,i,())∧Go.Mir.stepE lpNIl jX (xs,n,i,())=jX (xs,n,i,())):=by
 refine cast (by kernel_rfl) (?_ :((decide (i<n)=true→((0:Int)≤i∧i <(↑xs.length:Int))∧(m2 (xs.getD i.toNat (dflt (Ty.int IntKind.i64)))=true→True)∧(m2 (xs.getD i.toNat (dflt (Ty.int IntKind.i64)))=false→dJ (xs,n,IntKind.i64.wrap (i +(1:Int)),())∧lh (xs,n,IntKind.i64.wrap (i +(1:Int)),())<lh (xs,n,i,())))∧(decide (i<n)=false→True))∧(bif decide (i<n) then bif m2 (xs.getD i.toNat (dflt (Ty.int IntKind.i64))) then Sum.inl (i,()) else jX (xs,n,IntKind.i64.wrap (i +(1:Int)),()) else Sum.inr ())=jX (xs,n,i,()))
 obtain ⟨h1,h2,h3,h4⟩:=hi
 simp only at h1 h2 h3 h4
 have h5 :(xs.length:Int)≤140737488355328:=by have:xs.length≤140737488355328:=h4;omega
 refine ⟨⟨fun h=>?_,fun _=>trivial⟩,?_⟩
 ·have h:i<n:=of_decide_eq_true h
  rw [bd (n:=i+1) (by omega) (by omega)]
  refine ⟨⟨h2,by omega⟩,fun _=>trivial,fun _=>⟨⟨h1,by simp only;omega,by simp only;omega,h4⟩,by simp only [lh];omega⟩⟩
 ·by_cases h:i<n
  ·rw [decide_eq_true h,cond_true,bd (n:=i+1) (by omega) (by omega)]
   have e:xs.drop i.toNat=xs.getD i.toNat (dflt (Ty.int IntKind.i64))::xs.drop (i+1).toNat:=cZ h2 (by omega) _
   generalize xs.getD i.toNat (dflt (Ty.int IntKind.i64))=v at e ⊢
   simp only [jX,e,cH]
   cases m2 v <;> rfl
  ·rw [decide_eq_false h,cond_false]
   simp only [jX]
   rw [cq (l:=xs) (by omega)]
   rfl
noncomputable def KF:LoopSum:=bb lpNIl jX dJ
noncomputable def JH:Nat:=rid (aG Tryz.f114 0)
theorem Lj:LoopOKp Tryz.prog 0 Tryz.f114.ntmps (aG Tryz.f114 0) (bb lpNIl jX dJ):=
 bJ lpNIl (al (.consU Fm rfl .nil) _) mixed (fun b hb S hS=>by cases hS) jX dJ lh (fun |⟨xs,n,i,⟨⟩⟩,hi=>MR xs n i hi)
theorem JP (xs:List Int) (hx:xs.length≤aO) :(evPat (an [CC] Tryz.f114) (find [(JH,KF)]) Tryz.f114 (qNF 319) bA (xs,())).sat fun z_=>z_ =((sNI 319) (xs,())).2:=by
 refine cast (by kernel_rfl) (?_:let r1:Bool:=isL (jX (xs,(↑xs.length:Int),(0:Int),()));((fi fun x=>none)∧(↑xs.length:Int) =(↑xs.length:Int)∧(0:Int)≤(0:Int)∧(0:Int)≤(↑xs.length:Int)∧xs.length≤aO)∧(r1=true→nU (dflt (I.prod Ty.unit)) (jX (xs,(↑xs.length:Int),(0:Int),())) =(oY (cH m2 xs (0:Int)),()))∧(r1=false→((-1:Int),()) =(oY (cH m2 xs (0:Int)),())))
 intro r1
 clear_value (hr1:r1=_)
 have e:jX (xs,(xs.length:Int),0,())=Ii (cH m2 xs 0):=rfl
 try subst hr1
 rw [e]
 refine ⟨⟨rfl,rfl,Int.le_refl _,by omega,hx⟩,fun h=>?_,fun h=>?_⟩ <;> cases hf:cH m2 xs 0 <;> rw [hf] at h <;> first|rfl|cases h
def It:FuncId×Ctr:=(114,af KE (qNF 319) bA (sNI 319))
theorem LG:CtrOK Tryz.prog KE 114 (af KE (qNF 319) bA (sNI 319)):=by
 refine ar (C:=an [CC] Tryz.f114) (al (.consU Fm rfl .nil) _) mixed (fn:=Tryz.f114) Tryz.func114 (by kernel_rfl) (by kernel_rfl) (by kernel_rfl) (by kernel_rfl) (by kernel_rfl) (by kernel_rfl) (Λ:=fun x=>find [(JH,KF)]) ?_ ?_
 ·rintro ⟨xs,⟨⟩⟩ hw hn
  exact LoopsOKp.at (by kernel_rfl) (.cons (by kernel_rfl) (Lj) .nil)
 ·rintro ⟨xs,⟨⟩⟩ hw hn
  exact JP xs (dE (bg hw))
theorem JK (xs:List Int) :(evPat (an [It] Tryz.f64) (fun _=>none) Tryz.f64 (qNF 319) aF (xs,())).sat fun z_=>z_ =((sNC 319) (xs,())).2:=by
 refine cast (by kernel_rfl) (?_ :(decide (oY (cH m2 xs (0:Int))≥(0:Int)),()) =(rH xs,()))
 have e:=kr (p:=m2) (l:=xs) (i:=0)
 unfold rH
 rw [←e]
 cases hf:cH m2 xs 0 with
 | none=>rfl
 | some k=>
  have:=oz hf
  simp [this,oY]
def Il:FuncId×Ctr:=(64,af KE (qNF 319) aF (sNC 319))
theorem LA:CtrOK Tryz.prog KE 64 (af KE (qNF 319) aF (sNC 319)):=by
 refine ar (C:=an [It] Tryz.f64) (al (.consU LG rfl .nil) _) mixed (fn:=Tryz.f64) Tryz.func64 (by kernel_rfl) (by kernel_rfl) (by kernel_rfl) (by kernel_rfl) (by kernel_rfl) (by kernel_rfl) (Λ:=fun _ _=>none) ?_ ?_
 ·exact fun _ _ _ _ _ _ _ _ h=>by cases h
 ·rintro ⟨xs,⟨⟩⟩ hw hn
  exact JK xs
noncomputable def lpDf:Lp:=(⟨0,an [cM,k47] Tryz.f300,(fun _=>none),(aG Tryz.f300 0),qDf,xDf⟩:Lp)
theorem O9 (l:List Int) (most:Int) (l2:List Int) (n:Int) (i:Int) (hi:vB (l,most,l2,n,i,())) :(Go.Mir.stepG lpDf ju (fun y:Den (tyP lpDf.q)=>vB y∧Ge y<Ge (l,most,l2,n,i,())) (l,most,l2,n,i,())∧Go.Mir.stepE lpDf ju (l,most,l2,n,i,())=ju (l,most,l2,n,i,())):=by
 refine cast (by kernel_rfl) (?_:let r1:Bool:=!inW (l2.getD i.toNat (dflt (Ty.int IntKind.i64))) (1:Int) most;let r2:Bool:=bif r1 then true else fK (List.drop (Int.toNat (0:Int)) (List.take i.toNat l)) (l2.getD i.toNat (dflt (Ty.int IntKind.i64)));((decide (i<n)=true→((0:Int)≤i∧i <(↑l2.length:Int))∧((r1=true→True)∧(r1=false→((0:Int)≤(0:Int)∧(0:Int)≤i∧i≤(↑l.length:Int))∧True))∧(true=true→(r2=true→True)∧(r2=false→vB (l,most,l2,n,IntKind.i64.wrap (i +(1:Int)),())∧Ge (l,most,l2,n,IntKind.i64.wrap (i +(1:Int)),())<Ge (l,most,l2,n,i,()))))∧(decide (i<n)=false→True))∧(bif decide (i<n) then bif true&&true then bif r2 then Sum.inl (false,()) else ju (l,most,l2,n,IntKind.i64.wrap (i +(1:Int)),()) else bif true then bif r2 then Sum.inl (false,()) else ju (l,most,l2,n,IntKind.i64.wrap (i +(1:Int)),()) else bif r1 then Sum.inl (dflt (Ty.bool.prod Ty.unit)) else Sum.inl (dflt (Ty.bool.prod Ty.unit)) else Sum.inr ())=ju (l,most,l2,n,i,()))
 intro r1 r2
 clear_value (hr1:r1=_) (hr2:r2=_)
 obtain ⟨h0,h1,h2,h3,h4⟩:=hi
 simp only at h0 h1 h2 h3 h4
 subst h0
 have h5 :(l2.length:Int)≤140737488355328:=by have:l2.length≤140737488355328:=h4;omega
 refine ⟨⟨fun h=>?_,fun _=>trivial⟩,?_⟩
 ·have h:i<n:=of_decide_eq_true h
  rw [bd (n:=i+1) (by omega) (by omega)]
  exact ⟨⟨h2,by omega⟩,⟨fun _=>trivial,fun _=>⟨⟨Int.le_refl _,h2,by omega⟩,trivial⟩⟩,fun _=>⟨fun _=>trivial,fun _=>⟨⟨rfl,h1,by simp only;omega,by simp only;omega,h4⟩,by simp only [Ge];omega⟩⟩⟩
 ·by_cases h:i<n
  ·rw [decide_eq_true h,cond_true,bd (n:=i+1) (by omega) (by omega)]
   have e:l2.drop i.toNat=l2.getD i.toNat (dflt (Ty.int IntKind.i64))::l2.drop (i+1).toNat:=cZ h2 (by omega) _
   have et:l2.take (i+1).toNat=l2.take i.toNat++[l2.getD i.toNat (dflt (Ty.int IntKind.i64))]:=MV h2 (by omega) _
   rw [hr2,hr1]
   generalize l2.getD i.toNat (dflt (Ty.int IntKind.i64))=v at e et ⊢
   simp only [ju,e,et,vk,Int.toNat_zero,List.drop_zero]
   cases inW v 1 most <;> cases fK (l2.take i.toNat) v <;> rfl
  ·rw [decide_eq_false h]
   show (Sum.inr ():Sum (Bool×Unit) Unit)=_
   simp only [ju]
   rw [cq (l:=l2) (by omega)]
   rfl
noncomputable def NM:LoopSum:=bb lpDf ju vB
noncomputable def Nx:Nat:=rid (aG Tryz.f300 0)
theorem On:LoopOKp Tryz.prog 0 Tryz.f300.ntmps (aG Tryz.f300 0) (bb lpDf ju vB):=
 bJ lpDf (al (.consU eY rfl (.consU Lv rfl .nil)) _) mixed (fun b hb S hS=>by cases hS) ju vB Ge (fun |⟨l,most,l2,n,i,⟨⟩⟩,hi=>O9 l most l2 n i hi)
theorem JX (l:List Int) (most:Int) (hx:l.length≤aO) :(evPat (an [cM,k47] Tryz.f300) (find [(Nx,NM)]) Tryz.f300 qLM aF (l,most,())).sat fun z_=>z_ =(Kb (l,most,())).2:=by
 refine cast (by kernel_rfl) (?_:let r1:Bool:=isL (ju (l,most,l,(↑l.length:Int),(0:Int),()));((fi fun x=>none)∧l=l∧dJ (l,(↑l.length:Int),(0:Int),()))∧(r1=true→nU (dflt (Ty.bool.prod Ty.unit)) (ju (l,most,l,(↑l.length:Int),(0:Int),())) =(iy l most,()))∧(r1=false→(true,()) =(iy l most,())))
 intro r1
 clear_value (hr1:r1=_)
 have e:ju (l,most,l,(l.length:Int),0,())=P3 (iy l most):=rfl
 try subst hr1
 rw [e]
 refine ⟨⟨rfl,rfl,rfl,Int.le_refl _,by simp only;omega,hx⟩,fun h=>?_,fun h=>?_⟩ <;> cases hf:iy l most <;> rw [hf] at h <;> first|rfl|cases h
def IA:FuncId×Ctr:=(300,af KE qLM aF Kb)
theorem LO:CtrOK Tryz.prog KE 300 (af KE qLM aF Kb):=by
 refine ar (C:=an [cM,k47] Tryz.f300) (al (.consU eY rfl (.consU Lv rfl .nil)) _) mixed (fn:=Tryz.f300) Tryz.func300 (by kernel_rfl) (by kernel_rfl) (by kernel_rfl) (by kernel_rfl) (by kernel_rfl) (by kernel_rfl) (Λ:=fun x=>find [(Nx,NM)]) ?_ ?_
 ·rintro ⟨l,most,⟨⟩⟩ hw hn
  exact LoopsOKp.at (by kernel_rfl) (.cons (by kernel_rfl) (On) .nil)
 ·rintro ⟨l,most,⟨⟩⟩ hw hn
  exact JX l most (dE (bg hw))
theorem BD (x:Innings) (hs:ah x) :(evPat (an [Il] Tryz.f301) (fun _=>none) Tryz.f301 qIn aF (x,())).sat fun z_=>z_ =(Kg (x,())).2:=by
 refine cast (by kernel_rfl) (?_:let r1:List Int:= [x.2,x.4,x.6.1,x.6.2,x.6.3,x.6.4,x.6.5,x.7,x.18,x.20,x.22.1,x.22.2.1];((0:Int)≤(0:Int)∧(0:Int) <(↑(2:Nat):Int))∧((0:Int)≤(1:Int)∧(1:Int) <(↑(2:Nat):Int))∧(r1.length+x.16.length) *(8:Nat)≤(70368744177664:Nat)∧(!rH (r1++x.16),()) =(s9 x,()))
 intro r1
 clear_value (hr1:r1=_)
 have hl:r1.length=12:=by rw [hr1];rfl
 have:=hs.2.2.2.1
 refine ⟨by omega,by omega,by omega,?_⟩
 rw [hr1];rfl
def vL:FuncId×Ctr:=(301,af KE qIn aF Kg)
theorem CT:CtrOK Tryz.prog KE 301 (af KE qIn aF Kg):=by
 refine ar (C:=an [Il] Tryz.f301) (al (.consU LA rfl .nil) _) mixed (fn:=Tryz.f301) Tryz.func301 (by kernel_rfl) (by kernel_rfl) (by kernel_rfl) (by kernel_rfl) (by kernel_rfl) (by kernel_rfl) (Λ:=fun _ _=>none) ?_ ?_
 ·exact fun _ _ _ _ _ _ _ _ h=>by cases h
 ·rintro ⟨x,⟨⟩⟩ hw hn
  exact BD x (hn _ List.mem_cons_self)
end Go.Proofs.YtffdpnmioidloaaGreatDoor
namespace Go.Proofs.YtffdpnmioidloaaGreatDoor
open Go Go.Mir
attribute [local irreducible] Go.Mir.DT.sat Go.Mir.evPat Go.Mir.RT.sat Go.Mir.evFn
def jA (S O:Int):List Int→Int→Int→Int→Bool→Option (Int×Int×Bool)
 | [],_,o,b,g=>some (o,b,g)
 | s::r,i,o,b,g=>if s>3 then none
  else if s==1 then (if S != i+1&&O != i+1 then none else jA S O r (i+1) o (b+1) true)
  else jA S O r (i+1) (if s==2 then o+1 else o) b (g||s != 0)
abbrev qBc:Pat:=⟨[(2,.c (.ptr 0 0)),(1,.h I),(5,.h I),(6,.h I),(7,.h .bool),(12,.h U8s),(13,.h I),(14,.h I)],[(0,.dat (.nm .Innings))],1⟩
abbrev xBc:List (Lf×Pat):= [(.ret,⟨[(4,.h .bool)],[],0⟩),(.ext 0,⟨[(2,.c (.ptr 0 0)),(1,.h I),(5,.h I),(6,.h I),(7,.h .bool)],[(0,.dat (.nm .Innings))],1⟩)]
abbrev TBc:Type:=Int×Int×Int×Bool×List Int×Int×Int×Innings×Unit
def sK (x:TBc):Prop:=dJ (x.2.2.2.2.1,x.2.2.2.2.2.1,x.2.2.2.2.2.2.1,())∧x.2.2.2.2.1.length≤1000000∧(0≤x.2.1∧x.2.1≤x.2.2.2.2.2.2.1)∧(0≤x.2.2.1∧x.2.2.1≤x.2.2.2.2.2.2.1)
def AP (x:TBc):Nat:=(x.2.2.2.2.2.1 - x.2.2.2.2.2.2.1).toNat
def wo (side:Int) (x:Innings):Option (Int×Int×Bool)→Sum (Bool×Unit) (Int×Int×Int×Bool×Innings×Unit)
 | none=> .inl (false,())
 | some (o,b,g)=> .inr (side,o,b,g,x,())
def gI (x:TBc):Sum (Bool×Unit) (Int×Int×Int×Bool×Innings×Unit):=
 wo x.1 x.2.2.2.2.2.2.2.1 (jA x.2.2.2.2.2.2.2.1.Striker x.2.2.2.2.2.2.2.1.Other (x.2.2.2.2.1.drop x.2.2.2.2.2.2.1.toNat) x.2.2.2.2.2.2.1 x.2.1 x.2.2.1 x.2.2.2.1)
def fD (x:Innings):Int:=(if x.Striker != 0 then 1 else 0) +(if x.Other != 0 then 1 else 0)
def Cb (x:Innings) (side:Int):Option (Int×Int×Bool)→Bool
 | none=>false
 | some (o,b,g)=>if !inW x.Striker 0 side||!inW x.Other 0 side||x.Striker==x.Other&&x.Striker != 0 then false
  else fD x==b&&(!g||decide (fD x>0))&&o==x.Wickets
def nE (x:Innings) (side:Int):Bool:=Cb x side (jA x.Striker x.Other x.Batters 0 0 0 false)
def J8:Den (tyP jV)→List Prop×Den (tyP aF):=fun x=>([ah x.1],(nE x.1 x.2.1,()))
noncomputable def lpBc:Lp:=(⟨0,an [cM] Tryz.f299,(fun _=>none),(aG Tryz.f299 0),qBc,xBc⟩:Lp)
theorem O4 (side:Int) (o:Int) (b:Int) (g:Bool) (xs:List Int) (n:Int) (i:Int) (x:Innings) (hi:sK (side,o,b,g,xs,n,i,x,())) :(Go.Mir.stepG lpBc gI (fun y:Den (tyP lpBc.q)=>sK y∧AP y<AP (side,o,b,g,xs,n,i,x,())) (side,o,b,g,xs,n,i,x,())∧Go.Mir.stepE lpBc gI (side,o,b,g,xs,n,i,x,())=gI (side,o,b,g,xs,n,i,x,())):=by
 refine cast (by kernel_rfl) (?_:let r1:Int:=IntKind.i64.wrap (i +(1:Int));let r2:Bool:=xs.getD i.toNat (dflt (Ty.int IntKind.u8)) ==(1:Int);let r3:Bool:=xs.getD i.toNat (dflt (Ty.int IntKind.u8)) ==(2:Int);let r4:Bool:=bif g then true else xs.getD i.toNat (dflt (Ty.int IntKind.u8)) !=(0:Int);let r5:Bool:=decide (xs.getD i.toNat (dflt (Ty.int IntKind.u8)) >(3:Int));let r6:Bool:=bif x.9 != r1 then x.10 != r1 else false;let r7:Bool:=bif r5 then false else bif r2 then !r6 else true;((decide (i<n)=true→(r7=true→(((0:Int)≤i∧i <(↑xs.length:Int))∧(r5=true→False)∧(r5=false→(r2=true→(r6=true→False)∧(r6=false→True))∧(r2=false→(r3=true→True)∧(r3=false→True))))∧sK (side,bif r2 then o else bif r3 then IntKind.i64.wrap (o +(1:Int)) else o,bif r2 then IntKind.i64.wrap (b +(1:Int)) else b,bif r2 then r4 else bif r3 then r4 else r4,xs,n,r1,x,())∧AP (side,bif r2 then o else bif r3 then IntKind.i64.wrap (o +(1:Int)) else o,bif r2 then IntKind.i64.wrap (b +(1:Int)) else b,bif r2 then r4 else bif r3 then r4 else r4,xs,n,r1,x,())<AP (side,o,b,g,xs,n,i,x,()))∧(r7=false→((0:Int)≤i∧i <(↑xs.length:Int))∧(r5=true→True)∧(r5=false→(r2=true→(r6=true→True)∧(r6=false→True))∧(r2=false→(r3=true→True)∧(r3=false→True)))))∧(decide (i<n)=false→True))∧(bif decide (i<n) then bif false&&(false&&true&&(true&&true)) then gI (side,bif r2 then o else bif r3 then IntKind.i64.wrap (o +(1:Int)) else o,bif r2 then IntKind.i64.wrap (b +(1:Int)) else b,bif r2 then r4 else bif r3 then r4 else r4,xs,n,r1,x,()) else bif r7 then gI (side,bif r2 then o else bif r3 then IntKind.i64.wrap (o +(1:Int)) else o,bif r2 then IntKind.i64.wrap (b +(1:Int)) else b,bif r2 then r4 else bif r3 then r4 else r4,xs,n,r1,x,()) else bif r5 then Sum.inl (false,()) else bif r2 then bif r6 then Sum.inl (false,()) else Sum.inl (dflt (Ty.bool.prod Ty.unit)) else bif r3 then Sum.inl (dflt (Ty.bool.prod Ty.unit)) else Sum.inl (dflt (Ty.bool.prod Ty.unit)) else Sum.inr (side,o,b,g,x,()))=gI (side,o,b,g,xs,n,i,x,()))
 intro r1 r2 r3 r4 r5 r6 r7
 clear_value (hr1:r1=_) (hr2:r2=_) (hr3:r3=_) (hr4:r4=_) (hr5:r5=_) (hr6:r6=_) (hr7:r7=_)
 obtain ⟨⟨h1,h2,h3,h4⟩,h6,⟨h7,h8⟩,⟨h9,h10⟩⟩:=hi
 simp only at h1 h2 h3 h4 h6 h7 h8 h9 h10
 by_cases h:i<n
 ·have e:xs.drop i.toNat=xs.getD i.toNat (dflt (Ty.int IntKind.u8))::xs.drop (i+1).toNat:=cZ h2 (by omega) _
  have hw:r1=i+1:=by rw [hr1];exact bd (by omega) (by omega)
  have ho:IntKind.i64.wrap (o+1)=o+1:=bd (by omega) (by omega)
  have hb:IntKind.i64.wrap (b+1)=b+1:=bd (by omega) (by omega)
  generalize xs.getD i.toNat (dflt (Ty.int IntKind.u8))=v at *
  have hx :(0:Int)≤i∧i <(xs.length:Int):=by omega
  have inv :∀ o' b' g',(o'=o∨o'=o+1)→(b'=b∨b'=b+1)→sK (side,o',b',g',xs,n,i+1,x,())∧AP (side,o',b',g',xs,n,i+1,x,())<AP (side,o,b,g,xs,n,i,x,()):=fun o' b' g' ho hb=>by
   refine ⟨⟨⟨h1,by simp only;omega,by simp only;omega,h4⟩,h6,⟨?_,?_⟩,⟨?_,?_⟩⟩,?_⟩ <;> simp only [AP] <;> omega
  have er:gI (side,o,b,g,xs,n,i,x,())=wo side x (jA x.Striker x.Other (v::xs.drop (i+1).toNat) i o b g):=by rw [←e];rfl
  have er2 :∀ o' b' g',gI (side,o',b',g',xs,n,i+1,x,())=wo side x (jA x.Striker x.Other (xs.drop (i+1).toNat) (i+1) o' b' g'):=fun _ _ _=>rfl
  rw [er,hw,ho,hb]
  rw [hw] at hr6
  by_cases hv:v>3
  ·have e5:r5=true:=by rw [hr5];simpa using hv
   subst hr7
   simp [e5,h,hx,jA,hv,wo]
  ·have e5:r5=false:=by rw [hr5];simpa using hv
   have hv2 :¬(3:Int)<v:=hv
   by_cases hs:v=1
   ·have e2:r2=true:=by rw [hr2,hs];rfl
    have e4:r4=true:=by rw [hr4,hs];cases g <;> rfl
    cases h6':r6 with
    | true=>
     have h6'' :(x.Striker != i+1&&x.Other != i+1)=true:=by grind
     have hn:jA x.Striker x.Other (v::xs.drop (i+1).toNat) i o b g=none:=by
      rw [hs];unfold jA;rw [if_neg (by omega),h6''];rfl
     rw [hn]
     subst hr7
     simp [e5,e2,h,hx,h6',wo]
    | false=>
     have h6'' :(x.Striker != i+1&&x.Other != i+1)=false:=by grind
     have hn:jA x.Striker x.Other (v::xs.drop (i+1).toNat) i o b g=jA x.Striker x.Other (xs.drop (i+1).toNat) (i+1) o (b+1) true:=by
      rw [hs]
      conv=>lhs;unfold jA
      rw [if_neg (by omega),h6''];rfl
     rw [hn,←er2]
     subst hr7
     have:=inv o (b+1) true (.inl rfl) (.inr rfl)
     simp [e5,e2,e4,h,hx,h6',this]
   ·have e2:r2=false:=by rw [hr2];simpa using hs
    have e4:r4 =(g||v != 0):=by rw [hr4];cases g <;> rfl
    have hn:jA x.Striker x.Other (v::xs.drop (i+1).toNat) i o b g=jA x.Striker x.Other (xs.drop (i+1).toNat) (i+1) (if r3 then o+1 else o) b r4:=by
     conv=>lhs;unfold jA
     rw [if_neg hv,←hr2,e2,←hr3,←e4];rfl
    rw [hn,←er2]
    subst hr7
    have:=inv (if r3 then o+1 else o) b r4 (by split <;> simp) (.inl rfl)
    cases h3':r3 <;> rw [h3'] at this <;> simp at this <;> simp [e5,e2,h,hx,this]
 ·have er:gI (side,o,b,g,xs,n,i,x,()) = .inr (side,o,b,g,x,()):=by
   simp only [gI]
   rw [cq (l:=xs) (by omega)]
   rfl
  rw [er]
  simp [h]
noncomputable def NI:LoopSum:=bb lpBc gI sK
noncomputable def Nt:Nat:=rid (aG Tryz.f299 0)
theorem Oj:LoopOKp Tryz.prog 0 Tryz.f299.ntmps (aG Tryz.f299 0) (bb lpBc gI sK):=
 bJ lpBc (al (.consU eY rfl .nil) _) mixed (fun b hb S hS=>by cases hS) gI sK AP (fun |⟨side,o,b,g,xs,n,i,x,⟨⟩⟩,hi=>O4 side o b g xs n i x hi)
theorem BA (x:Innings) (side:Int) (hs:ah x) :(evPat (an [cM] Tryz.f299) (find [(Nt,NI)]) Tryz.f299 jV aF (x,side,())).sat fun z_=>z_ =(J8 (x,side,())).2:=by
 refine cast (by kernel_rfl) (?_:let r1:Bool:=isL (gI (side,(0:Int),(0:Int),false,x.11,(↑x.11.length:Int),(0:Int),x,()));let r2:Int×Int×Int×Bool×Innings×PUnit:=uP (dflt (I.prod (I.prod (I.prod (Ty.bool.prod ((Ty.nm Nm.Innings).prod Ty.unit)))))) (gI (side,(0:Int),(0:Int),false,x.11,(↑x.11.length:Int),(0:Int),x,()));let r3:Bool:=r2.2.2.2.2.1.9 !=(0:Int);let r4:Int:=bif r3 then IntKind.i64.wrap ((0:Int) +(1:Int)) else (0:Int);let r5:Bool:=r2.2.1==r2.2.2.2.2.1.5;let r6:Int:=bif r2.2.2.2.2.1.10 !=(0:Int) then IntKind.i64.wrap (r4 +(1:Int)) else r4;let r7:Bool:=bif !inW r2.2.2.2.2.1.9 (0:Int) r2.1 then true else bif !inW r2.2.2.2.2.1.10 (0:Int) r2.1 then true else bif r2.2.2.2.2.1.9==r2.2.2.2.2.1.10 then r3 else false;((fi fun x=>none)∧dJ (x.11,(↑x.11.length:Int),(0:Int),())∧x.11.length≤(1000000:Nat)∧((0:Int)≤(0:Int)∧(0:Int)≤(0:Int))∧(0:Int)≤(0:Int)∧(0:Int)≤(0:Int))∧(r1=true→nU (dflt (Ty.bool.prod Ty.unit)) (gI (side,(0:Int),(0:Int),false,x.11,(↑x.11.length:Int),(0:Int),x,())) =(nE x side,()))∧(r1=false→(r7=true→(false,()) =(nE x side,()))∧(r7=false→(bif r6==r2.2.2.1 then bif !r2.2.2.2.1 then r5 else bif decide (r6 >(0:Int)) then r5 else false else false,()) =(nE x side,()))))
 intro r1 r2 r3 r4 r5 r6 r7
 clear_value (hr1:r1=_) (hr2:r2=_) (hr3:r3=_) (hr4:r4=_) (hr5:r5=_) (hr6:r6=_) (hr7:r7=_)
 have er:gI (side,0,0,false,x.Batters,(x.Batters.length:Int),0,x,())=wo side x (jA x.Striker x.Other x.Batters 0 0 0 false):=rfl
 try rw [er] at hr1
 try rw [er] at hr2
 try rw [er]
 have hw1:IntKind.i64.wrap ((0:Int)+1)=1:=rfl
 have hw2:IntKind.i64.wrap ((1:Int)+1)=2:=rfl
 refine ⟨⟨rfl,⟨rfl,Int.le_refl _,by simp only;omega,?_⟩,hs.1,⟨Int.le_refl _,Int.le_refl _⟩,Int.le_refl _,Int.le_refl _⟩,fun h=>?_,fun h=>?_⟩
 ·have:=hs.1
  show x.Batters.length≤140737488355328
  omega
 ·cases hb:jA x.Striker x.Other x.Batters 0 0 0 false with
  | none=>simp only [nE,hb];rfl
  | some q=>rw [hb] at hr1;rw [hr1] at h;cases h
 ·cases hb:jA x.Striker x.Other x.Batters 0 0 0 false with
  | none=>rw [hb] at hr1;rw [hr1] at h;cases h
  | some q=>
   obtain ⟨o,b,g⟩:=q
   rw [hb] at hr2
   have e2:r2 =(side,o,b,g,x,()):=hr2
   subst e2
   simp only at hr3 hr5 hr6 hr7 ⊢
   have e6:r6=fD x:=by
    rw [hr6,hr4,hr3,hw1]
    unfold fD
    cases x.Striker != 0 <;> cases x.Other != 0 <;> rfl
   have e7:r7 =(!inW x.Striker 0 side||!inW x.Other 0 side||x.Striker==x.Other&&x.Striker != 0):=by
    rw [hr7,hr3]
    cases inW x.Striker 0 side <;> cases inW x.Other 0 side <;> cases x.Striker==x.Other <;> rfl
   rw [e6,hr5]
   simp only [nE,hb,Cb]
   rw [←e7]
   refine ⟨fun h7=>by rw [h7];rfl,fun h7=>?_⟩
   rw [h7]
   cases fD x==b <;> cases g <;> cases decide (fD x>0) <;> rfl
def vJ:FuncId×Ctr:=(299,af KE jV aF J8)
theorem CR:CtrOK Tryz.prog KE 299 (af KE jV aF J8):=by
 refine ar (C:=an [cM] Tryz.f299) (al (.consU eY rfl .nil) _) mixed (fn:=Tryz.f299) Tryz.func299 (by kernel_rfl) (by kernel_rfl) (by kernel_rfl) (by kernel_rfl) (by kernel_rfl) (by kernel_rfl) (Λ:=fun x=>find [(Nt,NI)]) ?_ ?_
 ·rintro ⟨x,side,⟨⟩⟩ hw hn
  exact LoopsOKp.at (by kernel_rfl) (.cons (by kernel_rfl) (Oj) .nil)
 ·rintro ⟨x,side,⟨⟩⟩ hw hn
  exact BA x side (hn _ List.mem_cons_self)
end Go.Proofs.YtffdpnmioidloaaGreatDoor
namespace Go.Proofs.YtffdpnmioidloaaGreatDoor
open Go Go.Mir
def aX (n lo hi:Int):Bool:=decide (n≥lo)&&decide (n≤hi)
def cr (r:Rules):Bool:=
 aX r.Side 2 11&&(aX r.Innings 1 2&&(aX r.Overs 0 90&&(aX r.Balls 4 8&&(aX r.Quota 0 90&&(aX r.Wide 1 5&&(aX r.NoBall 1 5&&(
 aX r.NewBall 0 200&&(aX r.FollowOn 0 1000&&(aX r.Reviews 0 9&&aX r.Outside 0 11)))))))))
def c8 (r:Rules) (i:Nat):Phase:=r.Power.getD i Phase.zero
def tz (r:Rules) (p:Phase):Bool:=decide (p.From<1) ||(decide (p.From>p.To) ||(decide (p.To>r.Overs)||!aX p.Outside 0 11))
def np (r:Rules) (i:Nat):Int:=
 if tz r (c8 r i) then 2 else if decide ((i:Int)>0)&&decide ((c8 r i).From≤(c8 r (i - 1)).To) then 8 else 0
def dY (r:Rules):Nat→Nat→Int
 | _,0=>0
 | i,n+1=>if np r i != 0 then np r i else dY r (i+1) n
def gx (r:Rules):Int:=if (r.Power.length:Int)>8 then 9 else dY r 0 r.Power.length
def rN (s:ByteArray) (i:Nat):Int:=((s.data.getD i 0).toNat:Int)
def Fc (c:Int):Bool:=decide (c≥65)&&decide (c≤90)
def Ex (i:Int) (c:Int):Bool:=!Fc c&&(i==0 ||(c != 95&&(c != 45&&(decide (c<48)||decide (c>57)))))
def lU (s:ByteArray):Bool:=(List.range s.size).all (fun i=>!Ex i (rN s i))&&(decide ((s.size:Int)≥1)&&decide ((s.size:Int)≤16))
def Mc:Ty:= .prod (.int .i64) (.prod (.int .i64) (.prod (.int .i64) .unit))
def zm:Den Mc→PRes:=fun x=>⟨[],.bool (aX x.1 x.2.1 x.2.2.1),[]⟩
def qT:Ty:= .prod (.nm .Rules) .unit
def zj:Den qT→PRes:=fun x=>⟨[],.bool (cr x.1),[]⟩
def zk:Den qT→PRes:=fun x=>⟨[],.int .i64 (gx x.1),[]⟩
def Mh:Ty:= .prod .str .unit
def zl:Den Mh→PRes:=fun x=>⟨[],.bool (lU x.1),[]⟩
def bG (x:Innings) (p:Int):Bool:=decide (p≥1)&&decide (p≤(x.Bowled.length:Int))
def za:Den jT→PRes:=fun x=>⟨[],.bool (bG x.1 x.2.1),[]⟩
def k97:FuncId×Ctr:=(205,au K8 Mc zm)
def k93:FuncId×Ctr:=(160,au K8 qT zj)
def k94:FuncId×Ctr:=(161,au K8 qT zk)
def k92:FuncId×Ctr:=(159,au K8 Mh zl)
def k84:FuncId×Ctr:=(393,au K8 jT za)
def k83:FuncId×Ctr:=(373,au K8 psI gS)
def EP (r:Rules) (i:Nat):Prop:=i≤r.Power.length∧dY r 0 r.Power.length=dY r i (r.Power.length - i)
def L94 (i:Nat):List (Lspec Nat):= [.out [true] [] [],.out [true] [] [],.next (i+1) [] [],.out [false] [] []]
def J94 (r:Rules) (i:Nat):St:=⟨[(1,.ptr 0 0),(10,.fsl (.nm .Phase) r.Power),(11,.int .i64 r.Power.length),(12,.int .i64 i)],[(0,.cells (flat fh (.nm .Rules) r))],fun _=>none,8⟩
def T94 (r:Rules):Tr:= .br (dY r 0 r.Power.length != 0) (.leaf .ret ⟨[(2,.int .i64 (dY r 0 r.Power.length))],[]⟩ 8) (.leaf (.ext 0) ⟨[],[]⟩ 8)
def Λ94 (r:Rules):Nat→Option LoopSum:=find [(4,c7 ⟨[],[],8⟩ (J94 r 0) (T94 r))]
def kx (s:ByteArray) (i:Nat):Bool:=(List.range i).all (fun k=>!Ex k (rN s k))
def ER (s:ByteArray) (i:Nat):Prop:=i≤s.size∧kx s i=true
def L95 (i:Nat):List (Lspec Nat):= [.out [false] [] [],.next (i+1) [] [],.out [true] [] []]
end Go.Proofs.YtffdpnmioidloaaGreatDoor
namespace Go.Proofs.YtffdpnmioidloaaGreatDoor
open Go Go.Mir
def wW (r:Rules):Bool:=(r.FollowOn != 0&&r.Innings==1) ||((r.Quota != 0||decide ((r.Power.length:Int)>0))&&r.Overs==0)
def xd (r:Rules):Bool:=r.Quota != 0&&decide (IntKind.i64.wrap (r.Quota*r.Side)<r.Overs)
def aC (r:Rules):Int:=if !lU r.Name then 5 else if !cr r then 2 else if wW r then 1 else if xd r then 13 else gx r
def zb:Den qT→PRes:=fun x=>⟨[],.int .i64 (aC x.1),[]⟩
def k85:FuncId×Ctr:=(90,au K8 qT zb)
def kZ:Ty:= .prod (.nm .Rules) (.prod (.nm .Innings) (.prod (.int .i64) .unit))
def jY (r:Rules) (x:Innings) (p:Int):Int:=
 if !bG x p||aC r != 0 then 0 else if r.Quota==0 then -1
 else xQ (IntKind.i64.wrap (IntKind.i64.wrap (r.Quota*r.Balls) - xQ (x.Bowled.getD (p - 1).toNat 0) 0)) 0
def y8:Den kZ→PRes:=fun x=>⟨[],.int .i64 (jY x.1 x.2.1 x.2.2.1),[]⟩
def k81:FuncId×Ctr:=(394,au K8 kZ y8)
end Go.Proofs.YtffdpnmioidloaaGreatDoor
namespace Go.Proofs.YtffdpnmioidloaaGreatDoor
open Go Go.Mir
def db (r:Rules) (x:Innings) (p:Int):Int:=
 if !bG x p||aC r != 0 then 3
 else if p==x.Keeper ||(p==x.Bowler||aU x p) then 7
 else if fK x.Before p then 8
 else if jY r x p != -1&&decide (x.InOver<IntKind.i64.wrap (r.Balls - jY r x p)) then 9 else 0
def y9:Den kZ→PRes:=fun x=>⟨[],.int .i64 (db x.1 x.2.1 x.2.2.1),[]⟩
def k82:FuncId×Ctr:=(374,au K8 kZ y9)
def bQ (r:Rules) (x:Innings) (p:Int):Innings:=if db r x p==0 then { x with Bowler:=p } else x
def yR:Den kZ→PRes:=fun x=>⟨[ah x.2.1],.tup [Di (bQ x.1 x.2.1 x.2.2.1),.int .i64 (db x.1 x.2.1 x.2.2.1)],tM (bQ x.1 x.2.1 x.2.2.1)⟩
def k50:FuncId×Ctr:=(342,au K8 kZ yR)
def Fi (r:Rules) (x:Innings):Bool:=aC r != 0 ||(r.NewBall==0||decide (x.BallAge<IntKind.i64.wrap (r.NewBall*r.Balls)))
def bu (r:Rules) (x:Innings):Innings:=if Fi r x then x else { x with BallAge:=0 }
def xV (r:Rules) (x:Innings):Int:=if Fi r x then 22 else 0
def yT:Den Bj→PRes:=fun x=>⟨[ah x.2.1],.tup [Di (bu x.1 x.2.1),.int .i64 (xV x.1 x.2.1)],tM (bu x.1 x.2.1)⟩
def k55:FuncId×Ctr:=(350,au K8 Bj yT)
def fo (x:Innings):List Int:=if fK x.Bowlers x.Bowler then x.Bowlers else x.Bowlers++[x.Bowler]
def rM (x:Innings):List Int:=x.Bowled.set (x.Bowler - 1).toNat (IntKind.i64.wrap (x.Bowled.getD (x.Bowler - 1).toNat 0+1))
def cw (x:Innings) (c:Bool):Innings:=
 if c then { x with Bowlers:=fo x,Bowled:=rM x,InOver:=IntKind.i64.wrap (x.InOver+1),BallAge:=IntKind.i64.wrap (x.BallAge+1) } else { x with Bowlers:=fo x }
def A4 (y:Innings):Innings:={ y with Complete:=IntKind.i64.wrap (y.Complete+1),InOver:=0,Before:=y.Bowlers,Bowlers:= [],Bowler:=0 }
def gM (r:Rules) (x:Innings):Bool:=!bG x x.Bowler||aC r != 0
def ao (r:Rules) (x:Innings) (c:Bool):Innings:=if gM r x then x else if (cw x c).InOver<r.Balls then cw x c else A4 (cw x c)
def ix (r:Rules) (x:Innings) (c:Bool):Bool:=if gM r x then false else if (cw x c).InOver<r.Balls then false else true
def Fv:Ty:= .prod (.nm .Rules) (.prod (.nm .Innings) (.prod .bool .unit))
def yS:Den Fv→PRes:=fun x=>⟨[ah x.2.1],.tup [Di (ao x.1 x.2.1 x.2.2.1),.bool (ix x.1 x.2.1 x.2.2.1)],tM (ao x.1 x.2.1 x.2.2.1)⟩
def k51:FuncId×Ctr:=(377,au K8 Fv yS)
end Go.Proofs.YtffdpnmioidloaaGreatDoor
namespace Go.Proofs.YtffdpnmioidloaaGreatDoor
open Go Go.Mir
def J92 (s:ByteArray) (i:Nat):St:=⟨[(0,.str s),(7,.osl 16 16),(8,.int .i64 (aR s).length),(9,.int .i64 i)],[(16,.row 16 true (.int .u8) (aR s))],fun _=>none,40⟩
def T92 (s:ByteArray):Tr:= .br (kx s s.size) (.leaf (.ext 0) ⟨[(0,.str s)],[]⟩ 40) (.leaf .ret ⟨[(2,.kb false)],[]⟩ 40)
def Λ92 (s:ByteArray):Nat→Option LoopSum:=find [(2,c7 ⟨[],[],40⟩ (J92 s 0) (T92 s))]
end Go.Proofs.YtffdpnmioidloaaGreatDoor
