/- Texts of the mirror and contracts, put together. -/
import Derived.Test.YtffdpnmioidloaaGreatDoorPY3
namespace Go.Proofs.YtffdpnmioidloaaGreatDoor
open Go Go.Mir
abbrev KK:Nat:=4
def cfg (l:rm) (n:Nat):Cfg:=⟨tbl,find l,KK,n⟩
def kZ (l:rm) (fn:Func):Cfg:=cfg l fn.ntmps
theorem mixed:Tryz.prog.follows .mixedOrders=true:=by kernel_rfl
theorem kQ {l:rm} (h:CtrsOK Tryz.prog KK l) (n:Nat):CfgOK Tryz.prog (cfg l n):=⟨D6,by show 1≤KK;decide,h⟩
theorem dH {n:Int} (h1:-9223372036854775808≤n) (h2:n≤9223372036854775807):IntKind.i64.wrap n=n:=by
 simp only [IntKind.wrap,IntKind.bits,IntKind.signed]
 simp
 omega
def idx:List Int→Int→Int→Int
 | [],_,_=> -1
 | x::xs,v,i=>bif v==x then i else idx xs v (i+1)
theorem sw :∀ (xs:List Int) (v i:Int),v∉xs→idx xs v i = -1
 | [],_,_,_=>rfl
 | x::xs,v,i,h=>by
  simp only [List.mem_cons,not_or] at h
  have :(v==x)=false:=by simpa using h.1
  simp only [idx,this,cond_false]
  exact sw xs v (i+1) h.2
theorem Cm :∀ (xs:List Int) (v i:Int) (k:Nat),xs[k]?=some v→v∉xs.take k→idx xs v i=i+k
 | [],_,_,_,h,_=>by simp at h
 | x::xs,v,i,0,h,_=>by
  simp only [List.getElem?_cons_zero,Option.some.injEq] at h
  subst h
  simp [idx]
 | x::xs,v,i,k+1,h,hn=>by
  simp only [List.getElem?_cons_succ] at h
  simp only [List.take_succ_cons,List.mem_cons,not_or] at hn
  have :(v==x)=false:=by simpa using hn.1
  simp only [idx,this,cond_false]
  rw [Cm xs v (i+1) k h hn.2]
  omega
def J63 (xs:List Int) (v:Int) (i:Nat):St:=⟨[(0,.fsl (.int .u8) xs),(1,.int .u8 v),(7,.int .i64 xs.length),(8,.int .i64 i)],[],fun _=>none,0⟩
def T63 (xs:List Int) (v:Int):Tr:= .br (xs.contains v) (.leaf .ret ⟨[(4,.int .i64 (idx xs v 0))],[]⟩ 0) (.leaf (.ext 0) ⟨[],[]⟩ 0)
def Gp:Ty:= .prod (.slice (.int .u8)) (.prod (.int .u8) .unit)
def Λ63 (x:Den Gp):Nat→Option LoopSum:=find [(2,cY ⟨[],[],0⟩ (J63 x.1 x.2.1 0) (T63 x.1 x.2.1))]
def yK:Den Gp→PRes:=fun x=>⟨[],.int .i64 (idx x.1 x.2.1 0),[]⟩
def Ew (xs:List Int) (v:Int) (i:Nat):Prop:=i≤xs.length∧v∉xs.take i
def L63 (i:Nat):List (Lspec Nat):= [.out [true] [] [],.next (i+1) [] [],.out [false] [] []]
theorem On (xs:List Int) (v:Int) (hx:xs.length≤aP) (i:Nat) (hi:Ew xs v i) :
  (stepObl (J63 xs v) (Ew xs v) (fun i=>xs.length - i) i (T63 xs v) (bs (cfg [] 19) (fun _=>none) (aH Tryz.f250 0) (J63 xs v i)) (L63 i)).1:=by
 have h :((decide ((i:Int) <(xs.length:Int))=true→
  (0≤(i:Int)∧(i:Int) <(xs.length:Int))∧
   ((v ==(xs.getD (i:Int).toNat 0))=true→xs.contains v=true∧((i:Int)=idx xs v 0∧True)∧True)∧
    ((v ==(xs.getD (i:Int).toNat 0))=false→
     Ew xs v (i+1)∧
      xs.length - (i+1)<xs.length - i∧
       (RowD.mk (.int .u8) xs=RowD.mk (.int .u8) xs∧
         v=v∧(xs.length:Int) =(xs.length:Int)∧IntKind.i64.wrap ((i:Int)+1) =((i+1:Nat):Int)∧True)∧
        True))∧
  (decide ((i:Int) <(xs.length:Int))=false→xs.contains v=false∧True∧True)):=by
  have e :(i:Int).toNat=i:=by simp
  rw [e]
  refine ⟨fun h1=>?_,fun h1=>?_⟩
  ·have h1:i<xs.length:=by simpa using h1
   refine ⟨⟨by omega,by omega⟩,fun h2=>?_,fun h2=>?_⟩
   ·have h2:v=xs.getD i 0:=by simpa using h2
    have h3:xs[i]?=some v:=by rw [h2,List.getD_eq_getElem?_getD,List.getElem?_eq_getElem h1];rfl
    refine ⟨by simpa using List.mem_of_getElem? h3,⟨?_,trivial⟩,trivial⟩
    rw [Cm xs v 0 i h3 hi.2];omega
   ·have h2 :¬ v=xs.getD i 0:=by simpa using h2
    have h3:xs.getD i 0=xs[i]:=by rw [List.getD_eq_getElem?_getD,List.getElem?_eq_getElem h1];rfl
    refine ⟨⟨by omega,?_⟩,by omega,⟨rfl,rfl,rfl,?_,trivial⟩,trivial⟩
    ·rw [List.take_succ_eq_append_getElem h1,List.mem_append,List.mem_singleton,not_or]
     exact ⟨hi.2,by rw [←h3];exact h2⟩
    ·have:xs.length≤140737488355328:=hx
     rw [dH (by omega) (by omega)];omega
  ·have h1 :¬ i<xs.length:=by simpa using h1
   refine ⟨?_,trivial,trivial⟩
   have:=hi.2
   rw [List.take_of_length_le (by omega)] at this
   simpa using this
 exact cast (by kernel_rfl) h
theorem FL {S:Nat→Prop} {w:World} {t:Ty} {xs:List (Den t)} {cs:List Value} (h:Rd S w (.slice t) xs cs):xs.length≤aP:=by
 cases h with
 | nil=>exact Nat.zero_le _
 | slice _ _ _ _ h _=>exact h
theorem dT {t:Ty} {xs:List (Den t)} (h:wfD (.slice t) xs):xs.length≤aP:=by
 obtain ⟨S,w,cs,h⟩:=h
 exact FL h
theorem bf {a b:Ty} {x:Den a} {y:Den b} (h:wfD (.prod a b) (x,y)):wfD a x:=by
 obtain ⟨S,w,cs,h⟩:=h
 cases h with|prod h _=>exact ⟨_,_,_,h⟩
theorem aG {a b:Ty} {x:Den a} {y:Den b} (h:wfD (.prod a b) (x,y)):wfD b y:=by
 obtain ⟨S,w,cs,h⟩:=h
 cases h with|prod _ h=>exact ⟨_,_,_,h⟩
theorem KY (xs:List Int) (v:Int) (hx:xs.length≤aP):LoopsOK Tryz.prog 19 [aH Tryz.f250 0] (Λ63 (xs,v,())):=by
 refine .cons (L:=cY ⟨[],[],0⟩ (J63 xs v 0) (T63 xs v)) (by kernel_rfl) ?_ .nil
 exact ky (kQ CtrsOK.nil 19) mixed (J63 xs v) (fun _=>rfl) (Ew xs v) (fun i=>xs.length - i) (fun _ _=>none) (fun _ _ _ _ _ h=>by cases h) (T63 xs v) [] [] 0 ⟨Nat.zero_le _,by simp⟩ L63 (fun i hi=>On xs v hx i hi)
theorem PT (xs:List Int) (v:Int) :(evFn (cfg [] 19) (Λ63 (xs,v,())) Tryz.f250 (bo Gp (xs,v,()))).sat fun v' rows=>leV v' (yK (xs,v,())).v∧rows =(yK (xs,v,())).rows:=by
 have h :((fW fun _=>none)∧
   (RowD.mk (.int .u8) xs=RowD.mk (.int .u8) xs∧v=v∧(xs.length:Int) =(xs.length:Int)∧(0:Int) =((0:Nat):Int)∧True)∧True)∧
  (xs.contains v=true→idx xs v 0=idx xs v 0∧([]:List RowD)=[])∧(xs.contains v=false→ -1=idx xs v 0∧([]:List RowD)=[]):=by
  refine ⟨⟨rfl,⟨rfl,rfl,rfl,rfl,trivial⟩,trivial⟩,fun _=>⟨rfl,rfl⟩,fun h=>⟨?_,rfl⟩⟩
  rw [sw]
  simpa using h
 exact cast (by kernel_rfl) h
theorem QA:CtrOK Tryz.prog KK 250 (ar KK Gp yK):=by
 refine ba (C:=cfg [] 19) (kQ CtrsOK.nil 19) mixed (fn:=Tryz.f250) Tryz.func250 (by kernel_rfl) (by kernel_rfl) (by kernel_rfl) (Λ:=Λ63) ?_ ?_ ?_
 ·rintro ⟨xs,v,⟨⟩⟩ hw _
  exact LoopsOK.at (by kernel_rfl) (KY xs v (dT (bf hw)))
 ·rintro ⟨xs,v,⟨⟩⟩
  exact (by decide:2≤19)
 ·rintro ⟨xs,v,⟨⟩⟩ _ _
  exact PT xs v
end Go.Proofs.YtffdpnmioidloaaGreatDoor
namespace Go.Mir
open Go.RowKit
variable {P:Program}
theorem CtrOK.mono {K K':Nat} {f:FuncId} {c:Ctr} (h:CtrOK P K f c) (hK:K≤K'):CtrOK P K' f c:=⟨h.fn,fun B E hE args av hav m hm ps v dh hc hp=>
 (h.calls B E hE args av hav m (fun n h1 h2=>hm n h1 (by omega)) ps v dh hc hp).mono fun _ _ ⟨E',v',h1,G,h2⟩=>
  ⟨E',v',h1,⟨G.rel,G.ext,G.w,G.h,fun n hn=>(G.u n hn).imp id fun h=>⟨h.1,by have:=h.2;omega⟩⟩,h2⟩⟩
theorem CtrsOK.consU {K' K:Nat} {f:FuncId} {c:Ctr} {l:rm} (h:CtrOK P K' f c) (hle:Nat.ble K' K=true) (hl:CtrsOK P K l):CtrsOK P K ((f,c)::l):= .cons (h.mono (Nat.le_of_ble_eq_true hle)) hl
def LoopsOKp (P:Program) (p N:Nat) (l:List Code) (Λ:Nat→Option LoopSum):Prop:=∀ b∈l,∀ L,Λ (rid b)=some L→LoopOKp P p N b L
theorem LoopsOKp.nil {p N:Nat} {Λ:Nat→Option LoopSum}:LoopsOKp P p N [] Λ:=fun b hb=>by simp at hb
theorem LoopsOKp.cons {p N:Nat} {b:Code} {l:List Code} {Λ:Nat→Option LoopSum} {L:LoopSum} (h0:Λ (rid b)=some L) (h1:LoopOKp P p N b L) (h2:LoopsOKp P p N l Λ):LoopsOKp P p N (b::l) Λ:=fun b' hb L' hL=>by
 rcases List.mem_cons.1 hb with rfl|hb
 ·rw [h0] at hL;cases hL;exact h1
 ·exact h2 b' hb L' hL
theorem LoopsOKp.at {p N:Nat} {fn:Func} {l:List Code} {Λ:Nat→Option LoopSum} (he:aM Λ (nA fn)=l) (h:LoopsOKp P p N l Λ) :∀ c,fn.body=some c→∀ b∈aM Λ c,∀ L,Λ (rid b)=some L→LoopOKp P p N b L:=fun c hc=>by
 have:nA fn=c:=by unfold nA;rw [hc]
 rw [←this,he]
 exact h
theorem Hp {K:Nat} {f:FuncId} {fn:Func} (hf:P.funcs[f]?=some fn) (hbody:fn.body.isSome=true) (hname :(fn.name == "runtime.NumGoroutine")=false) {ps:Ty} {spec:Den ps→PRes} (hfl :∀ x,(spec x).rows=[]∧(spec x).v.noF=true)
  (h :∀ (x:Den ps) (av:List Value) (w:World) (E:Env),wfD ps x→(∀ p∈(spec x).needs,p)→ae E (bo ps x) av→Calls P f av.toArray w fun e w'=>∃ v',e = .returned v'∧w'=w∧∀ E':Env,aa E' ((spec x).v.shift 0) v') (hsh :∀ x m,(spec x).v.shift m =(spec x).v.shift 0):CtrOK P K f (ar K ps spec):=by
 refine ⟨⟨fn,hf,hbody,hname⟩,fun B E hE args av hav m hm ps' v dh hct hps=>?_⟩
 unfold ar at hct
 simp only at hct
 split at hct
 case h_2=>cases hct
 rename_i x hx
 obtain ⟨hr,hn⟩:=hfl x
 have hflat :(spec x).flat=true:=by unfold PRes.flat;rw [hn,hr];rfl
 rw [hr,hflat] at hct
 simp only [List.length_nil,iW,cond_true,List.append_nil] at hct
 cases hle:Nat.ble 0 K with
 | false=>rw [hle] at hct;cases hct
 | true=>
  rw [hle] at hct
  simp only [cond_true,Option.some.injEq,Prod.mk.injEq] at hct
  obtain ⟨rfl,rfl,rfl⟩:=hct
  obtain ⟨hSE,XS⟩:=cQ hE (hss args)
  obtain ⟨hav0,cs,hrd⟩:=fy hSE (Ec:=cc E (hss args)) rfl rfl (bc XS _ _ hav) hx
  refine (h x av E.w _ ⟨_,_,_,hrd⟩ hps hav0).mono fun e w' ⟨v',h1,h2,h3⟩=>?_
  subst h2
  refine ⟨E,v',h1,⟨hE,Ext.refl E,rfl,by funext z;simp [aJ,find],fun n hn=> .inl hn⟩,?_⟩
  rw [hsh x m]
  exact h3 E
def bZ (ts:List Ty):Pat:=⟨eU 0 (ts.map .h),[],0⟩
end Go.Mir
namespace Go.Proofs.YtffdpnmioidloaaGreatDoor
open Go Go.Mir
abbrev KE:Nat:=64
def ao (l:rm) (fn:Func):Cfg:=⟨tbl,find l,KE,fn.ntmps⟩
theorem al {l:rm} (h:CtrsOK Tryz.prog KE l) (fn:Func):CfgOK Tryz.prog (ao l fn):=⟨D6,by show 1≤KE;decide,h⟩
end Go.Proofs.YtffdpnmioidloaaGreatDoor
namespace Go.Proofs.YtffdpnmioidloaaGreatDoor
open Go Go.Mir
attribute [local irreducible] Go.Mir.DT.sat Go.Mir.evPat
abbrev I:Ty:= .int .i64
abbrev U8:Ty:= .int .u8
abbrev qD:Pat:=bZ [.nm .Delivery]
abbrev bA:Pat:=bZ [I]
abbrev aF:Pat:=bZ [.bool]
def BK (d:Delivery):Bool:=
 if d.Typ==2 then d.Source==0&&d.Boundary != 6 else if d.Source==0 then d.Runs==0&&d.Boundary==0 else if d.Source==1 then d.Boundary != 6||d.Runs==0 else d.Boundary != 6&&(decide (d.Runs>0)||d.Boundary != 0)
def Qi (d:Delivery):Bool:=
 if d.Typ==2 then d.Source==0&&d.Boundary != 6 else if d.Source==0 then d.Runs==0&&d.Boundary==0 else if d.Boundary==0 then decide (d.Runs>0) else if d.Boundary==6 then d.Source==1&&d.Runs==0 else true
def inW (n lo hi:Int):Bool:=decide (n≥lo)&&decide (n≤hi)
def bJ (d:Delivery):Int:=
 if decide (d.Typ<1) ||(decide (d.Typ>3) ||(decide (d.Source>3) ||(decide (d.How>10)||!inW d.Sector 0 8))) then 11
 else if !inW d.Runs 0 7 ||(!inW d.Short 0 d.Runs ||(d.Boundary != 0&&(d.Boundary != 4&&d.Boundary != 6))) then 12
 else if !Qi d then 11
 else if d.Sector != 0&&(d.Source != 1&&d.How != 2) then 11
 else if d.Boundary != 0&&d.How != 0 then 11
 else if d.Crossed&&(d.How != 6&&d.How != 8) then 11 else 0
def rF (h:Int):Bool:=decide (h≥1)&&decide (h≤5)
def jw (d:Delivery):Bool:=(d.Runs.tmod 2 != 0) != d.Crossed
def J2:Den (tyP qD)→List Prop×Den (tyP aF):=fun x=>([],(BK x.1,()))
abbrev q3:Pat:=bZ [I,I,I]
def sIn:Den (tyP q3)→List Prop×Den (tyP aF):=fun x=>([],(inW x.1 x.2.1 x.2.2.1,()))
def DD:Den (tyP qD)→List Prop×Den (tyP bA):=fun x=>([],(bJ x.1,()))
abbrev qH:Pat:=bZ [U8]
def JM:Den (tyP qH)→List Prop×Den (tyP aF):=fun x=>([],(rF x.1,()))
abbrev W (n:Int):Int:=IntKind.i64.wrap n
def nk (d:Delivery):Int:=W (W (d.Runs - d.Short)+d.Boundary)
def du (d:Delivery):Int:=if d.Typ != 2&&d.Source==1 then nk d else 0
def fa (r:Rules) (d:Delivery):Int:=if d.Typ==2 then W (r.Wide+nk d) else 0
def noW (r:Rules) (d:Delivery):Int:=if d.Typ==3 then r.NoBall else 0
def m2 (d:Delivery):Int:=if d.Typ != 2&&d.Source==2 then nk d else 0
def gB (d:Delivery):Int:=if d.Typ != 2&&d.Source==3 then nk d else 0
def aB (r:Rules) (d:Delivery):Credit:=
 if bJ d==0 then ⟨du d,fa r d,noW r d,m2 d,gB d,W (W (du d+fa r d)+noW r d),d.Typ==1,d.Typ != 2,rF d.How,jw d⟩ else Credit.zero
abbrev qRD:Pat:=bZ [.nm .Rules,.nm .Delivery]
abbrev qC:Pat:=bZ [.nm .Credit]
def yd:Den (tyP qRD)→List Prop×Den (tyP qC):=fun x=>([],(aB x.1 x.2.1,()))
def bX (c:Credit):Int:=W (W (W (W (c.Batter+c.Wides)+c.NoBalls)+c.Byes)+c.LegByes)
def DS:Den (tyP qC)→List Prop×Den (tyP bA):=fun x=>([],(bX x.1,()))
theorem Mh (d:Delivery) :(evPat (ao [] Tryz.f162) (fun _=>none) Tryz.f162 qD aF (d,())).sat fun z_=>z_ =(J2 (d,())).2:=by
 refine cast (by kernel_rfl) (?_ :((d.1 ==(2:Int))=true→(bif d.2 ==(0:Int) then d.5 !=(6:Int) else false,()) =(BK d,()))∧((d.1 ==(2:Int))=false→((d.2 ==(0:Int))=true→(bif d.3 ==(0:Int) then d.5 ==(0:Int) else false,()) =(BK d,()))∧((d.2 ==(0:Int))=false→((d.2 ==(1:Int))=true→(bif d.5 !=(6:Int) then true else d.3 ==(0:Int),()) =(BK d,()))∧((d.2 ==(1:Int))=false→(bif d.5 !=(6:Int) then bif decide (d.3 >(0:Int)) then true else d.5 !=(0:Int) else false,()) =(BK d,())))))
 grind [BK]
def MK:FuncId×Ctr:=(162,af KE qD aF J2)
theorem N3:CtrOK Tryz.prog KE 162 (af KE qD aF J2):=by
 refine aw (C:=ao [] Tryz.f162) (al (CtrsOK.nil) _) mixed (fn:=Tryz.f162) Tryz.func162 (by kernel_rfl) (by kernel_rfl) (by kernel_rfl) (by kernel_rfl) (by kernel_rfl) (by kernel_rfl) (Λ:=fun _ _=>none) ?_ ?_
 ·exact fun _ _ _ _ _ _ _ _ h=>by cases h
 ·rintro ⟨d,⟨⟩⟩ hw hn
  exact Mh d
theorem Jx (h:Int) :(evPat (ao [] Tryz.f163) (fun _=>none) Tryz.f163 qH aF (h,())).sat fun z_=>z_ =(JM (h,())).2:=by
 refine cast (by kernel_rfl) (?_ :(bif decide (h≥(1:Int)) then decide (h≤(5:Int)) else false,()) =(rF h,()))
 grind [rF]
def HZ:FuncId×Ctr:=(163,af KE qH aF JM)
theorem Lm:CtrOK Tryz.prog KE 163 (af KE qH aF JM):=by
 refine aw (C:=ao [] Tryz.f163) (al (CtrsOK.nil) _) mixed (fn:=Tryz.f163) Tryz.func163 (by kernel_rfl) (by kernel_rfl) (by kernel_rfl) (by kernel_rfl) (by kernel_rfl) (by kernel_rfl) (Λ:=fun _ _=>none) ?_ ?_
 ·exact fun _ _ _ _ _ _ _ _ h=>by cases h
 ·rintro ⟨h,⟨⟩⟩ hw hn
  exact Jx h
theorem Gx (d:Delivery) :(evPat (ao [MK] Tryz.f93) (fun _=>none) Tryz.f93 qD bA (d,())).sat fun z_=>z_ =(DD (d,())).2:=by
 refine cast (by kernel_rfl) (?_:let r1:Bool:=bif d.5 !=(0:Int) then d.7 !=(0:Int) else false;let r2:Bool:=bif d.6 then bif d.7 !=(6:Int) then d.7 !=(8:Int) else false else false;let r3:Bool:=bif d.12 !=(0:Int) then bif d.2 !=(1:Int) then d.7 !=(2:Int) else false else false;let r4:Bool:=bif !BK d then true else bif d.1 !=(2:Int) then bif d.2 ==(1:Int) then bif d.3 ==(0:Int) then d.5 ==(0:Int) else false else false else false;let r5:Bool:=bif decide (d.3 <(0:Int)) then true else bif decide (d.3 >(7:Int)) then true else bif decide (d.4 <(0:Int)) then true else bif decide (d.4>d.3) then true else bif d.5 !=(0:Int) then bif d.5 !=(4:Int) then d.5 !=(6:Int) else false else false;let r6:Bool:=bif decide (d.1 <(1:Int)) then true else bif decide (d.1 >(3:Int)) then true else bif decide (d.2 >(3:Int)) then true else bif decide (d.7 >(10:Int)) then true else bif decide (d.12 <(0:Int)) then true else decide (d.12 >(8:Int));(r6=true→((11:Int),()) =(bJ d,()))∧(r6=false→(r5=true→((12:Int),()) =(bJ d,()))∧(r5=false→(r4=true→((11:Int),()) =(bJ d,()))∧(r4=false→(r3=true→((11:Int),()) =(bJ d,()))∧(r3=false→(r1=true→((11:Int),()) =(bJ d,()))∧(r1=false→(r2=true→((11:Int),()) =(bJ d,()))∧(r2=false→((0:Int),()) =(bJ d,()))))))))
 intro r1 r2 r3 r4 r5 r6
 clear_value (hr1:r1=_) (hr2:r2=_) (hr3:r3=_) (hr4:r4=_) (hr5:r5=_) (hr6:r6=_)
 repeat' (first|refine And.intro ?_ ?_|intro h)
 all_goals grind (splits:=40) [bJ,BK,Qi,inW]
def gZ:FuncId×Ctr:=(93,af KE qD bA DD)
theorem lV:CtrOK Tryz.prog KE 93 (af KE qD bA DD):=by
 refine aw (C:=ao [MK] Tryz.f93) (al (.consU N3 rfl .nil) _) mixed (fn:=Tryz.f93) Tryz.func93 (by kernel_rfl) (by kernel_rfl) (by kernel_rfl) (by kernel_rfl) (by kernel_rfl) (by kernel_rfl) (Λ:=fun _ _=>none) ?_ ?_
 ·exact fun _ _ _ _ _ _ _ _ h=>by cases h
 ·rintro ⟨d,⟨⟩⟩ hw hn
  exact Gx d
theorem Kg {d:Delivery} (h:bJ d=0) :((bif d.Crossed then W (d.Runs+1) else d.Runs).tmod 2==1)=jw d:=by
 have hr:0≤d.Runs∧d.Runs≤7:=by grind [bJ,inW]
 have hw:W (d.Runs+1)=d.Runs+1:=dH (by omega) (by omega)
 unfold jw
 rw [hw,Int.tmod_eq_emod_of_nonneg hr.1]
 cases d.Crossed
 ·rw [cond_false,Int.tmod_eq_emod_of_nonneg hr.1]
  grind
 ·rw [cond_true,Int.tmod_eq_emod_of_nonneg (by omega)]
  grind
theorem Dc (r:Rules) (d:Delivery) :(evPat (ao [gZ,HZ] Tryz.f95) (fun _=>none) Tryz.f95 qRD qC (r,d,())).sat fun z_=>z_ =(yd (r,d,())).2:=by
 refine cast (by kernel_rfl) (?_:let r1:Int:=IntKind.i64.wrap (IntKind.i64.wrap (d.3 - d.4)+d.5);let r2:Int:=bif d.1 ==(3:Int) then (0:Int) else (0:Int);let r3:Bool:=bif d.1 ==(2:Int) then rF d.7 else bif d.1 ==(3:Int) then rF d.7 else rF d.7;let r4:Bool:=(bif d.6 then IntKind.i64.wrap (d.3 +(1:Int)) else d.3).tmod (2:Int) ==(1:Int);let r5:Int:=bif d.1 ==(2:Int) then (0:Int) else bif d.1 ==(3:Int) then r.8 else (0:Int);let r6:Int:=bif d.1 ==(2:Int) then (0:Int) else r2;let r7:Bool:=bif d.1 ==(2:Int) then d.1 ==(1:Int) else bif d.1 ==(3:Int) then d.1 ==(1:Int) else d.1 ==(1:Int);let r8:Bool:=bif d.1 ==(2:Int) then d.1 !=(2:Int) else bif d.1 ==(3:Int) then d.1 !=(2:Int) else d.1 !=(2:Int);let r9:Int:=bif d.1 ==(2:Int) then IntKind.i64.wrap (r.7+r1) else r2;let r10:Int:=bif d.2 ==(3:Int) then r6 else r6;let r11:Bool:=bif d.1 ==(2:Int) then r4 else bif d.1 ==(3:Int) then r4 else r4;let r12:Int:=bif d.1 !=(2:Int) then bif d.2 ==(1:Int) then r1 else bif d.2 ==(2:Int) then r6 else r10 else r6;let r13:Int:=bif d.1 !=(2:Int) then bif d.2 ==(1:Int) then r5 else bif d.2 ==(2:Int) then r5 else bif d.2 ==(3:Int) then r5 else r5 else r5;let r14:Int:=bif d.1 !=(2:Int) then bif d.2 ==(1:Int) then r9 else bif d.2 ==(2:Int) then r9 else bif d.2 ==(3:Int) then r9 else r9 else r9;((bJ d !=(0:Int))=true→(Credit.mk (0:Int) (0:Int) (0:Int) (0:Int) (0:Int) (0:Int) false false false false,()) =(aB r d,()))∧((bJ d !=(0:Int))=false→(2:Int)≠(0:Int)∧(Credit.mk r12 r14 r13 (bif d.1 !=(2:Int) then bif d.2 ==(1:Int) then r6 else bif d.2 ==(2:Int) then r1 else r10 else r6) (bif d.1 !=(2:Int) then bif d.2 ==(1:Int) then r6 else bif d.2 ==(2:Int) then r6 else bif d.2 ==(3:Int) then r1 else r6 else r6) (IntKind.i64.wrap (IntKind.i64.wrap (r12+r14)+r13)) (bif d.1 !=(2:Int) then bif d.2 ==(1:Int) then r7 else bif d.2 ==(2:Int) then r7 else bif d.2 ==(3:Int) then r7 else r7 else r7) (bif d.1 !=(2:Int) then bif d.2 ==(1:Int) then r8 else bif d.2 ==(2:Int) then r8 else bif d.2 ==(3:Int) then r8 else r8 else r8) (bif d.1 !=(2:Int) then bif d.2 ==(1:Int) then r3 else bif d.2 ==(2:Int) then r3 else bif d.2 ==(3:Int) then r3 else r3 else r3) (bif d.1 !=(2:Int) then bif d.2 ==(1:Int) then r11 else bif d.2 ==(2:Int) then r11 else bif d.2 ==(3:Int) then r11 else r11 else r11),()) =(aB r d,())))
 intro r1 r2 r3 r4 r5 r6 r7 r8 r9 r10 r11 r12 r13 r14
 clear_value (hr1:r1=_) (hr2:r2=_) (hr3:r3=_) (hr4:r4=_) (hr5:r5=_) (hr6:r6=_) (hr7:r7=_) (hr8:r8=_) (hr9:r9=_) (hr10:r10=_) (hr11:r11=_) (hr12:r12=_) (hr13:r13=_) (hr14:r14=_)
 refine ⟨fun h=>?_,fun h=>⟨by decide,?_⟩⟩
 ·grind [aB,Credit.zero]
 ·have h:bJ d=0:=by simpa using h
  have e:=Kg h
  simp only [W] at e
  simp only [aB,h,du,fa,noW,m2,gB,nk,W,←e]
  grind
def iH:FuncId×Ctr:=(95,af KE qRD qC yd)
theorem mN:CtrOK Tryz.prog KE 95 (af KE qRD qC yd):=by
 refine aw (C:=ao [gZ,HZ] Tryz.f95) (al (.consU lV rfl (.consU Lm rfl .nil)) _) mixed (fn:=Tryz.f95) Tryz.func95 (by kernel_rfl) (by kernel_rfl) (by kernel_rfl) (by kernel_rfl) (by kernel_rfl) (by kernel_rfl) (Λ:=fun _ _=>none) ?_ ?_
 ·exact fun _ _ _ _ _ _ _ _ h=>by cases h
 ·rintro ⟨r,d,⟨⟩⟩ hw hn
  exact Dc r d
theorem Gy (c:Credit) :(evPat (ao [] Tryz.f96) (fun _=>none) Tryz.f96 qC bA (c,())).sat fun z_=>z_ =(DS (c,())).2:=by
 refine cast (by kernel_rfl) (?_ :(IntKind.i64.wrap (IntKind.i64.wrap (IntKind.i64.wrap (IntKind.i64.wrap (c.1+c.2)+c.3)+c.4)+c.5),()) =(bX c,()))
 rfl
def oA:FuncId×Ctr:=(96,af KE qC bA DS)
theorem sW:CtrOK Tryz.prog KE 96 (af KE qC bA DS):=by
 refine aw (C:=ao [] Tryz.f96) (al (CtrsOK.nil) _) mixed (fn:=Tryz.f96) Tryz.func96 (by kernel_rfl) (by kernel_rfl) (by kernel_rfl) (by kernel_rfl) (by kernel_rfl) (by kernel_rfl) (Λ:=fun _ _=>none) ?_ ?_
 ·exact fun _ _ _ _ _ _ _ _ h=>by cases h
 ·rintro ⟨c,⟨⟩⟩ hw hn
  exact Gy c
end Go.Proofs.YtffdpnmioidloaaGreatDoor
namespace Go.Proofs.YtffdpnmioidloaaGreatDoor
open Go Go.Mir
attribute [local irreducible] Go.Mir.DT.sat Go.Mir.evPat
def cF (p:Int→Bool):List Int→Int→Option Int
 | [],_=>none
 | x::r,i=>if p x then some i else cF p r (i+1)
def cX (s:Int):Bool:=s != 0
def HO:Option Int→Sum (Int×Unit) Unit
 | some k=> .inl (k,())
 | none=> .inr ()
def oR (o:Option Int):Int:=o.getD (-1)
def ln (l:List Int):Bool:=l.any cX
abbrev U8s:Ty:= .slice U8
abbrev qU1:Pat:=bZ [U8]
def pR:Den (tyP qU1)→List Prop×Den (tyP aF):=fun x=>([],(cX x.1,()))
abbrev qLI (f:Nat):Pat:=⟨[(0,.h U8s),(1,.c (.fn f [])),(7,.h I),(8,.h I)],[],0⟩
abbrev xLI:List (Lf×Pat):= [(.ret,⟨[(4,.h I)],[],0⟩),(.ext 0,⟨[],[],0⟩)]
def dJ (x:List Int×Int×Int×Unit):Prop:=x.2.1=x.1.length∧0≤x.2.2.1∧x.2.2.1≤x.2.1∧x.1.length≤aP
def lf (x:List Int×Int×Int×Unit):Nat:=(x.2.1 - x.2.2.1).toNat
def dp (x:List Int×Int×Int×Unit):Sum (Int×Unit) Unit:=HO (cF cX (x.1.drop x.2.2.1.toNat) x.2.2.1)
abbrev qF (f:Nat):Pat:=⟨[(0,.h U8s),(1,.c (.fn f []))],[],0⟩
def sIF (f:Nat):Den (tyP (qF f))→List Prop×Den (tyP bA):=fun x=>([],(oR (cF cX x.1 0),()))
def sCF (f:Nat):Den (tyP (qF f))→List Prop×Den (tyP aF):=fun x=>([],(ln x.1,()))
abbrev qIn:Pat:=bZ [.nm .Innings]
def eM (x:Innings):Bool:=ln x.Batters
def pP:Den (tyP qIn)→List Prop×Den (tyP aF):=fun x=>([],(eM x.1,()))
theorem kp {p:Int→Bool} :∀ {l:List Int} {i:Int},(cF p l i).isSome=l.any p
 | [],_=>rfl
 | x::r,i=>by
  simp only [cF,List.any_cons]
  cases hp:p x with
  | true=>simp
  | false=>simpa using kp
theorem oo {p:Int→Bool} :∀ {l:List Int} {i k:Int},cF p l i=some k→i≤k
 | [],_,_,h=>by simp [cF] at h
 | x::r,i,k,h=>by
  simp only [cF] at h
  split at h
  ·cases h;exact Int.le_refl _
  ·have:=oo h;omega
theorem dI {α:Type} {l:List α} {i:Int} (h0:0≤i) (h:i<l.length) (d:α):l.drop i.toNat=l.getD i.toNat d::l.drop (i+1).toNat:=by
 have h1:i.toNat<l.length:=by omega
 rw [List.drop_eq_getElem_cons h1,show (i+1).toNat=i.toNat+1 by omega,List.getD_eq_getElem?_getD,List.getElem?_eq_getElem h1]
 rfl
theorem Mv {α:Type} {l:List α} {i:Int} (h0:0≤i) (h:i<l.length) (d:α):l.take (i+1).toNat=l.take i.toNat++[l.getD i.toNat d]:=by
 have h1:i.toNat<l.length:=by omega
 have:l.getD i.toNat d=l[i.toNat]:=by rw [List.getD_eq_getElem?_getD,List.getElem?_eq_getElem h1];rfl
 rw [this,show (i+1).toNat=i.toNat+1 by omega,List.take_succ_eq_append_getElem h1]
theorem cM {α:Type} {l:List α} {i:Int} (h :(l.length:Int)≤i):l.drop i.toNat=[]:=List.drop_of_length_le (by omega)
theorem bb {n:Int} (h1:-9223372036854775808≤n) (h2:n≤9223372036854775807):IntKind.i64.wrap n=n:=dH h1 h2
theorem C8 (s:Int) :(evPat (ao [] Tryz.f392) (fun _=>none) Tryz.f392 qU1 aF (s,())).sat fun z_=>z_ =(pR (s,())).2:=by
 refine cast (by kernel_rfl) (?_ :(s !=(0:Int),()) =(cX s,()))
 rfl
def sC:FuncId×Ctr:=(392,af KE qU1 aF pR)
theorem vM:CtrOK Tryz.prog KE 392 (af KE qU1 aF pR):=by
 refine aw (C:=ao [] Tryz.f392) (al (CtrsOK.nil) _) mixed (fn:=Tryz.f392) Tryz.func392 (by kernel_rfl) (by kernel_rfl) (by kernel_rfl) (by kernel_rfl) (by kernel_rfl) (by kernel_rfl) (Λ:=fun _ _=>none) ?_ ?_
 ·exact fun _ _ _ _ _ _ _ _ h=>by cases h
 ·rintro ⟨s,⟨⟩⟩ hw hn
  exact C8 s
theorem De (s:Int) :(evPat (ao [] Tryz.f340) (fun _=>none) Tryz.f340 qU1 aF (s,())).sat fun z_=>z_ =(pR (s,())).2:=by
 refine cast (by kernel_rfl) (?_ :(s !=(0:Int),()) =(cX s,()))
 rfl
def sD:FuncId×Ctr:=(340,af KE qU1 aF pR)
theorem vN:CtrOK Tryz.prog KE 340 (af KE qU1 aF pR):=by
 refine aw (C:=ao [] Tryz.f340) (al (CtrsOK.nil) _) mixed (fn:=Tryz.f340) Tryz.func340 (by kernel_rfl) (by kernel_rfl) (by kernel_rfl) (by kernel_rfl) (by kernel_rfl) (by kernel_rfl) (Λ:=fun _ _=>none) ?_ ?_
 ·exact fun _ _ _ _ _ _ _ _ h=>by cases h
 ·rintro ⟨s,⟨⟩⟩ hw hn
  exact De s
noncomputable def lpLIc:Lp:=(⟨0,ao [sC] Tryz.f369,(fun _=>none),(aH Tryz.f369 0),(qLI 392),xLI⟩:Lp)
theorem Mp (xs:List Int) (n:Int) (i:Int) (hi:dJ (xs,n,i,())) :(Go.Mir.stepG lpLIc dp (fun y:Den (tyP lpLIc.q)=>dJ y∧lf y<lf (xs,n,i,())) (xs,n,i,())∧Go.Mir.stepE lpLIc dp (xs,n,i,())=dp (xs,n,i,())):=by
 refine cast (by kernel_rfl) (?_ :((decide (i<n)=true→((0:Int)≤i∧i <(↑xs.length:Int))∧(cX (xs.getD i.toNat (dflt (Ty.int IntKind.u8)))=true→True)∧(cX (xs.getD i.toNat (dflt (Ty.int IntKind.u8)))=false→dJ (xs,n,IntKind.i64.wrap (i +(1:Int)),())∧lf (xs,n,IntKind.i64.wrap (i +(1:Int)),())<lf (xs,n,i,())))∧(decide (i<n)=false→True))∧(bif decide (i<n) then bif cX (xs.getD i.toNat (dflt (Ty.int IntKind.u8))) then Sum.inl (i,()) else dp (xs,n,IntKind.i64.wrap (i +(1:Int)),()) else Sum.inr ())=dp (xs,n,i,()))
 obtain ⟨h1,h2,h3,h4⟩:=hi
 simp only at h1 h2 h3 h4
 have h5 :(xs.length:Int)≤140737488355328:=by have:xs.length≤140737488355328:=h4;omega
 refine ⟨⟨fun h=>?_,fun _=>trivial⟩,?_⟩
 ·have h:i<n:=of_decide_eq_true h
  rw [bb (n:=i+1) (by omega) (by omega)]
  refine ⟨⟨h2,by omega⟩,fun _=>trivial,fun _=>⟨⟨h1,by simp only;omega,by simp only;omega,h4⟩,by simp only [lf];omega⟩⟩
 ·by_cases h:i<n
  ·rw [decide_eq_true h,cond_true,bb (n:=i+1) (by omega) (by omega)]
   have e:xs.drop i.toNat=xs.getD i.toNat (dflt (Ty.int IntKind.u8))::xs.drop (i+1).toNat:=dI h2 (by omega) _
   generalize xs.getD i.toNat (dflt (Ty.int IntKind.u8))=v at e ⊢
   simp only [dp,e,cF]
   cases cX v <;> rfl
  ·rw [decide_eq_false h,cond_false]
   simp only [dp]
   rw [cM (l:=xs) (by omega)]
   rfl
noncomputable def Kc:LoopSum:=bh lpLIc dp dJ
noncomputable def Ji:Nat:=rid (aH Tryz.f369 0)
theorem KR:LoopOKp Tryz.prog 0 Tryz.f369.ntmps (aH Tryz.f369 0) (bh lpLIc dp dJ):=
 cj lpLIc (al (.consU vM rfl .nil) _) mixed (fun b hb S hS=>by cases hS) dp dJ lf (fun |⟨xs,n,i,⟨⟩⟩,hi=>Mp xs n i hi)
noncomputable def lpLIi:Lp:=(⟨0,ao [sD] Tryz.f369,(fun _=>none),(aH Tryz.f369 0),(qLI 340),xLI⟩:Lp)
theorem Mq (xs:List Int) (n:Int) (i:Int) (hi:dJ (xs,n,i,())) :(Go.Mir.stepG lpLIi dp (fun y:Den (tyP lpLIi.q)=>dJ y∧lf y<lf (xs,n,i,())) (xs,n,i,())∧Go.Mir.stepE lpLIi dp (xs,n,i,())=dp (xs,n,i,())):=by
 refine cast (by kernel_rfl) (?_ :((decide (i<n)=true→((0:Int)≤i∧i <(↑xs.length:Int))∧(cX (xs.getD i.toNat (dflt (Ty.int IntKind.u8)))=true→True)∧(cX (xs.getD i.toNat (dflt (Ty.int IntKind.u8)))=false→dJ (xs,n,IntKind.i64.wrap (i +(1:Int)),())∧lf (xs,n,IntKind.i64.wrap (i +(1:Int)),())<lf (xs,n,i,())))∧(decide (i<n)=false→True))∧(bif decide (i<n) then bif cX (xs.getD i.toNat (dflt (Ty.int IntKind.u8))) then Sum.inl (i,()) else dp (xs,n,IntKind.i64.wrap (i +(1:Int)),()) else Sum.inr ())=dp (xs,n,i,()))
 obtain ⟨h1,h2,h3,h4⟩:=hi
 simp only at h1 h2 h3 h4
 have h5 :(xs.length:Int)≤140737488355328:=by have:xs.length≤140737488355328:=h4;omega
 refine ⟨⟨fun h=>?_,fun _=>trivial⟩,?_⟩
 ·have h:i<n:=of_decide_eq_true h
  rw [bb (n:=i+1) (by omega) (by omega)]
  refine ⟨⟨h2,by omega⟩,fun _=>trivial,fun _=>⟨⟨h1,by simp only;omega,by simp only;omega,h4⟩,by simp only [lf];omega⟩⟩
 ·by_cases h:i<n
  ·rw [decide_eq_true h,cond_true,bb (n:=i+1) (by omega) (by omega)]
   have e:xs.drop i.toNat=xs.getD i.toNat (dflt (Ty.int IntKind.u8))::xs.drop (i+1).toNat:=dI h2 (by omega) _
   generalize xs.getD i.toNat (dflt (Ty.int IntKind.u8))=v at e ⊢
   simp only [dp,e,cF]
   cases cX v <;> rfl
  ·rw [decide_eq_false h,cond_false]
   simp only [dp]
   rw [cM (l:=xs) (by omega)]
   rfl
noncomputable def Kd:LoopSum:=bh lpLIi dp dJ
noncomputable def Jj:Nat:=rid (aH Tryz.f369 0)
theorem KS:LoopOKp Tryz.prog 0 Tryz.f369.ntmps (aH Tryz.f369 0) (bh lpLIi dp dJ):=
 cj lpLIi (al (.consU vN rfl .nil) _) mixed (fun b hb S hS=>by cases hS) dp dJ lf (fun |⟨xs,n,i,⟨⟩⟩,hi=>Mq xs n i hi)
theorem Jt (xs:List Int) (hx:xs.length≤aP) :(evPat (ao [sC] Tryz.f369) (find [(Ji,Kc)]) Tryz.f369 (qF 392) bA (xs,())).sat fun z_=>z_ =((sIF 392) (xs,())).2:=by
 refine cast (by kernel_rfl) (?_:let r1:Bool:=isL (dp (xs,(↑xs.length:Int),(0:Int),()));((fW fun x=>none)∧(↑xs.length:Int) =(↑xs.length:Int)∧(0:Int)≤(0:Int)∧(0:Int)≤(↑xs.length:Int)∧xs.length≤aP)∧(r1=true→ov (dflt (I.prod Ty.unit)) (dp (xs,(↑xs.length:Int),(0:Int),())) =(oR (cF cX xs (0:Int)),()))∧(r1=false→((-1:Int),()) =(oR (cF cX xs (0:Int)),())))
 intro r1
 clear_value (hr1:r1=_)
 have e:dp (xs,(xs.length:Int),0,())=HO (cF cX xs 0):=rfl
 try subst hr1
 rw [e]
 refine ⟨⟨rfl,rfl,Int.le_refl _,by omega,hx⟩,fun h=>?_,fun h=>?_⟩ <;> cases hf:cF cX xs 0 <;> rw [hf] at h <;> first|rfl|cases h
def HW:FuncId×Ctr:=(369,af KE (qF 392) bA (sIF 392))
theorem Lh:CtrOK Tryz.prog KE 369 (af KE (qF 392) bA (sIF 392)):=by
 refine aw (C:=ao [sC] Tryz.f369) (al (.consU vM rfl .nil) _) mixed (fn:=Tryz.f369) Tryz.func369 (by kernel_rfl) (by kernel_rfl) (by kernel_rfl) (by kernel_rfl) (by kernel_rfl) (by kernel_rfl) (Λ:=fun x=>find [(Ji,Kc)]) ?_ ?_
 ·rintro ⟨xs,⟨⟩⟩ hw hn
  exact LoopsOKp.at (by kernel_rfl) (.cons (by kernel_rfl) (KR) .nil)
 ·rintro ⟨xs,⟨⟩⟩ hw hn
  exact Jt xs (dT (bf hw))
theorem Jp (xs:List Int) :(evPat (ao [HW] Tryz.f339) (fun _=>none) Tryz.f339 (qF 392) aF (xs,())).sat fun z_=>z_ =((sCF 392) (xs,())).2:=by
 refine cast (by kernel_rfl) (?_ :(decide (oR (cF cX xs (0:Int))≥(0:Int)),()) =(ln xs,()))
 have e:=kp (p:=cX) (l:=xs) (i:=0)
 unfold ln
 rw [←e]
 cases hf:cF cX xs 0 with
 | none=>rfl
 | some k=>
  have:=oo hf
  simp [this,oR]
def HS:FuncId×Ctr:=(339,af KE (qF 392) aF (sCF 392))
theorem Lc:CtrOK Tryz.prog KE 339 (af KE (qF 392) aF (sCF 392)):=by
 refine aw (C:=ao [HW] Tryz.f339) (al (.consU Lh rfl .nil) _) mixed (fn:=Tryz.f339) Tryz.func339 (by kernel_rfl) (by kernel_rfl) (by kernel_rfl) (by kernel_rfl) (by kernel_rfl) (by kernel_rfl) (Λ:=fun _ _=>none) ?_ ?_
 ·exact fun _ _ _ _ _ _ _ _ h=>by cases h
 ·rintro ⟨xs,⟨⟩⟩ hw hn
  exact Jp xs
theorem Ju (xs:List Int) (hx:xs.length≤aP) :(evPat (ao [sD] Tryz.f369) (find [(Jj,Kd)]) Tryz.f369 (qF 340) bA (xs,())).sat fun z_=>z_ =((sIF 340) (xs,())).2:=by
 refine cast (by kernel_rfl) (?_:let r1:Bool:=isL (dp (xs,(↑xs.length:Int),(0:Int),()));((fW fun x=>none)∧(↑xs.length:Int) =(↑xs.length:Int)∧(0:Int)≤(0:Int)∧(0:Int)≤(↑xs.length:Int)∧xs.length≤aP)∧(r1=true→ov (dflt (I.prod Ty.unit)) (dp (xs,(↑xs.length:Int),(0:Int),())) =(oR (cF cX xs (0:Int)),()))∧(r1=false→((-1:Int),()) =(oR (cF cX xs (0:Int)),())))
 intro r1
 clear_value (hr1:r1=_)
 have e:dp (xs,(xs.length:Int),0,())=HO (cF cX xs 0):=rfl
 try subst hr1
 rw [e]
 refine ⟨⟨rfl,rfl,Int.le_refl _,by omega,hx⟩,fun h=>?_,fun h=>?_⟩ <;> cases hf:cF cX xs 0 <;> rw [hf] at h <;> first|rfl|cases h
def HX:FuncId×Ctr:=(369,af KE (qF 340) bA (sIF 340))
theorem Li:CtrOK Tryz.prog KE 369 (af KE (qF 340) bA (sIF 340)):=by
 refine aw (C:=ao [sD] Tryz.f369) (al (.consU vN rfl .nil) _) mixed (fn:=Tryz.f369) Tryz.func369 (by kernel_rfl) (by kernel_rfl) (by kernel_rfl) (by kernel_rfl) (by kernel_rfl) (by kernel_rfl) (Λ:=fun x=>find [(Jj,Kd)]) ?_ ?_
 ·rintro ⟨xs,⟨⟩⟩ hw hn
  exact LoopsOKp.at (by kernel_rfl) (.cons (by kernel_rfl) (KS) .nil)
 ·rintro ⟨xs,⟨⟩⟩ hw hn
  exact Ju xs (dT (bf hw))
theorem Jq (xs:List Int) :(evPat (ao [HX] Tryz.f339) (fun _=>none) Tryz.f339 (qF 340) aF (xs,())).sat fun z_=>z_ =((sCF 340) (xs,())).2:=by
 refine cast (by kernel_rfl) (?_ :(decide (oR (cF cX xs (0:Int))≥(0:Int)),()) =(ln xs,()))
 have e:=kp (p:=cX) (l:=xs) (i:=0)
 unfold ln
 rw [←e]
 cases hf:cF cX xs 0 with
 | none=>rfl
 | some k=>
  have:=oo hf
  simp [this,oR]
def HT:FuncId×Ctr:=(339,af KE (qF 340) aF (sCF 340))
theorem Ld:CtrOK Tryz.prog KE 339 (af KE (qF 340) aF (sCF 340)):=by
 refine aw (C:=ao [HX] Tryz.f339) (al (.consU Li rfl .nil) _) mixed (fn:=Tryz.f339) Tryz.func339 (by kernel_rfl) (by kernel_rfl) (by kernel_rfl) (by kernel_rfl) (by kernel_rfl) (by kernel_rfl) (Λ:=fun _ _=>none) ?_ ?_
 ·exact fun _ _ _ _ _ _ _ _ h=>by cases h
 ·rintro ⟨xs,⟨⟩⟩ hw hn
  exact Jq xs
theorem Gu (x:Innings) :(evPat (ao [HS] Tryz.f371) (fun _=>none) Tryz.f371 qIn aF (x,())).sat fun z_=>z_ =(pP (x,())).2:=by
 refine cast (by kernel_rfl) (?_ :(ln x.11,()) =(eM x,()))
 rfl
def qY:FuncId×Ctr:=(371,af KE qIn aF pP)
theorem AD:CtrOK Tryz.prog KE 371 (af KE qIn aF pP):=by
 refine aw (C:=ao [HS] Tryz.f371) (al (.consU Lc rfl .nil) _) mixed (fn:=Tryz.f371) Tryz.func371 (by kernel_rfl) (by kernel_rfl) (by kernel_rfl) (by kernel_rfl) (by kernel_rfl) (by kernel_rfl) (Λ:=fun _ _=>none) ?_ ?_
 ·exact fun _ _ _ _ _ _ _ _ h=>by cases h
 ·rintro ⟨x,⟨⟩⟩ hw hn
  exact Gu x
theorem GD (x:Innings) :(evPat (ao [HT] Tryz.f320) (fun _=>none) Tryz.f320 qIn aF (x,())).sat fun z_=>z_ =(pP (x,())).2:=by
 refine cast (by kernel_rfl) (?_ :(ln x.11,()) =(eM x,()))
 rfl
def EJ:FuncId×Ctr:=(320,af KE qIn aF pP)
theorem IQ:CtrOK Tryz.prog KE 320 (af KE qIn aF pP):=by
 refine aw (C:=ao [HT] Tryz.f320) (al (.consU Ld rfl .nil) _) mixed (fn:=Tryz.f320) Tryz.func320 (by kernel_rfl) (by kernel_rfl) (by kernel_rfl) (by kernel_rfl) (by kernel_rfl) (by kernel_rfl) (Λ:=fun _ _=>none) ?_ ?_
 ·exact fun _ _ _ _ _ _ _ _ h=>by cases h
 ·rintro ⟨x,⟨⟩⟩ hw hn
  exact GD x
end Go.Proofs.YtffdpnmioidloaaGreatDoor
namespace Go.Proofs.YtffdpnmioidloaaGreatDoor
open Go Go.Mir
abbrev K8:Nat:=8
def O3 (l:rm) (n:Nat):Cfg:=⟨tbl,find l,K8,n⟩
def cf8 (l:rm) (fn:Func):Cfg:=O3 l fn.ntmps
theorem bG {l:rm} (h:CtrsOK Tryz.prog K8 l) (n:Nat):CfgOK Tryz.prog (O3 l n):=⟨D6,by show 1≤K8;decide,h⟩
def Gj:Nat→List V→List V×List RowD
 | _,[]=>([],[])
 | k,.fsl t xs::r=>(.osl k k ::(Gj (k+1) r).1,⟨t,xs⟩ ::(Gj (k+1) r).2)
 | k,v::r=>(v ::(Gj k r).1,(Gj k r).2)
def C5 (x:Innings):V:= .agg (Gj 0 (flat fg (.nm .Innings) x)).1
def tB (x:Innings):List RowD:=(Gj 0 (flat fg (.nm .Innings) x)).2
def bl (x:Innings) (p:Int):Bool:=decide (p≥1)&&decide (p≤(x.Subs.length:Int))
def Qf (x:Innings) (p:Int):Bool:=x.Subs.getD (p - 1).toNat false
def aU (x:Innings) (p:Int):Bool:=bl x p&&Qf x p
def eO (over:Int) (p:Phase):Bool:=decide (p.From≤IntKind.i64.wrap (over+1))&&decide (IntKind.i64.wrap (over+1)≤p.To)
def c7 (r:Rules) (over:Int):Int:=((r.Power.find? (eO over)).map Phase.Outside).getD r.Outside
def kI (r:Rules) (x:Innings):Int:=
 if !bl x x.Keeper||aU x x.Keeper||x.Keeper==x.Bowler then 17 else if x.Outside>c7 r x.Complete then 16 else 0
def Cx (x:Innings) (d:Delivery):Int:=
 if d.Fielder>0 then (if !bl x d.Fielder then 3 else if aU x d.Fielder != d.Sub then 18 else 0) else 0
def Cy (x:Innings) (d:Delivery):Int:=
 if d.Second>0 then (if !bl x d.Second then 3 else if aU x d.Second then 18 else 0) else 0
def iL (x:Innings) (d:Delivery):Int:=
 if Cx x d != 0 then Cx x d else if Cy x d != 0 then Cy x d
 else if d.How==4&&xD d.Fielder 0 != x.Keeper then 17 else 0
def ai (x:Innings) (p:Int):Innings:=if !bl x p then x else if aU x p then x else if p==x.Bowler||p==x.Keeper then x else { x with Keeper:=p }
def dw (x:Innings) (p:Int):Int:=if !bl x p then 3 else if aU x p then 18 else if p==x.Bowler||p==x.Keeper then 17 else 0
def pM (x:Innings) (p:Int) (on:Bool):Innings:=
 { x with Subs:=x.Subs.set (p - 1).toNat on,Keeper:=bif on&&x.Keeper==p then 0 else x.Keeper,Bowler:=bif on&&x.Bowler==p then 0 else x.Bowler }
def ax (x:Innings) (p:Int) (on:Bool):Innings:=if !bl x p then x else if aU x p==on then x else pM x p on
def gQ (x:Innings) (p:Int) (on:Bool):Int:=if !bl x p then 3 else if aU x p==on then 18 else 0
def pS (x:Innings) (n:Int):Bool:=decide (n<0)||decide (n >(x.Subs.length:Int) - 2)
def au (x:Innings) (n:Int):Innings:=if pS x n then x else { x with Outside:=n }
def fx (x:Innings) (n:Int):Int:=if pS x n then 16 else 0
def ah (x:Innings):Prop:=x.Batters.length≤1000000∧x.Bowlers.length≤1000000∧x.Before.length≤1000000∧x.Bowled.length≤1000000∧x.Subs.length≤1000000
def psI:Ty:= .prod (.nm .Innings) .unit
def jR:Ty:= .prod (.nm .Innings) (.prod (.int .i64) .unit)
def Fc:Ty:= .prod (.nm .Innings) (.prod (.int .i64) (.prod .bool .unit))
def psR:Ty:= .prod (.nm .Rules) (.prod (.int .i64) .unit)
def A5:Ty:= .prod (.nm .Rules) (.prod (.nm .Innings) .unit)
def LG:Ty:= .prod (.nm .Innings) (.prod (.nm .Delivery) .unit)
def yN:Den jR→PRes:=fun x=>⟨[],.bool (bl x.1 x.2.1),[]⟩
def yO:Den jR→PRes:=fun x=>⟨[],.bool (aU x.1 x.2.1),[]⟩
def yP:Den psR→PRes:=fun x=>⟨[],.int .i64 (c7 x.1 x.2.1),[]⟩
def yy:Den A5→PRes:=fun x=>⟨[],.int .i64 (kI x.1 x.2.1),[]⟩
def yz:Den LG→PRes:=fun x=>⟨[],.int .i64 (iL x.1 x.2.1),[]⟩
def gP:Den psI→PRes:=fun x=>⟨[ah x.1],C5 x.1,tB x.1⟩
def yL:Den jR→PRes:=fun x=>⟨[ah x.1],.tup [C5 (ai x.1 x.2.1),.int .i64 (dw x.1 x.2.1)],tB (ai x.1 x.2.1)⟩
def yB:Den Fc→PRes:=fun x=>⟨[ah x.1],.tup [C5 (ax x.1 x.2.1 x.2.2.1),.int .i64 (gQ x.1 x.2.1 x.2.2.1)],tB (ax x.1 x.2.1 x.2.2.1)⟩
def yM:Den jR→PRes:=fun x=>⟨[ah x.1],.tup [C5 (au x.1 x.2.1),.int .i64 (fx x.1 x.2.1)],tB (au x.1 x.2.1)⟩
def Lx:Ty:= .prod (.slice .bool) .unit
def yA:Den Lx→PRes:=fun x=>⟨[x.1.length≤1000000],.osl 0 0,[⟨.bool,x.1⟩]⟩
def LC:Ty:= .prod (.slice (.int .u8)) .unit
def yW:Den LC→PRes:=fun x=>⟨[x.1.length≤1000000],.osl 0 0,[⟨.int .u8,x.1⟩]⟩
def LD:Ty:= .prod (.slice (.int .i64)) .unit
def yX:Den LD→PRes:=fun x=>⟨[x.1.length≤1000000],.osl 0 0,[⟨.int .i64,x.1⟩]⟩
def k73:FuncId×Ctr:=(382,ar K8 jR yN)
def k74:FuncId×Ctr:=(383,ar K8 jR yO)
def k75:FuncId×Ctr:=(397,ar K8 psR yP)
def k40:FuncId×Ctr:=(395,ar K8 A5 yy)
def k42:FuncId×Ctr:=(396,ar K8 LG yz)
def k78:FuncId×Ctr:=(381,ar K8 psI gP)
def k66:FuncId×Ctr:=(348,ar K8 jR yL)
def k46:FuncId×Ctr:=(349,ar K8 Fc yB)
def k67:FuncId×Ctr:=(347,ar K8 jR yM)
def k45:FuncId×Ctr:=(305,ar K8 Lx yA)
def k90:FuncId×Ctr:=(303,ar K8 LC yW)
def k91:FuncId×Ctr:=(304,ar K8 LD yX)
def A4:Ty:= .prod (.slice (.int .i64)) (.prod (.int .i64) .unit)
def fI (xs:List Int) (v:Int):Bool:=xs.contains v
def yC:Den A4→PRes:=fun x=>⟨[],.bool (fI x.1 x.2.1),[]⟩
def yQ:Den A4→PRes:=fun x=>⟨[],.int .i64 (idx x.1 x.2.1 0),[]⟩
def k47:FuncId×Ctr:=(318,ar K8 A4 yC)
def k79:FuncId×Ctr:=(338,ar K8 A4 yQ)
def Ey (xs:List Int) (v:Int) (i:Nat):Prop:=i≤xs.length∧v∉xs.take i
def L79 (i:Nat):List (Lspec Nat):= [.out [true] [] [],.next (i+1) [] [],.out [false] [] []]
def J79 (xs:List Int) (v:Int) (i:Nat):St:=⟨[(0,.fsl (.int .i64) xs),(1,.int .i64 v),(7,.int .i64 xs.length),(8,.int .i64 i)],[],fun _=>none,0⟩
def T79 (xs:List Int) (v:Int):Tr:= .br (xs.contains v) (.leaf .ret ⟨[(4,.int .i64 (idx xs v 0))],[]⟩ 0) (.leaf (.ext 0) ⟨[],[]⟩ 0)
def Λ79 (xs:List Int) (v:Int):Nat→Option LoopSum:=find [(2,cY ⟨[],[],0⟩ (J79 xs v 0) (T79 xs v))]
def Ex (r:Rules) (o:Int) (i:Nat):Prop:=i≤r.Power.length∧∀ p∈r.Power.take i,eO o p=false
def L75 (i:Nat):List (Lspec Nat):= [.out [true] [] [],.next (i+1) [] [],.out [false] [] []]
def T75 (r:Rules) (o:Int):Tr:= .br (r.Power.any (eO o)) (.leaf .ret ⟨[(4,.int .i64 (c7 r o))],[]⟩ 48) (.leaf (.ext 0) ⟨[(2,.ptr 0 0)],[(0,.cells (flat fg (.nm .Rules) r))]⟩ 48)
def J75 (r:Rules) (o:Int) (i:Nat):St:=⟨[(1,.int .i64 o),(2,.ptr 0 0),(8,.fsl (.nm .Phase) r.Power),(9,.int .i64 r.Power.length),(10,.int .i64 i)],[(0,.cells (flat fg (.nm .Rules) r))],fun _=>none,48⟩
def Λ75 (r:Rules) (o:Int):Nat→Option LoopSum:=find [(2,cY ⟨[],[],48⟩ (J75 r o 0) (T75 r o))]
end Go.Proofs.YtffdpnmioidloaaGreatDoor
namespace Go.Proofs.YtffdpnmioidloaaGreatDoor
open Go Go.Mir
def wtab:List dismissal_way:=
 [{ how:=0,name:={ data:=#[78,79,84,79,85,84] },fair:=false,wide:=false,no:=false,fielder:=false,either:=false },
  { how:=1,name:={ data:=#[66,79,87,76,69,68] },fair:=true,wide:=false,no:=false,fielder:=false,either:=false },
  { how:=2,name:={ data:=#[67,65,85,71,72,84] },fair:=true,wide:=false,no:=false,fielder:=true,either:=false },
  { how:=3,name:={ data:=#[76,66,87] },fair:=true,wide:=false,no:=false,fielder:=false,either:=false },
  { how:=4,name:={ data:=#[83,84,85,77,80,69,68] },fair:=true,wide:=true,no:=false,fielder:=true,either:=false },
  { how:=5,name:={ data:=#[72,73,84,87,73,67,75,69,84] },fair:=true,wide:=true,no:=false,fielder:=false,either:=false },
  { how:=6,name:={ data:=#[82,85,78,79,85,84] },fair:=true,wide:=true,no:=true,fielder:=true,either:=true },
  { how:=7,name:={ data:=#[72,73,84,84,87,73,67,69] },fair:=true,wide:=false,no:=true,fielder:=false,either:=false },
  { how:=8,name:={ data:=#[79,66,83,84,82,85,67,84,73,78,71] },fair:=true,wide:=true,no:=true,fielder:=false,either:=true },
  { how:=9,name:={ data:=#[84,73,77,69,68,79,85,84] },fair:=false,wide:=false,no:=false,fielder:=false,either:=false },
  { how:=10,name:={ data:=#[82,69,84,73,82,69,68] },fair:=false,wide:=false,no:=false,fielder:=false,either:=false }]
def onW (w:dismissal_way) (t:Int):Bool:=(t==1&&w.fair) ||(t==2&&w.wide) ||(t==3&&w.no)
def ofW (h:Int):dismissal_way:=(wtab.find? fun w=>w.how==h).getD dismissal_way.zero
def so (w:dismissal_way) (t:Int) (free:Bool):Bool:=onW w t&&(!free||w.how==6||w.how==7||w.how==8)
def ns (t:Int) (free:Bool):List Int:=(wtab.filter fun w=>so w t free).map dismissal_way.how
def lZ (n:Int):Bool:=decide (n≥1)&&decide (n≤11)
def fP (d:Delivery) (w:dismissal_way):Bool:=
 !((w.fielder != lZ d.Fielder) ||(!w.fielder&&d.Fielder != 0))&&(d.Second==0 ||(d.How==6&&lZ d.Second&&d.Second != d.Fielder))
def bD (d:Delivery) (free:Bool):Int:=
 if d.How==0 then (if d.Victim != 0 then 14 else if d.Fielder != 0||d.Second != 0||d.Sub then 15 else 0)
 else if !(ns d.Typ free).contains d.How then 13
 else if !(d.How==6||d.How==8)&&(d.Source != 0||d.Runs != 0) then 12
 else if d.Victim != 1&&(d.Victim != 2||!(ofW d.How).either) then 14
 else if !fP d (ofW d.How) then 15
 else if d.Sub&&d.How != 2&&d.How != 6 then 18
 else 0
def Pi (h:Int):Bool:=h==6
def Pz (h:Int):Bool:=h==2||h==4||h==6
def xn (xs:List Int) (v:Int):Bool:=xs.contains v
def Lz:Ty:= .unit
def yI:Den Lz→PRes:=fun _=>⟨[],.osl 0 0,[⟨.nm .dismissal_way,wtab⟩]⟩
def LA:Ty:= .prod (.nm .dismissal_way) (.prod (.int .u8) .unit)
def yJ:Den LA→PRes:=fun x=>⟨[],.bool (onW x.1 x.2.1),[]⟩
def Gn:Ty:= .prod (.int .u8) .unit
def yG:Den Gn→PRes:=fun x=>⟨[],.agg (flat fg (.nm .dismissal_way) (ofW x.1)),[]⟩
def Lv:Ty:= .prod (.int .u8) (.prod .bool .unit)
def yw:Den Lv→PRes:=fun x=>⟨[],.osl 0 0,[⟨.int .u8,ns x.1 x.2.1⟩]⟩
def Lw:Ty:=Gp
def yx:Den Lw→PRes:=fun x=>⟨[],.bool (xn x.1 x.2.1),[]⟩
def LB:Ty:= .prod (.int .i64) .unit
def yV:Den LB→PRes:=fun x=>⟨[],.bool (lZ x.1),[]⟩
def Ly:Ty:= .prod (.nm .Delivery) (.prod (.nm .dismissal_way) .unit)
def yH:Den Ly→PRes:=fun x=>⟨[],.bool (fP x.1 x.2.1),[]⟩
def psP:Ty:= .prod (.nm .Delivery) (.prod .bool .unit)
def yu:Den psP→PRes:=fun x=>⟨[],.int .i64 (bD x.1 x.2.1),[]⟩
def Oj:Den Gn→PRes:=fun x=>⟨[],.tup [.bool (Pz x.1),.bool (Pz x.1),.bool (Pi x.1)],[]⟩
def k61:FuncId×Ctr:=(168,ar KK Lz yI)
def k62:FuncId×Ctr:=(251,ar KK LA yJ)
def k57:FuncId×Ctr:=(104,ar KK Gn yG)
def k20:FuncId×Ctr:=(207,ar KK Lv yw)
def k63:FuncId×Ctr:=(250,ar KK Gp yK)
def k21:FuncId×Ctr:=(206,ar KK Lw yx)
def k89:FuncId×Ctr:=(252,ar KK LB yV)
def k58:FuncId×Ctr:=(208,ar KK Ly yH)
def k17:FuncId×Ctr:=(164,ar KK psP yu)
def k29:FuncId×Ctr:=(389,ar KK Gn Oj)
def J57 (h:Int) (i:Nat):St:=⟨[(0,.int .u8 h),(2,.ptr 0 0),(5,.osl 4 4),(6,.int .i64 wtab.length),(7,.int .i64 i)],
 [(4,.row 4 true (.nm .dismissal_way) wtab),(0,.cells (flat fg (.nm .dismissal_way) dismissal_way.zero))],fun _=>none,16⟩
def T57 (h:Int):Tr:= .br (wtab.any fun w=>w.how==h) (.leaf .ret ⟨[(2,.ptr 0 0)],[(0,.cells (flat fg (.nm .dismissal_way) (ofW h)))]⟩ 16)
 (.leaf (.ext 0) ⟨[(2,.ptr 0 0)],[(0,.cells (flat fg (.nm .dismissal_way) dismissal_way.zero))]⟩ 16)
def Ev (h:Int) (i:Nat):Prop:=i≤11∧∀ w∈wtab.take i,(w.how==h)=false
def L57 (i:Nat):List (Lspec Nat):= [.out [true] [] [],.next (i+1) [] [],.out [false] [] []]
def Λ57 (h:Int):Nat→Option LoopSum:=find [(2,cY ⟨[],[],16⟩ (J57 h 0) (T57 h))]
def eZ (t:Int) (free:Bool) (i:Nat):List Int:=((wtab.take i).filter fun w=>so w t free).map dismissal_way.how
def J20 (t:Int) (free:Bool) (i:Nat):St:=⟨[(0,.int .u8 t),(1,.bool free),(5,.osl 16 17),(8,.osl 8 8),(9,.int .i64 wtab.length),(10,.int .i64 i)],
 [(8,.row 8 true (.nm .dismissal_way) wtab),(16,.row 17 true (.int .u8) (eZ t free i))],fun _=>none,20⟩
def T20 (t:Int) (free:Bool):Tr:= .leaf (.ext 0) ⟨[(5,.osl 16 17)],[(16,.row 17 true (.int .u8) (ns t free))]⟩ 20
def L20 (i:Nat):List (Lspec Nat):= [.next (i+1) [(17,144)] [],.next (i+1) [] [],.out [] [] []]
def sx (i:Nat):Prop:=i≤11
def Λ20 (t:Int) (free:Bool):Nat→Option LoopSum:=find [(3,cY ⟨[],[16],20⟩ (J20 t free 0) (T20 t free))]
end Go.Proofs.YtffdpnmioidloaaGreatDoor
namespace Go.Proofs.YtffdpnmioidloaaGreatDoor
open Go Go.Mir
attribute [local irreducible] Go.Mir.RT.sat Go.Mir.evFn Go.Mir.stepObl
theorem PR :(evFn (kZ [] Tryz.f168) (fun _=>none) Tryz.f168 (bo Lz ())).sat fun v' rows=>leV v' (yI ()).v∧rows =(yI ()).rows:=by
 refine cast (by kernel_rfl) (?_ :(nat_lit 0=nat_lit 0∧nat_lit 0=nat_lit 0)∧ [RowD.mk (Ty.nm Nm.dismissal_way) [dismissal_way.mk (0:Int) (ByteArray.mk #[78,79,84,79,85,84]) false false false false false,dismissal_way.mk (1:Int) (ByteArray.mk #[66,79,87,76,69,68]) true false false false false,dismissal_way.mk (2:Int) (ByteArray.mk #[67,65,85,71,72,84]) true false false true false,dismissal_way.mk (3:Int) (ByteArray.mk #[76,66,87]) true false false false false,dismissal_way.mk (4:Int) (ByteArray.mk #[83,84,85,77,80,69,68]) true true false true false,dismissal_way.mk (5:Int) (ByteArray.mk #[72,73,84,87,73,67,75,69,84]) true true false false false,dismissal_way.mk (6:Int) (ByteArray.mk #[82,85,78,79,85,84]) true true true true true,dismissal_way.mk (7:Int) (ByteArray.mk #[72,73,84,84,87,73,67,69]) true false true false false,dismissal_way.mk (8:Int) (ByteArray.mk #[79,66,83,84,82,85,67,84,73,78,71]) true true true false true,dismissal_way.mk (9:Int) (ByteArray.mk #[84,73,77,69,68,79,85,84]) false false false false false,dismissal_way.mk (10:Int) (ByteArray.mk #[82,69,84,73,82,69,68]) false false false false false]]=[RowD.mk (Ty.nm Nm.dismissal_way) wtab])
 exact ⟨⟨rfl,rfl⟩,by kernel_rfl⟩
theorem K6:CtrOK Tryz.prog KK 168 (ar KK Lz yI):=by
 refine ba (C:=kZ [] Tryz.f168) (kQ CtrsOK.nil _) mixed (fn:=Tryz.f168) Tryz.func168 (by kernel_rfl) (by kernel_rfl) (by kernel_rfl) (Λ:=fun _ _=>none) ?_ ?_ ?_
 ·exact fun _ _ _ _ _ _ _ _ h=>by cases h
 ·rintro ⟨⟩
  exact of_decide_eq_true (by kernel_rfl)
 ·rintro ⟨⟩ _ _
  exact PR
theorem PS (w:dismissal_way) (t:Int) :(evFn (kZ [] Tryz.f251) (fun _=>none) Tryz.f251 (bo LA (w,t,()))).sat fun v' rows=>leV v' (yJ (w,t,())).v∧rows =(yJ (w,t,())).rows:=by
 refine cast (by kernel_rfl) (?_ :(bif t ==(1:Int) then bif w.3 then true else bif t ==(2:Int) then bif w.4 then true else bif t ==(3:Int) then w.5 else false else bif t ==(3:Int) then w.5 else false else bif t ==(2:Int) then bif w.4 then true else bif t ==(3:Int) then w.5 else false else bif t ==(3:Int) then w.5 else false)=onW w t∧([]:List RowD)=[])
 simp only [onW];grind
theorem Py:CtrOK Tryz.prog KK 251 (ar KK LA yJ):=by
 refine ba (C:=kZ [] Tryz.f251) (kQ CtrsOK.nil _) mixed (fn:=Tryz.f251) Tryz.func251 (by kernel_rfl) (by kernel_rfl) (by kernel_rfl) (Λ:=fun _ _=>none) ?_ ?_ ?_
 ·exact fun _ _ _ _ _ _ _ _ h=>by cases h
 ·rintro ⟨w,t,⟨⟩⟩
  exact of_decide_eq_true (by kernel_rfl)
 ·rintro ⟨w,t,⟨⟩⟩ _ _
  exact PS w t
theorem P6 (n:Int) :(evFn (kZ [] Tryz.f252) (fun _=>none) Tryz.f252 (bo LB (n,()))).sat fun v' rows=>leV v' (yV (n,())).v∧rows =(yV (n,())).rows:=by
 refine cast (by kernel_rfl) (?_ :(bif decide (n≥(1:Int)) then decide (n≤(11:Int)) else false)=lZ n∧([]:List RowD)=[])
 simp only [lZ];grind
theorem QH:CtrOK Tryz.prog KK 252 (ar KK LB yV):=by
 refine ba (C:=kZ [] Tryz.f252) (kQ CtrsOK.nil _) mixed (fn:=Tryz.f252) Tryz.func252 (by kernel_rfl) (by kernel_rfl) (by kernel_rfl) (Λ:=fun _ _=>none) ?_ ?_ ?_
 ·exact fun _ _ _ _ _ _ _ _ h=>by cases h
 ·rintro ⟨n,⟨⟩⟩
  exact of_decide_eq_true (by kernel_rfl)
 ·rintro ⟨n,⟨⟩⟩ _ _
  exact P6 n
theorem MB:wtab.length=11:=rfl
theorem xd {α:Type} (p:α→Bool) :∀ (xs:List α) (i:Nat) (x:α),xs[i]?=some x→p x=true→(∀ y∈xs.take i,p y=false)→xs.find? p=some x
 | [],_,_,h,_,_=>by simp at h
 | y::xs,0,x,h,hp,_=>by simp at h;subst h;simp [hp]
 | y::xs,i+1,x,h,hp,hn=>by
  have h0:p y=false:=hn y (by simp)
  rw [List.find?_cons_of_neg (by simp [h0])]
  exact xd p xs i x (by simpa using h) hp (fun z hz=>hn z (by simp [hz]))
theorem qV {α:Type} {xs:List α} {i:Nat} (z:α) (h:i<xs.length):xs[i]?=some (xs.getD i z):=by
 rw [List.getD_eq_getElem?_getD,List.getElem?_eq_getElem h];rfl
theorem Om (h:Int) (i:Nat) (hi:Ev h i) :(stepObl (J57 h) (Ev h) (fun i=>11 - i) i (T57 h) (bs (kZ [k61] Tryz.f104) (fun _=>none) (aH Tryz.f104 0) (J57 h i)) (L57 i)).1:=by
 refine cast (by kernel_rfl) (?_ :(decide ((↑i:Int) <(↑wtab.length:Int))=true→((0:Int)≤(↑i:Int)∧(↑i:Int) <(↑wtab.length:Int))∧(((wtab.getD (↑i:Int).toNat (dflt (Ty.nm Nm.dismissal_way))).1==h)=true→(wtab.any fun w=>w.1==h)=true∧(True∧True)∧((wtab.getD (↑i:Int).toNat (dflt (Ty.nm Nm.dismissal_way))).1 =(ofW h).1∧(wtab.getD (↑i:Int).toNat (dflt (Ty.nm Nm.dismissal_way))).2 =(ofW h).2∧(wtab.getD (↑i:Int).toNat (dflt (Ty.nm Nm.dismissal_way))).3 =(ofW h).3∧(wtab.getD (↑i:Int).toNat (dflt (Ty.nm Nm.dismissal_way))).4 =(ofW h).4∧(wtab.getD (↑i:Int).toNat (dflt (Ty.nm Nm.dismissal_way))).5 =(ofW h).5∧(wtab.getD (↑i:Int).toNat (dflt (Ty.nm Nm.dismissal_way))).6 =(ofW h).6∧(wtab.getD (↑i:Int).toNat (dflt (Ty.nm Nm.dismissal_way))).7 =(ofW h).7∧True)∧True)∧(((wtab.getD (↑i:Int).toNat (dflt (Ty.nm Nm.dismissal_way))).1==h)=false→Ev h (i +(1:Nat))∧(11:Nat) - (i +(1:Nat)) <(11:Nat) - i∧(h=h∧True∧True∧(↑wtab.length:Int) =(↑wtab.length:Int)∧IntKind.i64.wrap ((↑i:Int) +(1:Int)) =(↑(i +(1:Nat)):Int)∧True)∧RowD.mk (Ty.nm Nm.dismissal_way) wtab=RowD.mk (Ty.nm Nm.dismissal_way) wtab∧((0:Int) =(0:Int)∧ByteArray.empty=ByteArray.empty∧false=false∧false=false∧false=false∧false=false∧false=false∧True)∧True))∧(decide ((↑i:Int) <(↑wtab.length:Int))=false→(wtab.any fun w=>w.1==h)=false∧(True∧True)∧((0:Int) =(0:Int)∧ByteArray.empty=ByteArray.empty∧false=false∧false=false∧false=false∧false=false∧false=false∧True)∧True))
 have e :(i:Int).toNat=i:=by simp
 rw [e]
 generalize hw:wtab.getD i (dflt (Ty.nm Nm.dismissal_way))=w
 refine ⟨fun h1=>?_,fun h1=>?_⟩
 ·have h1:i<wtab.length:=by simpa using h1
  have h3:wtab[i]?=some w:=by rw [←hw];exact qV _ h1
  refine ⟨⟨by omega,by omega⟩,fun h2=>?_,fun h2=>?_⟩
  ·have h4:ofW h=w:=by
    unfold ofW
    rw [xd (fun w=>w.how==h) wtab i w h3 h2 hi.2];rfl
   have h5 :(wtab.any fun w=>w.1==h)=true:=List.any_eq_true.2 ⟨w,List.mem_of_getElem? h3,h2⟩
   rw [h4]
   exact ⟨h5,⟨trivial,trivial⟩,⟨rfl,rfl,rfl,rfl,rfl,rfl,rfl,trivial⟩,trivial⟩
  ·rw [MB] at h1
   refine ⟨⟨by omega,fun y hy=>?_⟩,by omega,⟨rfl,trivial,trivial,rfl,?_,trivial⟩,rfl,⟨rfl,rfl,rfl,rfl,rfl,rfl,rfl,trivial⟩,trivial⟩
   ·rw [List.take_add_one,h3] at hy
    rcases List.mem_append.1 hy with hy|hy
    ·exact hi.2 y hy
    ·simp at hy;subst hy;exact h2
   ·rw [dH (by omega) (by omega)];omega
 ·have h1:wtab.length≤i:=by simpa using h1
  refine ⟨?_,⟨trivial,trivial⟩,⟨rfl,rfl,rfl,rfl,rfl,rfl,rfl,trivial⟩,trivial⟩
  rw [List.any_eq_false]
  intro x hx
  have:=hi.2 x (by rw [List.take_of_length_le h1];exact hx)
  simpa using this
theorem KX (h:Int):LoopsOK Tryz.prog Tryz.f104.ntmps [aH Tryz.f104 0] (Λ57 h):=
 .cons (L:=cY ⟨[],[],16⟩ (J57 h 0) (T57 h)) (by kernel_rfl) (ky (kQ (.cons K6 .nil) _) mixed (J57 h) (fun _=>rfl) (Ev h) (fun i=>11 - i) (fun _ _=>none) (fun _ _ _ _ _ h=>by cases h) (T57 h) [] [] 0 ⟨Nat.zero_le _,by simp⟩ L57 (Om h)) .nil
theorem PP (h:Int) :(evFn (kZ [k61] Tryz.f104) (Λ57 h) Tryz.f104 (bo Gn (h,()))).sat fun v' rows=>leV v' (yG (h,())).v∧rows =(yG (h,())).rows:=by
 refine cast (by kernel_rfl) (?_ :((fW fun x=>none)∧(h=h∧True∧True∧(↑wtab.length:Int) =(↑wtab.length:Int)∧(0:Int) =(↑(0:Nat):Int)∧True)∧RowD.mk (Ty.nm Nm.dismissal_way) wtab=RowD.mk (Ty.nm Nm.dismissal_way) wtab∧((0:Int) =(0:Int)∧ByteArray.empty=ByteArray.empty∧false=false∧false=false∧false=false∧false=false∧false=false∧True)∧True)∧((wtab.any fun w=>w.1==h)=true→((ofW h).1 =(ofW h).1∧(ofW h).2 =(ofW h).2∧(ofW h).3 =(ofW h).3∧(ofW h).4 =(ofW h).4∧(ofW h).5 =(ofW h).5∧(ofW h).6 =(ofW h).6∧(ofW h).7 =(ofW h).7∧True)∧([]:List RowD)=[])∧((wtab.any fun w=>w.1==h)=false→((0:Int) =(ofW h).1∧ByteArray.empty =(ofW h).2∧false =(ofW h).3∧false =(ofW h).4∧false =(ofW h).5∧false =(ofW h).6∧false =(ofW h).7∧True)∧([]:List RowD)=[]))
 refine ⟨⟨rfl,⟨rfl,trivial,trivial,rfl,rfl,trivial⟩,rfl,⟨rfl,rfl,rfl,rfl,rfl,rfl,rfl,trivial⟩,trivial⟩,fun _=>⟨⟨rfl,rfl,rfl,rfl,rfl,rfl,rfl,trivial⟩,rfl⟩,fun h1=>?_⟩
 have h2:ofW h=dismissal_way.zero:=by
  unfold ofW
  rw [List.find?_eq_none.2]
  ·rfl
  ·intro x hx hp
   have:=(List.any_eq_false.1 h1) x hx
   exact this hp
 rw [h2]
 exact ⟨⟨rfl,rfl,rfl,rfl,rfl,rfl,rfl,trivial⟩,rfl⟩
theorem Qy:CtrOK Tryz.prog KK 104 (ar KK Gn yG):=by
 refine ba (C:=kZ [k61] Tryz.f104) (kQ (.cons K6 .nil) _) mixed (fn:=Tryz.f104) Tryz.func104 (by kernel_rfl) (by kernel_rfl) (by kernel_rfl) (Λ:=fun x=>Λ57 x.1) ?_ ?_ ?_
 ·rintro ⟨h,⟨⟩⟩ _ _
  exact LoopsOK.at (by kernel_rfl) (KX h)
 ·rintro ⟨h,⟨⟩⟩
  exact of_decide_eq_true (by kernel_rfl)
 ·rintro ⟨h,⟨⟩⟩ _ _
  exact PP h
theorem HE (w:dismissal_way) (t:Int) (free:Bool) :(bif onW w t then bif !free then true else bif w.1 ==(6:Int) then true else bif w.1 ==(7:Int) then true else w.1 ==(8:Int) else false)=so w t free:=by
 simp only [so];cases onW w t <;> cases free <;> simp <;> grind
theorem BQ (t:Int) (free:Bool) (i:Nat) {w:dismissal_way} (h:wtab[i]?=some w):eZ t free (i+1)=eZ t free i ++(bif so w t free then [w.how] else []):=by
 unfold eZ
 rw [List.take_add_one,h,List.filter_append,List.map_append]
 congr 1
 cases hf:so w t free <;> simp [hf]
theorem D8 (t:Int) (free:Bool) (i:Nat) :(eZ t free i).length≤11:=by
 unfold eZ
 rw [List.length_map]
 have h1:=List.length_filter_le (fun w=>so w t free) (wtab.take i)
 have h2 :(wtab.take i).length≤wtab.length:=List.length_take_le' _ _
 rw [MB] at h2
 omega
theorem Ol (t:Int) (free:Bool) (i:Nat) (hi:sx i) :(stepObl (J20 t free) sx (fun i=>11 - i) i (T20 t free) (bs (kZ [k61,k62] Tryz.f207) (fun _=>none) (aH Tryz.f207 0) (J20 t free i)) (L20 i)).1:=by
 refine cast (by kernel_rfl) (?_ :(decide ((↑i:Int) <(↑wtab.length:Int))=true→((0:Int)≤(↑i:Int)∧(↑i:Int) <(↑wtab.length:Int))∧((bif onW (wtab.getD (↑i:Int).toNat (dflt (Ty.nm Nm.dismissal_way))) t then bif !free then true else bif (wtab.getD (↑i:Int).toNat (dflt (Ty.nm Nm.dismissal_way))).1 ==(6:Int) then true else bif (wtab.getD (↑i:Int).toNat (dflt (Ty.nm Nm.dismissal_way))).1 ==(7:Int) then true else (wtab.getD (↑i:Int).toNat (dflt (Ty.nm Nm.dismissal_way))).1 ==(8:Int) else false)=true→((eZ t free i).length+[(wtab.getD (↑i:Int).toNat (dflt (Ty.nm Nm.dismissal_way))).1].length) *(1:Nat)≤(70368744177664:Nat)∧sx (i +(1:Nat))∧(11:Nat) - (i +(1:Nat)) <(11:Nat) - i∧(t=t∧free=free∧True∧True∧(↑wtab.length:Int) =(↑wtab.length:Int)∧IntKind.i64.wrap ((↑i:Int) +(1:Int)) =(↑(i +(1:Nat)):Int)∧True)∧RowD.mk (Ty.nm Nm.dismissal_way) wtab=RowD.mk (Ty.nm Nm.dismissal_way) wtab∧RowD.mk (Ty.int IntKind.u8) (eZ t free i++[(wtab.getD (↑i:Int).toNat (dflt (Ty.nm Nm.dismissal_way))).1])=RowD.mk (Ty.int IntKind.u8) (eZ t free (i +(1:Nat)))∧True)∧((bif onW (wtab.getD (↑i:Int).toNat (dflt (Ty.nm Nm.dismissal_way))) t then bif !free then true else bif (wtab.getD (↑i:Int).toNat (dflt (Ty.nm Nm.dismissal_way))).1 ==(6:Int) then true else bif (wtab.getD (↑i:Int).toNat (dflt (Ty.nm Nm.dismissal_way))).1 ==(7:Int) then true else (wtab.getD (↑i:Int).toNat (dflt (Ty.nm Nm.dismissal_way))).1 ==(8:Int) else false)=false→sx (i +(1:Nat))∧(11:Nat) - (i +(1:Nat)) <(11:Nat) - i∧(t=t∧free=free∧True∧True∧(↑wtab.length:Int) =(↑wtab.length:Int)∧IntKind.i64.wrap ((↑i:Int) +(1:Int)) =(↑(i +(1:Nat)):Int)∧True)∧RowD.mk (Ty.nm Nm.dismissal_way) wtab=RowD.mk (Ty.nm Nm.dismissal_way) wtab∧RowD.mk (Ty.int IntKind.u8) (eZ t free i)=RowD.mk (Ty.int IntKind.u8) (eZ t free (i +(1:Nat)))∧True))∧(decide ((↑i:Int) <(↑wtab.length:Int))=false→True∧(True∧True)∧RowD.mk (Ty.int IntKind.u8) (eZ t free i)=RowD.mk (Ty.int IntKind.u8) (ns t free)∧True))
 have e :(i:Int).toNat=i:=by simp
 rw [e]
 generalize hw:wtab.getD i (dflt (Ty.nm Nm.dismissal_way))=w
 rw [HE]
 refine ⟨fun h1=>?_,fun h1=>?_⟩
 ·have h1:i<wtab.length:=by simpa using h1
  have h3:wtab[i]?=some w:=by rw [←hw];exact qV _ h1
  have hu:=BQ t free i h3
  rw [MB] at h1
  have hwr:IntKind.i64.wrap ((i:Int)+1) =((i+1:Nat):Int):=by rw [dH (by omega) (by omega)];omega
  refine ⟨⟨by omega,by rw [MB];omega⟩,fun h2=>?_,fun h2=>?_⟩
  ·rw [h2] at hu
   refine ⟨?_,(by unfold sx;omega),by omega,⟨rfl,rfl,trivial,trivial,rfl,hwr,trivial⟩,rfl,by rw [hu];rfl,trivial⟩
   have:=D8 t free i
   simp only [List.length_cons,List.length_nil]
   omega
  ·rw [h2] at hu
   refine ⟨(by unfold sx;omega),by omega,⟨rfl,rfl,trivial,trivial,rfl,hwr,trivial⟩,rfl,by rw [hu];simp,trivial⟩
 ·have h1:wtab.length≤i:=by simpa using h1
  have hu:eZ t free i=ns t free:=by unfold eZ ns;rw [List.take_of_length_le h1]
  exact ⟨trivial,⟨trivial,trivial⟩,by rw [hu],trivial⟩
theorem KW (t:Int) (free:Bool):LoopsOK Tryz.prog Tryz.f207.ntmps [aH Tryz.f207 0] (Λ20 t free):=
 .cons (L:=cY ⟨[],[16],20⟩ (J20 t free 0) (T20 t free)) (by kernel_rfl) (ky (kQ (.cons K6 (.cons Py .nil)) _) mixed (J20 t free) (fun _=>rfl) sx (fun i=>11 - i) (fun _ _=>none) (fun _ _ _ _ _ h=>by cases h) (T20 t free) [] [16] 0 (Nat.zero_le _) L20 (Ol t free)) .nil
theorem PE (t:Int) (free:Bool) :(evFn (kZ [k61,k62] Tryz.f207) (Λ20 t free) Tryz.f207 (bo Lv (t,free,()))).sat fun v' rows=>leV v' (yw (t,free,())).v∧rows =(yw (t,free,())).rows:=by
 refine cast (by kernel_rfl) (?_ :((fW fun x=>none)∧(t=t∧free=free∧True∧True∧(↑wtab.length:Int) =(↑wtab.length:Int)∧(0:Int) =(↑(0:Nat):Int)∧True)∧RowD.mk (Ty.nm Nm.dismissal_way) wtab=RowD.mk (Ty.nm Nm.dismissal_way) wtab∧eZ t free (0:Nat)=[]∧True)∧(nat_lit 0=nat_lit 0∧nat_lit 0=nat_lit 0)∧ [RowD.mk (Ty.int IntKind.u8) (ns t free)]=[RowD.mk (Ty.int IntKind.u8) (ns t free)])
 exact ⟨⟨rfl,⟨rfl,rfl,trivial,trivial,rfl,rfl,trivial⟩,rfl,rfl,trivial⟩,⟨rfl,rfl⟩,rfl⟩
theorem Qs:CtrOK Tryz.prog KK 207 (ar KK Lv yw):=by
 refine ba (C:=kZ [k61,k62] Tryz.f207) (kQ (.cons K6 (.cons Py .nil)) _) mixed (fn:=Tryz.f207) Tryz.func207 (by kernel_rfl) (by kernel_rfl) (by kernel_rfl) (Λ:=fun x=>Λ20 x.1 x.2.1) ?_ ?_ ?_
 ·rintro ⟨t,free,⟨⟩⟩ _ _
  exact LoopsOK.at (by kernel_rfl) (KW t free)
 ·rintro ⟨t,free,⟨⟩⟩
  exact of_decide_eq_true (by kernel_rfl)
 ·rintro ⟨t,free,⟨⟩⟩ _ _
  exact PE t free
theorem Eu (xs:List Int) (v i:Int) (hi:0≤i):decide (idx xs v i≥0)=xn xs v:=by
 induction xs generalizing i with
 | nil=>simp [idx,xn]
 | cons x xs ih=>
  by_cases hv:v=x
  ·subst hv;simp [idx,xn,hi]
  ·have h1 :(v==x)=false:=by simpa using hv
   have h2:=ih (i+1) (by omega)
   simp only [idx,h1,cond_false]
   rw [h2]
   simp [xn,hv]
theorem PG (xs:List Int) (v:Int) :(evFn (kZ [k63] Tryz.f206) (fun _=>none) Tryz.f206 (bo Lw (xs,v,()))).sat fun v' rows=>leV v' (yx (xs,v,())).v∧rows =(yx (xs,v,())).rows:=by
 refine cast (by kernel_rfl) (?_:decide (idx xs v (0:Int)≥(0:Int))=xn xs v∧([]:List RowD)=[])
 exact ⟨Eu xs v 0 (Int.le_refl 0),rfl⟩
theorem Qt:CtrOK Tryz.prog KK 206 (ar KK Lw yx):=by
 refine ba (C:=kZ [k63] Tryz.f206) (kQ (.cons QA .nil) _) mixed (fn:=Tryz.f206) Tryz.func206 (by kernel_rfl) (by kernel_rfl) (by kernel_rfl) (Λ:=fun _ _=>none) ?_ ?_ ?_
 ·exact fun _ _ _ _ _ _ _ _ h=>by cases h
 ·rintro ⟨xs,v,⟨⟩⟩
  exact of_decide_eq_true (by kernel_rfl)
 ·rintro ⟨xs,v,⟨⟩⟩ _ _
  exact PG xs v
theorem PQ (d:Delivery) (w:dismissal_way) :(evFn (kZ [k89] Tryz.f208) (fun _=>none) Tryz.f208 (bo Ly (d,w,()))).sat fun v' rows=>leV v' (yH (d,w,())).v∧rows =(yH (d,w,())).rows:=by
 refine cast (by kernel_rfl) (?_ :((bif !w.6==lZ d.9 then true else bif !w.6 then d.9 !=(0:Int) else false)=true→false=fP d w∧([]:List RowD)=[])∧((bif !w.6==lZ d.9 then true else bif !w.6 then d.9 !=(0:Int) else false)=false→(bif d.10 ==(0:Int) then true else bif d.7 ==(6:Int) then bif lZ d.10 then d.10 != d.9 else false else false)=fP d w∧([]:List RowD)=[]))
 simp only [fP];grind
theorem Qz:CtrOK Tryz.prog KK 208 (ar KK Ly yH):=by
 refine ba (C:=kZ [k89] Tryz.f208) (kQ (.cons QH .nil) _) mixed (fn:=Tryz.f208) Tryz.func208 (by kernel_rfl) (by kernel_rfl) (by kernel_rfl) (Λ:=fun _ _=>none) ?_ ?_ ?_
 ·exact fun _ _ _ _ _ _ _ _ h=>by cases h
 ·rintro ⟨d,w,⟨⟩⟩
  exact of_decide_eq_true (by kernel_rfl)
 ·rintro ⟨d,w,⟨⟩⟩ _ _
  exact PQ d w
theorem PD (d:Delivery) (free:Bool) :(evFn (kZ [k57,k20,k21,k58] Tryz.f164) (fun _=>none) Tryz.f164 (bo psP (d,free,()))).sat fun v' rows=>leV v' (yu (d,free,())).v∧rows =(yu (d,free,())).rows:=by
 refine cast (by kernel_rfl) (?_ :((d.7 ==(0:Int))=true→((d.8 !=(0:Int))=true→(14:Int)=bD d free∧([]:List RowD)=[])∧((d.8 !=(0:Int))=false→((bif d.9 !=(0:Int) then true else bif d.10 !=(0:Int) then true else d.11)=true→(15:Int)=bD d free∧([]:List RowD)=[])∧((bif d.9 !=(0:Int) then true else bif d.10 !=(0:Int) then true else d.11)=false→(0:Int)=bD d free∧([]:List RowD)=[])))∧((d.7 ==(0:Int))=false→((!xn (ns d.1 free) d.7)=true→(13:Int)=bD d free∧([]:List RowD)=[])∧((!xn (ns d.1 free) d.7)=false→((bif !bif d.7 ==(6:Int) then true else d.7 ==(8:Int) then bif d.2 !=(0:Int) then true else d.3 !=(0:Int) else false)=true→(12:Int)=bD d free∧([]:List RowD)=[])∧((bif !bif d.7 ==(6:Int) then true else d.7 ==(8:Int) then bif d.2 !=(0:Int) then true else d.3 !=(0:Int) else false)=false→((bif d.8 !=(1:Int) then bif d.8 !=(2:Int) then true else !(ofW d.7).7 else false)=true→(14:Int)=bD d free∧([]:List RowD)=[])∧((bif d.8 !=(1:Int) then bif d.8 !=(2:Int) then true else !(ofW d.7).7 else false)=false→((!fP d (ofW d.7))=true→(15:Int)=bD d free∧([]:List RowD)=[])∧((!fP d (ofW d.7))=false→((bif d.11 then bif d.7 !=(2:Int) then d.7 !=(6:Int) else false else false)=true→(18:Int)=bD d free∧([]:List RowD)=[])∧((bif d.11 then bif d.7 !=(2:Int) then d.7 !=(6:Int) else false else false)=false→(0:Int)=bD d free∧([]:List RowD)=[])))))))
 simp only [bD,xn]
 repeat' first|refine And.intro ?_ ?_|intro _
 all_goals grind
theorem Pv:CtrOK Tryz.prog KK 164 (ar KK psP yu):=by
 refine ba (C:=kZ [k57,k20,k21,k58] Tryz.f164) (kQ (.cons Qy (.cons Qs (.cons Qt (.cons Qz .nil)))) _) mixed (fn:=Tryz.f164) Tryz.func164 (by kernel_rfl) (by kernel_rfl) (by kernel_rfl) (Λ:=fun _ _=>none) ?_ ?_ ?_
 ·exact fun _ _ _ _ _ _ _ _ h=>by cases h
 ·rintro ⟨d,free,⟨⟩⟩
  exact of_decide_eq_true (by kernel_rfl)
 ·rintro ⟨d,free,⟨⟩⟩ _ _
  exact PD d free
end Go.Proofs.YtffdpnmioidloaaGreatDoor
namespace Go.Proofs.YtffdpnmioidloaaGreatDoor
open Go Go.Mir
attribute [local irreducible] Go.Mir.RT.sat Go.Mir.evFn Go.Mir.stepObl
def lK (n:Int):Prop:= -9223372036854775808≤n∧n≤9223372036854775807
theorem gS {n:Int} (h:wfD (.int .i64) n):lK n:=by
 obtain ⟨S,w,cs,h⟩:=h
 cases h with|int h=>exact ⟨by have:=h.1;simpa [IntKind.min,IntKind.max,IntKind.signed,IntKind.bits] using this,by have:=h.2;simpa [IntKind.min,IntKind.max,IntKind.signed,IntKind.bits] using this⟩
theorem Cn {x:Innings} {p:Int} (hp:lK p) (h:bl x p=true):IntKind.i64.wrap (p - 1)=p - 1∧0≤p - 1∧p - 1 <(x.Subs.length:Int):=by
 simp only [bl,Bool.and_eq_true,decide_eq_true_eq] at h
 have:=hp.2
 exact ⟨dH (by omega) (by omega),by omega,by omega⟩
theorem PW (x:Innings) (p:Int) :(evFn (cf8 [] Tryz.f382) (fun _=>none) Tryz.f382 (bo jR (x,p,()))).sat fun v' rows=>leV v' (yN (x,p,())).v∧rows =(yN (x,p,())).rows:=by
 refine cast (by kernel_rfl) (?_ :(bif decide (p≥(1:Int)) then decide (p≤(↑x.21.length:Int)) else false)=bl x p∧([]:List RowD)=[])
 simp only [bl];grind
theorem ID:CtrOK Tryz.prog K8 382 (ar K8 jR yN):=by
 refine ba (C:=cf8 [] Tryz.f382) (bG (CtrsOK.nil) _) mixed (fn:=Tryz.f382) Tryz.func382 (by kernel_rfl) (by kernel_rfl) (by kernel_rfl) (Λ:=fun _ _=>none) ?_ ?_ ?_
 ·exact fun _ _ _ _ _ _ _ _ h=>by cases h
 ·rintro ⟨x,p,⟨⟩⟩
  exact of_decide_eq_true (by kernel_rfl)
 ·rintro ⟨x,p,⟨⟩⟩ hw hn
  exact PW x p
theorem PX (x:Innings) (p:Int) (hp:lK p) :(evFn (cf8 [k73] Tryz.f383) (fun _=>none) Tryz.f383 (bo jR (x,p,()))).sat fun v' rows=>leV v' (yO (x,p,())).v∧rows =(yO (x,p,())).rows:=by
 refine cast (by kernel_rfl) (?_ :((bl x p=true→((0:Int)≤IntKind.i64.wrap (p - (1:Int))∧IntKind.i64.wrap (p - (1:Int)) <(↑x.21.length:Int))∧True)∧(bl x p=false→True))∧(true=true→(bif bl x p then x.21.getD (IntKind.i64.wrap (p - (1:Int))).toNat (dflt Ty.bool) else false)=aU x p∧([]:List RowD)=[]))
 refine ⟨⟨fun h=>⟨?_,trivial⟩,fun _=>trivial⟩,fun _=>⟨?_,rfl⟩⟩
 ·obtain ⟨e,h1,h2⟩:=Cn hp h
  rw [e];exact ⟨h1,h2⟩
 ·cases h:bl x p with
  | false=>simp [aU,h]
  | true=>
   obtain ⟨e,h1,h2⟩:=Cn hp h
   rw [e];simp only [cond_true,aU,h,Bool.true_and];rfl
theorem K7:CtrOK Tryz.prog K8 383 (ar K8 jR yO):=by
 refine ba (C:=cf8 [k73] Tryz.f383) (bG (.cons ID .nil) _) mixed (fn:=Tryz.f383) Tryz.func383 (by kernel_rfl) (by kernel_rfl) (by kernel_rfl) (Λ:=fun _ _=>none) ?_ ?_ ?_
 ·exact fun _ _ _ _ _ _ _ _ h=>by cases h
 ·rintro ⟨x,p,⟨⟩⟩
  exact of_decide_eq_true (by kernel_rfl)
 ·rintro ⟨x,p,⟨⟩⟩ hw hn
  exact PX x p (gS (bf (aG hw)))
theorem BR {n:Nm} {x:n.T} (h:wfD (.nm n) x):wfD n.flds (n.to x):=by
 obtain ⟨S,w,cs,h⟩:=h
 cases h with|nm h=>exact ⟨_,_,_,h⟩
theorem pa {r:Rules} (h:wfD (.nm .Rules) r):r.Power.length≤aP:=
 dT (bf (aG (aG (aG (aG (aG (aG (aG (aG (aG (aG (aG (aG (aG (BR h)))))))))))))))
theorem Oo (r:Rules) (o:Int) (hx:r.Power.length≤aP) (i:Nat) (hi:Ex r o i) :(stepObl (J75 r o) (Ex r o) (fun i=>r.Power.length - i) i (T75 r o) (bs (cf8 [] Tryz.f397) (fun _=>none) (aH Tryz.f397 0) (J75 r o i)) (L75 i)).1:=by
 refine cast (by kernel_rfl) (?_ :(decide ((↑i:Int) <(↑r.14.length:Int))=true→((0:Int)≤(↑i:Int)∧(↑i:Int) <(↑r.14.length:Int))∧((bif decide ((r.14.getD (↑i:Int).toNat (dflt (Ty.nm Nm.Phase))).1≤IntKind.i64.wrap (o +(1:Int))) then decide (IntKind.i64.wrap (o +(1:Int))≤(r.14.getD (↑i:Int).toNat (dflt (Ty.nm Nm.Phase))).2) else false)=true→r.14.any (eO o)=true∧((r.14.getD (↑i:Int).toNat (dflt (Ty.nm Nm.Phase))).3=c7 r o∧True)∧True)∧((bif decide ((r.14.getD (↑i:Int).toNat (dflt (Ty.nm Nm.Phase))).1≤IntKind.i64.wrap (o +(1:Int))) then decide (IntKind.i64.wrap (o +(1:Int))≤(r.14.getD (↑i:Int).toNat (dflt (Ty.nm Nm.Phase))).2) else false)=false→Ex r o (i +(1:Nat))∧r.14.length - (i +(1:Nat))<r.14.length - i∧(o=o∧True∧RowD.mk (Ty.nm Nm.Phase) r.14=RowD.mk (Ty.nm Nm.Phase) r.14∧(↑r.14.length:Int) =(↑r.14.length:Int)∧IntKind.i64.wrap ((↑i:Int) +(1:Int)) =(↑(i +(1:Nat)):Int)∧True)∧(r.1=r.1∧r.2=r.2∧r.3=r.3∧r.4=r.4∧r.5=r.5∧r.6=r.6∧r.7=r.7∧r.8=r.8∧r.9=r.9∧r.10=r.10∧r.11=r.11∧r.12=r.12∧r.13=r.13∧RowD.mk (Ty.nm Nm.Phase) r.14=RowD.mk (Ty.nm Nm.Phase) r.14∧True)∧True))∧(decide ((↑i:Int) <(↑r.14.length:Int))=false→r.14.any (eO o)=false∧(True∧True)∧(r.1=r.1∧r.2=r.2∧r.3=r.3∧r.4=r.4∧r.5=r.5∧r.6=r.6∧r.7=r.7∧r.8=r.8∧r.9=r.9∧r.10=r.10∧r.11=r.11∧r.12=r.12∧r.13=r.13∧RowD.mk (Ty.nm Nm.Phase) r.14=RowD.mk (Ty.nm Nm.Phase) r.14∧True)∧True))
 have e :(i:Int).toNat=i:=by simp
 rw [e]
 generalize hw:r.Power.getD i (dflt (Ty.nm Nm.Phase))=w
 have hc :(bif decide (w.From≤IntKind.i64.wrap (o+1)) then decide (IntKind.i64.wrap (o+1)≤w.To) else false)=eO o w:=by simp only [eO];cases decide (w.From≤IntKind.i64.wrap (o+1)) <;> rfl
 have hb:r.Power.length≤140737488355328:=hx
 refine ⟨fun h1=>?_,fun h1=>?_⟩
 ·have h1:i<r.Power.length:=by simpa using h1
  have h3:r.Power[i]?=some w:=by rw [←hw];exact qV _ h1
  refine ⟨⟨by omega,by omega⟩,fun h2=>?_,fun h2=>?_⟩
  ·have h2:eO o w=true:=by rw [←hc];exact h2
   have h4:c7 r o=w.Outside:=by
    unfold c7
    rw [xd (eO o) r.Power i w h3 h2 hi.2];rfl
   have h5:r.Power.any (eO o)=true:=List.any_eq_true.2 ⟨w,List.mem_of_getElem? h3,h2⟩
   rw [h4]
   simp [h5]
  ·have h2:eO o w=false:=by rw [←hc];exact h2
   refine ⟨⟨by omega,fun y hy=>?_⟩,by omega,⟨rfl,trivial,rfl,rfl,?_,trivial⟩,by simp⟩
   ·rw [List.take_add_one,h3] at hy
    rcases List.mem_append.1 hy with hy|hy
    ·exact hi.2 y hy
    ·simp at hy;subst hy;exact h2
   ·rw [dH (by omega) (by omega)];omega
 ·have h1:r.Power.length≤i:=by simpa using h1
  have:r.Power.any (eO o)=false:=by
   rw [List.any_eq_false]
   intro x hx
   have:=hi.2 x (by rw [List.take_of_length_le h1];exact hx)
   simpa using this
  simp [this]
theorem NF (r:Rules) (o:Int) (hx:r.Power.length≤aP):LoopOK Tryz.prog Tryz.f397.ntmps (aH Tryz.f397 0) (cY ⟨[],[],48⟩ (J75 r o 0) (T75 r o)):=
 ky (bG (CtrsOK.nil) _) mixed (J75 r o) (fun _=>rfl) (Ex r o) (fun i=>r.Power.length - i) (fun _ _=>none) (fun _ _ _ _ _ h=>by cases h) (T75 r o) [] [] 0 (⟨Nat.zero_le _,by simp⟩) L75 (fun i hi=>Oo r o hx i hi)
theorem PY (r:Rules) (o:Int) (hx:r.Power.length≤aP) :(evFn (cf8 [] Tryz.f397) (Λ75 r o) Tryz.f397 (bo psR (r,o,()))).sat fun v' rows=>leV v' (yP (r,o,())).v∧rows =(yP (r,o,())).rows:=by
 refine cast (by kernel_rfl) (?_ :((fW fun x=>none)∧(o=o∧True∧RowD.mk (Ty.nm Nm.Phase) r.14=RowD.mk (Ty.nm Nm.Phase) r.14∧(↑r.14.length:Int) =(↑r.14.length:Int)∧(0:Int) =(↑(0:Nat):Int)∧True)∧(r.1=r.1∧r.2=r.2∧r.3=r.3∧r.4=r.4∧r.5=r.5∧r.6=r.6∧r.7=r.7∧r.8=r.8∧r.9=r.9∧r.10=r.10∧r.11=r.11∧r.12=r.12∧r.13=r.13∧RowD.mk (Ty.nm Nm.Phase) r.14=RowD.mk (Ty.nm Nm.Phase) r.14∧True)∧True)∧(r.14.any (eO o)=true→c7 r o=c7 r o∧([]:List RowD)=[])∧(r.14.any (eO o)=false→r.13=c7 r o∧([]:List RowD)=[]))
 have hN:r.Power.any (eO o)=false→c7 r o=r.Outside:=fun h1=>by
  unfold c7
  rw [List.find?_eq_none.2 fun x hx=>(List.any_eq_false.1 h1) x hx];rfl
 refine ⟨⟨rfl,⟨rfl,trivial,rfl,rfl,rfl,trivial⟩,by simp⟩,fun _=>by simp,fun h=>by rw [hN h];simp⟩
theorem QD:CtrOK Tryz.prog K8 397 (ar K8 psR yP):=by
 refine ba (C:=cf8 [] Tryz.f397) (bG (CtrsOK.nil) _) mixed (fn:=Tryz.f397) Tryz.func397 (by kernel_rfl) (by kernel_rfl) (by kernel_rfl) (Λ:=fun x=>Λ75 x.1 x.2.1) ?_ ?_ ?_
 ·rintro ⟨r,o,⟨⟩⟩ hw hn
  exact LoopsOK.at (by kernel_rfl) (.cons (by kernel_rfl) (NF r o (pa (bf hw))) .nil)
 ·rintro ⟨r,o,⟨⟩⟩
  exact of_decide_eq_true (by kernel_rfl)
 ·rintro ⟨r,o,⟨⟩⟩ hw hn
  exact PY r o (pa (bf hw))
theorem PH (r:Rules) (x:Innings) :(evFn (cf8 [k73,k74,k75] Tryz.f395) (fun _=>none) Tryz.f395 (bo A5 (r,x,()))).sat fun v' rows=>leV v' (yy (r,x,())).v∧rows =(yy (r,x,())).rows:=by
 refine cast (by kernel_rfl) (?_ :((bif !bl x x.19 then true else bif aU x x.19 then true else x.19==x.12)=true→(17:Int)=kI r x∧([]:List RowD)=[])∧((bif !bl x x.19 then true else bif aU x x.19 then true else x.19==x.12)=false→(decide (x.20>c7 r x.7)=true→(16:Int)=kI r x∧([]:List RowD)=[])∧(decide (x.20>c7 r x.7)=false→(0:Int)=kI r x∧([]:List RowD)=[])))
 simp only [kI]
 repeat' first|refine And.intro ?_ ?_|intro _
 all_goals first|rfl|grind
theorem Pw:CtrOK Tryz.prog K8 395 (ar K8 A5 yy):=by
 refine ba (C:=cf8 [k73,k74,k75] Tryz.f395) (bG (.cons ID (.cons K7 (.cons QD .nil))) _) mixed (fn:=Tryz.f395) Tryz.func395 (by kernel_rfl) (by kernel_rfl) (by kernel_rfl) (Λ:=fun _ _=>none) ?_ ?_ ?_
 ·exact fun _ _ _ _ _ _ _ _ h=>by cases h
 ·rintro ⟨r,x,⟨⟩⟩
  exact of_decide_eq_true (by kernel_rfl)
 ·rintro ⟨r,x,⟨⟩⟩ hw hn
  exact PH r x
theorem PI (x:Innings) (d:Delivery) :(evFn (cf8 [k73,k74] Tryz.f396) (fun _=>none) Tryz.f396 (bo LG (x,d,()))).sat fun v' rows=>leV v' (yz (x,d,())).v∧rows =(yz (x,d,())).rows:=by
 refine cast (by kernel_rfl) (?_ :((decide (d.9 >(0:Int))=true→((!bl x d.9)=true→(3:Int)=iL x d∧([]:List RowD)=[])∧((!bl x d.9)=false→((!d.11==aU x d.9)=true→(18:Int)=iL x d∧([]:List RowD)=[])∧((!d.11==aU x d.9)=false→True)))∧(decide (d.9 >(0:Int))=false→True))∧((bif decide (d.9 >(0:Int)) then bif !bl x d.9 then false else !!d.11==aU x d.9 else true)=true→((decide (d.10 >(0:Int))=true→((!bl x d.10)=true→(3:Int)=iL x d∧([]:List RowD)=[])∧((!bl x d.10)=false→(aU x d.10=true→(18:Int)=iL x d∧([]:List RowD)=[])∧(aU x d.10=false→True)))∧(decide (d.10 >(0:Int))=false→True))∧((bif decide (d.10 >(0:Int)) then bif !bl x d.10 then false else !aU x d.10 else true)=true→((bif d.7 ==(4:Int) then (if (0:Int)>d.9 then (0:Int) else d.9) != x.19 else false)=true→(17:Int)=iL x d∧([]:List RowD)=[])∧((bif d.7 ==(4:Int) then (if (0:Int)>d.9 then (0:Int) else d.9) != x.19 else false)=false→(0:Int)=iL x d∧([]:List RowD)=[]))))
 have hm:xD d.Fielder 0=if (0:Int)>d.Fielder then 0 else d.Fielder:=rfl
 simp only [iL,Cx,Cy,hm]
 repeat' first|refine And.intro ?_ ?_|intro _
 all_goals first|trivial|rfl|grind
theorem Px:CtrOK Tryz.prog K8 396 (ar K8 LG yz):=by
 refine ba (C:=cf8 [k73,k74] Tryz.f396) (bG (.cons ID (.cons K7 .nil)) _) mixed (fn:=Tryz.f396) Tryz.func396 (by kernel_rfl) (by kernel_rfl) (by kernel_rfl) (Λ:=fun _ _=>none) ?_ ?_ ?_
 ·exact fun _ _ _ _ _ _ _ _ h=>by cases h
 ·rintro ⟨x,d,⟨⟩⟩
  exact of_decide_eq_true (by kernel_rfl)
 ·rintro ⟨x,d,⟨⟩⟩ hw hn
  exact PI x d
theorem PJ (x:List Bool) (hs:x.length≤1000000) :(evFn (cf8 [] Tryz.f305) (fun _=>none) Tryz.f305 (bo Lx (x,()))).sat fun v' rows=>leV v' (yA (x,())).v∧rows =(yA (x,())).rows:=by
 refine cast (by kernel_rfl) (?_ :(x.isEmpty=true→(nat_lit 0=nat_lit 0∧nat_lit 0=nat_lit 0)∧ [RowD.mk Ty.bool []]=[RowD.mk Ty.bool x])∧((0:Nat)+x.length) *(1:Nat)≤(70368744177664:Nat)∧(nat_lit 0=nat_lit 0∧nat_lit 0=nat_lit 0)∧ [RowD.mk Ty.bool ([]++x)]=[RowD.mk Ty.bool x])
 refine ⟨fun h=>⟨⟨rfl,rfl⟩,?_⟩,?_,⟨rfl,rfl⟩,rfl⟩
 ·have:x=[]:=List.isEmpty_iff.1 h
  subst this;rfl
 ·omega
theorem K4:CtrOK Tryz.prog K8 305 (ar K8 Lx yA):=by
 refine ba (C:=cf8 [] Tryz.f305) (bG (CtrsOK.nil) _) mixed (fn:=Tryz.f305) Tryz.func305 (by kernel_rfl) (by kernel_rfl) (by kernel_rfl) (Λ:=fun _ _=>none) ?_ ?_ ?_
 ·exact fun _ _ _ _ _ _ _ _ h=>by cases h
 ·rintro ⟨x,⟨⟩⟩
  exact of_decide_eq_true (by kernel_rfl)
 ·rintro ⟨x,⟨⟩⟩ hw hn
  exact PJ x (hn _ (List.mem_singleton.2 rfl))
theorem P7 (x:List Int) (hs:x.length≤1000000) :(evFn (cf8 [] Tryz.f303) (fun _=>none) Tryz.f303 (bo LC (x,()))).sat fun v' rows=>leV v' (yW (x,())).v∧rows =(yW (x,())).rows:=by
 refine cast (by kernel_rfl) (?_ :(x.isEmpty=true→(nat_lit 0=nat_lit 0∧nat_lit 0=nat_lit 0)∧ [RowD.mk (Ty.int IntKind.u8) []]=[RowD.mk (Ty.int IntKind.u8) x])∧((0:Nat)+x.length) *(1:Nat)≤(70368744177664:Nat)∧(nat_lit 0=nat_lit 0∧nat_lit 0=nat_lit 0)∧ [RowD.mk (Ty.int IntKind.u8) ([]++x)]=[RowD.mk (Ty.int IntKind.u8) x])
 refine ⟨fun h=>⟨⟨rfl,rfl⟩,?_⟩,?_,⟨rfl,rfl⟩,rfl⟩
 ·have:x=[]:=List.isEmpty_iff.1 h
  subst this;rfl
 ·omega
theorem K9:CtrOK Tryz.prog K8 303 (ar K8 LC yW):=by
 refine ba (C:=cf8 [] Tryz.f303) (bG (CtrsOK.nil) _) mixed (fn:=Tryz.f303) Tryz.func303 (by kernel_rfl) (by kernel_rfl) (by kernel_rfl) (Λ:=fun _ _=>none) ?_ ?_ ?_
 ·exact fun _ _ _ _ _ _ _ _ h=>by cases h
 ·rintro ⟨x,⟨⟩⟩
  exact of_decide_eq_true (by kernel_rfl)
 ·rintro ⟨x,⟨⟩⟩ hw hn
  exact P7 x (hn _ (List.mem_singleton.2 rfl))
theorem P8 (x:List Int) (hs:x.length≤1000000) :(evFn (cf8 [] Tryz.f304) (fun _=>none) Tryz.f304 (bo LD (x,()))).sat fun v' rows=>leV v' (yX (x,())).v∧rows =(yX (x,())).rows:=by
 refine cast (by kernel_rfl) (?_ :(x.isEmpty=true→(nat_lit 0=nat_lit 0∧nat_lit 0=nat_lit 0)∧ [RowD.mk (Ty.int IntKind.i64) []]=[RowD.mk (Ty.int IntKind.i64) x])∧((0:Nat)+x.length) *(8:Nat)≤(70368744177664:Nat)∧(nat_lit 0=nat_lit 0∧nat_lit 0=nat_lit 0)∧ [RowD.mk (Ty.int IntKind.i64) ([]++x)]=[RowD.mk (Ty.int IntKind.i64) x])
 refine ⟨fun h=>⟨⟨rfl,rfl⟩,?_⟩,?_,⟨rfl,rfl⟩,rfl⟩
 ·have:x=[]:=List.isEmpty_iff.1 h
  subst this;rfl
 ·omega
theorem La:CtrOK Tryz.prog K8 304 (ar K8 LD yX):=by
 refine ba (C:=cf8 [] Tryz.f304) (bG (CtrsOK.nil) _) mixed (fn:=Tryz.f304) Tryz.func304 (by kernel_rfl) (by kernel_rfl) (by kernel_rfl) (Λ:=fun _ _=>none) ?_ ?_ ?_
 ·exact fun _ _ _ _ _ _ _ _ h=>by cases h
 ·rintro ⟨x,⟨⟩⟩
  exact of_decide_eq_true (by kernel_rfl)
 ·rintro ⟨x,⟨⟩⟩ hw hn
  exact P8 x (hn _ (List.mem_singleton.2 rfl))
theorem PZ (x:Innings) (hs:ah x) :(evFn (cf8 [k45,k90,k91] Tryz.f381) (fun _=>none) Tryz.f381 (bo psI (x,()))).sat fun v' rows=>leV v' (gP (x,())).v∧rows =(gP (x,())).rows:=by
 refine cast (by kernel_rfl) (?_:x.11.length≤(1000000:Nat)∧x.13.length≤(1000000:Nat)∧x.14.length≤(1000000:Nat)∧x.16.length≤(1000000:Nat)∧x.21.length≤(1000000:Nat)∧(x.1=x.1∧x.2=x.2∧x.3=x.3∧x.4=x.4∧x.5=x.5∧x.6.1=x.6.1∧x.6.2=x.6.2∧x.6.3=x.6.3∧x.6.4=x.6.4∧x.6.5=x.6.5∧x.7=x.7∧x.8=x.8∧x.9=x.9∧x.10=x.10∧(nat_lit 0=nat_lit 0∧nat_lit 0=nat_lit 0)∧x.12=x.12∧(nat_lit 1=nat_lit 1∧nat_lit 1=nat_lit 1)∧(nat_lit 2=nat_lit 2∧nat_lit 2=nat_lit 2)∧x.15=x.15∧(nat_lit 3=nat_lit 3∧nat_lit 3=nat_lit 3)∧x.17=x.17∧x.18=x.18∧x.19=x.19∧x.20=x.20∧(nat_lit 4=nat_lit 4∧nat_lit 4=nat_lit 4)∧x.22.1=x.22.1∧x.22.2.1=x.22.2.1∧x.23=x.23∧True)∧ [RowD.mk (Ty.int IntKind.u8) x.11,RowD.mk (Ty.int IntKind.i64) x.13,RowD.mk (Ty.int IntKind.i64) x.14,RowD.mk (Ty.int IntKind.i64) x.16,RowD.mk Ty.bool x.21]=[RowD.mk (Ty.int IntKind.u8) x.11,RowD.mk (Ty.int IntKind.i64) x.13,RowD.mk (Ty.int IntKind.i64) x.14,RowD.mk (Ty.int IntKind.i64) x.16,RowD.mk Ty.bool x.21])
 obtain ⟨h1,h2,h3,h4,h5⟩:=hs
 simp [h1,h2,h3,h4,h5]
theorem NV:CtrOK Tryz.prog K8 381 (ar K8 psI gP):=by
 refine ba (C:=cf8 [k45,k90,k91] Tryz.f381) (bG (.cons K4 (.cons K9 (.cons La .nil))) _) mixed (fn:=Tryz.f381) Tryz.func381 (by kernel_rfl) (by kernel_rfl) (by kernel_rfl) (Λ:=fun _ _=>none) ?_ ?_ ?_
 ·exact fun _ _ _ _ _ _ _ _ h=>by cases h
 ·rintro ⟨x,⟨⟩⟩
  exact of_decide_eq_true (by kernel_rfl)
 ·rintro ⟨x,⟨⟩⟩ hw hn
  exact PZ x (hn _ (List.mem_singleton.2 rfl))
theorem PU (x:Innings) (p:Int) (hs:ah x) :(evFn (cf8 [k73,k74,k78] Tryz.f348) (fun _=>none) Tryz.f348 (bo jR (x,p,()))).sat fun v' rows=>leV v' (yL (x,p,())).v∧rows =(yL (x,p,())).rows:=by
 refine cast (by kernel_rfl) (?_:ah x∧((!bl x p)=true→((x.1 =(ai x p).1∧x.2 =(ai x p).2∧x.3 =(ai x p).3∧x.4 =(ai x p).4∧x.5 =(ai x p).5∧x.6.1 =(ai x p).6.1∧x.6.2 =(ai x p).6.2∧x.6.3 =(ai x p).6.3∧x.6.4 =(ai x p).6.4∧x.6.5 =(ai x p).6.5∧x.7 =(ai x p).7∧x.8 =(ai x p).8∧x.9 =(ai x p).9∧x.10 =(ai x p).10∧(nat_lit 0=nat_lit 0∧nat_lit 0=nat_lit 0)∧x.12 =(ai x p).12∧(nat_lit 1=nat_lit 1∧nat_lit 1=nat_lit 1)∧(nat_lit 2=nat_lit 2∧nat_lit 2=nat_lit 2)∧x.15 =(ai x p).15∧(nat_lit 3=nat_lit 3∧nat_lit 3=nat_lit 3)∧x.17 =(ai x p).17∧x.18 =(ai x p).18∧x.19 =(ai x p).19∧x.20 =(ai x p).20∧(nat_lit 4=nat_lit 4∧nat_lit 4=nat_lit 4)∧x.22.1 =(ai x p).22.1∧x.22.2.1 =(ai x p).22.2.1∧x.23 =(ai x p).23∧True)∧(3:Int)=dw x p∧True)∧ [RowD.mk (Ty.int IntKind.u8) x.11,RowD.mk (Ty.int IntKind.i64) x.13,RowD.mk (Ty.int IntKind.i64) x.14,RowD.mk (Ty.int IntKind.i64) x.16,RowD.mk Ty.bool x.21]=[RowD.mk (Ty.int IntKind.u8) (ai x p).11,RowD.mk (Ty.int IntKind.i64) (ai x p).13,RowD.mk (Ty.int IntKind.i64) (ai x p).14,RowD.mk (Ty.int IntKind.i64) (ai x p).16,RowD.mk Ty.bool (ai x p).21])∧((!bl x p)=false→(aU x p=true→((x.1 =(ai x p).1∧x.2 =(ai x p).2∧x.3 =(ai x p).3∧x.4 =(ai x p).4∧x.5 =(ai x p).5∧x.6.1 =(ai x p).6.1∧x.6.2 =(ai x p).6.2∧x.6.3 =(ai x p).6.3∧x.6.4 =(ai x p).6.4∧x.6.5 =(ai x p).6.5∧x.7 =(ai x p).7∧x.8 =(ai x p).8∧x.9 =(ai x p).9∧x.10 =(ai x p).10∧(nat_lit 0=nat_lit 0∧nat_lit 0=nat_lit 0)∧x.12 =(ai x p).12∧(nat_lit 1=nat_lit 1∧nat_lit 1=nat_lit 1)∧(nat_lit 2=nat_lit 2∧nat_lit 2=nat_lit 2)∧x.15 =(ai x p).15∧(nat_lit 3=nat_lit 3∧nat_lit 3=nat_lit 3)∧x.17 =(ai x p).17∧x.18 =(ai x p).18∧x.19 =(ai x p).19∧x.20 =(ai x p).20∧(nat_lit 4=nat_lit 4∧nat_lit 4=nat_lit 4)∧x.22.1 =(ai x p).22.1∧x.22.2.1 =(ai x p).22.2.1∧x.23 =(ai x p).23∧True)∧(18:Int)=dw x p∧True)∧ [RowD.mk (Ty.int IntKind.u8) x.11,RowD.mk (Ty.int IntKind.i64) x.13,RowD.mk (Ty.int IntKind.i64) x.14,RowD.mk (Ty.int IntKind.i64) x.16,RowD.mk Ty.bool x.21]=[RowD.mk (Ty.int IntKind.u8) (ai x p).11,RowD.mk (Ty.int IntKind.i64) (ai x p).13,RowD.mk (Ty.int IntKind.i64) (ai x p).14,RowD.mk (Ty.int IntKind.i64) (ai x p).16,RowD.mk Ty.bool (ai x p).21])∧(aU x p=false→((bif p==x.12 then true else p==x.19)=true→((x.1 =(ai x p).1∧x.2 =(ai x p).2∧x.3 =(ai x p).3∧x.4 =(ai x p).4∧x.5 =(ai x p).5∧x.6.1 =(ai x p).6.1∧x.6.2 =(ai x p).6.2∧x.6.3 =(ai x p).6.3∧x.6.4 =(ai x p).6.4∧x.6.5 =(ai x p).6.5∧x.7 =(ai x p).7∧x.8 =(ai x p).8∧x.9 =(ai x p).9∧x.10 =(ai x p).10∧(nat_lit 0=nat_lit 0∧nat_lit 0=nat_lit 0)∧x.12 =(ai x p).12∧(nat_lit 1=nat_lit 1∧nat_lit 1=nat_lit 1)∧(nat_lit 2=nat_lit 2∧nat_lit 2=nat_lit 2)∧x.15 =(ai x p).15∧(nat_lit 3=nat_lit 3∧nat_lit 3=nat_lit 3)∧x.17 =(ai x p).17∧x.18 =(ai x p).18∧x.19 =(ai x p).19∧x.20 =(ai x p).20∧(nat_lit 4=nat_lit 4∧nat_lit 4=nat_lit 4)∧x.22.1 =(ai x p).22.1∧x.22.2.1 =(ai x p).22.2.1∧x.23 =(ai x p).23∧True)∧(17:Int)=dw x p∧True)∧ [RowD.mk (Ty.int IntKind.u8) x.11,RowD.mk (Ty.int IntKind.i64) x.13,RowD.mk (Ty.int IntKind.i64) x.14,RowD.mk (Ty.int IntKind.i64) x.16,RowD.mk Ty.bool x.21]=[RowD.mk (Ty.int IntKind.u8) (ai x p).11,RowD.mk (Ty.int IntKind.i64) (ai x p).13,RowD.mk (Ty.int IntKind.i64) (ai x p).14,RowD.mk (Ty.int IntKind.i64) (ai x p).16,RowD.mk Ty.bool (ai x p).21])∧((bif p==x.12 then true else p==x.19)=false→((x.1 =(ai x p).1∧x.2 =(ai x p).2∧x.3 =(ai x p).3∧x.4 =(ai x p).4∧x.5 =(ai x p).5∧x.6.1 =(ai x p).6.1∧x.6.2 =(ai x p).6.2∧x.6.3 =(ai x p).6.3∧x.6.4 =(ai x p).6.4∧x.6.5 =(ai x p).6.5∧x.7 =(ai x p).7∧x.8 =(ai x p).8∧x.9 =(ai x p).9∧x.10 =(ai x p).10∧(nat_lit 0=nat_lit 0∧nat_lit 0=nat_lit 0)∧x.12 =(ai x p).12∧(nat_lit 1=nat_lit 1∧nat_lit 1=nat_lit 1)∧(nat_lit 2=nat_lit 2∧nat_lit 2=nat_lit 2)∧x.15 =(ai x p).15∧(nat_lit 3=nat_lit 3∧nat_lit 3=nat_lit 3)∧x.17 =(ai x p).17∧x.18 =(ai x p).18∧p =(ai x p).19∧x.20 =(ai x p).20∧(nat_lit 4=nat_lit 4∧nat_lit 4=nat_lit 4)∧x.22.1 =(ai x p).22.1∧x.22.2.1 =(ai x p).22.2.1∧x.23 =(ai x p).23∧True)∧(0:Int)=dw x p∧True)∧ [RowD.mk (Ty.int IntKind.u8) x.11,RowD.mk (Ty.int IntKind.i64) x.13,RowD.mk (Ty.int IntKind.i64) x.14,RowD.mk (Ty.int IntKind.i64) x.16,RowD.mk Ty.bool x.21]=[RowD.mk (Ty.int IntKind.u8) (ai x p).11,RowD.mk (Ty.int IntKind.i64) (ai x p).13,RowD.mk (Ty.int IntKind.i64) (ai x p).14,RowD.mk (Ty.int IntKind.i64) (ai x p).16,RowD.mk Ty.bool (ai x p).21]))))
 refine ⟨hs,fun h1=>?_,fun h1=>⟨fun h2=>?_,fun h2=>⟨fun h3=>?_,fun h3=>?_⟩⟩⟩
 ·have k:bl x p=false:=by simpa using h1
  have e:ai x p=x:=by simp [ai,k]
  have l:dw x p=3:=by simp [dw,k]
  rw [e,l];simp
 ·have k:bl x p=true:=by simpa using h1
  have e:ai x p=x:=by simp [ai,k,h2]
  have l:dw x p=18:=by simp [dw,k,h2]
  rw [e,l];simp
 ·have k:bl x p=true:=by simpa using h1
  have h4 :(p==x.Bowler||p==x.Keeper)=true:=by rw [←h3];cases p==x.Bowler <;> rfl
  have e:ai x p=x:=by simp only [ai,k,h2,h4];simp
  have l:dw x p=17:=by simp only [dw,k,h2,h4];simp
  rw [e,l];simp
 ·have k:bl x p=true:=by simpa using h1
  have h4 :(p==x.Bowler||p==x.Keeper)=false:=by rw [←h3];cases p==x.Bowler <;> rfl
  have e:ai x p={ x with Keeper:=p }:=by simp only [ai,k,h2,h4];simp
  have l:dw x p=0:=by simp only [dw,k,h2,h4];simp
  rw [e,l];simp
theorem QB:CtrOK Tryz.prog K8 348 (ar K8 jR yL):=by
 refine ba (C:=cf8 [k73,k74,k78] Tryz.f348) (bG (.cons ID (.cons K7 (.cons NV .nil))) _) mixed (fn:=Tryz.f348) Tryz.func348 (by kernel_rfl) (by kernel_rfl) (by kernel_rfl) (Λ:=fun _ _=>none) ?_ ?_ ?_
 ·exact fun _ _ _ _ _ _ _ _ h=>by cases h
 ·rintro ⟨x,p,⟨⟩⟩
  exact of_decide_eq_true (by kernel_rfl)
 ·rintro ⟨x,p,⟨⟩⟩ hw hn
  exact PU x p (hn _ (List.mem_singleton.2 rfl))
theorem PK (x:Innings) (p:Int) (on:Bool) (hs:ah x) (hp:lK p) :(evFn (cf8 [k73,k74,k78] Tryz.f349) (fun _=>none) Tryz.f349 (bo Fc (x,p,on,()))).sat fun v' rows=>leV v' (yB (x,p,on,())).v∧rows =(yB (x,p,on,())).rows:=by
 refine cast (by kernel_rfl) (?_:ah x∧((!bl x p)=true→((x.1 =(ax x p on).1∧x.2 =(ax x p on).2∧x.3 =(ax x p on).3∧x.4 =(ax x p on).4∧x.5 =(ax x p on).5∧x.6.1 =(ax x p on).6.1∧x.6.2 =(ax x p on).6.2∧x.6.3 =(ax x p on).6.3∧x.6.4 =(ax x p on).6.4∧x.6.5 =(ax x p on).6.5∧x.7 =(ax x p on).7∧x.8 =(ax x p on).8∧x.9 =(ax x p on).9∧x.10 =(ax x p on).10∧(nat_lit 0=nat_lit 0∧nat_lit 0=nat_lit 0)∧x.12 =(ax x p on).12∧(nat_lit 1=nat_lit 1∧nat_lit 1=nat_lit 1)∧(nat_lit 2=nat_lit 2∧nat_lit 2=nat_lit 2)∧x.15 =(ax x p on).15∧(nat_lit 3=nat_lit 3∧nat_lit 3=nat_lit 3)∧x.17 =(ax x p on).17∧x.18 =(ax x p on).18∧x.19 =(ax x p on).19∧x.20 =(ax x p on).20∧(nat_lit 4=nat_lit 4∧nat_lit 4=nat_lit 4)∧x.22.1 =(ax x p on).22.1∧x.22.2.1 =(ax x p on).22.2.1∧x.23 =(ax x p on).23∧True)∧(3:Int)=gQ x p on∧True)∧ [RowD.mk (Ty.int IntKind.u8) x.11,RowD.mk (Ty.int IntKind.i64) x.13,RowD.mk (Ty.int IntKind.i64) x.14,RowD.mk (Ty.int IntKind.i64) x.16,RowD.mk Ty.bool x.21]=[RowD.mk (Ty.int IntKind.u8) (ax x p on).11,RowD.mk (Ty.int IntKind.i64) (ax x p on).13,RowD.mk (Ty.int IntKind.i64) (ax x p on).14,RowD.mk (Ty.int IntKind.i64) (ax x p on).16,RowD.mk Ty.bool (ax x p on).21])∧((!bl x p)=false→((aU x p==on)=true→((x.1 =(ax x p on).1∧x.2 =(ax x p on).2∧x.3 =(ax x p on).3∧x.4 =(ax x p on).4∧x.5 =(ax x p on).5∧x.6.1 =(ax x p on).6.1∧x.6.2 =(ax x p on).6.2∧x.6.3 =(ax x p on).6.3∧x.6.4 =(ax x p on).6.4∧x.6.5 =(ax x p on).6.5∧x.7 =(ax x p on).7∧x.8 =(ax x p on).8∧x.9 =(ax x p on).9∧x.10 =(ax x p on).10∧(nat_lit 0=nat_lit 0∧nat_lit 0=nat_lit 0)∧x.12 =(ax x p on).12∧(nat_lit 1=nat_lit 1∧nat_lit 1=nat_lit 1)∧(nat_lit 2=nat_lit 2∧nat_lit 2=nat_lit 2)∧x.15 =(ax x p on).15∧(nat_lit 3=nat_lit 3∧nat_lit 3=nat_lit 3)∧x.17 =(ax x p on).17∧x.18 =(ax x p on).18∧x.19 =(ax x p on).19∧x.20 =(ax x p on).20∧(nat_lit 4=nat_lit 4∧nat_lit 4=nat_lit 4)∧x.22.1 =(ax x p on).22.1∧x.22.2.1 =(ax x p on).22.2.1∧x.23 =(ax x p on).23∧True)∧(18:Int)=gQ x p on∧True)∧ [RowD.mk (Ty.int IntKind.u8) x.11,RowD.mk (Ty.int IntKind.i64) x.13,RowD.mk (Ty.int IntKind.i64) x.14,RowD.mk (Ty.int IntKind.i64) x.16,RowD.mk Ty.bool x.21]=[RowD.mk (Ty.int IntKind.u8) (ax x p on).11,RowD.mk (Ty.int IntKind.i64) (ax x p on).13,RowD.mk (Ty.int IntKind.i64) (ax x p on).14,RowD.mk (Ty.int IntKind.i64) (ax x p on).16,RowD.mk Ty.bool (ax x p on).21])∧((aU x p==on)=false→((0:Int)≤IntKind.i64.wrap (p - (1:Int))∧IntKind.i64.wrap (p - (1:Int)) <(↑x.21.length:Int))∧(((bif bif on then (bif bif on then x.19==p else false then x.12 else x.12)==p else false then bif bif on then x.19==p else false then x.1 else x.1 else bif bif on then x.19==p else false then x.1 else x.1) =(ax x p on).1∧(bif bif on then (bif bif on then x.19==p else false then x.12 else x.12)==p else false then bif bif on then x.19==p else false then x.2 else x.2 else bif bif on then x.19==p else false then x.2 else x.2) =(ax x p on).2∧(bif bif on then (bif bif on then x.19==p else false then x.12 else x.12)==p else false then bif bif on then x.19==p else false then x.3 else x.3 else bif bif on then x.19==p else false then x.3 else x.3) =(ax x p on).3∧(bif bif on then (bif bif on then x.19==p else false then x.12 else x.12)==p else false then bif bif on then x.19==p else false then x.4 else x.4 else bif bif on then x.19==p else false then x.4 else x.4) =(ax x p on).4∧(bif bif on then (bif bif on then x.19==p else false then x.12 else x.12)==p else false then bif bif on then x.19==p else false then x.5 else x.5 else bif bif on then x.19==p else false then x.5 else x.5) =(ax x p on).5∧(bif bif on then (bif bif on then x.19==p else false then x.12 else x.12)==p else false then bif bif on then x.19==p else false then x.6.1 else x.6.1 else bif bif on then x.19==p else false then x.6.1 else x.6.1) =(ax x p on).6.1∧(bif bif on then (bif bif on then x.19==p else false then x.12 else x.12)==p else false then bif bif on then x.19==p else false then x.6.2 else x.6.2 else bif bif on then x.19==p else false then x.6.2 else x.6.2) =(ax x p on).6.2∧(bif bif on then (bif bif on then x.19==p else false then x.12 else x.12)==p else false then bif bif on then x.19==p else false then x.6.3 else x.6.3 else bif bif on then x.19==p else false then x.6.3 else x.6.3) =(ax x p on).6.3∧(bif bif on then (bif bif on then x.19==p else false then x.12 else x.12)==p else false then bif bif on then x.19==p else false then x.6.4 else x.6.4 else bif bif on then x.19==p else false then x.6.4 else x.6.4) =(ax x p on).6.4∧(bif bif on then (bif bif on then x.19==p else false then x.12 else x.12)==p else false then bif bif on then x.19==p else false then x.6.5 else x.6.5 else bif bif on then x.19==p else false then x.6.5 else x.6.5) =(ax x p on).6.5∧(bif bif on then (bif bif on then x.19==p else false then x.12 else x.12)==p else false then bif bif on then x.19==p else false then x.7 else x.7 else bif bif on then x.19==p else false then x.7 else x.7) =(ax x p on).7∧(bif bif on then (bif bif on then x.19==p else false then x.12 else x.12)==p else false then bif bif on then x.19==p else false then x.8 else x.8 else bif bif on then x.19==p else false then x.8 else x.8) =(ax x p on).8∧(bif bif on then (bif bif on then x.19==p else false then x.12 else x.12)==p else false then bif bif on then x.19==p else false then x.9 else x.9 else bif bif on then x.19==p else false then x.9 else x.9) =(ax x p on).9∧(bif bif on then (bif bif on then x.19==p else false then x.12 else x.12)==p else false then bif bif on then x.19==p else false then x.10 else x.10 else bif bif on then x.19==p else false then x.10 else x.10) =(ax x p on).10∧(nat_lit 0=nat_lit 0∧nat_lit 0=nat_lit 0)∧(bif bif on then (bif bif on then x.19==p else false then x.12 else x.12)==p else false then (0:Int) else bif bif on then x.19==p else false then x.12 else x.12) =(ax x p on).12∧(nat_lit 1=nat_lit 1∧nat_lit 1=nat_lit 1)∧(nat_lit 2=nat_lit 2∧nat_lit 2=nat_lit 2)∧(bif bif on then (bif bif on then x.19==p else false then x.12 else x.12)==p else false then bif bif on then x.19==p else false then x.15 else x.15 else bif bif on then x.19==p else false then x.15 else x.15) =(ax x p on).15∧(nat_lit 3=nat_lit 3∧nat_lit 3=nat_lit 3)∧(bif bif on then (bif bif on then x.19==p else false then x.12 else x.12)==p else false then bif bif on then x.19==p else false then x.17 else x.17 else bif bif on then x.19==p else false then x.17 else x.17) =(ax x p on).17∧(bif bif on then (bif bif on then x.19==p else false then x.12 else x.12)==p else false then bif bif on then x.19==p else false then x.18 else x.18 else bif bif on then x.19==p else false then x.18 else x.18) =(ax x p on).18∧(bif bif on then (bif bif on then x.19==p else false then x.12 else x.12)==p else false then bif bif on then x.19==p else false then (0:Int) else x.19 else bif bif on then x.19==p else false then (0:Int) else x.19) =(ax x p on).19∧(bif bif on then (bif bif on then x.19==p else false then x.12 else x.12)==p else false then bif bif on then x.19==p else false then x.20 else x.20 else bif bif on then x.19==p else false then x.20 else x.20) =(ax x p on).20∧(nat_lit 4=nat_lit 4∧nat_lit 4=nat_lit 4)∧(bif bif on then (bif bif on then x.19==p else false then x.12 else x.12)==p else false then bif bif on then x.19==p else false then x.22.1 else x.22.1 else bif bif on then x.19==p else false then x.22.1 else x.22.1) =(ax x p on).22.1∧(bif bif on then (bif bif on then x.19==p else false then x.12 else x.12)==p else false then bif bif on then x.19==p else false then x.22.2.1 else x.22.2.1 else bif bif on then x.19==p else false then x.22.2.1 else x.22.2.1) =(ax x p on).22.2.1∧(bif bif on then (bif bif on then x.19==p else false then x.12 else x.12)==p else false then bif bif on then x.19==p else false then x.23 else x.23 else bif bif on then x.19==p else false then x.23 else x.23) =(ax x p on).23∧True)∧(0:Int)=gQ x p on∧True)∧ [RowD.mk (Ty.int IntKind.u8) x.11,RowD.mk (Ty.int IntKind.i64) x.13,RowD.mk (Ty.int IntKind.i64) x.14,RowD.mk (Ty.int IntKind.i64) x.16,RowD.mk Ty.bool (x.21.set (IntKind.i64.wrap (p - (1:Int))).toNat on)]=[RowD.mk (Ty.int IntKind.u8) (ax x p on).11,RowD.mk (Ty.int IntKind.i64) (ax x p on).13,RowD.mk (Ty.int IntKind.i64) (ax x p on).14,RowD.mk (Ty.int IntKind.i64) (ax x p on).16,RowD.mk Ty.bool (ax x p on).21])))
 refine ⟨hs,fun h1=>?_,fun h1=>⟨fun h2=>?_,fun h2=>?_⟩⟩
 ·have k:bl x p=false:=by simpa using h1
  have e:ax x p on=x:=by simp [ax,k]
  have l:gQ x p on=3:=by simp [gQ,k]
  rw [e,l];simp
 ·have k:bl x p=true:=by simpa using h1
  have e:ax x p on=x:=by simp only [ax,k,h2];simp
  have l:gQ x p on=18:=by simp only [gQ,k,h2];simp
  rw [e,l];simp
 ·have k:bl x p=true:=by simpa using h1
  have e:ax x p on=pM x p on:=by simp only [ax,k,h2];simp
  have l:gQ x p on=0:=by simp only [gQ,k,h2];simp
  obtain ⟨ew,a,b⟩:=Cn hp k
  rw [e,l,ew]
  refine ⟨⟨a,b⟩,?_⟩
  simp only [Bool.cond_self]
  cases on with
  | false=>simp [pM]
  | true=>cases hk :(x.Keeper==p) <;> cases hb :(x.Bowler==p) <;> simp [pM,hk,hb]
theorem Qu:CtrOK Tryz.prog K8 349 (ar K8 Fc yB):=by
 refine ba (C:=cf8 [k73,k74,k78] Tryz.f349) (bG (.cons ID (.cons K7 (.cons NV .nil))) _) mixed (fn:=Tryz.f349) Tryz.func349 (by kernel_rfl) (by kernel_rfl) (by kernel_rfl) (Λ:=fun _ _=>none) ?_ ?_ ?_
 ·exact fun _ _ _ _ _ _ _ _ h=>by cases h
 ·rintro ⟨x,p,on,⟨⟩⟩
  exact of_decide_eq_true (by kernel_rfl)
 ·rintro ⟨x,p,on,⟨⟩⟩ hw hn
  exact PK x p on (hn _ (List.mem_singleton.2 rfl)) (gS (bf (aG hw)))
theorem PV (x:Innings) (p:Int) (hs:ah x) :(evFn (cf8 [k78] Tryz.f347) (fun _=>none) Tryz.f347 (bo jR (x,p,()))).sat fun v' rows=>leV v' (yM (x,p,())).v∧rows =(yM (x,p,())).rows:=by
 refine cast (by kernel_rfl) (?_:ah x∧((bif decide (p <(0:Int)) then true else decide (p>IntKind.i64.wrap ((↑x.21.length:Int) - (2:Int))))=true→((x.1 =(au x p).1∧x.2 =(au x p).2∧x.3 =(au x p).3∧x.4 =(au x p).4∧x.5 =(au x p).5∧x.6.1 =(au x p).6.1∧x.6.2 =(au x p).6.2∧x.6.3 =(au x p).6.3∧x.6.4 =(au x p).6.4∧x.6.5 =(au x p).6.5∧x.7 =(au x p).7∧x.8 =(au x p).8∧x.9 =(au x p).9∧x.10 =(au x p).10∧(nat_lit 0=nat_lit 0∧nat_lit 0=nat_lit 0)∧x.12 =(au x p).12∧(nat_lit 1=nat_lit 1∧nat_lit 1=nat_lit 1)∧(nat_lit 2=nat_lit 2∧nat_lit 2=nat_lit 2)∧x.15 =(au x p).15∧(nat_lit 3=nat_lit 3∧nat_lit 3=nat_lit 3)∧x.17 =(au x p).17∧x.18 =(au x p).18∧x.19 =(au x p).19∧x.20 =(au x p).20∧(nat_lit 4=nat_lit 4∧nat_lit 4=nat_lit 4)∧x.22.1 =(au x p).22.1∧x.22.2.1 =(au x p).22.2.1∧x.23 =(au x p).23∧True)∧(16:Int)=fx x p∧True)∧ [RowD.mk (Ty.int IntKind.u8) x.11,RowD.mk (Ty.int IntKind.i64) x.13,RowD.mk (Ty.int IntKind.i64) x.14,RowD.mk (Ty.int IntKind.i64) x.16,RowD.mk Ty.bool x.21]=[RowD.mk (Ty.int IntKind.u8) (au x p).11,RowD.mk (Ty.int IntKind.i64) (au x p).13,RowD.mk (Ty.int IntKind.i64) (au x p).14,RowD.mk (Ty.int IntKind.i64) (au x p).16,RowD.mk Ty.bool (au x p).21])∧((bif decide (p <(0:Int)) then true else decide (p>IntKind.i64.wrap ((↑x.21.length:Int) - (2:Int))))=false→((x.1 =(au x p).1∧x.2 =(au x p).2∧x.3 =(au x p).3∧x.4 =(au x p).4∧x.5 =(au x p).5∧x.6.1 =(au x p).6.1∧x.6.2 =(au x p).6.2∧x.6.3 =(au x p).6.3∧x.6.4 =(au x p).6.4∧x.6.5 =(au x p).6.5∧x.7 =(au x p).7∧x.8 =(au x p).8∧x.9 =(au x p).9∧x.10 =(au x p).10∧(nat_lit 0=nat_lit 0∧nat_lit 0=nat_lit 0)∧x.12 =(au x p).12∧(nat_lit 1=nat_lit 1∧nat_lit 1=nat_lit 1)∧(nat_lit 2=nat_lit 2∧nat_lit 2=nat_lit 2)∧x.15 =(au x p).15∧(nat_lit 3=nat_lit 3∧nat_lit 3=nat_lit 3)∧x.17 =(au x p).17∧x.18 =(au x p).18∧x.19 =(au x p).19∧p =(au x p).20∧(nat_lit 4=nat_lit 4∧nat_lit 4=nat_lit 4)∧x.22.1 =(au x p).22.1∧x.22.2.1 =(au x p).22.2.1∧x.23 =(au x p).23∧True)∧(0:Int)=fx x p∧True)∧ [RowD.mk (Ty.int IntKind.u8) x.11,RowD.mk (Ty.int IntKind.i64) x.13,RowD.mk (Ty.int IntKind.i64) x.14,RowD.mk (Ty.int IntKind.i64) x.16,RowD.mk Ty.bool x.21]=[RowD.mk (Ty.int IntKind.u8) (au x p).11,RowD.mk (Ty.int IntKind.i64) (au x p).13,RowD.mk (Ty.int IntKind.i64) (au x p).14,RowD.mk (Ty.int IntKind.i64) (au x p).16,RowD.mk Ty.bool (au x p).21]))
 have ew:IntKind.i64.wrap ((x.Subs.length:Int) - 2) =(x.Subs.length:Int) - 2:=by
  have:=hs.2.2.2.2
  rw [dH (by omega) (by omega)]
 have hc :(bif decide (p <(0:Int)) then true else decide (p>IntKind.i64.wrap ((x.Subs.length:Int) - (2:Int))))=pS x p:=by
  rw [ew];simp only [pS];cases decide (p<0) <;> rfl
 refine ⟨hs,fun h1=>?_,fun h1=>?_⟩
 ·have h1:pS x p=true:=by rw [←hc];exact h1
  have e:au x p=x:=by simp [au,h1]
  have l:fx x p=16:=by simp [fx,h1]
  rw [e,l];simp
 ·have h1:pS x p=false:=by rw [←hc];exact h1
  have e:au x p={ x with Outside:=p }:=by simp [au,h1]
  have l:fx x p=0:=by simp [fx,h1]
  rw [e,l];simp
theorem QC:CtrOK Tryz.prog K8 347 (ar K8 jR yM):=by
 refine ba (C:=cf8 [k78] Tryz.f347) (bG (.cons NV .nil) _) mixed (fn:=Tryz.f347) Tryz.func347 (by kernel_rfl) (by kernel_rfl) (by kernel_rfl) (Λ:=fun _ _=>none) ?_ ?_ ?_
 ·exact fun _ _ _ _ _ _ _ _ h=>by cases h
 ·rintro ⟨x,p,⟨⟩⟩
  exact of_decide_eq_true (by kernel_rfl)
 ·rintro ⟨x,p,⟨⟩⟩ hw hn
  exact PV x p (hn _ (List.mem_singleton.2 rfl))
end Go.Proofs.YtffdpnmioidloaaGreatDoor
namespace Go.Proofs.YtffdpnmioidloaaGreatDoor
open Go Go.Mir
attribute [local irreducible] Go.Mir.DT.sat Go.Mir.evPat Go.Mir.RT.sat Go.Mir.evFn
abbrev Is:Ty:= .slice I
abbrev Bs:Ty:= .slice .bool
abbrev HK:List (Nat×PB):= [(0,.cells [.h I,.h I,.h I,.h I,.h I,.h I,.h I,.h I,.h I,.h I,.h I,.h I,.h I,.h I,.c (.osl 1 2),.h I,.c (.osl 3 4),.c (.osl 5 6),.h .bool,.c (.osl 7 8),.h .bool,.h I,.h I,.h I,.c (.osl 9 10),.h I,.h I,.h U8]),(1,.row 2 U8),(3,.row 4 I),(5,.row 6 I),(7,.row 8 I),(9,.row 10 .bool)]
abbrev Nl:Ty:=fh HK .unit
def inn (x:Den Nl):Innings:=⟨x.1,x.2.1,x.2.2.1,x.2.2.2.1,x.2.2.2.2.1,⟨x.2.2.2.2.2.1,x.2.2.2.2.2.2.1,x.2.2.2.2.2.2.2.1,x.2.2.2.2.2.2.2.2.1,x.2.2.2.2.2.2.2.2.2.1⟩,x.2.2.2.2.2.2.2.2.2.2.1,x.2.2.2.2.2.2.2.2.2.2.2.1,x.2.2.2.2.2.2.2.2.2.2.2.2.1,x.2.2.2.2.2.2.2.2.2.2.2.2.2.1,x.2.2.2.2.2.2.2.2.2.2.2.2.2.2.2.2.2.2.2.2.2.2.2.1,x.2.2.2.2.2.2.2.2.2.2.2.2.2.2.1,x.2.2.2.2.2.2.2.2.2.2.2.2.2.2.2.2.2.2.2.2.2.2.2.2.1,x.2.2.2.2.2.2.2.2.2.2.2.2.2.2.2.2.2.2.2.2.2.2.2.2.2.1,x.2.2.2.2.2.2.2.2.2.2.2.2.2.2.2.1,x.2.2.2.2.2.2.2.2.2.2.2.2.2.2.2.2.2.2.2.2.2.2.2.2.2.2.1,x.2.2.2.2.2.2.2.2.2.2.2.2.2.2.2.2.1,x.2.2.2.2.2.2.2.2.2.2.2.2.2.2.2.2.2.1,x.2.2.2.2.2.2.2.2.2.2.2.2.2.2.2.2.2.2.1,x.2.2.2.2.2.2.2.2.2.2.2.2.2.2.2.2.2.2.2.1,x.2.2.2.2.2.2.2.2.2.2.2.2.2.2.2.2.2.2.2.2.2.2.2.2.2.2.2.1,(x.2.2.2.2.2.2.2.2.2.2.2.2.2.2.2.2.2.2.2.2.1,x.2.2.2.2.2.2.2.2.2.2.2.2.2.2.2.2.2.2.2.2.2.1,()),x.2.2.2.2.2.2.2.2.2.2.2.2.2.2.2.2.2.2.2.2.2.2.1⟩
def wC (y:Innings):Den Nl:=(y.Side,y.Target,y.Overs,y.Runs,y.Wickets,y.Extras.Wides,y.Extras.NoBalls,y.Extras.Byes,y.Extras.LegByes,y.Extras.Penalties,y.Complete,y.InOver,y.Striker,y.Other,y.Bowler,y.Fresh,y.FreeHit,y.BallAge,y.Keeper,y.Outside,y.Reviews.1,y.Reviews.2.1,y.Ending,y.Batters,y.Bowlers,y.Before,y.Bowled,y.Subs,())
abbrev jT:Pat:=bZ [.nm .Innings,I]
def aI (x:Innings) (p:Int):Bool:=decide (p≥1)&&decide (p≤(x.Batters.length:Int))
def ye:Den (tyP jT)→List Prop×Den (tyP aF):=fun x=>([],(aI x.1 x.2.1,()))
def cn (x:Innings) (p s:Int):Innings:={ x with Batters:=x.Batters.set (p - 1).toNat s }
def ek (x:Innings) (p:Int):Innings:={(if aI x p then cn x p 2 else x) with Wickets:=W (x.Wickets+1) }
abbrev LV:Pat:=⟨[(0,.c (.ptr 0 0)),(1,.h I)],HK,11⟩
abbrev Fh:Pat:=⟨[],HK,11⟩
def Oa:Den (tyP LV)→List Prop×Den (tyP Fh):=fun x=>([],wC (ek (inn x.2) x.1))
def cR (x:Innings):Bool:=eM x&&(x.Striker==0||x.Other==0)
def yn:Den (tyP qIn)→List Prop×Den (tyP aF):=fun x=>([],(cR x.1,()))
def Hj (x:Innings) (p:Int):Int:=x.Batters.getD (p - 1).toNat 0
def bV (x:Innings) (p:Int):Int:=if !aI x p then 3 else if !cR x||Hj x p==1 then 4 else if Hj x p==2 then 5 else 0
def Dx:Den (tyP jT)→List Prop×Den (tyP bA):=fun x=>([],(bV x.1 x.2.1,()))
def jq (x:Innings) (s o:Int):Innings:=
 if eM x then x else if !aI x s||!aI x o then x else if s==o then x else { cn (cn x s 1) o 1 with Striker:=s,Other:=o }
def lX (x:Innings) (s o:Int):Int:=if eM x then 1 else if !aI x s||!aI x o then 3 else if s==o then 4 else 0
def kc (x:Innings):Innings:={ x with Striker:=x.Other,Other:=x.Striker }
def hZ (x:Innings) (d:Delivery):Int:=if d.How != 0 then (if d.Victim==1&&x.Striker != 0 then 1 else if d.Victim==2&&x.Other != 0 then 2 else 0) else 0
def cm (x:Innings) (d:Delivery):Innings:=if jw d then kc x else x
def cy (x:Innings) (b:Bool):Innings:=if b then { x with Striker:=0 } else { x with Other:=0 }
def bC (x:Innings) (d:Delivery):Innings:=
 if hZ x d==0 then cm x d else ek (cy (cm x d) ((hZ x d==1) != jw d)) (if hZ x d==1 then x.Striker else x.Other)
def jy (x:Innings) (p:Int):Innings:=if bV x p != 0 then x else if x.Striker==0 then { cn x p 1 with Striker:=p } else { cn x p 1 with Other:=p }
def mg (x:Innings) (p:Int):Innings:=if bV x p != 0 then x else ek x p
def Fu (s:Int):Bool:=s==0||s==3
def sG:List Int→Int→List Int
 | [],_=> []
 | s::r,i=>if Fu s then (i+1)::sG r (i+1) else sG r (i+1)
def Pm (l:List Int):List Int:=sG l 0
def Av (x:Innings):List Int:=Pm x.Batters
def lS (x:Innings):Bool:=((Av x).length:Int)==0
def cz (x:Innings) (p:Int) (hurt:Bool):Int:=
 if !aI x p then 3 else if x.Striker==0||x.Other==0 then 6 else if p != x.Striker&&p != x.Other then 4 else if hurt&&lS x then 19 else 0
def dz (x:Innings) (p:Int) (hurt:Bool):Innings:=
 if cz x p hurt != 0 then x else if hurt then cn (cy x (p==x.Striker)) p 3 else ek (cy x (p==x.Striker)) p
def kV:FuncId×Ctr:=(370,ar KE psI gP)
abbrev Fm:Pat:=bZ [.nm .Innings,I,I]
abbrev Fl:Pat:=bZ [.nm .Innings,I,.bool]
abbrev LZ:Pat:=bZ [.nm .Innings,.nm .Delivery]
abbrev q2L:Pat:=bZ [.nm .Innings,I]
def JV:Den (tyP Fm)→List Prop×Den (tyP q2L):=fun x=>([ah x.1],(jq x.1 x.2.1 x.2.2.1,lX x.1 x.2.1 x.2.2.1,()))
def Oi:Den (tyP LZ)→List Prop×Den (tyP qIn):=fun x=>([ah x.1],(bC x.1 x.2.1,()))
def x8:Den (tyP qIn)→List Prop×Den (tyP qIn):=fun x=>([ah x.1],(kc x.1,()))
def DB:Den (tyP jT)→List Prop×Den (tyP q2L):=fun x=>([ah x.1],(jy x.1 x.2.1,bV x.1 x.2.1,()))
def J1:Den (tyP jT)→List Prop×Den (tyP q2L):=fun x=>([ah x.1],(mg x.1 x.2.1,bV x.1 x.2.1,()))
abbrev qIs:Pat:=⟨[(0,.c (.osl 0 1))],[(0,.row 1 I)],2⟩
def JR:Den (tyP qIn)→List Prop×Den (tyP qIs):=fun x=>([ah x.1],(Av x.1,()))
def yh:Den (tyP Fl)→List Prop×Den (tyP q2L):=fun x=>([ah x.1],(dz x.1 x.2.1 x.2.2.1,cz x.1 x.2.1 x.2.2.1,()))
theorem mC {p:Int} (h1:1≤p) (h2:lK p):IntKind.i64.wrap (p - 1)=p - 1:=by
 obtain ⟨a,b⟩:=h2
 exact dH (by omega) (by omega)
theorem Mf (x:Innings) (hs:ah x) :(evFn (ao [k45,k90,k91] Tryz.f370) (fun _=>none) Tryz.f370 (bo psI (x,()))).sat fun v' rows=>leV v' (gP (x,())).v∧rows =(gP (x,())).rows:=by
 refine cast (by kernel_rfl) (?_:x.11.length≤(1000000:Nat)∧x.13.length≤(1000000:Nat)∧x.14.length≤(1000000:Nat)∧x.16.length≤(1000000:Nat)∧x.21.length≤(1000000:Nat)∧(x.1=x.1∧x.2=x.2∧x.3=x.3∧x.4=x.4∧x.5=x.5∧x.6.1=x.6.1∧x.6.2=x.6.2∧x.6.3=x.6.3∧x.6.4=x.6.4∧x.6.5=x.6.5∧x.7=x.7∧x.8=x.8∧x.9=x.9∧x.10=x.10∧(nat_lit 0=nat_lit 0∧nat_lit 0=nat_lit 0)∧x.12=x.12∧(nat_lit 1=nat_lit 1∧nat_lit 1=nat_lit 1)∧(nat_lit 2=nat_lit 2∧nat_lit 2=nat_lit 2)∧x.15=x.15∧(nat_lit 3=nat_lit 3∧nat_lit 3=nat_lit 3)∧x.17=x.17∧x.18=x.18∧x.19=x.19∧x.20=x.20∧(nat_lit 4=nat_lit 4∧nat_lit 4=nat_lit 4)∧x.22.1=x.22.1∧x.22.2.1=x.22.2.1∧x.23=x.23∧True)∧ [RowD.mk (Ty.int IntKind.u8) x.11,RowD.mk (Ty.int IntKind.i64) x.13,RowD.mk (Ty.int IntKind.i64) x.14,RowD.mk (Ty.int IntKind.i64) x.16,RowD.mk Ty.bool x.21]=[RowD.mk (Ty.int IntKind.u8) x.11,RowD.mk (Ty.int IntKind.i64) x.13,RowD.mk (Ty.int IntKind.i64) x.14,RowD.mk (Ty.int IntKind.i64) x.16,RowD.mk Ty.bool x.21])
 obtain ⟨h1,h2,h3,h4,h5⟩:=hs
 simp [h1,h2,h3,h4,h5]
theorem pG:CtrOK Tryz.prog KE 370 (ar KE psI gP):=by
 refine ba (C:=ao [k45,k90,k91] Tryz.f370) (al (.consU K4 rfl (.consU K9 rfl (.consU La rfl .nil))) _) mixed (fn:=Tryz.f370) Tryz.func370 (by kernel_rfl) (by kernel_rfl) (by kernel_rfl) (Λ:=fun _ _=>none) ?_ ?_ ?_
 ·exact fun _ _ _ _ _ _ _ _ h=>by cases h
 ·rintro ⟨x,⟨⟩⟩
  exact of_decide_eq_true (by kernel_rfl)
 ·rintro ⟨x,⟨⟩⟩ hw hn
  exact Mf x (hn _ (List.mem_singleton.2 rfl))
theorem Gw (x:Innings) (p:Int) :(evPat (ao [] Tryz.f372) (fun _=>none) Tryz.f372 jT aF (x,p,())).sat fun z_=>z_ =(ye (x,p,())).2:=by
 refine cast (by kernel_rfl) (?_ :(bif decide (p≥(1:Int)) then decide (p≤(↑x.11.length:Int)) else false,()) =(aI x p,()))
 grind [aI]
def jm:FuncId×Ctr:=(372,af KE jT aF ye)
theorem oS:CtrOK Tryz.prog KE 372 (af KE jT aF ye):=by
 refine aw (C:=ao [] Tryz.f372) (al (CtrsOK.nil) _) mixed (fn:=Tryz.f372) Tryz.func372 (by kernel_rfl) (by kernel_rfl) (by kernel_rfl) (by kernel_rfl) (by kernel_rfl) (by kernel_rfl) (Λ:=fun _ _=>none) ?_ ?_
 ·exact fun _ _ _ _ _ _ _ _ h=>by cases h
 ·rintro ⟨x,p,⟨⟩⟩ hw hn
  exact Gw x p
theorem Bh (p:Int) (y:Innings) (hp:lK p) :(evPat (ao [jm] Tryz.f380) (fun _=>none) Tryz.f380 LV Fh (p,wC y)).sat fun z_=>z_ =(Oa (p,wC y)).2:=by
 refine cast (by kernel_rfl) (?_:let r1:Int:=IntKind.i64.wrap (p - (1:Int));((aI y p=true→((0:Int)≤r1∧r1 <(↑y.11.length:Int))∧True)∧(aI y p=false→True))∧(true=true→(y.1,y.2,y.3,y.4,IntKind.i64.wrap (y.5 +(1:Int)),y.6.1,y.6.2,y.6.3,y.6.4,y.6.5,y.7,y.8,y.9,y.10,y.12,y.15,y.17,y.18,y.19,y.20,y.22.1,y.22.2.1,y.23,bif aI y p then y.11.set r1.toNat (2:Int) else y.11,y.13,y.14,y.16,y.21,())=wC (ek (inn (wC y)) p)))
 intro r1
 clear_value (hr1:r1=_)
 have e1:aI y p=true→r1=p - 1:=fun h=>by
  rw [hr1]
  simp only [aI,Bool.and_eq_true,decide_eq_true_eq] at h
  exact mC h.1 hp
 refine ⟨⟨fun h=>⟨?_,trivial⟩,fun _=>trivial⟩,fun _=>?_⟩
 ·have:=e1 h
  simp only [aI,Bool.and_eq_true,decide_eq_true_eq] at h
  omega
 ·show _=wC (ek y p)
  cases h:aI y p with
  | true=>
   have e:ek y p={ cn y p 2 with Wickets:=W (y.Wickets+1) }:=by simp [ek,h,cn]
   rw [e,e1 h];rfl
  | false=>
   have e:ek y p={ y with Wickets:=W (y.Wickets+1) }:=by simp [ek,h]
   rw [e];rfl
def im:FuncId×Ctr:=(380,af KE LV Fh Oa)
theorem nU:CtrOK Tryz.prog KE 380 (af KE LV Fh Oa):=by
 refine aw (C:=ao [jm] Tryz.f380) (al (.consU oS rfl .nil) _) mixed (fn:=Tryz.f380) Tryz.func380 (by kernel_rfl) (by kernel_rfl) (by kernel_rfl) (by kernel_rfl) (by kernel_rfl) (by kernel_rfl) (Λ:=fun _ _=>none) ?_ ?_
 ·exact fun _ _ _ _ _ _ _ _ h=>by cases h
 ·rintro ⟨p,z⟩ hw hn
  exact Bh p (inn z) (gS (bf hw))
theorem Db (x:Innings) :(evPat (ao [qY] Tryz.f355) (fun _=>none) Tryz.f355 qIn aF (x,())).sat fun z_=>z_ =(yn (x,())).2:=by
 refine cast (by kernel_rfl) (?_ :(bif eM x then bif x.9 ==(0:Int) then true else x.10 ==(0:Int) else false,()) =(cR x,()))
 grind [cR]
def gA:FuncId×Ctr:=(355,af KE qIn aF yn)
theorem mM:CtrOK Tryz.prog KE 355 (af KE qIn aF yn):=by
 refine aw (C:=ao [qY] Tryz.f355) (al (.consU AD rfl .nil) _) mixed (fn:=Tryz.f355) Tryz.func355 (by kernel_rfl) (by kernel_rfl) (by kernel_rfl) (by kernel_rfl) (by kernel_rfl) (by kernel_rfl) (Λ:=fun _ _=>none) ?_ ?_
 ·exact fun _ _ _ _ _ _ _ _ h=>by cases h
 ·rintro ⟨x,⟨⟩⟩ hw hn
  exact Db x
theorem Me (x:Innings) (p:Int) (hp:lK p) :(evPat (ao [jm,gA] Tryz.f379) (fun _=>none) Tryz.f379 jT bA (x,p,())).sat fun z_=>z_ =(Dx (x,p,())).2:=by
 refine cast (by kernel_rfl) (?_:let r1:Int:=IntKind.i64.wrap (p - (1:Int));let r2:Int:=x.11.getD r1.toNat (dflt (Ty.int IntKind.u8));let r3:Bool:=r2 ==(2:Int);let r4:Bool:=bif !cR x then true else r2 ==(1:Int);((!aI x p)=true→((3:Int),()) =(bV x p,()))∧((!aI x p)=false→(((!cR x)=true→True)∧((!cR x)=false→((0:Int)≤r1∧r1 <(↑x.11.length:Int))∧True))∧(true=true→(r4=true→((4:Int),()) =(bV x p,()))∧(r4=false→((0:Int)≤r1∧r1 <(↑x.11.length:Int))∧(r3=true→((5:Int),()) =(bV x p,()))∧(r3=false→((0:Int),()) =(bV x p,()))))))
 intro r1 r2 r3 r4
 clear_value (hr1:r1=_) (hr2:r2=_) (hr3:r3=_) (hr4:r4=_)
 cases h:aI x p with
 | false=>simp [bV,h]
 | true=>
  have k:1≤p∧p≤x.Batters.length:=by simpa [aI] using h
  have e1:r1=p - 1:=by rw [hr1];exact mC k.1 hp
  have e2:r2=Hj x p:=by rw [hr2,e1];rfl
  have b :(0:Int)≤r1∧r1 <(x.Batters.length:Int):=by omega
  refine ⟨(fun h=>by cases h),fun _=>⟨⟨fun _=>trivial,fun _=>⟨b,trivial⟩⟩,fun _=>⟨fun h4=>?_,fun h4=>⟨b,fun h3=>?_,fun h3=>?_⟩⟩⟩⟩ <;> grind [bV]
def EE:FuncId×Ctr:=(379,af KE jT bA Dx)
theorem IK:CtrOK Tryz.prog KE 379 (af KE jT bA Dx):=by
 refine aw (C:=ao [jm,gA] Tryz.f379) (al (.consU oS rfl (.consU mM rfl .nil)) _) mixed (fn:=Tryz.f379) Tryz.func379 (by kernel_rfl) (by kernel_rfl) (by kernel_rfl) (by kernel_rfl) (by kernel_rfl) (by kernel_rfl) (Λ:=fun _ _=>none) ?_ ?_
 ·exact fun _ _ _ _ _ _ _ _ h=>by cases h
 ·rintro ⟨x,p,⟨⟩⟩ hw hn
  exact Me x p (gS (bf (aG hw)))
theorem Mg (x:Innings) (d:Delivery) (hs:ah x) :(evPat (ao [kV,im] Tryz.f376) (fun _=>none) Tryz.f376 LZ qIn (x,d,())).sat fun z_=>z_ =(Oi (x,d,())).2:=by
 refine cast (by kernel_rfl) (?_:let r1:Bool:=d.3.tmod (2:Int) !=(0:Int);let r2:Bool:=bif d.8 ==(1:Int) then x.9 !=(0:Int) else false;let r3:Bool:=bif d.8 ==(2:Int) then x.10 !=(0:Int) else false;let r4:Bool:=bif d.6 then !r1 else r1;let r5:Int:=bif r4 then x.1 else x.1;let r6:Int:=bif r4 then x.2 else x.2;let r7:Int:=bif r4 then x.3 else x.3;let r8:Int:=bif r4 then x.4 else x.4;let r9:Int:=bif r4 then x.5 else x.5;let r10:Int:=bif r4 then x.7 else x.7;let r11:Int:=bif r4 then x.8 else x.8;let r12:Int:=bif r4 then x.10 else x.9;let r13:Int:=bif r4 then x.9 else x.10;let r14:Int:=bif r4 then x.12 else x.12;let r15:Bool:=bif r4 then x.15 else x.15;let r16:Bool:=bif r4 then x.17 else x.17;let r17:Int:=bif r4 then x.18 else x.18;let r18:Int:=bif r4 then x.19 else x.19;let r19:Int:=bif r4 then x.20 else x.20;let r20:Int:=bif r4 then x.23 else x.23;let r21:Int:=bif r4 then x.6.1 else x.6.1;let r22:Int:=bif r4 then x.6.2 else x.6.2;let r23:Int:=bif r4 then x.6.3 else x.6.3;let r24:Int:=bif r4 then x.6.4 else x.6.4;let r25:Int:=bif r4 then x.6.5 else x.6.5;let r26:Int:=bif r4 then x.22.1 else x.22.1;let r27:Int:=bif r4 then x.22.2.1 else x.22.2.1;let r28:Int:=bif d.7 !=(0:Int) then bif r2 then x.9 else bif r3 then x.10 else (0:Int) else (0:Int);let r29:Int:=bif d.7 !=(0:Int) then bif r2 then (1:Int) else bif r3 then (2:Int) else (0:Int) else (0:Int);let r30:Bool:=r29 ==(0:Int);let r31:Bool:=!(r29 ==(1:Int))==r4;let r32:Int:=bif r31 then r9 else r9;let r33:Innings:=inn (bif r31 then r5 else r5,bif r31 then r6 else r6,bif r31 then r7 else r7,bif r31 then r8 else r8,r32,bif r31 then r21 else r21,bif r31 then r22 else r22,bif r31 then r23 else r23,bif r31 then r24 else r24,bif r31 then r25 else r25,bif r31 then r10 else r10,bif r31 then r11 else r11,bif r31 then (0:Int) else r12,bif r31 then r13 else (0:Int),bif r31 then r14 else r14,bif r31 then r15 else r15,bif r31 then r16 else r16,bif r31 then r17 else r17,bif r31 then r18 else r18,bif r31 then r19 else r19,bif r31 then r26 else r26,bif r31 then r27 else r27,bif r31 then r20 else r20,x.11,x.13,x.14,x.16,x.21,());let r34:Bool:=aI r33 r28;let r35:Innings:=if r34=true then cn r33 r28 (2:Int) else r33;ah x∧(2:Int)≠(0:Int)∧(r30=true→(Innings.mk r5 r6 r7 r8 r9 (Extras.mk r21 r22 r23 r24 r25) r10 r11 r12 r13 x.11 r14 x.13 x.14 r15 x.16 r16 r17 r18 r19 x.21 (r26,r27,()) r20,()) =(bC x d,()))∧(r30=false→(Innings.mk r35.1 r35.2 r35.3 r35.4 (W (r32 +(1:Int))) r35.6 r35.7 r35.8 r35.9 r35.10 r35.11 r35.12 r35.13 r35.14 r35.15 r35.16 r35.17 r35.18 r35.19 r35.20 r35.21 r35.22 r35.23,()) =(bC x d,())))
 intro r1 r2 r3 r4 r5 r6 r7 r8 r9 r10 r11 r12 r13 r14 r15 r16 r17 r18 r19 r20 r21 r22 r23 r24 r25 r26 r27 r28 r29 r30 r31 r32 r33 r34 r35
 clear_value (hr1:r1=_) (hr2:r2=_) (hr3:r3=_) (hr4:r4=_) (hr5:r5=_) (hr6:r6=_) (hr7:r7=_) (hr8:r8=_) (hr9:r9=_) (hr10:r10=_) (hr11:r11=_) (hr12:r12=_) (hr13:r13=_) (hr14:r14=_) (hr15:r15=_) (hr16:r16=_) (hr17:r17=_) (hr18:r18=_) (hr19:r19=_) (hr20:r20=_) (hr21:r21=_) (hr22:r22=_) (hr23:r23=_) (hr24:r24=_) (hr25:r25=_) (hr26:r26=_) (hr27:r27=_) (hr28:r28=_) (hr29:r29=_) (hr30:r30=_) (hr31:r31=_) (hr32:r32=_) (hr33:r33=_) (hr34:r34=_) (hr35:r35=_)
 simp only [Bool.cond_self] at *
 have hs4:r4=jw d:=by rw [hr4,hr1];unfold jw;cases d.Crossed <;> cases (d.Runs.tmod 2 != 0) <;> rfl
 have ho:r29=hZ x d:=by rw [hr29,hr2,hr3];grind [hZ]
 have hp:r28=if hZ x d==1 then x.Striker else if hZ x d==2 then x.Other else 0:=by rw [hr28,hr2,hr3];grind [hZ]
 have h012:hZ x d=0∨hZ x d=1∨hZ x d=2:=by grind [hZ]
 subst hs4
 clear hr1 hr2 hr3 hr4 hr28 hr29
 subst hr5 hr6 hr7 hr8 hr9 hr10 hr11 hr12 hr13 hr14 hr15 hr16 hr17 hr18 hr19 hr20 hr21 hr22 hr23 hr24 hr25 hr26 hr27 hr32
 refine ⟨hs,by decide,fun h=>?_,fun h=>?_⟩
 ·have h0:hZ x d=0:=by grind
  simp only [bC,h0,cm]
  cases jw d <;> rfl
 ·have h0:hZ x d=1∨hZ x d=2:=by grind
  have e33:r33=cy (cm x d) ((hZ x d==1) != jw d):=by
   rw [hr33,hr31,ho]
   simp only [cm,cy]
   rcases h0 with h0|h0 <;> rw [h0] <;> cases jw d <;> rfl
  have e28:r28=if hZ x d==1 then x.Striker else x.Other:=by rw [hp];rcases h0 with h0|h0 <;> rw [h0] <;> rfl
  have ew:r33.Wickets=x.Wickets:=by
   rw [e33];simp only [cm,cy];cases jw d <;> cases (hZ x d==1) <;> rfl
  have e0 :(hZ x d==0)=false:=by rcases h0 with h0|h0 <;> rw [h0] <;> rfl
  simp only [bC,e0]
  rw [←e33,←e28]
  simp only [ek]
  rw [←hr34,←hr35]
  rw [ew]
  rfl
def MJ:FuncId×Ctr:=(376,af KE LZ qIn Oi)
theorem N2:CtrOK Tryz.prog KE 376 (af KE LZ qIn Oi):=by
 refine aw (C:=ao [kV,im] Tryz.f376) (al (.consU pG rfl (.consU nU rfl .nil)) _) mixed (fn:=Tryz.f376) Tryz.func376 (by kernel_rfl) (by kernel_rfl) (by kernel_rfl) (by kernel_rfl) (by kernel_rfl) (by kernel_rfl) (Λ:=fun _ _=>none) ?_ ?_
 ·exact fun _ _ _ _ _ _ _ _ h=>by cases h
 ·rintro ⟨x,d,⟨⟩⟩ hw hn
  exact Mg x d (hn _ List.mem_cons_self)
theorem C9 (x:Innings) (hs:ah x) :(evPat (ao [kV] Tryz.f378) (fun _=>none) Tryz.f378 qIn qIn (x,())).sat fun z_=>z_ =(x8 (x,())).2:=by
 refine cast (by kernel_rfl) (?_:ah x∧(Innings.mk x.1 x.2 x.3 x.4 x.5 x.6 x.7 x.8 x.10 x.9 x.11 x.12 x.13 x.14 x.15 x.16 x.17 x.18 x.19 x.20 x.21 x.22 x.23,()) =(kc x,()))
 exact ⟨hs,rfl⟩
def Af:FuncId×Ctr:=(378,af KE qIn qIn x8)
theorem F9:CtrOK Tryz.prog KE 378 (af KE qIn qIn x8):=by
 refine aw (C:=ao [kV] Tryz.f378) (al (.consU pG rfl .nil) _) mixed (fn:=Tryz.f378) Tryz.func378 (by kernel_rfl) (by kernel_rfl) (by kernel_rfl) (by kernel_rfl) (by kernel_rfl) (by kernel_rfl) (Λ:=fun _ _=>none) ?_ ?_
 ·exact fun _ _ _ _ _ _ _ _ h=>by cases h
 ·rintro ⟨x,⟨⟩⟩ hw hn
  exact C9 x (hn _ List.mem_cons_self)
theorem Gv (x:Innings) (p:Int) (hs:ah x) (hp:lK p) :(evPat (ao [kV,EE] Tryz.f345) (fun _=>none) Tryz.f345 jT q2L (x,p,())).sat fun z_=>z_ =(DB (x,p,())).2:=by
 refine cast (by kernel_rfl) (?_:let r1:Int:=IntKind.i64.wrap (p - (1:Int));ah x∧((bV x p !=(0:Int))=true→(x,bV x p,()) =(jy x p,bV x p,()))∧((bV x p !=(0:Int))=false→((0:Int)≤r1∧r1 <(↑x.11.length:Int))∧(Innings.mk (bif x.9 ==(0:Int) then x.1 else x.1) (bif x.9 ==(0:Int) then x.2 else x.2) (bif x.9 ==(0:Int) then x.3 else x.3) (bif x.9 ==(0:Int) then x.4 else x.4) (bif x.9 ==(0:Int) then x.5 else x.5) (Extras.mk (bif x.9 ==(0:Int) then x.6.1 else x.6.1) (bif x.9 ==(0:Int) then x.6.2 else x.6.2) (bif x.9 ==(0:Int) then x.6.3 else x.6.3) (bif x.9 ==(0:Int) then x.6.4 else x.6.4) (bif x.9 ==(0:Int) then x.6.5 else x.6.5)) (bif x.9 ==(0:Int) then x.7 else x.7) (bif x.9 ==(0:Int) then x.8 else x.8) (bif x.9 ==(0:Int) then p else x.9) (bif x.9 ==(0:Int) then x.10 else p) (x.11.set r1.toNat (1:Int)) (bif x.9 ==(0:Int) then x.12 else x.12) x.13 x.14 (bif x.9 ==(0:Int) then x.15 else x.15) x.16 (bif x.9 ==(0:Int) then x.17 else x.17) (bif x.9 ==(0:Int) then x.18 else x.18) (bif x.9 ==(0:Int) then x.19 else x.19) (bif x.9 ==(0:Int) then x.20 else x.20) x.21 (bif x.9 ==(0:Int) then x.22.1 else x.22.1,bif x.9 ==(0:Int) then x.22.2.1 else x.22.2.1,()) (bif x.9 ==(0:Int) then x.23 else x.23),(0:Int),()) =(jy x p,bV x p,())))
 intro r1
 clear_value (hr1:r1=_)
 refine ⟨hs,fun h=>?_,fun h=>?_⟩
 ·simp only [jy,h];rfl
 ·have h0:bV x p=0:=by simpa using h
  have k:aI x p=true:=by grind [bV]
  have k2:1≤p∧p≤x.Batters.length:=by simpa [aI] using k
  have e1:r1=p - 1:=by rw [hr1];exact mC k2.1 hp
  refine ⟨by omega,?_⟩
  rw [h0,e1]
  simp only [jy,h0]
  cases hb:x.Striker==0 <;> rfl
def ED:FuncId×Ctr:=(345,af KE jT q2L DB)
theorem IJ:CtrOK Tryz.prog KE 345 (af KE jT q2L DB):=by
 refine aw (C:=ao [kV,EE] Tryz.f345) (al (.consU pG rfl (.consU IK rfl .nil)) _) mixed (fn:=Tryz.f345) Tryz.func345 (by kernel_rfl) (by kernel_rfl) (by kernel_rfl) (by kernel_rfl) (by kernel_rfl) (by kernel_rfl) (Λ:=fun _ _=>none) ?_ ?_
 ·exact fun _ _ _ _ _ _ _ _ h=>by cases h
 ·rintro ⟨x,p,⟨⟩⟩ hw hn
  exact Gv x p (hn _ List.mem_cons_self) (gS (bf (aG hw)))
theorem Bi (x:Innings) (p:Int) (hs:ah x) (hp:lK p) :(evPat (ao [kV,EE,im] Tryz.f344) (fun _=>none) Tryz.f344 jT q2L (x,p,())).sat fun z_=>z_ =(J1 (x,p,())).2:=by
 refine cast (by kernel_rfl) (?_:let r1:Innings:=inn (x.1,x.2,x.3,x.4,x.5,x.6.1,x.6.2,x.6.3,x.6.4,x.6.5,x.7,x.8,x.9,x.10,x.12,x.15,x.17,x.18,x.19,x.20,x.22.1,x.22.2.1,x.23,x.11,x.13,x.14,x.16,x.21,());let r2:Bool:=aI r1 p;let r3:Innings:=if r2=true then cn r1 p (2:Int) else r1;ah x∧((bV x p !=(0:Int))=true→(x,bV x p,()) =(mg x p,bV x p,()))∧((bV x p !=(0:Int))=false→(Innings.mk r3.1 r3.2 r3.3 r3.4 (W (x.5 +(1:Int))) r3.6 r3.7 r3.8 r3.9 r3.10 r3.11 r3.12 r3.13 r3.14 r3.15 r3.16 r3.17 r3.18 r3.19 r3.20 r3.21 r3.22 r3.23,(0:Int),()) =(mg x p,bV x p,())))
 intro r1 r2 r3
 clear_value (hr1:r1=_) (hr2:r2=_) (hr3:r3=_)
 refine ⟨hs,fun h=>?_,fun h=>?_⟩
 ·simp only [mg,h];rfl
 ·have h0:bV x p=0:=by simpa using h
  have k:aI x p=true:=by grind [bV]
  have e1:r1=x:=hr1
  have e2:r2=true:=by rw [hr2,e1];exact k
  have e3:r3=cn x p 2:=by rw [hr3,e2,e1];rfl
  rw [h0,e3]
  have e4:mg x p={ cn x p 2 with Wickets:=W (x.Wickets+1) }:=by simp [mg,h0,ek,k,cn]
  rw [e4]
def vp:FuncId×Ctr:=(344,af KE jT q2L J1)
theorem CB:CtrOK Tryz.prog KE 344 (af KE jT q2L J1):=by
 refine aw (C:=ao [kV,EE,im] Tryz.f344) (al (.consU pG rfl (.consU IK rfl (.consU nU rfl .nil))) _) mixed (fn:=Tryz.f344) Tryz.func344 (by kernel_rfl) (by kernel_rfl) (by kernel_rfl) (by kernel_rfl) (by kernel_rfl) (by kernel_rfl) (Λ:=fun _ _=>none) ?_ ?_
 ·exact fun _ _ _ _ _ _ _ _ h=>by cases h
 ·rintro ⟨x,p,⟨⟩⟩ hw hn
  exact Bi x p (hn _ List.mem_cons_self) (gS (bf (aG hw)))
theorem Jw (x:Innings) (s:Int) (o:Int) (hs:ah x) (h1:lK s) (h2:lK o) :(evPat (ao [kV,qY,jm] Tryz.f341) (fun _=>none) Tryz.f341 Fm q2L (x,s,o,())).sat fun z_=>z_ =(JV (x,s,o,())).2:=by
 refine cast (by kernel_rfl) (?_:let r1:Int:=IntKind.i64.wrap (s - (1:Int));let r2:Int:=IntKind.i64.wrap (o - (1:Int));let r3:List Int:=x.11.set r1.toNat (1:Int);ah x∧(eM x=true→(x,(1:Int),()) =(jq x s o,lX x s o,()))∧(eM x=false→((bif !aI x s then true else !aI x o)=true→(x,(3:Int),()) =(jq x s o,lX x s o,()))∧((bif !aI x s then true else !aI x o)=false→((s==o)=true→(x,(4:Int),()) =(jq x s o,lX x s o,()))∧((s==o)=false→((0:Int)≤r1∧r1 <(↑x.11.length:Int))∧((0:Int)≤r2∧r2 <(↑r3.length:Int))∧(Innings.mk x.1 x.2 x.3 x.4 x.5 x.6 x.7 x.8 s o (r3.set r2.toNat (1:Int)) x.12 x.13 x.14 x.15 x.16 x.17 x.18 x.19 x.20 x.21 x.22 x.23,(0:Int),()) =(jq x s o,lX x s o,())))))
 intro r1 r2 r3
 clear_value (hr1:r1=_) (hr2:r2=_) (hr3:r3=_)
 refine ⟨hs,fun hb=>?_,fun hb=>⟨fun hk=>?_,fun hk=>⟨fun he=>?_,fun he=>?_⟩⟩⟩
 ·simp [jq,lX,hb]
 ·have hk :(!aI x s||!aI x o)=true:=by grind
  simp only [jq,lX,hb,hk];rfl
 ·have hk :(!aI x s||!aI x o)=false:=by grind
  simp only [jq,lX,hb,hk,he];rfl
 ·have hk2 :(!aI x s||!aI x o)=false:=by grind
  have k1:1≤s∧s≤x.Batters.length:=by
   have:aI x s=true:=by grind
   simpa [aI] using this
  have k2:1≤o∧o≤x.Batters.length:=by
   have:aI x o=true:=by grind
   simpa [aI] using this
  have e1:r1=s - 1:=by rw [hr1];exact mC k1.1 h1
  have e2:r2=o - 1:=by rw [hr2];exact mC k2.1 h2
  have e3:r3 =(cn x s 1).Batters:=by rw [hr3,e1];rfl
  have e4:r3.length=x.Batters.length:=by rw [e3];simp [cn]
  refine ⟨by omega,by omega,?_⟩
  rw [e3,e2]
  simp only [jq,lX,hb,hk2,he];rfl
def HY:FuncId×Ctr:=(341,af KE Fm q2L JV)
theorem Ll:CtrOK Tryz.prog KE 341 (af KE Fm q2L JV):=by
 refine aw (C:=ao [kV,qY,jm] Tryz.f341) (al (.consU pG rfl (.consU AD rfl (.consU oS rfl .nil))) _) mixed (fn:=Tryz.f341) Tryz.func341 (by kernel_rfl) (by kernel_rfl) (by kernel_rfl) (by kernel_rfl) (by kernel_rfl) (by kernel_rfl) (Λ:=fun _ _=>none) ?_ ?_
 ·exact fun _ _ _ _ _ _ _ _ h=>by cases h
 ·rintro ⟨x,s,o,⟨⟩⟩ hw hn
  exact Jw x s o (hn _ List.mem_cons_self) (gS (bf (aG hw))) (gS (bf (aG (aG hw))))
theorem zQ (x:Innings) (d:Delivery) (b:Bool) (p:Int):ek (cy (cm x d) b) p={ cy (cm x d) b with Batters:=(bif aI x p then x.Batters.set (p - 1).toNat 2 else x.Batters),Wickets:=W (x.Wickets+1) }:=by
 have e :(cy (cm x d) b).Batters=x.Batters∧(cy (cm x d) b).Wickets=x.Wickets:=by
  simp only [cy,cm];cases b <;> cases jw d <;> exact ⟨rfl,rfl⟩
 have k:aI (cy (cm x d) b) p=aI x p:=by unfold aI;rw [e.1]
 unfold ek
 rw [k]
 cases h:aI x p with
 | true=>simp [cn,e.1,e.2]
 | false=>simp [←e.1,e.2]
end Go.Proofs.YtffdpnmioidloaaGreatDoor
namespace Go.Proofs.YtffdpnmioidloaaGreatDoor
open Go Go.Mir
attribute [local irreducible] Go.Mir.DT.sat Go.Mir.evPat Go.Mir.RT.sat Go.Mir.evFn
abbrev PA:Pat:=⟨[(8,.h I),(9,.h I),(7,.h U8s),(3,.c (.osl 1 2))],[(1,.row 2 I)],3⟩
abbrev Qk:List (Lf×Pat):= [(.ext 0,⟨[(3,.c (.osl 1 2))],[(1,.row 2 I)],3⟩)]
def ku (x:Int×Int×List Int×List Int×Unit):Prop:=dJ (x.2.2.1,x.1,x.2.1,())∧x.2.2.1.length≤1000000∧x.2.2.2.1.length≤x.2.1
def kD (x:Int×Int×List Int×List Int×Unit):Nat:=(x.1 - x.2.1).toNat
def fC (x:Int×Int×List Int×List Int×Unit):List Int×Unit:=(x.2.2.2.1++sG (x.2.2.1.drop x.2.1.toNat) x.2.1,())
noncomputable def lpLLc:Lp:=(⟨0,ao [] Tryz.f356,(fun _=>none),(aH Tryz.f356 0),PA,Qk⟩:Lp)
theorem Mr (n:Int) (i:Int) (xs:List Int) (out:List Int) (hi:ku (n,i,xs,out,())) :(Go.Mir.stepG lpLLc fC (fun y:Den (tyP lpLLc.q)=>ku y∧kD y<kD (n,i,xs,out,())) (n,i,xs,out,())∧Go.Mir.stepE lpLLc fC (n,i,xs,out,())=fC (n,i,xs,out,())):=by
 refine cast (by kernel_rfl) (?_:let r1:Int:=IntKind.i64.wrap (i +(1:Int));let r2:List Int:= [r1];let r3:Bool:=bif xs.getD i.toNat (dflt (Ty.int IntKind.u8)) ==(0:Int) then true else xs.getD i.toNat (dflt (Ty.int IntKind.u8)) ==(3:Int);((decide (i<n)=true→((0:Int)≤i∧i <(↑xs.length:Int))∧(r3=true→(out.length+r2.length) *(8:Nat)≤(70368744177664:Nat)∧ku (n,r1,xs,out++r2,())∧kD (n,r1,xs,out++r2,())<kD (n,i,xs,out,()))∧(r3=false→ku (n,r1,xs,out,())∧kD (n,r1,xs,out,())<kD (n,i,xs,out,())))∧(decide (i<n)=false→True))∧(bif decide (i<n) then bif r3 then fC (n,r1,xs,out++r2,()) else fC (n,r1,xs,out,()) else (out,()))=fC (n,i,xs,out,()))
 intro r1 r2 r3
 clear_value (hr1:r1=_) (hr2:r2=_) (hr3:r3=_)
 obtain ⟨⟨h1,h2,h3,h4⟩,h6,h7⟩:=hi
 simp only at h1 h2 h3 h4 h6 h7
 have hw:i<n→r1=i+1:=fun h=>by rw [hr1];exact bb (by omega) (by omega)
 have hl:r2.length=1:=by rw [hr2];rfl
 refine ⟨⟨fun h=>?_,fun _=>trivial⟩,?_⟩
 ·have h:i<n:=of_decide_eq_true h
  have hw:=hw h
  refine ⟨⟨h2,by omega⟩,fun _=>⟨by omega,⟨⟨h1,by simp only;omega,by simp only;omega,h4⟩,h6,by simp only [List.length_append];omega⟩,by simp only [kD];omega⟩,fun _=>⟨⟨⟨h1,by simp only;omega,by simp only;omega,h4⟩,h6,by simp only;omega⟩,by simp only [kD];omega⟩⟩
 ·by_cases h:i<n
  ·have hw:=hw h
   have e:xs.drop i.toNat=xs.getD i.toNat (dflt (Ty.int IntKind.u8))::xs.drop (i+1).toNat:=dI h2 (by omega) _
   have e3:r3=Fu (xs.getD i.toNat (dflt (Ty.int IntKind.u8))):=by
    rw [hr3]
    generalize xs.getD i.toNat (dflt (Ty.int IntKind.u8))=v
    simp only [Fu]
    cases v==0 <;> rfl
   rw [decide_eq_true h,cond_true,e3,hr2,hw]
   generalize xs.getD i.toNat (dflt (Ty.int IntKind.u8))=v at e ⊢
   simp only [fC,e,sG]
   cases Fu v <;> simp
  ·rw [decide_eq_false h,cond_false]
   simp only [fC]
   rw [cM (l:=xs) (by omega)]
   simp [sG]
noncomputable def Ke:LoopSum:=bh lpLLc fC ku
noncomputable def Jk:Nat:=rid (aH Tryz.f356 0)
theorem KT:LoopOKp Tryz.prog 0 Tryz.f356.ntmps (aH Tryz.f356 0) (bh lpLLc fC ku):=
 cj lpLLc (al (CtrsOK.nil) _) mixed (fun b hb S hS=>by cases hS) fC ku kD (fun |⟨n,i,xs,out,⟨⟩⟩,hi=>Mr n i xs out hi)
theorem Jv (x:Innings) (hs:ah x) :(evPat (ao [] Tryz.f356) (find [(Jk,Ke)]) Tryz.f356 qIn qIs (x,())).sat fun z_=>z_ =(JR (x,())).2:=by
 refine cast (by kernel_rfl) (?_ :((fW fun x=>none)∧dJ (x.11,(↑x.11.length:Int),(0:Int),())∧x.11.length≤(1000000:Nat)∧(↑(0:Nat):Int)≤(0:Int))∧([]++sG (List.drop (Int.toNat (0:Int)) x.11) (0:Int),()) =(Av x,()))
 refine ⟨⟨rfl,⟨rfl,Int.le_refl _,by simp only;omega,?_⟩,hs.1,Int.le_refl _⟩,rfl⟩
 have:=hs.1
 show x.Batters.length≤140737488355328
 omega
def xr:FuncId×Ctr:=(356,af KE qIn qIs JR)
theorem E4:CtrOK Tryz.prog KE 356 (af KE qIn qIs JR):=by
 refine aw (C:=ao [] Tryz.f356) (al (CtrsOK.nil) _) mixed (fn:=Tryz.f356) Tryz.func356 (by kernel_rfl) (by kernel_rfl) (by kernel_rfl) (by kernel_rfl) (by kernel_rfl) (by kernel_rfl) (Λ:=fun x=>find [(Jk,Ke)]) ?_ ?_
 ·rintro ⟨x,⟨⟩⟩ hw hn
  exact LoopsOKp.at (by kernel_rfl) (.cons (by kernel_rfl) (KT) .nil)
 ·rintro ⟨x,⟨⟩⟩ hw hn
  exact Jv x (hn _ List.mem_cons_self)
theorem Bd {x:Innings} {p:Int} {hurt:Bool} (h1:aI x p=true) (h2 :(x.Striker==0||x.Other==0)=false) (h3 :(p != x.Striker&&p != x.Other)=false) (h4 :(hurt&&lS x)=false) :
  cz x p hurt=0∧dz x p hurt={ cy x (p==x.Striker) with Batters:=x.Batters.set (p - 1).toNat (bif hurt then 3 else 2),Wickets:=(bif hurt then x.Wickets else W (x.Wickets+1)) }:=by
 have e:cz x p hurt=0:=by simp only [cz,h1,h2,h3,h4];rfl
 refine ⟨e,?_⟩
 have kb :∀ b,(cy x b).Batters=x.Batters∧(cy x b).Wickets=x.Wickets:=fun b=>by cases b <;> exact ⟨rfl,rfl⟩
 simp only [dz,e]
 obtain ⟨k1,k2⟩:=kb (p==x.Striker)
 have kk:aI (cy x (p==x.Striker)) p=true:=by unfold aI at h1 ⊢;rw [k1];exact h1
 cases hurt with
 | true=>simp [cn,k1,←k2]
 | false=>simp [ek,kk,cn,k1,k2]
theorem Da (x:Innings) (p:Int) (hurt:Bool) (hs:ah x) (hp:lK p) :(evPat (ao [kV,jm,xr,im] Tryz.f346) (fun _=>none) Tryz.f346 Fl q2L (x,p,hurt,())).sat fun z_=>z_ =(yh (x,p,hurt,())).2:=by
 refine cast (by kernel_rfl) (?_:let r1:Int:=bif p==x.9 then x.1 else x.1;let r2:Int:=bif p==x.9 then x.2 else x.2;let r3:Int:=bif p==x.9 then x.3 else x.3;let r4:Int:=bif p==x.9 then x.4 else x.4;let r5:Int:=bif p==x.9 then x.5 else x.5;let r6:Int:=bif p==x.9 then x.7 else x.7;let r7:Int:=bif p==x.9 then x.8 else x.8;let r8:Int:=bif p==x.9 then x.12 else x.12;let r9:Bool:=bif p==x.9 then x.15 else x.15;let r10:Bool:=bif p==x.9 then x.17 else x.17;let r11:Int:=bif p==x.9 then x.18 else x.18;let r12:Int:=bif p==x.9 then x.19 else x.19;let r13:Int:=bif p==x.9 then x.20 else x.20;let r14:Int:=bif p==x.9 then x.23 else x.23;let r15:Int:=IntKind.i64.wrap (p - (1:Int));let r16:Int:=bif p==x.9 then x.6.1 else x.6.1;let r17:Int:=bif p==x.9 then x.6.2 else x.6.2;let r18:Int:=bif p==x.9 then x.6.3 else x.6.3;let r19:Int:=bif p==x.9 then x.6.4 else x.6.4;let r20:Int:=bif p==x.9 then x.6.5 else x.6.5;let r21:Int:=bif p==x.9 then x.22.1 else x.22.1;let r22:Int:=bif p==x.9 then (0:Int) else x.9;let r23:Int:=bif p==x.9 then x.10 else (0:Int);let r24:Int:=bif p==x.9 then x.22.2.1 else x.22.2.1;let r25:Bool:=bif p != x.9 then p != x.10 else false;let r26:Bool:=bif hurt then (↑(Av x).length:Int) ==(0:Int) else false;let r27:Bool:=bif x.9 ==(0:Int) then true else x.10 ==(0:Int);let r28:Innings:=inn (r1,r2,r3,r4,r5,r16,r17,r18,r19,r20,r6,r7,r22,r23,r8,r9,r10,r11,r12,r13,r21,r24,r14,x.11,x.13,x.14,x.16,x.21,());let r29:Bool:=aI r28 p;let r30:Innings:=if r29=true then cn r28 p (2:Int) else r28;ah x∧((!aI x p)=true→(x,(3:Int),()) =(dz x p hurt,cz x p hurt,()))∧((!aI x p)=false→(r27=true→(x,(6:Int),()) =(dz x p hurt,cz x p hurt,()))∧(r27=false→(r25=true→(x,(4:Int),()) =(dz x p hurt,cz x p hurt,()))∧(r25=false→((hurt=true→ah x∧True)∧(hurt=false→True))∧(true=true→(r26=true→(x,(19:Int),()) =(dz x p hurt,cz x p hurt,()))∧(r26=false→((hurt=true→((0:Int)≤r15∧r15 <(↑x.11.length:Int))∧True)∧(hurt=false→True))∧(true=true→(Innings.mk (bif hurt then r1 else r30.1) (bif hurt then r2 else r30.2) (bif hurt then r3 else r30.3) (bif hurt then r4 else r30.4) (bif hurt then r5 else W (r5 +(1:Int))) (Extras.mk (bif hurt then r16 else r30.6.1) (bif hurt then r17 else r30.6.2) (bif hurt then r18 else r30.6.3) (bif hurt then r19 else r30.6.4) (bif hurt then r20 else r30.6.5)) (bif hurt then r6 else r30.7) (bif hurt then r7 else r30.8) (bif hurt then r22 else r30.9) (bif hurt then r23 else r30.10) (bif hurt then x.11.set r15.toNat (3:Int) else r30.11) (bif hurt then r8 else r30.12) (bif hurt then x.13 else r30.13) (bif hurt then x.14 else r30.14) (bif hurt then r9 else r30.15) (bif hurt then x.16 else r30.16) (bif hurt then r10 else r30.17) (bif hurt then r11 else r30.18) (bif hurt then r12 else r30.19) (bif hurt then r13 else r30.20) (bif hurt then x.21 else r30.21) (bif hurt then r21 else r30.22.1,bif hurt then r24 else r30.22.2.1,()) (bif hurt then r14 else r30.23),(0:Int),()) =(dz x p hurt,cz x p hurt,()))))))))
 intro r1 r2 r3 r4 r5 r6 r7 r8 r9 r10 r11 r12 r13 r14 r15 r16 r17 r18 r19 r20 r21 r22 r23 r24 r25 r26 r27 r28 r29 r30
 clear_value (hr1:r1=_) (hr2:r2=_) (hr3:r3=_) (hr4:r4=_) (hr5:r5=_) (hr6:r6=_) (hr7:r7=_) (hr8:r8=_) (hr9:r9=_) (hr10:r10=_) (hr11:r11=_) (hr12:r12=_) (hr13:r13=_) (hr14:r14=_) (hr15:r15=_) (hr16:r16=_) (hr17:r17=_) (hr18:r18=_) (hr19:r19=_) (hr20:r20=_) (hr21:r21=_) (hr22:r22=_) (hr23:r23=_) (hr24:r24=_) (hr25:r25=_) (hr26:r26=_) (hr27:r27=_) (hr28:r28=_) (hr29:r29=_) (hr30:r30=_)
 simp only [Bool.cond_self] at *
 have t1 :∀ a b:Bool,(bif a then true else b) =(a||b):=by decide
 have t2 :∀ a b:Bool,(bif a then b else false) =(a&&b):=by decide
 have e27:r27 =(x.Striker==0||x.Other==0):=by rw [hr27,t1]
 have e26:r26 =(hurt&&lS x):=by rw [hr26,t2];rfl
 have e25:r25 =(p != x.Striker&&p != x.Other):=by rw [hr25,t2]
 have kb:aI x p=true→(0:Int)≤r15∧r15 <(x.Batters.length:Int)∧r15=p - 1:=fun k=>by
  have k2:1≤p∧p≤x.Batters.length:=by simpa [aI] using k
  have e1:r15=p - 1:=by rw [hr15];exact mC k2.1 hp
  omega
 have f1 :∀ {k:Int},k≠0→cz x p hurt=k→(x,k,()) =(dz x p hurt,cz x p hurt,()):=fun {k} hk e=>by
  have :(cz x p hurt != 0)=true:=by rw [e];simpa using hk
  rw [e]
  simp only [dz,this];rfl
 refine ⟨hs,fun h=>f1 (by decide) ?_,fun h1=>⟨fun h=>f1 (by decide) ?_,fun h2=>⟨fun h=>f1 (by decide) ?_,fun h3=>⟨⟨fun _=>⟨hs,trivial⟩,fun _=>trivial⟩,fun _=>⟨fun h=>f1 (by decide) ?_,fun h4=>⟨⟨fun _=>⟨?_,trivial⟩,fun _=>trivial⟩,fun _=>?_⟩⟩⟩⟩⟩⟩
 ·simp only [cz,h];rfl
 ·rw [e27] at h;simp only [cz,h1,h];rfl
 ·rw [e27] at h2;rw [e25] at h;simp only [cz,h1,h2,h];rfl
 ·rw [e27] at h2;rw [e25] at h3;rw [e26] at h;simp only [cz,h1,h2,h3,h];rfl
 ·have k1:aI x p=true:=by simpa using h1
  exact ⟨(kb k1).1,(kb k1).2.1⟩
 ·have k1:aI x p=true:=by simpa using h1
  obtain ⟨e,ey⟩:=Bd k1 (e27▸h2) (e25▸h3) (e26▸h4)
  have e28:r28=cy x (p==x.Striker):=by
   rw [hr28,hr22,hr23];simp only [cy];cases p==x.Striker <;> simp only [*] <;> rfl
  have k29:r29=true:=by
   rw [hr29,e28]
   unfold aI at k1 ⊢
   cases p==x.Striker <;> exact k1
  have e30:r30=cn (cy x (p==x.Striker)) p 2:=by rw [hr30,k29,e28];rfl
  rw [e,ey,e30,(kb k1).2.2]
  subst hr1 hr2 hr3 hr4 hr5 hr6 hr7 hr8 hr9 hr10 hr11 hr12 hr13 hr14 hr16 hr17 hr18 hr19 hr20 hr21 hr24
  rw [hr22,hr23]
  cases hurt <;> cases p==x.Striker <;> rfl
def Ag:FuncId×Ctr:=(346,af KE Fl q2L yh)
theorem Ga:CtrOK Tryz.prog KE 346 (af KE Fl q2L yh):=by
 refine aw (C:=ao [kV,jm,xr,im] Tryz.f346) (al (.consU pG rfl (.consU oS rfl (.consU E4 rfl (.consU nU rfl .nil)))) _) mixed (fn:=Tryz.f346) Tryz.func346 (by kernel_rfl) (by kernel_rfl) (by kernel_rfl) (by kernel_rfl) (by kernel_rfl) (by kernel_rfl) (Λ:=fun _ _=>none) ?_ ?_
 ·exact fun _ _ _ _ _ _ _ _ h=>by cases h
 ·rintro ⟨x,p,hurt,⟨⟩⟩ hw hn
  exact Da x p hurt (hn _ List.mem_cons_self) (gS (bf (aG hw)))
end Go.Proofs.YtffdpnmioidloaaGreatDoor
namespace Go.Proofs.YtffdpnmioidloaaGreatDoor
open Go Go.Mir
attribute [local irreducible] Go.Mir.RT.sat Go.Mir.evFn Go.Mir.stepObl
theorem Oq (xs:List Int) (v:Int) (hx:xs.length≤aP) (i:Nat) (hi:Ey xs v i) :(stepObl (J79 xs v) (Ey xs v) (fun i=>xs.length - i) i (T79 xs v) (bs (cf8 [] Tryz.f338) (fun _=>none) (aH Tryz.f338 0) (J79 xs v i)) (L79 i)).1:=by
 refine cast (by kernel_rfl) (?_ :(decide ((↑i:Int) <(↑xs.length:Int))=true→((0:Int)≤(↑i:Int)∧(↑i:Int) <(↑xs.length:Int))∧((v==xs.getD (↑i:Int).toNat (dflt (Ty.int IntKind.i64)))=true→xs.contains v=true∧((↑i:Int)=idx xs v (0:Int)∧True)∧True)∧((v==xs.getD (↑i:Int).toNat (dflt (Ty.int IntKind.i64)))=false→Ey xs v (i +(1:Nat))∧xs.length - (i +(1:Nat))<xs.length - i∧(RowD.mk (Ty.int IntKind.i64) xs=RowD.mk (Ty.int IntKind.i64) xs∧v=v∧(↑xs.length:Int) =(↑xs.length:Int)∧IntKind.i64.wrap ((↑i:Int) +(1:Int)) =(↑(i +(1:Nat)):Int)∧True)∧True))∧(decide ((↑i:Int) <(↑xs.length:Int))=false→xs.contains v=false∧True∧True))
 have e :(i:Int).toNat=i:=by simp
 rw [e]
 refine ⟨fun h1=>?_,fun h1=>?_⟩
 ·have h1:i<xs.length:=by simpa using h1
  refine ⟨⟨by omega,by omega⟩,fun h2=>?_,fun h2=>?_⟩
  ·have h2:v=xs.getD i (dflt (Ty.int IntKind.i64)):=eq_of_beq h2
   have h3:xs[i]?=some v:=by rw [h2];exact qV _ h1
   refine ⟨by simpa using List.mem_of_getElem? h3,⟨?_,trivial⟩,trivial⟩
   rw [Cm xs v 0 i h3 hi.2];omega
  ·have h2:v≠xs.getD i (0:Int):=ne_of_beq_false h2
   have h3:xs.getD i (0:Int)=xs[i]:=by rw [List.getD_eq_getElem?_getD,List.getElem?_eq_getElem h1];rfl
   refine ⟨⟨by omega,?_⟩,by omega,⟨rfl,rfl,rfl,?_,trivial⟩,trivial⟩
   ·rw [List.take_succ_eq_append_getElem h1,List.mem_append,List.mem_singleton,not_or]
    exact ⟨hi.2,by rw [←h3];exact h2⟩
   ·have:xs.length≤140737488355328:=hx
    rw [dH (by omega) (by omega)];omega
 ·have h1 :¬ i<xs.length:=by simpa using h1
  refine ⟨?_,trivial,trivial⟩
  have:=hi.2
  rw [List.take_of_length_le (by omega)] at this
  simpa using this
theorem NG (xs:List Int) (v:Int) (hx:xs.length≤aP):LoopOK Tryz.prog Tryz.f338.ntmps (aH Tryz.f338 0) (cY ⟨[],[],0⟩ (J79 xs v 0) (T79 xs v)):=
 ky (bG (CtrsOK.nil) _) mixed (J79 xs v) (fun _=>rfl) (Ey xs v) (fun i=>xs.length - i) (fun _ _=>none) (fun _ _ _ _ _ h=>by cases h) (T79 xs v) [] [] 0 (⟨Nat.zero_le _,by simp⟩) L79 (fun i hi=>Oq xs v hx i hi)
theorem P0 (xs:List Int) (v:Int) (hx:xs.length≤aP) :(evFn (cf8 [] Tryz.f338) (Λ79 xs v) Tryz.f338 (bo A4 (xs,v,()))).sat fun v' rows=>leV v' (yQ (xs,v,())).v∧rows =(yQ (xs,v,())).rows:=by
 refine cast (by kernel_rfl) (?_ :((fW fun x=>none)∧(RowD.mk (Ty.int IntKind.i64) xs=RowD.mk (Ty.int IntKind.i64) xs∧v=v∧(↑xs.length:Int) =(↑xs.length:Int)∧(0:Int) =(↑(0:Nat):Int)∧True)∧True)∧(xs.contains v=true→idx xs v (0:Int)=idx xs v (0:Int)∧([]:List RowD)=[])∧(xs.contains v=false→(-1:Int)=idx xs v (0:Int)∧([]:List RowD)=[]))
 refine ⟨⟨rfl,⟨rfl,rfl,rfl,rfl,trivial⟩,trivial⟩,fun _=>⟨rfl,rfl⟩,fun h=>⟨?_,rfl⟩⟩
 rw [sw]
 simpa using h
theorem QE:CtrOK Tryz.prog K8 338 (ar K8 A4 yQ):=by
 refine ba (C:=cf8 [] Tryz.f338) (bG (CtrsOK.nil) _) mixed (fn:=Tryz.f338) Tryz.func338 (by kernel_rfl) (by kernel_rfl) (by kernel_rfl) (Λ:=fun x=>Λ79 x.1 x.2.1) ?_ ?_ ?_
 ·rintro ⟨xs,v,⟨⟩⟩ hw hn
  exact LoopsOK.at (by kernel_rfl) (.cons (by kernel_rfl) (NG xs v (dT (bf hw))) .nil)
 ·rintro ⟨xs,v,⟨⟩⟩
  exact of_decide_eq_true (by kernel_rfl)
 ·rintro ⟨xs,v,⟨⟩⟩ hw hn
  exact P0 xs v (dT (bf hw))
theorem PL (xs:List Int) (v:Int) :(evFn (cf8 [k79] Tryz.f318) (fun _=>none) Tryz.f318 (bo A4 (xs,v,()))).sat fun v' rows=>leV v' (yC (xs,v,())).v∧rows =(yC (xs,v,())).rows:=by
 refine cast (by kernel_rfl) (?_:decide (idx xs v (0:Int)≥(0:Int))=fI xs v∧([]:List RowD)=[])
 exact ⟨Eu xs v 0 (Int.le_refl 0),rfl⟩
theorem K5:CtrOK Tryz.prog K8 318 (ar K8 A4 yC):=by
 refine ba (C:=cf8 [k79] Tryz.f318) (bG (.cons QE .nil) _) mixed (fn:=Tryz.f318) Tryz.func318 (by kernel_rfl) (by kernel_rfl) (by kernel_rfl) (Λ:=fun _ _=>none) ?_ ?_ ?_
 ·exact fun _ _ _ _ _ _ _ _ h=>by cases h
 ·rintro ⟨xs,v,⟨⟩⟩
  exact of_decide_eq_true (by kernel_rfl)
 ·rintro ⟨xs,v,⟨⟩⟩ hw hn
  exact PL xs v
end Go.Proofs.YtffdpnmioidloaaGreatDoor
namespace Go.Proofs.YtffdpnmioidloaaGreatDoor
open Go Go.Mir
attribute [local irreducible] Go.Mir.DT.sat Go.Mir.evPat Go.Mir.RT.sat Go.Mir.evFn
def mV (n:Int):Bool:=!inW n 0 1000000000
def Oe:Den (tyP bA)→List Prop×Den (tyP aF):=fun x=>([],(mV x.1,()))
abbrev qNI (f:Nat):Pat:=⟨[(0,.h Is),(1,.c (.fn f [])),(7,.h I),(8,.h I)],[],0⟩
def jV (x:List Int×Int×Int×Unit):Sum (Int×Unit) Unit:=HO (cF mV (x.1.drop x.2.2.1.toNat) x.2.2.1)
abbrev qNF (f:Nat):Pat:=⟨[(0,.h Is),(1,.c (.fn f []))],[],0⟩
def ru (l:List Int):Bool:=l.any mV
def sNI (f:Nat):Den (tyP (qNF f))→List Prop×Den (tyP bA):=fun x=>([],(oR (cF mV x.1 0),()))
def sNC (f:Nat):Den (tyP (qNF f))→List Prop×Den (tyP aF):=fun x=>([],(ru x.1,()))
def uX (most:Int):List Int→List Int→Bool
 | _,[]=>true
 | seen,n::r=>if !inW n 1 most||fI seen n then false else uX most (seen++[n]) r
def iw (l:List Int) (most:Int):Bool:=uX most [] l
abbrev qLM:Pat:=bZ [Is,I]
def JO:Den (tyP qLM)→List Prop×Den (tyP aF):=fun x=>([],(iw x.1 x.2.1,()))
abbrev qDf:Pat:=⟨[(0,.h Is),(1,.h I),(7,.h Is),(8,.h I),(9,.h I)],[],0⟩
abbrev xDf:List (Lf×Pat):= [(.ret,⟨[(4,.h .bool)],[],0⟩),(.ext 0,⟨[],[],0⟩)]
abbrev TDf:Type:=List Int×Int×List Int×Int×Int×Unit
def vj (x:TDf):Prop:=x.2.2.1=x.1∧dJ (x.1,x.2.2.2.1,x.2.2.2.2.1,())
def FY (x:TDf):Nat:=(x.2.2.2.1 - x.2.2.2.2.1).toNat
def Ps (b:Bool):Sum (Bool×Unit) Unit:=if b then .inr () else .inl (false,())
def js (x:TDf):Sum (Bool×Unit) Unit:=Ps (uX x.2.1 (x.1.take x.2.2.2.2.1.toNat) (x.1.drop x.2.2.2.2.1.toNat))
def sQ (x:Innings):Bool:=!ru ([x.Target,x.Runs,x.Extras.Wides,x.Extras.NoBalls,x.Extras.Byes,x.Extras.LegByes,x.Extras.Penalties,x.Complete,x.BallAge,x.Outside,x.Reviews.1,x.Reviews.2.1]++x.Bowled)
def JT:Den (tyP qIn)→List Prop×Den (tyP aF):=fun x=>([ah x.1],(sQ x.1,()))
theorem Bm (n:Int) (lo:Int) (hi:Int) :(evPat (ao [] Tryz.f298) (fun _=>none) Tryz.f298 q3 aF (n,lo,hi,())).sat fun z_=>z_ =(sIn (n,lo,hi,())).2:=by
 refine cast (by kernel_rfl) (?_ :(bif decide (n≥lo) then decide (n≤hi) else false,()) =(inW n lo hi,()))
 grind [inW]
def cK:FuncId×Ctr:=(298,af KE q3 aF sIn)
theorem eV:CtrOK Tryz.prog KE 298 (af KE q3 aF sIn):=by
 refine aw (C:=ao [] Tryz.f298) (al (CtrsOK.nil) _) mixed (fn:=Tryz.f298) Tryz.func298 (by kernel_rfl) (by kernel_rfl) (by kernel_rfl) (by kernel_rfl) (by kernel_rfl) (by kernel_rfl) (Λ:=fun _ _=>none) ?_ ?_
 ·exact fun _ _ _ _ _ _ _ _ h=>by cases h
 ·rintro ⟨n,lo,hi,⟨⟩⟩ hw hn
  exact Bm n lo hi
theorem JB (n:Int) :(evPat (ao [cK] Tryz.f319) (fun _=>none) Tryz.f319 bA aF (n,())).sat fun z_=>z_ =(Oe (n,())).2:=by
 refine cast (by kernel_rfl) (?_ :(!inW n (0:Int) (1000000000:Int),()) =(mV n,()))
 rfl
def Cq:FuncId×Ctr:=(319,af KE bA aF Oe)
theorem E5:CtrOK Tryz.prog KE 319 (af KE bA aF Oe):=by
 refine aw (C:=ao [cK] Tryz.f319) (al (.consU eV rfl .nil) _) mixed (fn:=Tryz.f319) Tryz.func319 (by kernel_rfl) (by kernel_rfl) (by kernel_rfl) (by kernel_rfl) (by kernel_rfl) (by kernel_rfl) (Λ:=fun _ _=>none) ?_ ?_
 ·exact fun _ _ _ _ _ _ _ _ h=>by cases h
 ·rintro ⟨n,⟨⟩⟩ hw hn
  exact JB n
noncomputable def lpNIl:Lp:=(⟨0,ao [Cq] Tryz.f114,(fun _=>none),(aH Tryz.f114 0),(qNI 319),xLI⟩:Lp)
theorem Ms (xs:List Int) (n:Int) (i:Int) (hi:dJ (xs,n,i,())) :(Go.Mir.stepG lpNIl jV (fun y:Den (tyP lpNIl.q)=>dJ y∧lf y<lf (xs,n,i,())) (xs,n,i,())∧Go.Mir.stepE lpNIl jV (xs,n,i,())=jV (xs,n,i,())):=by
 refine cast (by kernel_rfl) (?_ :((decide (i<n)=true→((0:Int)≤i∧i <(↑xs.length:Int))∧(mV (xs.getD i.toNat (dflt (Ty.int IntKind.i64)))=true→True)∧(mV (xs.getD i.toNat (dflt (Ty.int IntKind.i64)))=false→dJ (xs,n,IntKind.i64.wrap (i +(1:Int)),())∧lf (xs,n,IntKind.i64.wrap (i +(1:Int)),())<lf (xs,n,i,())))∧(decide (i<n)=false→True))∧(bif decide (i<n) then bif mV (xs.getD i.toNat (dflt (Ty.int IntKind.i64))) then Sum.inl (i,()) else jV (xs,n,IntKind.i64.wrap (i +(1:Int)),()) else Sum.inr ())=jV (xs,n,i,()))
 obtain ⟨h1,h2,h3,h4⟩:=hi
 simp only at h1 h2 h3 h4
 have h5 :(xs.length:Int)≤140737488355328:=by have:xs.length≤140737488355328:=h4;omega
 refine ⟨⟨fun h=>?_,fun _=>trivial⟩,?_⟩
 ·have h:i<n:=of_decide_eq_true h
  rw [bb (n:=i+1) (by omega) (by omega)]
  refine ⟨⟨h2,by omega⟩,fun _=>trivial,fun _=>⟨⟨h1,by simp only;omega,by simp only;omega,h4⟩,by simp only [lf];omega⟩⟩
 ·by_cases h:i<n
  ·rw [decide_eq_true h,cond_true,bb (n:=i+1) (by omega) (by omega)]
   have e:xs.drop i.toNat=xs.getD i.toNat (dflt (Ty.int IntKind.i64))::xs.drop (i+1).toNat:=dI h2 (by omega) _
   generalize xs.getD i.toNat (dflt (Ty.int IntKind.i64))=v at e ⊢
   simp only [jV,e,cF]
   cases mV v <;> rfl
  ·rw [decide_eq_false h,cond_false]
   simp only [jV]
   rw [cM (l:=xs) (by omega)]
   rfl
noncomputable def Kf:LoopSum:=bh lpNIl jV dJ
noncomputable def Jl:Nat:=rid (aH Tryz.f114 0)
theorem KU:LoopOKp Tryz.prog 0 Tryz.f114.ntmps (aH Tryz.f114 0) (bh lpNIl jV dJ):=
 cj lpNIl (al (.consU E5 rfl .nil) _) mixed (fun b hb S hS=>by cases hS) jV dJ lf (fun |⟨xs,n,i,⟨⟩⟩,hi=>Ms xs n i hi)
theorem Js (xs:List Int) (hx:xs.length≤aP) :(evPat (ao [Cq] Tryz.f114) (find [(Jl,Kf)]) Tryz.f114 (qNF 319) bA (xs,())).sat fun z_=>z_ =((sNI 319) (xs,())).2:=by
 refine cast (by kernel_rfl) (?_:let r1:Bool:=isL (jV (xs,(↑xs.length:Int),(0:Int),()));((fW fun x=>none)∧(↑xs.length:Int) =(↑xs.length:Int)∧(0:Int)≤(0:Int)∧(0:Int)≤(↑xs.length:Int)∧xs.length≤aP)∧(r1=true→ov (dflt (I.prod Ty.unit)) (jV (xs,(↑xs.length:Int),(0:Int),())) =(oR (cF mV xs (0:Int)),()))∧(r1=false→((-1:Int),()) =(oR (cF mV xs (0:Int)),())))
 intro r1
 clear_value (hr1:r1=_)
 have e:jV (xs,(xs.length:Int),0,())=HO (cF mV xs 0):=rfl
 try subst hr1
 rw [e]
 refine ⟨⟨rfl,rfl,Int.le_refl _,by omega,hx⟩,fun h=>?_,fun h=>?_⟩ <;> cases hf:cF mV xs 0 <;> rw [hf] at h <;> first|rfl|cases h
def HV:FuncId×Ctr:=(114,af KE (qNF 319) bA (sNI 319))
theorem Lg:CtrOK Tryz.prog KE 114 (af KE (qNF 319) bA (sNI 319)):=by
 refine aw (C:=ao [Cq] Tryz.f114) (al (.consU E5 rfl .nil) _) mixed (fn:=Tryz.f114) Tryz.func114 (by kernel_rfl) (by kernel_rfl) (by kernel_rfl) (by kernel_rfl) (by kernel_rfl) (by kernel_rfl) (Λ:=fun x=>find [(Jl,Kf)]) ?_ ?_
 ·rintro ⟨xs,⟨⟩⟩ hw hn
  exact LoopsOKp.at (by kernel_rfl) (.cons (by kernel_rfl) (KU) .nil)
 ·rintro ⟨xs,⟨⟩⟩ hw hn
  exact Js xs (dT (bf hw))
theorem Jo (xs:List Int) :(evPat (ao [HV] Tryz.f64) (fun _=>none) Tryz.f64 (qNF 319) aF (xs,())).sat fun z_=>z_ =((sNC 319) (xs,())).2:=by
 refine cast (by kernel_rfl) (?_ :(decide (oR (cF mV xs (0:Int))≥(0:Int)),()) =(ru xs,()))
 have e:=kp (p:=mV) (l:=xs) (i:=0)
 unfold ru
 rw [←e]
 cases hf:cF mV xs 0 with
 | none=>rfl
 | some k=>
  have:=oo hf
  simp [this,oR]
def HR:FuncId×Ctr:=(64,af KE (qNF 319) aF (sNC 319))
theorem Lb:CtrOK Tryz.prog KE 64 (af KE (qNF 319) aF (sNC 319)):=by
 refine aw (C:=ao [HV] Tryz.f64) (al (.consU Lg rfl .nil) _) mixed (fn:=Tryz.f64) Tryz.func64 (by kernel_rfl) (by kernel_rfl) (by kernel_rfl) (by kernel_rfl) (by kernel_rfl) (by kernel_rfl) (Λ:=fun _ _=>none) ?_ ?_
 ·exact fun _ _ _ _ _ _ _ _ h=>by cases h
 ·rintro ⟨xs,⟨⟩⟩ hw hn
  exact Jo xs
noncomputable def lpDf:Lp:=(⟨0,ao [cK,k47] Tryz.f300,(fun _=>none),(aH Tryz.f300 0),qDf,xDf⟩:Lp)
theorem OA (l:List Int) (most:Int) (l2:List Int) (n:Int) (i:Int) (hi:vj (l,most,l2,n,i,())) :(Go.Mir.stepG lpDf js (fun y:Den (tyP lpDf.q)=>vj y∧FY y<FY (l,most,l2,n,i,())) (l,most,l2,n,i,())∧Go.Mir.stepE lpDf js (l,most,l2,n,i,())=js (l,most,l2,n,i,())):=by
 refine cast (by kernel_rfl) (?_:let r1:Bool:=!inW (l2.getD i.toNat (dflt (Ty.int IntKind.i64))) (1:Int) most;let r2:Bool:=bif r1 then true else fI (List.drop (Int.toNat (0:Int)) (List.take i.toNat l)) (l2.getD i.toNat (dflt (Ty.int IntKind.i64)));((decide (i<n)=true→((0:Int)≤i∧i <(↑l2.length:Int))∧((r1=true→True)∧(r1=false→((0:Int)≤(0:Int)∧(0:Int)≤i∧i≤(↑l.length:Int))∧True))∧(true=true→(r2=true→True)∧(r2=false→vj (l,most,l2,n,IntKind.i64.wrap (i +(1:Int)),())∧FY (l,most,l2,n,IntKind.i64.wrap (i +(1:Int)),())<FY (l,most,l2,n,i,()))))∧(decide (i<n)=false→True))∧(bif decide (i<n) then bif true&&true then bif r2 then Sum.inl (false,()) else js (l,most,l2,n,IntKind.i64.wrap (i +(1:Int)),()) else bif true then bif r2 then Sum.inl (false,()) else js (l,most,l2,n,IntKind.i64.wrap (i +(1:Int)),()) else bif r1 then Sum.inl (dflt (Ty.bool.prod Ty.unit)) else Sum.inl (dflt (Ty.bool.prod Ty.unit)) else Sum.inr ())=js (l,most,l2,n,i,()))
 intro r1 r2
 clear_value (hr1:r1=_) (hr2:r2=_)
 obtain ⟨h0,h1,h2,h3,h4⟩:=hi
 simp only at h0 h1 h2 h3 h4
 subst h0
 have h5 :(l2.length:Int)≤140737488355328:=by have:l2.length≤140737488355328:=h4;omega
 refine ⟨⟨fun h=>?_,fun _=>trivial⟩,?_⟩
 ·have h:i<n:=of_decide_eq_true h
  rw [bb (n:=i+1) (by omega) (by omega)]
  exact ⟨⟨h2,by omega⟩,⟨fun _=>trivial,fun _=>⟨⟨Int.le_refl _,h2,by omega⟩,trivial⟩⟩,fun _=>⟨fun _=>trivial,fun _=>⟨⟨rfl,h1,by simp only;omega,by simp only;omega,h4⟩,by simp only [FY];omega⟩⟩⟩
 ·by_cases h:i<n
  ·rw [decide_eq_true h,cond_true,bb (n:=i+1) (by omega) (by omega)]
   have e:l2.drop i.toNat=l2.getD i.toNat (dflt (Ty.int IntKind.i64))::l2.drop (i+1).toNat:=dI h2 (by omega) _
   have et:l2.take (i+1).toNat=l2.take i.toNat++[l2.getD i.toNat (dflt (Ty.int IntKind.i64))]:=Mv h2 (by omega) _
   rw [hr2,hr1]
   generalize l2.getD i.toNat (dflt (Ty.int IntKind.i64))=v at e et ⊢
   simp only [js,e,et,uX,Int.toNat_zero,List.drop_zero]
   cases inW v 1 most <;> cases fI (l2.take i.toNat) v <;> rfl
  ·rw [decide_eq_false h]
   show (Sum.inr ():Sum (Bool×Unit) Unit)=_
   simp only [js]
   rw [cM (l:=l2) (by omega)]
   rfl
noncomputable def Nf:LoopSum:=bh lpDf js vj
noncomputable def M3:Nat:=rid (aH Tryz.f300 0)
theorem NN:LoopOKp Tryz.prog 0 Tryz.f300.ntmps (aH Tryz.f300 0) (bh lpDf js vj):=
 cj lpDf (al (.consU eV rfl (.consU K5 rfl .nil)) _) mixed (fun b hb S hS=>by cases hS) js vj FY (fun |⟨l,most,l2,n,i,⟨⟩⟩,hi=>OA l most l2 n i hi)
theorem JA (l:List Int) (most:Int) (hx:l.length≤aP) :(evPat (ao [cK,k47] Tryz.f300) (find [(M3,Nf)]) Tryz.f300 qLM aF (l,most,())).sat fun z_=>z_ =(JO (l,most,())).2:=by
 refine cast (by kernel_rfl) (?_:let r1:Bool:=isL (js (l,most,l,(↑l.length:Int),(0:Int),()));((fW fun x=>none)∧l=l∧dJ (l,(↑l.length:Int),(0:Int),()))∧(r1=true→ov (dflt (Ty.bool.prod Ty.unit)) (js (l,most,l,(↑l.length:Int),(0:Int),())) =(iw l most,()))∧(r1=false→(true,()) =(iw l most,())))
 intro r1
 clear_value (hr1:r1=_)
 have e:js (l,most,l,(l.length:Int),0,())=Ps (iw l most):=rfl
 try subst hr1
 rw [e]
 refine ⟨⟨rfl,rfl,rfl,Int.le_refl _,by simp only;omega,hx⟩,fun h=>?_,fun h=>?_⟩ <;> cases hf:iw l most <;> rw [hf] at h <;> first|rfl|cases h
def Ib:FuncId×Ctr:=(300,af KE qLM aF JO)
theorem Lo:CtrOK Tryz.prog KE 300 (af KE qLM aF JO):=by
 refine aw (C:=ao [cK,k47] Tryz.f300) (al (.consU eV rfl (.consU K5 rfl .nil)) _) mixed (fn:=Tryz.f300) Tryz.func300 (by kernel_rfl) (by kernel_rfl) (by kernel_rfl) (by kernel_rfl) (by kernel_rfl) (by kernel_rfl) (Λ:=fun x=>find [(M3,Nf)]) ?_ ?_
 ·rintro ⟨l,most,⟨⟩⟩ hw hn
  exact LoopsOKp.at (by kernel_rfl) (.cons (by kernel_rfl) (NN) .nil)
 ·rintro ⟨l,most,⟨⟩⟩ hw hn
  exact JA l most (dT (bf hw))
theorem Bo (x:Innings) (hs:ah x) :(evPat (ao [HR] Tryz.f301) (fun _=>none) Tryz.f301 qIn aF (x,())).sat fun z_=>z_ =(JT (x,())).2:=by
 refine cast (by kernel_rfl) (?_:let r1:List Int:= [x.2,x.4,x.6.1,x.6.2,x.6.3,x.6.4,x.6.5,x.7,x.18,x.20,x.22.1,x.22.2.1];((0:Int)≤(0:Int)∧(0:Int) <(↑(2:Nat):Int))∧((0:Int)≤(1:Int)∧(1:Int) <(↑(2:Nat):Int))∧(r1.length+x.16.length) *(8:Nat)≤(70368744177664:Nat)∧(!ru (r1++x.16),()) =(sQ x,()))
 intro r1
 clear_value (hr1:r1=_)
 have hl:r1.length=12:=by rw [hr1];rfl
 have:=hs.2.2.2.1
 refine ⟨by omega,by omega,by omega,?_⟩
 rw [hr1];rfl
def vw:FuncId×Ctr:=(301,af KE qIn aF JT)
theorem CF:CtrOK Tryz.prog KE 301 (af KE qIn aF JT):=by
 refine aw (C:=ao [HR] Tryz.f301) (al (.consU Lb rfl .nil) _) mixed (fn:=Tryz.f301) Tryz.func301 (by kernel_rfl) (by kernel_rfl) (by kernel_rfl) (by kernel_rfl) (by kernel_rfl) (by kernel_rfl) (Λ:=fun _ _=>none) ?_ ?_
 ·exact fun _ _ _ _ _ _ _ _ h=>by cases h
 ·rintro ⟨x,⟨⟩⟩ hw hn
  exact Bo x (hn _ List.mem_cons_self)
end Go.Proofs.YtffdpnmioidloaaGreatDoor
namespace Go.Proofs.YtffdpnmioidloaaGreatDoor
open Go Go.Mir
attribute [local irreducible] Go.Mir.DT.sat Go.Mir.evPat Go.Mir.RT.sat Go.Mir.evFn
def jx (S O:Int):List Int→Int→Int→Int→Bool→Option (Int×Int×Bool)
 | [],_,o,b,g=>some (o,b,g)
 | s::r,i,o,b,g=>if s>3 then none
  else if s==1 then (if S != i+1&&O != i+1 then none else jx S O r (i+1) o (b+1) true)
  else jx S O r (i+1) (if s==2 then o+1 else o) b (g||s != 0)
abbrev qBc:Pat:=⟨[(2,.c (.ptr 0 0)),(1,.h I),(5,.h I),(6,.h I),(7,.h .bool),(12,.h U8s),(13,.h I),(14,.h I)],[(0,.dat (.nm .Innings))],1⟩
abbrev xBc:List (Lf×Pat):= [(.ret,⟨[(4,.h .bool)],[],0⟩),(.ext 0,⟨[(2,.c (.ptr 0 0)),(1,.h I),(5,.h I),(6,.h I),(7,.h .bool)],[(0,.dat (.nm .Innings))],1⟩)]
abbrev TBc:Type:=Int×Int×Int×Bool×List Int×Int×Int×Innings×Unit
def sy (x:TBc):Prop:=dJ (x.2.2.2.2.1,x.2.2.2.2.2.1,x.2.2.2.2.2.2.1,())∧x.2.2.2.2.1.length≤1000000∧(0≤x.2.1∧x.2.1≤x.2.2.2.2.2.2.1)∧(0≤x.2.2.1∧x.2.2.1≤x.2.2.2.2.2.2.1)
def AB (x:TBc):Nat:=(x.2.2.2.2.2.1 - x.2.2.2.2.2.2.1).toNat
def vU (side:Int) (x:Innings):Option (Int×Int×Bool)→Sum (Bool×Unit) (Int×Int×Int×Bool×Innings×Unit)
 | none=> .inl (false,())
 | some (o,b,g)=> .inr (side,o,b,g,x,())
def gH (x:TBc):Sum (Bool×Unit) (Int×Int×Int×Bool×Innings×Unit):=
 vU x.1 x.2.2.2.2.2.2.2.1 (jx x.2.2.2.2.2.2.2.1.Striker x.2.2.2.2.2.2.2.1.Other (x.2.2.2.2.1.drop x.2.2.2.2.2.2.1.toNat) x.2.2.2.2.2.2.1 x.2.1 x.2.2.1 x.2.2.2.1)
def fA (x:Innings):Int:=(if x.Striker != 0 then 1 else 0) +(if x.Other != 0 then 1 else 0)
def BZ (x:Innings) (side:Int):Option (Int×Int×Bool)→Bool
 | none=>false
 | some (o,b,g)=>if !inW x.Striker 0 side||!inW x.Other 0 side||x.Striker==x.Other&&x.Striker != 0 then false
  else fA x==b&&(!g||decide (fA x>0))&&o==x.Wickets
def nv (x:Innings) (side:Int):Bool:=BZ x side (jx x.Striker x.Other x.Batters 0 0 0 false)
def JL:Den (tyP jT)→List Prop×Den (tyP aF):=fun x=>([ah x.1],(nv x.1 x.2.1,()))
noncomputable def lpBc:Lp:=(⟨0,ao [cK] Tryz.f299,(fun _=>none),(aH Tryz.f299 0),qBc,xBc⟩:Lp)
theorem Ow (side:Int) (o:Int) (b:Int) (g:Bool) (xs:List Int) (n:Int) (i:Int) (x:Innings) (hi:sy (side,o,b,g,xs,n,i,x,())) :(Go.Mir.stepG lpBc gH (fun y:Den (tyP lpBc.q)=>sy y∧AB y<AB (side,o,b,g,xs,n,i,x,())) (side,o,b,g,xs,n,i,x,())∧Go.Mir.stepE lpBc gH (side,o,b,g,xs,n,i,x,())=gH (side,o,b,g,xs,n,i,x,())):=by
 refine cast (by kernel_rfl) (?_:let r1:Int:=IntKind.i64.wrap (i +(1:Int));let r2:Bool:=xs.getD i.toNat (dflt (Ty.int IntKind.u8)) ==(1:Int);let r3:Bool:=xs.getD i.toNat (dflt (Ty.int IntKind.u8)) ==(2:Int);let r4:Bool:=bif g then true else xs.getD i.toNat (dflt (Ty.int IntKind.u8)) !=(0:Int);let r5:Bool:=decide (xs.getD i.toNat (dflt (Ty.int IntKind.u8)) >(3:Int));let r6:Bool:=bif x.9 != r1 then x.10 != r1 else false;let r7:Bool:=bif r5 then false else bif r2 then !r6 else true;((decide (i<n)=true→(r7=true→(((0:Int)≤i∧i <(↑xs.length:Int))∧(r5=true→False)∧(r5=false→(r2=true→(r6=true→False)∧(r6=false→True))∧(r2=false→(r3=true→True)∧(r3=false→True))))∧sy (side,bif r2 then o else bif r3 then IntKind.i64.wrap (o +(1:Int)) else o,bif r2 then IntKind.i64.wrap (b +(1:Int)) else b,bif r2 then r4 else bif r3 then r4 else r4,xs,n,r1,x,())∧AB (side,bif r2 then o else bif r3 then IntKind.i64.wrap (o +(1:Int)) else o,bif r2 then IntKind.i64.wrap (b +(1:Int)) else b,bif r2 then r4 else bif r3 then r4 else r4,xs,n,r1,x,())<AB (side,o,b,g,xs,n,i,x,()))∧(r7=false→((0:Int)≤i∧i <(↑xs.length:Int))∧(r5=true→True)∧(r5=false→(r2=true→(r6=true→True)∧(r6=false→True))∧(r2=false→(r3=true→True)∧(r3=false→True)))))∧(decide (i<n)=false→True))∧(bif decide (i<n) then bif false&&(false&&true&&(true&&true)) then gH (side,bif r2 then o else bif r3 then IntKind.i64.wrap (o +(1:Int)) else o,bif r2 then IntKind.i64.wrap (b +(1:Int)) else b,bif r2 then r4 else bif r3 then r4 else r4,xs,n,r1,x,()) else bif r7 then gH (side,bif r2 then o else bif r3 then IntKind.i64.wrap (o +(1:Int)) else o,bif r2 then IntKind.i64.wrap (b +(1:Int)) else b,bif r2 then r4 else bif r3 then r4 else r4,xs,n,r1,x,()) else bif r5 then Sum.inl (false,()) else bif r2 then bif r6 then Sum.inl (false,()) else Sum.inl (dflt (Ty.bool.prod Ty.unit)) else bif r3 then Sum.inl (dflt (Ty.bool.prod Ty.unit)) else Sum.inl (dflt (Ty.bool.prod Ty.unit)) else Sum.inr (side,o,b,g,x,()))=gH (side,o,b,g,xs,n,i,x,()))
 intro r1 r2 r3 r4 r5 r6 r7
 clear_value (hr1:r1=_) (hr2:r2=_) (hr3:r3=_) (hr4:r4=_) (hr5:r5=_) (hr6:r6=_) (hr7:r7=_)
 obtain ⟨⟨h1,h2,h3,h4⟩,h6,⟨h7,h8⟩,⟨h9,h10⟩⟩:=hi
 simp only at h1 h2 h3 h4 h6 h7 h8 h9 h10
 by_cases h:i<n
 ·have e:xs.drop i.toNat=xs.getD i.toNat (dflt (Ty.int IntKind.u8))::xs.drop (i+1).toNat:=dI h2 (by omega) _
  have hw:r1=i+1:=by rw [hr1];exact bb (by omega) (by omega)
  have ho:IntKind.i64.wrap (o+1)=o+1:=bb (by omega) (by omega)
  have hb:IntKind.i64.wrap (b+1)=b+1:=bb (by omega) (by omega)
  generalize xs.getD i.toNat (dflt (Ty.int IntKind.u8))=v at *
  have hx :(0:Int)≤i∧i <(xs.length:Int):=by omega
  have inv :∀ o' b' g',(o'=o∨o'=o+1)→(b'=b∨b'=b+1)→sy (side,o',b',g',xs,n,i+1,x,())∧AB (side,o',b',g',xs,n,i+1,x,())<AB (side,o,b,g,xs,n,i,x,()):=fun o' b' g' ho hb=>by
   refine ⟨⟨⟨h1,by simp only;omega,by simp only;omega,h4⟩,h6,⟨?_,?_⟩,⟨?_,?_⟩⟩,?_⟩ <;> simp only [AB] <;> omega
  have er:gH (side,o,b,g,xs,n,i,x,())=vU side x (jx x.Striker x.Other (v::xs.drop (i+1).toNat) i o b g):=by rw [←e];rfl
  have er2 :∀ o' b' g',gH (side,o',b',g',xs,n,i+1,x,())=vU side x (jx x.Striker x.Other (xs.drop (i+1).toNat) (i+1) o' b' g'):=fun _ _ _=>rfl
  rw [er,hw,ho,hb]
  rw [hw] at hr6
  by_cases hv:v>3
  ·have e5:r5=true:=by rw [hr5];simpa using hv
   subst hr7
   simp [e5,h,hx,jx,hv,vU]
  ·have e5:r5=false:=by rw [hr5];simpa using hv
   have hv2 :¬(3:Int)<v:=hv
   by_cases hs:v=1
   ·have e2:r2=true:=by rw [hr2,hs];rfl
    have e4:r4=true:=by rw [hr4,hs];cases g <;> rfl
    cases h6':r6 with
    | true=>
     have h6'' :(x.Striker != i+1&&x.Other != i+1)=true:=by grind
     have hn:jx x.Striker x.Other (v::xs.drop (i+1).toNat) i o b g=none:=by
      rw [hs];unfold jx;rw [if_neg (by omega),h6''];rfl
     rw [hn]
     subst hr7
     simp [e5,e2,h,hx,h6',vU]
    | false=>
     have h6'' :(x.Striker != i+1&&x.Other != i+1)=false:=by grind
     have hn:jx x.Striker x.Other (v::xs.drop (i+1).toNat) i o b g=jx x.Striker x.Other (xs.drop (i+1).toNat) (i+1) o (b+1) true:=by
      rw [hs]
      conv=>lhs;unfold jx
      rw [if_neg (by omega),h6''];rfl
     rw [hn,←er2]
     subst hr7
     have:=inv o (b+1) true (.inl rfl) (.inr rfl)
     simp [e5,e2,e4,h,hx,h6',this]
   ·have e2:r2=false:=by rw [hr2];simpa using hs
    have e4:r4 =(g||v != 0):=by rw [hr4];cases g <;> rfl
    have hn:jx x.Striker x.Other (v::xs.drop (i+1).toNat) i o b g=jx x.Striker x.Other (xs.drop (i+1).toNat) (i+1) (if r3 then o+1 else o) b r4:=by
     conv=>lhs;unfold jx
     rw [if_neg hv,←hr2,e2,←hr3,←e4];rfl
    rw [hn,←er2]
    subst hr7
    have:=inv (if r3 then o+1 else o) b r4 (by split <;> simp) (.inl rfl)
    cases h3':r3 <;> rw [h3'] at this <;> simp at this <;> simp [e5,e2,h,hx,this]
 ·have er:gH (side,o,b,g,xs,n,i,x,()) = .inr (side,o,b,g,x,()):=by
   simp only [gH]
   rw [cM (l:=xs) (by omega)]
   rfl
  rw [er]
  simp [h]
noncomputable def Nb:LoopSum:=bh lpBc gH sy
noncomputable def MX:Nat:=rid (aH Tryz.f299 0)
theorem NK:LoopOKp Tryz.prog 0 Tryz.f299.ntmps (aH Tryz.f299 0) (bh lpBc gH sy):=
 cj lpBc (al (.consU eV rfl .nil) _) mixed (fun b hb S hS=>by cases hS) gH sy AB (fun |⟨side,o,b,g,xs,n,i,x,⟨⟩⟩,hi=>Ow side o b g xs n i x hi)
theorem Bl (x:Innings) (side:Int) (hs:ah x) :(evPat (ao [cK] Tryz.f299) (find [(MX,Nb)]) Tryz.f299 jT aF (x,side,())).sat fun z_=>z_ =(JL (x,side,())).2:=by
 refine cast (by kernel_rfl) (?_:let r1:Bool:=isL (gH (side,(0:Int),(0:Int),false,x.11,(↑x.11.length:Int),(0:Int),x,()));let r2:Int×Int×Int×Bool×Innings×PUnit:=xk (dflt (I.prod (I.prod (I.prod (Ty.bool.prod ((Ty.nm Nm.Innings).prod Ty.unit)))))) (gH (side,(0:Int),(0:Int),false,x.11,(↑x.11.length:Int),(0:Int),x,()));let r3:Bool:=r2.2.2.2.2.1.9 !=(0:Int);let r4:Int:=bif r3 then IntKind.i64.wrap ((0:Int) +(1:Int)) else (0:Int);let r5:Bool:=r2.2.1==r2.2.2.2.2.1.5;let r6:Int:=bif r2.2.2.2.2.1.10 !=(0:Int) then IntKind.i64.wrap (r4 +(1:Int)) else r4;let r7:Bool:=bif !inW r2.2.2.2.2.1.9 (0:Int) r2.1 then true else bif !inW r2.2.2.2.2.1.10 (0:Int) r2.1 then true else bif r2.2.2.2.2.1.9==r2.2.2.2.2.1.10 then r3 else false;((fW fun x=>none)∧dJ (x.11,(↑x.11.length:Int),(0:Int),())∧x.11.length≤(1000000:Nat)∧((0:Int)≤(0:Int)∧(0:Int)≤(0:Int))∧(0:Int)≤(0:Int)∧(0:Int)≤(0:Int))∧(r1=true→ov (dflt (Ty.bool.prod Ty.unit)) (gH (side,(0:Int),(0:Int),false,x.11,(↑x.11.length:Int),(0:Int),x,())) =(nv x side,()))∧(r1=false→(r7=true→(false,()) =(nv x side,()))∧(r7=false→(bif r6==r2.2.2.1 then bif !r2.2.2.2.1 then r5 else bif decide (r6 >(0:Int)) then r5 else false else false,()) =(nv x side,()))))
 intro r1 r2 r3 r4 r5 r6 r7
 clear_value (hr1:r1=_) (hr2:r2=_) (hr3:r3=_) (hr4:r4=_) (hr5:r5=_) (hr6:r6=_) (hr7:r7=_)
 have er:gH (side,0,0,false,x.Batters,(x.Batters.length:Int),0,x,())=vU side x (jx x.Striker x.Other x.Batters 0 0 0 false):=rfl
 try rw [er] at hr1
 try rw [er] at hr2
 try rw [er]
 have hw1:IntKind.i64.wrap ((0:Int)+1)=1:=rfl
 have hw2:IntKind.i64.wrap ((1:Int)+1)=2:=rfl
 refine ⟨⟨rfl,⟨rfl,Int.le_refl _,by simp only;omega,?_⟩,hs.1,⟨Int.le_refl _,Int.le_refl _⟩,Int.le_refl _,Int.le_refl _⟩,fun h=>?_,fun h=>?_⟩
 ·have:=hs.1
  show x.Batters.length≤140737488355328
  omega
 ·cases hb:jx x.Striker x.Other x.Batters 0 0 0 false with
  | none=>simp only [nv,hb];rfl
  | some q=>rw [hb] at hr1;rw [hr1] at h;cases h
 ·cases hb:jx x.Striker x.Other x.Batters 0 0 0 false with
  | none=>rw [hb] at hr1;rw [hr1] at h;cases h
  | some q=>
   obtain ⟨o,b,g⟩:=q
   rw [hb] at hr2
   have e2:r2 =(side,o,b,g,x,()):=hr2
   subst e2
   simp only at hr3 hr5 hr6 hr7 ⊢
   have e6:r6=fA x:=by
    rw [hr6,hr4,hr3,hw1]
    unfold fA
    cases x.Striker != 0 <;> cases x.Other != 0 <;> rfl
   have e7:r7 =(!inW x.Striker 0 side||!inW x.Other 0 side||x.Striker==x.Other&&x.Striker != 0):=by
    rw [hr7,hr3]
    cases inW x.Striker 0 side <;> cases inW x.Other 0 side <;> cases x.Striker==x.Other <;> rfl
   rw [e6,hr5]
   simp only [nv,hb,BZ]
   rw [←e7]
   refine ⟨fun h7=>by rw [h7];rfl,fun h7=>?_⟩
   rw [h7]
   cases fA x==b <;> cases g <;> cases decide (fA x>0) <;> rfl
def vr:FuncId×Ctr:=(299,af KE jT aF JL)
theorem CD:CtrOK Tryz.prog KE 299 (af KE jT aF JL):=by
 refine aw (C:=ao [cK] Tryz.f299) (al (.consU eV rfl .nil) _) mixed (fn:=Tryz.f299) Tryz.func299 (by kernel_rfl) (by kernel_rfl) (by kernel_rfl) (by kernel_rfl) (by kernel_rfl) (by kernel_rfl) (Λ:=fun x=>find [(MX,Nb)]) ?_ ?_
 ·rintro ⟨x,side,⟨⟩⟩ hw hn
  exact LoopsOKp.at (by kernel_rfl) (.cons (by kernel_rfl) (NK) .nil)
 ·rintro ⟨x,side,⟨⟩⟩ hw hn
  exact Bl x side (hn _ List.mem_cons_self)
end Go.Proofs.YtffdpnmioidloaaGreatDoor
namespace Go.Proofs.YtffdpnmioidloaaGreatDoor
open Go Go.Mir
def aX (n lo hi:Int):Bool:=decide (n≥lo)&&decide (n≤hi)
def cq (r:Rules):Bool:=
 aX r.Side 2 11&&(aX r.Innings 1 2&&(aX r.Overs 0 90&&(aX r.Balls 4 8&&(aX r.Quota 0 90&&(aX r.Wide 1 5&&(aX r.NoBall 1 5&&(
 aX r.NewBall 0 200&&(aX r.FollowOn 0 1000&&(aX r.Reviews 0 9&&aX r.Outside 0 11)))))))))
def cZ (r:Rules) (i:Nat):Phase:=r.Power.getD i Phase.zero
def th (r:Rules) (p:Phase):Bool:=decide (p.From<1) ||(decide (p.From>p.To) ||(decide (p.To>r.Overs)||!aX p.Outside 0 11))
def nf (r:Rules) (i:Nat):Int:=
 if th r (cZ r i) then 2 else if decide ((i:Int)>0)&&decide ((cZ r i).From≤(cZ r (i - 1)).To) then 8 else 0
def dZ (r:Rules):Nat→Nat→Int
 | _,0=>0
 | i,n+1=>if nf r i != 0 then nf r i else dZ r (i+1) n
def gw (r:Rules):Int:=if (r.Power.length:Int)>8 then 9 else dZ r 0 r.Power.length
def rC (s:ByteArray) (i:Nat):Int:=((s.data.getD i 0).toNat:Int)
def ET (c:Int):Bool:=decide (c≥65)&&decide (c≤90)
def Ef (i:Int) (c:Int):Bool:=!ET c&&(i==0 ||(c != 95&&(c != 45&&(decide (c<48)||decide (c>57)))))
def lR (s:ByteArray):Bool:=(List.range s.size).all (fun i=>!Ef i (rC s i))&&(decide ((s.size:Int)≥1)&&decide ((s.size:Int)≤16))
def LF:Ty:= .prod (.int .i64) (.prod (.int .i64) (.prod (.int .i64) .unit))
def y4:Den LF→PRes:=fun x=>⟨[],.bool (aX x.1 x.2.1 x.2.2.1),[]⟩
def qJ:Ty:= .prod (.nm .Rules) .unit
def yY:Den qJ→PRes:=fun x=>⟨[],.bool (cq x.1),[]⟩
def yZ:Den qJ→PRes:=fun x=>⟨[],.int .i64 (gw x.1),[]⟩
def LK:Ty:= .prod .str .unit
def y3:Den LK→PRes:=fun x=>⟨[],.bool (lR x.1),[]⟩
def bF (x:Innings) (p:Int):Bool:=decide (p≥1)&&decide (p≤(x.Bowled.length:Int))
def yT:Den jR→PRes:=fun x=>⟨[],.bool (bF x.1 x.2.1),[]⟩
def k97:FuncId×Ctr:=(205,ar K8 LF y4)
def k93:FuncId×Ctr:=(160,ar K8 qJ yY)
def k94:FuncId×Ctr:=(161,ar K8 qJ yZ)
def k92:FuncId×Ctr:=(159,ar K8 LK y3)
def k84:FuncId×Ctr:=(393,ar K8 jR yT)
def k83:FuncId×Ctr:=(373,ar K8 psI gP)
def Ez (r:Rules) (i:Nat):Prop:=i≤r.Power.length∧dZ r 0 r.Power.length=dZ r i (r.Power.length - i)
def L94 (i:Nat):List (Lspec Nat):= [.out [true] [] [],.out [true] [] [],.next (i+1) [] [],.out [false] [] []]
def J94 (r:Rules) (i:Nat):St:=⟨[(1,.ptr 0 0),(10,.fsl (.nm .Phase) r.Power),(11,.int .i64 r.Power.length),(12,.int .i64 i)],[(0,.cells (flat fg (.nm .Rules) r))],fun _=>none,8⟩
def T94 (r:Rules):Tr:= .br (dZ r 0 r.Power.length != 0) (.leaf .ret ⟨[(2,.int .i64 (dZ r 0 r.Power.length))],[]⟩ 8) (.leaf (.ext 0) ⟨[],[]⟩ 8)
def Λ94 (r:Rules):Nat→Option LoopSum:=find [(4,cY ⟨[],[],8⟩ (J94 r 0) (T94 r))]
def kr (s:ByteArray) (i:Nat):Bool:=(List.range i).all (fun k=>!Ef k (rC s k))
def EA (s:ByteArray) (i:Nat):Prop:=i≤s.size∧kr s i=true
def L95 (i:Nat):List (Lspec Nat):= [.out [false] [] [],.next (i+1) [] [],.out [true] [] []]
end Go.Proofs.YtffdpnmioidloaaGreatDoor
namespace Go.Proofs.YtffdpnmioidloaaGreatDoor
open Go Go.Mir
def wG (r:Rules):Bool:=(r.FollowOn != 0&&r.Innings==1) ||((r.Quota != 0||decide ((r.Power.length:Int)>0))&&r.Overs==0)
def wO (r:Rules):Bool:=r.Quota != 0&&decide (IntKind.i64.wrap (r.Quota*r.Side)<r.Overs)
def aC (r:Rules):Int:=if !lR r.Name then 5 else if !cq r then 2 else if wG r then 1 else if wO r then 13 else gw r
def yU:Den qJ→PRes:=fun x=>⟨[],.int .i64 (aC x.1),[]⟩
def k85:FuncId×Ctr:=(90,ar K8 qJ yU)
def kX:Ty:= .prod (.nm .Rules) (.prod (.nm .Innings) (.prod (.int .i64) .unit))
def jW (r:Rules) (x:Innings) (p:Int):Int:=
 if !bF x p||aC r != 0 then 0 else if r.Quota==0 then -1
 else xD (IntKind.i64.wrap (IntKind.i64.wrap (r.Quota*r.Balls) - xD (x.Bowled.getD (p - 1).toNat 0) 0)) 0
def yR:Den kX→PRes:=fun x=>⟨[],.int .i64 (jW x.1 x.2.1 x.2.2.1),[]⟩
def k81:FuncId×Ctr:=(394,ar K8 kX yR)
end Go.Proofs.YtffdpnmioidloaaGreatDoor
namespace Go.Proofs.YtffdpnmioidloaaGreatDoor
open Go Go.Mir
def c9 (r:Rules) (x:Innings) (p:Int):Int:=
 if !bF x p||aC r != 0 then 3
 else if p==x.Keeper ||(p==x.Bowler||aU x p) then 7
 else if fI x.Before p then 8
 else if jW r x p != -1&&decide (x.InOver<IntKind.i64.wrap (r.Balls - jW r x p)) then 9 else 0
def yS:Den kX→PRes:=fun x=>⟨[],.int .i64 (c9 x.1 x.2.1 x.2.2.1),[]⟩
def k82:FuncId×Ctr:=(374,ar K8 kX yS)
def bN (r:Rules) (x:Innings) (p:Int):Innings:=if c9 r x p==0 then { x with Bowler:=p } else x
def yD:Den kX→PRes:=fun x=>⟨[ah x.2.1],.tup [C5 (bN x.1 x.2.1 x.2.2.1),.int .i64 (c9 x.1 x.2.1 x.2.2.1)],tB (bN x.1 x.2.1 x.2.2.1)⟩
def k50:FuncId×Ctr:=(342,ar K8 kX yD)
def EY (r:Rules) (x:Innings):Bool:=aC r != 0 ||(r.NewBall==0||decide (x.BallAge<IntKind.i64.wrap (r.NewBall*r.Balls)))
def bu (r:Rules) (x:Innings):Innings:=if EY r x then x else { x with BallAge:=0 }
def xI (r:Rules) (x:Innings):Int:=if EY r x then 22 else 0
def yF:Den A5→PRes:=fun x=>⟨[ah x.2.1],.tup [C5 (bu x.1 x.2.1),.int .i64 (xI x.1 x.2.1)],tB (bu x.1 x.2.1)⟩
def k55:FuncId×Ctr:=(350,ar K8 A5 yF)
def fk (x:Innings):List Int:=if fI x.Bowlers x.Bowler then x.Bowlers else x.Bowlers++[x.Bowler]
def rB (x:Innings):List Int:=x.Bowled.set (x.Bowler - 1).toNat (IntKind.i64.wrap (x.Bowled.getD (x.Bowler - 1).toNat 0+1))
def cu (x:Innings) (c:Bool):Innings:=
 if c then { x with Bowlers:=fk x,Bowled:=rB x,InOver:=IntKind.i64.wrap (x.InOver+1),BallAge:=IntKind.i64.wrap (x.BallAge+1) } else { x with Bowlers:=fk x }
def AO (y:Innings):Innings:={ y with Complete:=IntKind.i64.wrap (y.Complete+1),InOver:=0,Before:=y.Bowlers,Bowlers:= [],Bowler:=0 }
def gK (r:Rules) (x:Innings):Bool:=!bF x x.Bowler||aC r != 0
def an (r:Rules) (x:Innings) (c:Bool):Innings:=if gK r x then x else if (cu x c).InOver<r.Balls then cu x c else AO (cu x c)
def iu (r:Rules) (x:Innings) (c:Bool):Bool:=if gK r x then false else if (cu x c).InOver<r.Balls then false else true
def Fe:Ty:= .prod (.nm .Rules) (.prod (.nm .Innings) (.prod .bool .unit))
def yE:Den Fe→PRes:=fun x=>⟨[ah x.2.1],.tup [C5 (an x.1 x.2.1 x.2.2.1),.bool (iu x.1 x.2.1 x.2.2.1)],tB (an x.1 x.2.1 x.2.2.1)⟩
def k51:FuncId×Ctr:=(377,ar K8 Fe yE)
end Go.Proofs.YtffdpnmioidloaaGreatDoor
namespace Go.Proofs.YtffdpnmioidloaaGreatDoor
open Go Go.Mir
def J92 (s:ByteArray) (i:Nat):St:=⟨[(0,.str s),(7,.osl 16 16),(8,.int .i64 (aR s).length),(9,.int .i64 i)],[(16,.row 16 true (.int .u8) (aR s))],fun _=>none,40⟩
def T92 (s:ByteArray):Tr:= .br (kr s s.size) (.leaf (.ext 0) ⟨[(0,.str s)],[]⟩ 40) (.leaf .ret ⟨[(2,.kb false)],[]⟩ 40)
def Λ92 (s:ByteArray):Nat→Option LoopSum:=find [(2,cY ⟨[],[],40⟩ (J92 s 0) (T92 s))]
end Go.Proofs.YtffdpnmioidloaaGreatDoor
