/- Texts of the mirror and contracts, put together. -/
import Derived.Test.YthaeofeigglbhaaGreatDoorPN6
import Derived.Test.YthaeofeigglbhaaGreatDoorPN3
import Derived.Test.YthaeofeigglbhaaGreatDoorTie
import Derived.SizedLaws
import Derived.LaidMore
import Derived.OpenShut
import Derived.ProofKit
namespace Go.Proofs.YthaeofeigglbhaaGreatDoor
open Go Go.Mir
attribute [local irreducible] Go.Mir.DT.sat Go.Mir.evPat Go.Mir.RT.sat Go.Mir.evFn
abbrev qN0:Pat:=⟨[(0,.c .nilptr)],[],0⟩
abbrev qN1 (t:Ty):Pat:=⟨[(0,.c .nilptr),(1,.h t)],[],0⟩
abbrev qN2:Pat:=⟨[(0,.c .nilptr),(1,.h I),(2,.h (.nm .Event))],[],0⟩
abbrev ru:Pat:=cm [I,I]
abbrev pc:Pat:=cm [I]
abbrev HQ:Pat:=cm [.nm .Message,I]
abbrev HP:Pat:=cm [Evs]
abbrev HS:Pat:=cm [.str]
abbrev HR:Pat:=cm [.nm .Match]
def FU:Den (tyP qN2)→List Prop×Den (tyP ru):=fun _=>([],((-1:Int),(26:Int),()))
def F4:Den (tyP (qN1 I))→List Prop×Den (tyP HQ):=fun _=>([],(Message.zero,(1:Int),()))
def ub:Den (tyP qN0)→List Prop×Den (tyP ru):=fun _=>([],((0:Int),(0:Int),()))
def Gb:Den (tyP (qN1 (.nm .Event)))→List Prop×Den (tyP pc):=fun _=>([],((26:Int),()))
def F2:Den (tyP qN0)→List Prop×Den (tyP HP):=fun _=>([],(([]:List Mir.Event),()))
def Gc:Den (tyP (qN1 (.nm .Message)))→List Prop×Den (tyP pc):=fun _=>([],((1:Int),()))
def FZ:Den (tyP qN0)→List Prop×Den (tyP pc):=fun _=>([],((0:Int),()))
def Gk:Den (tyP qN0)→List Prop×Den (tyP HS):=fun _=>([],(ByteArray.mk #[],()))
def F3:Den (tyP qN0)→List Prop×Den (tyP HR):=fun _=>([],(Match.zero,()))
def Fh (s:live_Server) (e:Mir.Event):Prop:=jP s∧bb s.match_ e=0∧s.log=[]
def yr (s:live_Server) (e:Mir.Event):live_Server:={ s with match_:=bG s.match_ e,log:= [e] }
def ov:Den (tyP qSE)→List Prop×Den (tyP qSL):=fun x=>([Fh (mkSX x.2) x.1],((0:Int),(yr (mkSX x.2) x.1).rules,(yr (mkSX x.2) x.1).epoch,(yr (mkSX x.2) x.1).match_,[x.1],()))
theorem sL (k:Int) (e:Mir.Event) :(evPat (an [] Tryz.f13) (fun _=>none) Tryz.f13 qN2 ru (k,e,())).sat fun z_=>z_ =(FU (k,e,())).2:=by
 refine cast (by kernel_rfl) (?_ :((-1:Int),(26:Int),()) =((-1:Int),(26:Int),()))
 rfl
def bB:FuncId×Ctr:=(13,af KE qN2 ru FU)
theorem dz:CtrOK Tryz.prog KE 13 (af KE qN2 ru FU):=by
 refine ax (C:=an [] Tryz.f13) (al (CtrsOK.nil) _) mixed (fn:=Tryz.f13) Tryz.func13 (by kernel_rfl) (by kernel_rfl) (by kernel_rfl) (by kernel_rfl) (by kernel_rfl) (by kernel_rfl) (Λ:=fun _ _=>none) ?_ ?_
 ·exact fun _ _ _ _ _ _ _ _ h=>by cases h
 ·rintro ⟨k,e,⟨⟩⟩ hw hn
  exact sL k e
theorem sM (k:Int) :(evPat (an [] Tryz.f14) (fun _=>none) Tryz.f14 (qN1 I) HQ (k,())).sat fun z_=>z_ =(F4 (k,())).2:=by
 refine cast (by kernel_rfl) (?_ :(Message.mk (0:Int) (0:Int) (0:Int) [],(1:Int),()) =(Message.mk (0:Int) (0:Int) (0:Int) [],(1:Int),()))
 rfl
def klvMessageN:FuncId×Ctr:=(14,af KE (qN1 I) HQ F4)
theorem vz:CtrOK Tryz.prog KE 14 (af KE (qN1 I) HQ F4):=by
 refine ax (C:=an [] Tryz.f14) (al (CtrsOK.nil) _) mixed (fn:=Tryz.f14) Tryz.func14 (by kernel_rfl) (by kernel_rfl) (by kernel_rfl) (by kernel_rfl) (by kernel_rfl) (by kernel_rfl) (Λ:=fun _ _=>none) ?_ ?_
 ·exact fun _ _ _ _ _ _ _ _ h=>by cases h
 ·rintro ⟨k,⟨⟩⟩ hw hn
  exact sM k
theorem vP :(evPat (an [] Tryz.f15) (fun _=>none) Tryz.f15 qN0 ru ()).sat fun z_=>z_ =(ub ()).2:=by
 refine cast (by kernel_rfl) (?_ :((0:Int),(0:Int),()) =((0:Int),(0:Int),()))
 rfl
def bW:FuncId×Ctr:=(15,af KE qN0 ru ub)
theorem ei:CtrOK Tryz.prog KE 15 (af KE qN0 ru ub):=by
 refine ax (C:=an [] Tryz.f15) (al (CtrsOK.nil) _) mixed (fn:=Tryz.f15) Tryz.func15 (by kernel_rfl) (by kernel_rfl) (by kernel_rfl) (by kernel_rfl) (by kernel_rfl) (by kernel_rfl) (Λ:=fun _ _=>none) ?_ ?_
 ·exact fun _ _ _ _ _ _ _ _ h=>by cases h
 ·rintro ⟨⟩ hw hn
  exact vP
theorem Dm :(evPat (an [] Tryz.f16) (fun _=>none) Tryz.f16 qN0 ru ()).sat fun z_=>z_ =(ub ()).2:=by
 refine cast (by kernel_rfl) (?_ :((0:Int),(0:Int),()) =((0:Int),(0:Int),()))
 rfl
def dU:FuncId×Ctr:=(16,af KE qN0 ru ub)
theorem iT:CtrOK Tryz.prog KE 16 (af KE qN0 ru ub):=by
 refine ax (C:=an [] Tryz.f16) (al (CtrsOK.nil) _) mixed (fn:=Tryz.f16) Tryz.func16 (by kernel_rfl) (by kernel_rfl) (by kernel_rfl) (by kernel_rfl) (by kernel_rfl) (by kernel_rfl) (Λ:=fun _ _=>none) ?_ ?_
 ·exact fun _ _ _ _ _ _ _ _ h=>by cases h
 ·rintro ⟨⟩ hw hn
  exact Dm
theorem sN (e:Mir.Event) :(evPat (an [] Tryz.f17) (fun _=>none) Tryz.f17 (qN1 (.nm .Event)) pc (e,())).sat fun z_=>z_ =(Gb (e,())).2:=by
 refine cast (by kernel_rfl) (?_ :((26:Int),()) =((26:Int),()))
 rfl
def klvPublishN:FuncId×Ctr:=(17,af KE (qN1 (.nm .Event)) pc Gb)
theorem vA:CtrOK Tryz.prog KE 17 (af KE (qN1 (.nm .Event)) pc Gb):=by
 refine ax (C:=an [] Tryz.f17) (al (CtrsOK.nil) _) mixed (fn:=Tryz.f17) Tryz.func17 (by kernel_rfl) (by kernel_rfl) (by kernel_rfl) (by kernel_rfl) (by kernel_rfl) (by kernel_rfl) (Λ:=fun _ _=>none) ?_ ?_
 ·exact fun _ _ _ _ _ _ _ _ h=>by cases h
 ·rintro ⟨e,⟨⟩⟩ hw hn
  exact sN e
theorem Dp :(evPat (an [] Tryz.f18) (fun _=>none) Tryz.f18 qN0 HP ()).sat fun z_=>z_ =(F2 ()).2:=by
 refine cast (by kernel_rfl) (?_ :(([]:List Mir.Event),()) =([],()))
 rfl
def klvLogN:FuncId×Ctr:=(18,af KE qN0 HP F2)
theorem E6:CtrOK Tryz.prog KE 18 (af KE qN0 HP F2):=by
 refine ax (C:=an [] Tryz.f18) (al (CtrsOK.nil) _) mixed (fn:=Tryz.f18) Tryz.func18 (by kernel_rfl) (by kernel_rfl) (by kernel_rfl) (by kernel_rfl) (by kernel_rfl) (by kernel_rfl) (Λ:=fun _ _=>none) ?_ ?_
 ·exact fun _ _ _ _ _ _ _ _ h=>by cases h
 ·rintro ⟨⟩ hw hn
  exact Dp
theorem sO (m:Message) :(evPat (an [] Tryz.f19) (fun _=>none) Tryz.f19 (qN1 (.nm .Message)) pc (m,())).sat fun z_=>z_ =(Gc (m,())).2:=by
 refine cast (by kernel_rfl) (?_ :((1:Int),()) =((1:Int),()))
 rfl
def bC:FuncId×Ctr:=(19,af KE (qN1 (.nm .Message)) pc Gc)
theorem dC:CtrOK Tryz.prog KE 19 (af KE (qN1 (.nm .Message)) pc Gc):=by
 refine ax (C:=an [] Tryz.f19) (al (CtrsOK.nil) _) mixed (fn:=Tryz.f19) Tryz.func19 (by kernel_rfl) (by kernel_rfl) (by kernel_rfl) (by kernel_rfl) (by kernel_rfl) (by kernel_rfl) (Λ:=fun _ _=>none) ?_ ?_
 ·exact fun _ _ _ _ _ _ _ _ h=>by cases h
 ·rintro ⟨m,⟨⟩⟩ hw hn
  exact sO m
theorem AD :(evPat (an [] Tryz.f20) (fun _=>none) Tryz.f20 qN0 pc ()).sat fun z_=>z_ =(FZ ()).2:=by
 refine cast (by kernel_rfl) (?_ :((0:Int),()) =((0:Int),()))
 rfl
def c8:FuncId×Ctr:=(20,af KE qN0 pc FZ)
theorem gr:CtrOK Tryz.prog KE 20 (af KE qN0 pc FZ):=by
 refine ax (C:=an [] Tryz.f20) (al (CtrsOK.nil) _) mixed (fn:=Tryz.f20) Tryz.func20 (by kernel_rfl) (by kernel_rfl) (by kernel_rfl) (by kernel_rfl) (by kernel_rfl) (by kernel_rfl) (Λ:=fun _ _=>none) ?_ ?_
 ·exact fun _ _ _ _ _ _ _ _ h=>by cases h
 ·rintro ⟨⟩ hw hn
  exact AD
theorem AE :(evPat (an [] Tryz.f21) (fun _=>none) Tryz.f21 qN0 HS ()).sat fun z_=>z_ =(Gk ()).2:=by
 refine cast (by kernel_rfl) (?_ :(ByteArray.mk #[],()) =(ByteArray.mk #[],()))
 rfl
def c9:FuncId×Ctr:=(21,af KE qN0 HS Gk)
theorem gu:CtrOK Tryz.prog KE 21 (af KE qN0 HS Gk):=by
 refine ax (C:=an [] Tryz.f21) (al (CtrsOK.nil) _) mixed (fn:=Tryz.f21) Tryz.func21 (by kernel_rfl) (by kernel_rfl) (by kernel_rfl) (by kernel_rfl) (by kernel_rfl) (by kernel_rfl) (Λ:=fun _ _=>none) ?_ ?_
 ·exact fun _ _ _ _ _ _ _ _ h=>by cases h
 ·rintro ⟨⟩ hw hn
  exact AE
theorem yS :(evPat (an [] Tryz.f22) (fun _=>none) Tryz.f22 qN0 HR ()).sat fun z_=>z_ =(F3 ()).2:=by
 refine cast (by kernel_rfl) (?_:let r1:Mir.Result:=Mir.Result.mk (0:Int) (0:Int) (0:Int);(Match.mk (Rules.mk ByteArray.empty (0:Int) (0:Int) (0:Int) (0:Int) (0:Int) (0:Int) (0:Int) false (0:Int) (0:Int) (0:Int) (0:Int) []) (0:Int) (0:Int) false [] ((0:Int),(0:Int),()) r1,()) =(Match.mk (Rules.mk ByteArray.empty (0:Int) (0:Int) (0:Int) (0:Int) (0:Int) (0:Int) (0:Int) false (0:Int) (0:Int) (0:Int) (0:Int) []) (0:Int) (0:Int) false [] ((0:Int),(0:Int),()) r1,()))
 intro r1
 clear_value (hr1:r1=_)
 rfl
def cq:FuncId×Ctr:=(22,af KE qN0 HR F3)
theorem fj:CtrOK Tryz.prog KE 22 (af KE qN0 HR F3):=by
 refine ax (C:=an [] Tryz.f22) (al (CtrsOK.nil) _) mixed (fn:=Tryz.f22) Tryz.func22 (by kernel_rfl) (by kernel_rfl) (by kernel_rfl) (by kernel_rfl) (by kernel_rfl) (by kernel_rfl) (Λ:=fun _ _=>none) ?_ ?_
 ·exact fun _ _ _ _ _ _ _ _ h=>by cases h
 ·rintro ⟨⟩ hw hn
  exact yS
def klvPublishT:FuncId×Ctr:=(17,af KE qSE qSL ov)
theorem vB:CtrOK Tryz.prog KE 17 (af KE qSE qSL ov):=
 yh (A:=nz) (B:=ov) (fun x hn=>by
  obtain ⟨h1,h2,h3⟩:=hn _ List.mem_cons_self
  have h1:jP (mkSX x.2):=h1
  have h2:bb (mkSX x.2).match_ x.1=0:=h2
  have h3 :(mkSX x.2).log=[]:=h3
  have hp:iZ (mkSX x.2) x.1=0:=by
   unfold iZ
   rw [h3,h2]
   rfl
  have hs:dQ (mkSX x.2) x.1=yr (mkSX x.2) x.1:=by
   unfold dQ yr
   rw [hp,h3]
   rfl
  refine ⟨fun p hp=>?_,?_⟩
  ·rw [List.mem_singleton.1 hp];exact h1
  ·show (iZ (mkSX x.2) x.1,(dQ (mkSX x.2) x.1).rules,(dQ (mkSX x.2) x.1).epoch,(dQ (mkSX x.2) x.1).match_,(dQ (mkSX x.2) x.1).log,()) =((0:Int),(yr (mkSX x.2) x.1).rules,(yr (mkSX x.2) x.1).epoch,(yr (mkSX x.2) x.1).match_,[x.1],())
   rw [hp,hs]
   rfl) oP
def I5:Mir.Event:={ m0 with Kind:=1,Side:=1,Yes:=true }
theorem Ih {r:Rules} (h:az r=0):bb (kU r) I5=0:=by
 have hi:=mD h
 have hW:W (2*r.Innings)=2*r.Innings:=bM (by omega) (by omega)
 have hv:aM (kU r)=true:=by
  have e1 :(az (kU r).Rules==0)=true:=by show (az r==0)=true;rw [h];rfl
  have hb:decide ((([]:List Innings).length:Int)>W (2*r.Innings))=false:=by rw [hW];exact decide_eq_false (by simp;omega)
  have e4:fL (kU r)=false:=by
   show ((decide ((0:Int)<0) ||(decide ((0:Int)>2)||decide ((([]:List Innings).length:Int)>W (2*r.Innings))))||_||_||_||_||_)=false
   rw [hb]
   rfl
  unfold aM
  rw [e1,e4]
  rfl
 unfold bb
 rw [hv]
 rfl
end Go.Proofs.YthaeofeigglbhaaGreatDoor
namespace Go.Mir
open Go.RowKit Go.ChangeShapes Go.WideShapes
open Go.Proofs.YthaeofeigglbhaaGreatDoor.Rows (uptoBulk uptoBulkAll)
section
variable {H:Type} {enc:TypeId×Value→H} {P:Program} {w:World}
theorem Jf {K:Nat} {f:FuncId} {c1 c2 c:Ctr} (h1:CtrOK P K f c1) (h2:CtrOK P K f c2)
  (h :∀ args H m ps v dh,c args H m=some (ps,v,dh)→(∀ p∈ps,p)→(∃ ps1,c1 args H m=some (ps1,v,dh)∧∀ p∈ps1,p)∨(∃ ps2,c2 args H m=some (ps2,v,dh)∧∀ p∈ps2,p)):CtrOK P K f c:=
 ⟨h1.fn,fun B E hE args av hav m hm ps v dh hc hps=>by
  rcases h _ _ _ _ _ _ hc hps with ⟨p1,e1,k1⟩ |⟨p2,e2,k2⟩
  ·exact h1.calls B E hE args av hav m hm p1 v dh e1 k1
  ·exact h2.calls B E hE args av hav m hm p2 v dh e2 k2⟩
theorem Fc {K:Nat} {q q':Pat} {s:Den (tyP q)→List Prop×Den (tyP q')} {args:List V} {H:aL} {m:Nat} {ps:List Prop} {v:V} {dh:List (Nat×Blk)} (h:af K q q' s args H m=some (ps,v,dh)) :
  ∃ x,ps =(s x).1∧∀ s1:Den (tyP q)→List Prop×Den (tyP q'),(s1 x).2 =(s x).2→af K q q' s1 args H m=some ((s1 x).1,v,dh):=by
 unfold af at h ⊢
 simp only at h ⊢
 cases hg:u9 q ⟨di 0 args,[],H,m⟩ with
 | none=>rw [hg] at h;cases h
 | some x=>
  rw [hg] at h
  simp only at h ⊢
  cases hb :(x7 q q' (iD q ⟨di 0 args,[],H,m⟩)&&(Nat.beq args.length q.tm.length&&Nat.ble q'.nx K)) with
  | false=>rw [hb] at h;cases h
  | true=>
   rw [hb] at h
   simp only [cond_true,Option.some.injEq,Prod.mk.injEq] at h ⊢
   obtain ⟨h1,h2,h3⟩:=h
   exact ⟨x,h1.symm,fun s1 e=>⟨rfl,by rw [e];exact h2,by rw [e];exact h3⟩⟩
theorem JM {K:Nat} {f:FuncId} {q q':Pat} {s1 s2 s:Den (tyP q)→List Prop×Den (tyP q')} (h1:CtrOK P K f (af K q q' s1)) (h2:CtrOK P K f (af K q q' s2)) (e1 :∀ x,(s1 x).2 =(s x).2) (e2 :∀ x,(s2 x).2 =(s x).2)
  (hn :∀ x,(∀ p∈(s x).1,p)→(∀ p∈(s1 x).1,p)∨(∀ p∈(s2 x).1,p)):CtrOK P K f (af K q q' s):=
 Jf h1 h2 fun args H m ps v dh hc hps=>by
  obtain ⟨x,rfl,k⟩:=Fc hc
  rcases hn x hps with h|h
  ·exact .inl ⟨_,k s1 (e1 x),h⟩
  ·exact .inr ⟨_,k s2 (e2 x),h⟩
theorem zM {K:Nat} {f:FuncId} {fn:Func} {c:Ctr} (hc:CtrOK P K f c) {ps:Ty} (hps:rL P fn.params.toList ps=true) (hgl:pH w fun _=>False)
  (h :∀ x:Den ps,wfD ps x→∃ ls,c (bh ps x) (fun _=>none) 0=some (ls,.bool true,[])∧∀ p∈ls,p)
  {args:Array Value} {ds:List (DataW H)} {p:List MemPlace} (hA:DataW.TrodAll enc P w 0 (fun _=>true) true fn.params.toList args.toList ds p) (hval :∀ (j:Nat) t v,fn.params[j]?=some t→args[j]?=some v→∃ r b,Value.okWide P w r b t v)
  (hw :∀ m∈DataW.weightsEach P fn.params.toList ds,m≤aW) :
  Calls P f args w fun e w'=>e = .returned (.bool true)∧Keeps w (fun _=>False) w':=by
 obtain ⟨x,k1,⟨cs,k2⟩,_,_,_⟩:=nL hA hps (fun j t v h1 h2=>hval j t v (by simpa using h1) (by simpa using h2)) hw
 obtain ⟨ls,e1,e2⟩:=h x ⟨_,_,_,k2⟩
 have hc:=hc.calls (Ij w hgl) (GO w) (D6 w hgl) _ _ k1 0 (fun n _ _ hu=>hu) ls _ _ e1 e2
 have e:args.toList.toArray=args:=by simp
 rw [e] at hc
 refine Calls.mono hc fun e w' hr=>?_
 obtain ⟨E',v',rfl,G,hv⟩:=hr
 simp only [aa] at hv
 subst hv
 refine ⟨rfl,?_⟩
 have:=G.rel.keeps
 rw [G.w] at this
 exact this
end
end Go.Mir
namespace Go.Proofs.YthaeofeigglbhaaGreatDoor
open Go Go.Mir
attribute [local irreducible] Go.Mir.DT.sat Go.Mir.evPat Go.Mir.RT.sat Go.Mir.evFn
def klvPublishX:FuncId×Ctr:=(17,orC klvPublishT.2 klvPublishN.2)
def klvMessageX:FuncId×Ctr:=(14,orC klvMessageN.2 klvMessage.2)
def klvLogX:FuncId×Ctr:=(18,orC klvLogN.2 klvLog.2)
abbrev qRE:Pat:=cm [.nm .Rules,.nm .Event]
def IT:Den (tyP qRE)→List Prop×Den (tyP aC):=fun x=>([vx (mB x.1)],(true,()))
def IR:Den (tyP qRE)→List Prop×Den (tyP aC):=fun x=>([xf (mB x.1)],(true,()))
def LW:Den (tyP qRE)→List Prop×Den (tyP aC):=fun _=>([],(true,()))
theorem dB:CtrOK Tryz.prog KE 17 klvPublishX.2:=CtrOK.or vB vA
theorem dA:CtrOK Tryz.prog KE 14 klvMessageX.2:=CtrOK.or vz oO
theorem iU:CtrOK Tryz.prog KE 18 klvLogX.2:=CtrOK.or E6 Hs
theorem AI (r:Rules) (x:Mir.Event) (h0:vx (mB r)) :(evPat (an [cr,bB,klvMessageX,bW,dU,klvPublishX,klvLogX,bC,c8,c9,cq,bD,kN,dp] Tryz.f3) (find [(rid (aE Tryz.f3 0),bp 2 (an [cr,bB,klvMessageX,bW,dU,klvPublishX,klvLogX,bC,c8,c9,cq,bD,kN,dp] Tryz.f3) (fun _=>none) (aE Tryz.f3 0)),(rid (aE Tryz.f3 1),bp 2 (an [cr,bB,klvMessageX,bW,dU,klvPublishX,klvLogX,bC,c8,c9,cq,bD,kN,dp] Tryz.f3) (fun _=>none) (aE Tryz.f3 1))]) Tryz.f3 qRE aC (r,x,())).sat fun z_=>z_ =(IT (r,x,())).2:=by
 refine cast (by kernel_rfl) (?_:let r1:Bool:=(26:Int) !=(26:Int);let r2:Bool:=(1:Int) !=(1:Int);let r3:Bool:=(0:Int) !=(0:Int);let r4:Bool:=(1:Int) ==(1:Int);let r5:Bool:=(0:Int) ==(0:Int);let r6:Bool:=(↑(0:Nat):Int) !=(0:Int);let r7:Rules:=Rules.mk (zh r.1) r.2 r.3 r.4 r.5 r.6 r.7 r.8 r.9 r.10 r.11 r.12 r.13 (List.take (if (10:Int) <(↑r.14.length:Int) then (10:Int) else (↑r.14.length:Int)).toNat r.14);let r8:Mir.Event:=Mir.Event.mk (1:Int) (1:Int) (0:Int) (0:Int) true (0:Int) (0:Int) (Delivery.mk (0:Int) (0:Int) (0:Int) (0:Int) (0:Int) false (0:Int) (0:Int) (0:Int) (0:Int) false (0:Int));let r9:List Mir.Event:= [r8];let r10:Int:=(↑r9.length:Int);let r11:Bool:=r10 ==(1:Int);let r12:Match:=Match.mk r7 (1:Int) (0:Int) false [] ((0:Int),(0:Int),()) (Result.mk (0:Int) (0:Int) (0:Int));let r13:Bool:=bif r1 then true else bif (-1:Int) !=(-1:Int) then true else bif r1 then true else bif r2 then true else bif r6 then true else bif r3 then true else bif r3 then true else bif r6 then true else bif r2 then true else bif r3 then true else bif r3 then true else bif r3 then true else bif !(ByteArray.mk #[]).toList ==(ByteArray.mk #[]).toList then true else (↑(0:Nat):Int) !=(0:Int);let r14:live_Server:=live_Server.mk r7 (1:Int) r9 (bG r12 r8);let r15:Int:=(↑(iR r14 (0:Int)).length:Int);let r16:Bool:=gH r14 (0:Int) ==(0:Int);let r17:Bool:=r15 ==(1:Int);((!true)=true→(false,()) =(true,()))∧((!true)=false→(r13=true→(false,()) =(true,()))∧(r13=false→vx r7∧(r3=true→(false,()) =(true,()))∧(r3=false→((0:Int)≤(0:Int)∧(0:Int) <(↑tossW.length:Int))∧Fh (live_Server.mk r7 (1:Int) [] r12) r8∧r9.length≤(1000000:Nat)∧True∧((0:Int)≤(0:Int)∧(0:Int)<r10)∧r9.length≤(1000000:Nat)∧True∧((0:Int)≤(0:Int)∧(0:Int)<r15)∧r9.length≤(1000000:Nat)∧((r16=true→(r16=true→(r11=true→(r17=true→((0:Int)≤(0:Int)∧(0:Int)<r15)∧((0:Int)≤(0:Int)∧(0:Int) <(↑tossW.length:Int))∧True)∧(r17=false→True))∧(r11=false→True))∧(r16=false→True))∧(r16=false→True))∧(true=true→(bif r16 then bif r16 then bif r11 then bif r17 then r4&&(r4&&(r5&&(r5&&(true==true&&(r5&&(r5&&(r5&&(r5&&(r5&&(r5&&(r5&&(false==false&&(r5&&(r5&&(r5&&(r5&&(false==false&&(r5&&true)))))))))))))))))) else false else false else false else false,()) =(true,()))))))
 intro r1 r2 r3 r4 r5 r6 r7 r8 r9 r10 r11 r12 r13 r14 r15 r16 r17
 clear_value (hr1:r1=_) (hr2:r2=_) (hr3:r3=_) (hr4:r4=_) (hr5:r5=_) (hr6:r6=_) (hr7:r7=_) (hr8:r8=_) (hr9:r9=_) (hr10:r10=_) (hr11:r11=_) (hr12:r12=_) (hr13:r13=_) (hr14:r14=_) (hr15:r15=_) (hr16:r16=_) (hr17:r17=_)
 have e1:r1=false:=by rw [hr1];rfl
 have e2:r2=false:=by rw [hr2];rfl
 have e3:r3=false:=by rw [hr3];rfl
 have e4:r4=true:=by rw [hr4];rfl
 have e5:r5=true:=by rw [hr5];rfl
 have e6:r6=false:=by rw [hr6];rfl
 have e13:r13=false:=by rw [hr13,e1,e2,e3,e6];simp
 have h7:az r7=0:=by rw [hr7];exact h0
 have e8:r8=I5:=hr8
 have e12:r12=kU r7:=hr12
 have e10:r10=1:=by rw [hr10,hr9];rfl
 have l9:r9.length=1:=by rw [hr9];rfl
 have e11:r11=true:=by rw [hr11,e10];rfl
 have hG:qU r14 0=false:=by
  have hl:r14.log=r9:=by rw [hr14]
  unfold qU
  rw [hl,l9]
  rfl
 have hE:iR r14 0=r9:=by
  have hl:r14.log=r9:=by rw [hr14]
  unfold iR
  rw [hG,hl]
  rfl
 have e15:r15=1:=by rw [hr15,hE,l9];rfl
 have e16:r16=true:=by rw [hr16];unfold gH;rw [hG];rfl
 have e17:r17=true:=by rw [hr17,e15];rfl
 have hp:Fh (live_Server.mk r7 1 [] r12) r8:=by
  rw [e8,e12]
  exact ⟨⟨jE h7,Nat.zero_le _⟩,Ih h7,rfl⟩
 have ht :(tossW.length:Int)=3:=rfl
 rw [ht]
 refine ⟨fun h=>(by cases h),fun _=>⟨fun h=>(by rw [e13] at h;cases h),fun _=>⟨h7,fun h=>(by rw [e3] at h;cases h),fun _=>⟨by decide,hp,by omega,trivial,by omega,by omega,trivial,by omega,by omega,⟨fun _=>⟨fun _=>⟨fun _=>⟨fun _=>⟨⟨Int.le_refl _,by omega⟩,⟨by decide,by decide⟩,trivial⟩,fun _=>trivial⟩,fun _=>trivial⟩,fun _=>trivial⟩,fun _=>trivial⟩,fun _=>?_⟩⟩⟩⟩
 rw [e16,e11,e17,e4,e5]
 rfl
theorem C2:CtrOK Tryz.prog KE 3 (af KE qRE aC IT):=by
 refine ax (C:=an [cr,bB,klvMessageX,bW,dU,klvPublishX,klvLogX,bC,c8,c9,cq,bD,kN,dp] Tryz.f3) (al (.consU fk rfl (.consU dz rfl (.consU dA rfl (.consU ei rfl (.consU iT rfl (.consU dB rfl (.consU iU rfl (.consU dC rfl (.consU gr rfl (.consU gu rfl (.consU fj rfl (.consU dD rfl (.consU pz rfl (.consU gK rfl .nil)))))))))))))) _) mixed (fn:=Tryz.f3) Tryz.func3 (by kernel_rfl) (by kernel_rfl) (by kernel_rfl) (by kernel_rfl) (by kernel_rfl) (by kernel_rfl) (Λ:=fun x=>find [(rid (aE Tryz.f3 0),bp 2 (an [cr,bB,klvMessageX,bW,dU,klvPublishX,klvLogX,bC,c8,c9,cq,bD,kN,dp] Tryz.f3) (fun _=>none) (aE Tryz.f3 0)),(rid (aE Tryz.f3 1),bp 2 (an [cr,bB,klvMessageX,bW,dU,klvPublishX,klvLogX,bC,c8,c9,cq,bD,kN,dp] Tryz.f3) (fun _=>none) (aE Tryz.f3 1))]) ?_ ?_
 ·rintro ⟨r,x,⟨⟩⟩ hw hn
  exact LoopsOKp.at (by kernel_rfl) (.cons (by kernel_rfl) (eo 2 (al (.consU fk rfl (.consU dz rfl (.consU dA rfl (.consU ei rfl (.consU iT rfl (.consU dB rfl (.consU iU rfl (.consU dC rfl (.consU gr rfl (.consU gu rfl (.consU fj rfl (.consU dD rfl (.consU pz rfl (.consU gK rfl .nil)))))))))))))) _) mixed (Λ:=fun _=>none) (b:=aE Tryz.f3 0) rfl (fun _ _ _ h=>by cases h)) (.cons (by kernel_rfl) (eo 2 (al (.consU fk rfl (.consU dz rfl (.consU dA rfl (.consU ei rfl (.consU iT rfl (.consU dB rfl (.consU iU rfl (.consU dC rfl (.consU gr rfl (.consU gu rfl (.consU fj rfl (.consU dD rfl (.consU pz rfl (.consU gK rfl .nil)))))))))))))) _) mixed (Λ:=fun _=>none) (b:=aE Tryz.f3 1) rfl (fun _ _ _ h=>by cases h)) .nil))
 ·rintro ⟨r,x,⟨⟩⟩ hw hn
  exact AI r x (hn _ List.mem_cons_self)
theorem AH (r:Rules) (x:Mir.Event) (h0:xf (mB r)) :(evPat (an [cr,bB,klvMessageX,bW,dU,klvPublishX,klvLogX,bC,c8,c9,cq,bD,lM,dp] Tryz.f3) (find [(rid (aE Tryz.f3 0),bp 2 (an [cr,bB,klvMessageX,bW,dU,klvPublishX,klvLogX,bC,c8,c9,cq,bD,lM,dp] Tryz.f3) (fun _=>none) (aE Tryz.f3 0)),(rid (aE Tryz.f3 1),bp 2 (an [cr,bB,klvMessageX,bW,dU,klvPublishX,klvLogX,bC,c8,c9,cq,bD,lM,dp] Tryz.f3) (fun _=>none) (aE Tryz.f3 1))]) Tryz.f3 qRE aC (r,x,())).sat fun z_=>z_ =(IR (r,x,())).2:=by
 refine cast (by kernel_rfl) (?_:let r1:Bool:=(26:Int) !=(26:Int);let r2:Bool:=(1:Int) !=(1:Int);let r3:Bool:=(0:Int) !=(0:Int);let r4:Bool:=(1:Int) ==(0:Int);let r5:Bool:=(0:Int) ==(1:Int);let r6:Bool:=(0:Int) ==(0:Int);let r7:Bool:=(↑(0:Nat):Int) !=(0:Int);let r8:Bool:=(↑(0:Nat):Int) ==(1:Int);let r9:Rules:=Rules.mk (zh r.1) r.2 r.3 r.4 r.5 r.6 r.7 r.8 r.9 r.10 r.11 r.12 r.13 (List.take (if (10:Int) <(↑r.14.length:Int) then (10:Int) else (↑r.14.length:Int)).toNat r.14);let r10:Bool:=az r9 !=(0:Int);let r11:Bool:=bif r1 then true else bif (-1:Int) !=(-1:Int) then true else bif r1 then true else bif r2 then true else bif r7 then true else bif r3 then true else bif r3 then true else bif r7 then true else bif r2 then true else bif r3 then true else bif r3 then true else bif r3 then true else bif !(ByteArray.mk #[]).toList ==(ByteArray.mk #[]).toList then true else (↑(0:Nat):Int) !=(0:Int);((!true)=true→(false,()) =(true,()))∧((!true)=false→(r11=true→(false,()) =(true,()))∧(r11=false→xf r9∧(r10=true→(true,()) =(true,()))∧(r10=false→((0:Int)≤(0:Int)∧(0:Int) <(↑tossW.length:Int))∧True∧True∧((r4=true→(r4=true→(r8=true→(r8=true→((0:Int)≤(0:Int)∧(0:Int) <(↑(0:Nat):Int))∧((0:Int)≤(0:Int)∧(0:Int) <(↑tossW.length:Int))∧True)∧(r8=false→True))∧(r8=false→True))∧(r4=false→True))∧(r4=false→True))∧(true=true→(bif r4 then bif r4 then bif r8 then bif r8 then r5&&(r5&&(r6&&(r6&&(false==true&&(r6&&(r6&&(r6&&(r6&&(r6&&(r6&&(r6&&(false==false&&(r6&&(r6&&(r6&&(r6&&(false==false&&(r6&&true)))))))))))))))))) else false else false else false else false,()) =(true,()))))))
 intro r1 r2 r3 r4 r5 r6 r7 r8 r9 r10 r11
 clear_value (hr1:r1=_) (hr2:r2=_) (hr3:r3=_) (hr4:r4=_) (hr5:r5=_) (hr6:r6=_) (hr7:r7=_) (hr8:r8=_) (hr9:r9=_) (hr10:r10=_) (hr11:r11=_)
 have e1:r1=false:=by rw [hr1];rfl
 have e2:r2=false:=by rw [hr2];rfl
 have e3:r3=false:=by rw [hr3];rfl
 have e7:r7=false:=by rw [hr7];rfl
 have e11:r11=false:=by rw [hr11,e1,e2,e3,e7];simp
 have h9:az r9≠0:=by rw [hr9];exact h0
 have e10:r10=true:=by rw [hr10];simpa using h9
 refine ⟨fun h=>(by cases h),fun _=>⟨fun h=>(by rw [e11] at h;cases h),fun _=>⟨h9,fun _=>rfl,fun h=>(by rw [e10] at h;cases h)⟩⟩⟩
theorem C1:CtrOK Tryz.prog KE 3 (af KE qRE aC IR):=by
 refine ax (C:=an [cr,bB,klvMessageX,bW,dU,klvPublishX,klvLogX,bC,c8,c9,cq,bD,lM,dp] Tryz.f3) (al (.consU fk rfl (.consU dz rfl (.consU dA rfl (.consU ei rfl (.consU iT rfl (.consU dB rfl (.consU iU rfl (.consU dC rfl (.consU gr rfl (.consU gu rfl (.consU fj rfl (.consU dD rfl (.consU q8 rfl (.consU gK rfl .nil)))))))))))))) _) mixed (fn:=Tryz.f3) Tryz.func3 (by kernel_rfl) (by kernel_rfl) (by kernel_rfl) (by kernel_rfl) (by kernel_rfl) (by kernel_rfl) (Λ:=fun x=>find [(rid (aE Tryz.f3 0),bp 2 (an [cr,bB,klvMessageX,bW,dU,klvPublishX,klvLogX,bC,c8,c9,cq,bD,lM,dp] Tryz.f3) (fun _=>none) (aE Tryz.f3 0)),(rid (aE Tryz.f3 1),bp 2 (an [cr,bB,klvMessageX,bW,dU,klvPublishX,klvLogX,bC,c8,c9,cq,bD,lM,dp] Tryz.f3) (fun _=>none) (aE Tryz.f3 1))]) ?_ ?_
 ·rintro ⟨r,x,⟨⟩⟩ hw hn
  exact LoopsOKp.at (by kernel_rfl) (.cons (by kernel_rfl) (eo 2 (al (.consU fk rfl (.consU dz rfl (.consU dA rfl (.consU ei rfl (.consU iT rfl (.consU dB rfl (.consU iU rfl (.consU dC rfl (.consU gr rfl (.consU gu rfl (.consU fj rfl (.consU dD rfl (.consU q8 rfl (.consU gK rfl .nil)))))))))))))) _) mixed (Λ:=fun _=>none) (b:=aE Tryz.f3 0) rfl (fun _ _ _ h=>by cases h)) (.cons (by kernel_rfl) (eo 2 (al (.consU fk rfl (.consU dz rfl (.consU dA rfl (.consU ei rfl (.consU iT rfl (.consU dB rfl (.consU iU rfl (.consU dC rfl (.consU gr rfl (.consU gu rfl (.consU fj rfl (.consU dD rfl (.consU q8 rfl (.consU gK rfl .nil)))))))))))))) _) mixed (Λ:=fun _=>none) (b:=aE Tryz.f3 1) rfl (fun _ _ _ h=>by cases h)) .nil))
 ·rintro ⟨r,x,⟨⟩⟩ hw hn
  exact AH r x (hn _ List.mem_cons_self)
theorem E9:CtrOK Tryz.prog KE 3 (af KE qRE aC LW):=
 JM C2 C1 (fun _=>rfl) (fun _=>rfl) fun x _=>by
  by_cases h:az (mB x.1)=0
  ·exact .inl fun p hp=>by rw [List.mem_singleton.1 hp];exact h
  ·exact .inr fun p hp=>by rw [List.mem_singleton.1 hp];exact h
end Go.Proofs.YthaeofeigglbhaaGreatDoor
namespace Go.Proofs.YthaeofeigglbhaaGreatDoor
open Go Go.ChangeShapes Go.WideShapes Go.ChangeAt Go.RowKit
theorem LU:ownKnob Tryz.prog.godebug=none:=by kernel_rfl
abbrev BK:List (String×DataW Unit):= [("math/bits.deBruijn32tab",Rows.laid_math_bits_deBruijn32tab),("math/bits.deBruijn64tab",Rows.laid_math_bits_deBruijn64tab),("internal/strconv.uint64pow10",Rows.laid_internal_strconv_uint64pow10)]
theorem D3 (os:Os) (args:Array Value):laidMetH Tryz.prog BK ((World.doorLaid Tryz.prog 72 os).forCall (fun _ _=>0) ⟨#[],args,[]⟩).memory:=
 laidMetH_of_parts3 (fuel:=8) (laidMet_of_run' 8 (by kernel_rfl) (by kernel_rfl)) (by kernel_rfl) (by kernel_rfl)
end Go.Proofs.YthaeofeigglbhaaGreatDoor
