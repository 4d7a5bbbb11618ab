/- Texts of the mirror and contracts, put together. -/
import Derived.Test.YtkgplaoappjkcaaGreatPS8
import Derived.Test.YtkgplaoappjkcaaGreatPS3
namespace Go.Proofs.YtkgplaoappjkcaaGreat
open Go Go.Mir
attribute [local irreducible] Go.Mir.DT.sat Go.Mir.evPat Go.Mir.RT.sat Go.Mir.evFn
abbrev Fol:Type:=live_Follower
def ib (f:Fol) (m:Message):Fol:=if m.Epoch != f.epoch then { f with epoch:=m.Epoch,known:=0,match_:=f.start } else f
def DA (f:Fol) (m:Message):Int:=zE (W (f.known - m.From)) m.Events.length
def xe:Fol→List Mir.Event→Fol×Bool
 | f,[]=>(f,true)
 | f,e::l=>if aV f.match_ e != 0 then (f,false) else xe { f with match_:=bF f.match_ e,known:=W (f.known+1) } l
def dT (f:Fol) (m:Message):Fol×Bool:=xe (ib f m) (m.Events.drop (DA (ib f m) m).toNat)
def lM (f:Fol):Prop:=aE f.start∧aE f.match_∧0≤f.known∧f.known≤4000
def Jq (m:Message):Prop:=dx m=true∧m.Events.length≤aS
def okU (f:Fol) (m:Message):Prop:=lM f∧Jq m∧bG f m=true
abbrev qFM:Pat:=⟨[(0,.c (.ptr 0 0)),(1,.h (.nm .Message))],hpF 2,3⟩
abbrev qFb:Pat:=⟨[(0,.h .bool)],hpF 2,3⟩
def PQ:Den (tyP qFM)→List Prop×Den (tyP qFb):=fun x=>([okU (mkFX x.2) x.1],((dT (mkFX x.2) x.1).2,(dT (mkFX x.2) x.1).1.start,(dT (mkFX x.2) x.1).1.epoch,(dT (mkFX x.2) x.1).1.known,(dT (mkFX x.2) x.1).1.match_,(dT (mkFX x.2) x.1).1.newest,(dT (mkFX x.2) x.1).1.newestN,(dT (mkFX x.2) x.1).1.kept,()))
abbrev qZu:Pat:=⟨[(0,.c (.ptr 0 0)),(44,.h Evs),(45,.h I),(46,.h I)],hpF 2,3⟩
abbrev xZu:List (Lf×Pat):= [(.ret,⟨[(4,.h .bool)],hpF 2,3⟩),(.ext 0,⟨[],hpF 2,3⟩)]
abbrev TZu:Type:=List Mir.Event×Int×Int×TF
def xB (x:TZu):Prop:=(x.2.1 =(x.1.length:Int)∧0≤x.2.2.1∧x.2.2.1≤x.2.1∧x.1.length≤aS)∧aE (mkFX x.2.2.2).match_
def HI (x:TZu):Nat:=(x.2.1 - x.2.2.1).toNat
def GO (p:Fol×Bool):Sum (Bool×TF) TF:=if p.2 then .inr (p.1.start,p.1.epoch,p.1.known,p.1.match_,p.1.newest,p.1.newestN,p.1.kept,()) else .inl (false,p.1.start,p.1.epoch,p.1.known,p.1.match_,p.1.newest,p.1.newestN,p.1.kept,())
def jW (x:TZu):Sum (Bool×TF) TF:=GO (xe (mkFX x.2.2.2) (x.1.drop x.2.2.1.toNat))
theorem yL :∀ (l:List Mir.Event) (f:Fol),(xe f l).1.kept=f.kept
 | [],_=>rfl
 | e::l,f=>by
  unfold xe
  split
  ·rfl
  ·exact yL l _
theorem I2 (f:Fol) (m:Message) :(ib f m).kept=f.kept:=by unfold ib;split <;> rfl
theorem kP (f:Fol) (m:Message) :(dT f m).1.kept=f.kept:=(yL _ _).trans (I2 f m)
theorem wt :∀ (l:List Mir.Event) (f:Fol),lM f→f.known +(l.length:Int)≤4000→lM (xe f l).1
 | [],_,h,_=>h
 | e::l,f,h,hk=>by
  obtain ⟨h1,h2,h3,h4⟩:=h
  simp only [List.length_cons] at hk
  unfold xe
  split
  ·exact ⟨h1,h2,h3,h4⟩
  ·have e1:W (f.known+1)=f.known+1:=bi (by omega) (by omega)
   exact wt l _ ⟨h1,ia e h2,by show 0≤W (f.known+1);omega,by show W (f.known+1)≤4000;omega⟩ (by show W (f.known+1)+_≤4000;omega)
theorem qT {m:Message} (h:Jq m):1≤m.Epoch∧0≤m.From∧m.From +(m.Events.length:Int)≤4000∧m.To=m.From +(m.Events.length:Int):=by
 obtain ⟨h,hl⟩:=h
 have hl' :(m.Events.length:Int)≤140737488355328:=by have:m.Events.length≤140737488355328:=hl;omega
 unfold dx at h
 simp only [Bool.and_eq_true,Bool.not_eq_true'] at h
 have hg:=h.1
 unfold FX at hg
 simp only [Bool.or_eq_false_iff,decide_eq_false_iff_not,bne_eq_false_iff_eq] at hg
 obtain ⟨⟨⟨⟨a,b⟩,c⟩,d⟩,e⟩:=hg
 have e1:W (m.To - m.Events.length)=m.To - m.Events.length:=bi (by omega) (by omega)
 rw [e1] at e
 omega
theorem yM {f:Fol} {m:Message} (h:okU f m):lM (ib f m)∧0≤DA (ib f m) m∧DA (ib f m) m≤m.Events.length∧(ib f m).known +((m.Events.length:Int) - DA (ib f m) m)≤4000∧m.From≤(ib f m).known:=by
 obtain ⟨⟨h1,h2,h3,h4⟩,hf,hu⟩:=h
 obtain ⟨a,b,c,d⟩:=qT hf
 have hF:lM (ib f m)∧m.From≤(ib f m).known:=by
  unfold ib
  split
  ·rename_i hc
   have hc :¬ m.Epoch=f.epoch:=by simpa using hc
   have:m.From=0:=by
    unfold bG at hu
    simp only [Bool.or_eq_true,Bool.and_eq_true,beq_iff_eq,decide_eq_true_eq] at hu
    rcases hu with ⟨x,_⟩ |⟨x,_⟩
    ·exact absurd x hc
    ·exact x
   exact ⟨⟨h1,h1,Int.le_refl _,by show (0:Int)≤4000;omega⟩,by rw [this];exact Int.le_refl _⟩
  ·rename_i hc
   have hc:m.Epoch=f.epoch:=by simpa using hc
   refine ⟨⟨h1,h2,h3,h4⟩,?_⟩
   unfold bG at hu
   simp only [Bool.or_eq_true,Bool.and_eq_true,beq_iff_eq,decide_eq_true_eq] at hu
   rcases hu with ⟨_,x⟩ |⟨_,x⟩
   ·exact x
   ·omega
 obtain ⟨hF,hk⟩:=hF
 obtain ⟨g1,g2,g3,g4⟩:=hF
 have e1:W ((ib f m).known - m.From) =(ib f m).known - m.From:=bi (by omega) (by omega)
 have e2:DA (ib f m) m=if (m.Events.length:Int) <(ib f m).known - m.From then (m.Events.length:Int) else (ib f m).known - m.From:=by unfold DA zE;rw [e1]
 refine ⟨⟨g1,g2,g3,g4⟩,?_,?_,?_,hk⟩ <;> rw [e2] <;> split <;> omega
theorem yN {f:Fol} {m:Message} (h:okU f m):lM (dT f m).1:=by
 obtain ⟨a,b,c,d,_⟩:=yM h
 refine wt _ _ a ?_
 rw [List.length_drop]
 omega
noncomputable def lpZu:Lp:=(⟨3,ao [o9] Tryz.f35,(fun _=>none),(aA Tryz.f35 0),qZu,xZu⟩:Lp)
theorem Qo (xs:List Mir.Event) (n:Int) (i:Int) (v1:Match) (v2:Int) (v3:Int) (v4:Match) (v5:Int) (v6:Int) (kp:List Message) (hi:xB (xs,n,i,v1,v2,v3,v4,v5,v6,kp,())) :(Go.Mir.stepG lpZu jW (fun y:Den (tyP lpZu.q)=>xB y∧HI y<HI (xs,n,i,v1,v2,v3,v4,v5,v6,kp,())) (xs,n,i,v1,v2,v3,v4,v5,v6,kp,())∧Go.Mir.stepE lpZu jW (xs,n,i,v1,v2,v3,v4,v5,v6,kp,())=jW (xs,n,i,v1,v2,v3,v4,v5,v6,kp,())):=by
 refine cast (by kernel_rfl) (?_:let r1:Bool:=aV v4 (xs.getD i.toNat (dflt (Ty.nm Nm.Event))) !=(0:Int);((decide (i<n)=true→((0:Int)≤i∧i <(↑xs.length:Int))∧aE v4∧(r1=true→True)∧(r1=false→xB (xs,n,IntKind.i64.wrap (i +(1:Int)),v1,v2,IntKind.i64.wrap (v3 +(1:Int)),bF v4 (xs.getD i.toNat (dflt (Ty.nm Nm.Event))),v5,v6,kp,())∧HI (xs,n,IntKind.i64.wrap (i +(1:Int)),v1,v2,IntKind.i64.wrap (v3 +(1:Int)),bF v4 (xs.getD i.toNat (dflt (Ty.nm Nm.Event))),v5,v6,kp,())<HI (xs,n,i,v1,v2,v3,v4,v5,v6,kp,())))∧(decide (i<n)=false→True))∧(bif decide (i<n) then bif r1 then Sum.inl (false,v1,v2,v3,v4,v5,v6,kp,()) else jW (xs,n,IntKind.i64.wrap (i +(1:Int)),v1,v2,IntKind.i64.wrap (v3 +(1:Int)),bF v4 (xs.getD i.toNat (dflt (Ty.nm Nm.Event))),v5,v6,kp,()) else Sum.inr (v1,v2,v3,v4,v5,v6,kp,()))=jW (xs,n,i,v1,v2,v3,v4,v5,v6,kp,()))
 intro r1
 clear_value (hr1:r1=_)
 obtain ⟨⟨h1,h2,h3,h4⟩,hm⟩:=hi
 simp only at h1 h2 h3 h4
 have hm:aE v4:=hm
 have hx :(xs.length:Int)≤140737488355328:=by have:xs.length≤140737488355328:=h4;omega
 by_cases h:i<n
 ·have e:xs.drop i.toNat=xs.getD i.toNat (dflt (Ty.nm Nm.Event))::xs.drop (i+1).toNat:=b7 h2 (by omega) _
  rw [decide_eq_true h,cond_true,bi (n:=i+1) (by omega) (by omega)]
  generalize xs.getD i.toNat (dflt (Ty.nm Nm.Event))=v at *
  refine ⟨⟨fun _=>⟨⟨h2,by omega⟩,hm,fun _=>trivial,fun _=>⟨⟨⟨h1,by simp only;omega,by simp only;omega,h4⟩,ia v hm⟩,by simp only [HI];omega⟩⟩,fun z=>Bool.noConfusion z⟩,?_⟩
  simp only [jW]
  rw [e]
  have eU :∀ (f:Fol) (l:List Mir.Event),xe f (v::l)=if aV f.match_ v != 0 then (f,false) else xe { f with match_:=bF f.match_ v,known:=W (f.known+1) } l:=fun _ _=>rfl
  rw [eU]
  have er :(aV (mkFX (v1,v2,v3,v4,v5,v6,kp,())).match_ v != 0)=r1:=hr1.symm
  rw [er]
  cases r1 <;> rfl
 ·rw [decide_eq_false h,cond_false]
  refine ⟨⟨fun z=>Bool.noConfusion z,fun _=>trivial⟩,?_⟩
  simp only [jW]
  rw [bK (l:=xs) (by omega)]
  rfl
noncomputable def Ow:LoopSum:=aI lpZu jW xB
noncomputable def N6:Nat:=rid (aA Tryz.f35 0)
theorem Pn:LoopOKp Tryz.prog 3 Tryz.f35.ntmps (aA Tryz.f35 0) (aI lpZu jW xB):=
 bj lpZu (al (.consU tx rfl .nil) _) mixed (fun b hb S hS=>by cases hS) jW xB HI (fun |⟨xs,n,i,v1,v2,v3,v4,v5,v6,kp,⟨⟩⟩,hi=>Qo xs n i v1 v2 v3 v4 v5 v6 kp hi)
theorem K2 (f:live_Follower) (m:Message) (hu:okU f m) :(evPat (ao [o9] Tryz.f35) (find [(N6,Ow)]) Tryz.f35 qFM qFb (m,f.start,f.epoch,f.known,f.match_,f.newest,f.newestN,f.kept,())).sat fun z_=>z_ =(PQ (m,f.start,f.epoch,f.known,f.match_,f.newest,f.newestN,f.kept,())).2:=by
 refine cast (by kernel_rfl) (?_:let r1:Int:=bif m.1 != f.2 then (0:Int) else f.3;let r2:Int:=IntKind.i64.wrap (r1 - m.2);let r3:Int:=if (↑m.4.length:Int)<r2 then (↑m.4.length:Int) else r2;let r4:List Mir.Event:=List.drop r3.toNat (List.take (↑m.4.length:Int).toNat m.4);let r5:Int:=(↑r4.length:Int);let r6:Match:=Match.mk (Rules.mk (bif m.1 != f.2 then f.1.1.1 else f.4.1.1) (bif m.1 != f.2 then f.1.1.2 else f.4.1.2) (bif m.1 != f.2 then f.1.1.3 else f.4.1.3) (bif m.1 != f.2 then f.1.1.4 else f.4.1.4) (bif m.1 != f.2 then f.1.1.5 else f.4.1.5) (bif m.1 != f.2 then f.1.1.6 else f.4.1.6) (bif m.1 != f.2 then f.1.1.7 else f.4.1.7) (bif m.1 != f.2 then f.1.1.8 else f.4.1.8) (bif m.1 != f.2 then f.1.1.9 else f.4.1.9) (bif m.1 != f.2 then f.1.1.10 else f.4.1.10) (bif m.1 != f.2 then f.1.1.11 else f.4.1.11) (bif m.1 != f.2 then f.1.1.12 else f.4.1.12) (bif m.1 != f.2 then f.1.1.13 else f.4.1.13) (bif m.1 != f.2 then f.1.1.14 else f.4.1.14)) (bif m.1 != f.2 then f.1.2 else f.4.2) (bif m.1 != f.2 then f.1.3 else f.4.3) (bif m.1 != f.2 then f.1.4 else f.4.4) (bif m.1 != f.2 then f.1.5 else f.4.5) (bif m.1 != f.2 then f.1.6.1 else f.4.6.1,bif m.1 != f.2 then f.1.6.2.1 else f.4.6.2.1,()) (Result.mk (bif m.1 != f.2 then f.1.7.1 else f.4.7.1) (bif m.1 != f.2 then f.1.7.2 else f.4.7.2) (bif m.1 != f.2 then f.1.7.3 else f.4.7.3));let r7:Bool:=isL (jW (r4,r5,(0:Int),Match.mk (Rules.mk (bif m.1 != f.2 then f.1.1.1 else f.1.1.1) (bif m.1 != f.2 then f.1.1.2 else f.1.1.2) (bif m.1 != f.2 then f.1.1.3 else f.1.1.3) (bif m.1 != f.2 then f.1.1.4 else f.1.1.4) (bif m.1 != f.2 then f.1.1.5 else f.1.1.5) (bif m.1 != f.2 then f.1.1.6 else f.1.1.6) (bif m.1 != f.2 then f.1.1.7 else f.1.1.7) (bif m.1 != f.2 then f.1.1.8 else f.1.1.8) (bif m.1 != f.2 then f.1.1.9 else f.1.1.9) (bif m.1 != f.2 then f.1.1.10 else f.1.1.10) (bif m.1 != f.2 then f.1.1.11 else f.1.1.11) (bif m.1 != f.2 then f.1.1.12 else f.1.1.12) (bif m.1 != f.2 then f.1.1.13 else f.1.1.13) (bif m.1 != f.2 then f.1.1.14 else f.1.1.14)) (bif m.1 != f.2 then f.1.2 else f.1.2) (bif m.1 != f.2 then f.1.3 else f.1.3) (bif m.1 != f.2 then f.1.4 else f.1.4) (bif m.1 != f.2 then f.1.5 else f.1.5) (bif m.1 != f.2 then f.1.6.1 else f.1.6.1,bif m.1 != f.2 then f.1.6.2.1 else f.1.6.2.1,()) (Result.mk (bif m.1 != f.2 then f.1.7.1 else f.1.7.1) (bif m.1 != f.2 then f.1.7.2 else f.1.7.2) (bif m.1 != f.2 then f.1.7.3 else f.1.7.3)),bif m.1 != f.2 then m.1 else f.2,r1,r6,bif m.1 != f.2 then f.5 else f.5,bif m.1 != f.2 then f.6 else f.6,f.7,()));((0:Int)≤r3∧r3≤(↑m.4.length:Int)∧(↑m.4.length:Int)≤(↑m.4.length:Int))∧((cR fun x=>none)∧(r5 =(↑r4.length:Int)∧(0:Int)≤(0:Int)∧(0:Int)≤r5∧r4.length≤aS)∧aE r6)∧(r7=true→ij (dflt (Ty.bool.prod ((Ty.nm Nm.Match).prod (I.prod (I.prod ((Ty.nm Nm.Match).prod (I.prod (I.prod ((Ty.nm Nm.Message).slice.prod Ty.unit))))))))) (jW (r4,r5,(0:Int),Match.mk (Rules.mk (bif m.1 != f.2 then f.1.1.1 else f.1.1.1) (bif m.1 != f.2 then f.1.1.2 else f.1.1.2) (bif m.1 != f.2 then f.1.1.3 else f.1.1.3) (bif m.1 != f.2 then f.1.1.4 else f.1.1.4) (bif m.1 != f.2 then f.1.1.5 else f.1.1.5) (bif m.1 != f.2 then f.1.1.6 else f.1.1.6) (bif m.1 != f.2 then f.1.1.7 else f.1.1.7) (bif m.1 != f.2 then f.1.1.8 else f.1.1.8) (bif m.1 != f.2 then f.1.1.9 else f.1.1.9) (bif m.1 != f.2 then f.1.1.10 else f.1.1.10) (bif m.1 != f.2 then f.1.1.11 else f.1.1.11) (bif m.1 != f.2 then f.1.1.12 else f.1.1.12) (bif m.1 != f.2 then f.1.1.13 else f.1.1.13) (bif m.1 != f.2 then f.1.1.14 else f.1.1.14)) (bif m.1 != f.2 then f.1.2 else f.1.2) (bif m.1 != f.2 then f.1.3 else f.1.3) (bif m.1 != f.2 then f.1.4 else f.1.4) (bif m.1 != f.2 then f.1.5 else f.1.5) (bif m.1 != f.2 then f.1.6.1 else f.1.6.1,bif m.1 != f.2 then f.1.6.2.1 else f.1.6.2.1,()) (Result.mk (bif m.1 != f.2 then f.1.7.1 else f.1.7.1) (bif m.1 != f.2 then f.1.7.2 else f.1.7.2) (bif m.1 != f.2 then f.1.7.3 else f.1.7.3)),bif m.1 != f.2 then m.1 else f.2,r1,r6,bif m.1 != f.2 then f.5 else f.5,bif m.1 != f.2 then f.6 else f.6,f.7,())) =((dT f m).2,(dT f m).1.1,(dT f m).1.2,(dT f m).1.3,(dT f m).1.4,(dT f m).1.5,(dT f m).1.6,(dT f m).1.7,()))∧(r7=false→(true,pN (dflt ((Ty.nm Nm.Match).prod (I.prod (I.prod ((Ty.nm Nm.Match).prod (I.prod (I.prod ((Ty.nm Nm.Message).slice.prod Ty.unit)))))))) (jW (r4,r5,(0:Int),Match.mk (Rules.mk (bif m.1 != f.2 then f.1.1.1 else f.1.1.1) (bif m.1 != f.2 then f.1.1.2 else f.1.1.2) (bif m.1 != f.2 then f.1.1.3 else f.1.1.3) (bif m.1 != f.2 then f.1.1.4 else f.1.1.4) (bif m.1 != f.2 then f.1.1.5 else f.1.1.5) (bif m.1 != f.2 then f.1.1.6 else f.1.1.6) (bif m.1 != f.2 then f.1.1.7 else f.1.1.7) (bif m.1 != f.2 then f.1.1.8 else f.1.1.8) (bif m.1 != f.2 then f.1.1.9 else f.1.1.9) (bif m.1 != f.2 then f.1.1.10 else f.1.1.10) (bif m.1 != f.2 then f.1.1.11 else f.1.1.11) (bif m.1 != f.2 then f.1.1.12 else f.1.1.12) (bif m.1 != f.2 then f.1.1.13 else f.1.1.13) (bif m.1 != f.2 then f.1.1.14 else f.1.1.14)) (bif m.1 != f.2 then f.1.2 else f.1.2) (bif m.1 != f.2 then f.1.3 else f.1.3) (bif m.1 != f.2 then f.1.4 else f.1.4) (bif m.1 != f.2 then f.1.5 else f.1.5) (bif m.1 != f.2 then f.1.6.1 else f.1.6.1,bif m.1 != f.2 then f.1.6.2.1 else f.1.6.2.1,()) (Result.mk (bif m.1 != f.2 then f.1.7.1 else f.1.7.1) (bif m.1 != f.2 then f.1.7.2 else f.1.7.2) (bif m.1 != f.2 then f.1.7.3 else f.1.7.3)),bif m.1 != f.2 then m.1 else f.2,r1,r6,bif m.1 != f.2 then f.5 else f.5,bif m.1 != f.2 then f.6 else f.6,f.7,()))) =((dT f m).2,(dT f m).1.1,(dT f m).1.2,(dT f m).1.3,(dT f m).1.4,(dT f m).1.5,(dT f m).1.6,(dT f m).1.7,())))
 intro r1 r2 r3 r4 r5 r6 r7
 clear_value (hr1:r1=_) (hr2:r2=_) (hr3:r3=_) (hr4:r4=_) (hr5:r5=_) (hr6:r6=_) (hr7:r7=_)
 obtain ⟨a,b,c,d,e⟩:=yM hu
 have k1:r1 =(ib f m).known:=by rw [hr1];unfold ib;cases m.Epoch != f.epoch <;> rfl
 have k3:r3=DA (ib f m) m:=by rw [hr3,hr2,k1];rfl
 have k6:r6 =(ib f m).match_:=by rw [hr6];unfold ib;cases m.Epoch != f.epoch <;> rfl
 have k4:r4=m.Events.drop (DA (ib f m) m).toNat:=by rw [hr4,k3,List.take_of_length_le (by omega)]
 have hl:r4.length≤aS:=by rw [k4,List.length_drop];exact Nat.le_trans (Nat.sub_le _ _) hu.2.1.2
 generalize hq:jW _=q at hr7 ⊢
 have hq':q=GO (dT f m):=by
  have e0:dT f m=xe (ib f m) r4:=by rw [k4];rfl
  rw [←hq,e0,k1,k6]
  unfold ib
  cases m.Epoch != f.epoch <;> rfl
 rw [hq'] at hr7 ⊢
 refine ⟨⟨by rw [k3];exact b,by rw [k3];exact c,Int.le_refl _⟩,⟨rfl,⟨hr5,Int.le_refl _,by omega,hl⟩,by rw [k6];exact a.2.1⟩,fun h=>?_,fun h=>?_⟩
 ·rw [hr7] at h
  unfold GO at h ⊢
  cases hb :(dT f m).2 with
  | true=>rw [hb] at h;cases h
  | false=>rfl
 ·rw [hr7] at h
  unfold GO at h ⊢
  cases hb :(dT f m).2 with
  | true=>rfl
  | false=>rw [hb] at h;cases h
def D6:FuncId×Ctr:=(35,ae KE qFM qFb PQ)
theorem GK:CtrOK Tryz.prog KE 35 (ae KE qFM qFb PQ):=by
 refine aq (C:=ao [o9] Tryz.f35) (al (.consU tx rfl .nil) _) mixed (fn:=Tryz.f35) Tryz.func35 (by kernel_rfl) (by kernel_rfl) (by kernel_rfl) (by kernel_rfl) (by kernel_rfl) (by kernel_rfl) (Λ:=fun x=>find [(N6,Ow)]) ?_ ?_
 ·rintro ⟨m,v1,v2,v3,v4,v5,v6,kp,⟨⟩⟩ hw hn
  exact LoopsOKp.at (by kernel_rfl) (.cons (by kernel_rfl) (Pn) .nil)
 ·rintro ⟨m,v1,v2,v3,v4,v5,v6,kp,⟨⟩⟩ hw hn
  exact K2 (mkF v1 v2 v3 v4 v5 v6 kp) m (hn _ List.mem_cons_self)
end Go.Proofs.YtkgplaoappjkcaaGreat
namespace Go.Proofs.YtkgplaoappjkcaaGreat
open Go Go.Mir
attribute [local irreducible] Go.Mir.DT.sat Go.Mir.evPat Go.Mir.RT.sat Go.Mir.evFn
def jB (l:List Message):Prop:=∀ z∈l,Jq z
def dQ (f:Fol):Prop:=lM f∧f.kept.length≤64∧jB f.kept
def LT (f:Fol) (i:Nat):Fol:={ f with kept:=f.kept.take i++f.kept.drop (i+1) }
def fm (f:Fol):Fol×Bool:=dT (LT f (f4 f f.kept 0).toNat) (f.kept.getD (f4 f f.kept 0).toNat (dflt (Ty.nm Nm.Message)))
def ig:Nat→Fol→Bool→Fol×Bool
 | 0,f,b=>(f,b)
 | n+1,f,b=>if decide (f4 f f.kept 0<0) then (f,b) else ig n (fm f).1 ((fm f).2&&b)
def dC (f:Fol) (m:Message):Fol:=if decide (m.Epoch>f.newest) then { f with newest:=m.Epoch,newestN:=m.To,kept:= [] } else { f with newestN:=rb f.newestN m.To }
def Nz (f:Fol) (m:Message):Fol:={ f with kept:=f.kept++[m] }
def sD (f:Fol) (m:Message):Fol×Bool:=ig f.kept.length (dT f m).1 (dT f m).2
def aH (f:Fol) (m:Message):Fol×Int:=
 if !dx m then (f,4) else if decide (m.Epoch<f.newest) then (f,16)
 else if !bG (dC f m) m then (if decide (((dC f m).kept.length:Int)≥64) then (dC f m,9) else (Nz (dC f m) m,0))
 else ((sD (dC f m) m).1,if (sD (dC f m) m).2 then 0 else 10)
abbrev qFr:Pat:=⟨[(0,.h I)],hpF 3,4⟩
def vR:Den (tyP qFM)→List Prop×Den (tyP qFr):=fun x=>([dQ (mkFX x.2),x.1.Events.length≤aS],((aH (mkFX x.2) x.1).2,(aH (mkFX x.2) x.1).1.start,(aH (mkFX x.2) x.1).1.epoch,(aH (mkFX x.2) x.1).1.known,(aH (mkFX x.2) x.1).1.match_,(aH (mkFX x.2) x.1).1.newest,(aH (mkFX x.2) x.1).1.newestN,(aH (mkFX x.2) x.1).1.kept,()))
abbrev qRc:Pat:=⟨[(0,.c (.ptr 0 0)),(5,.h .bool)],hpF 3,4⟩
abbrev xRc:List (Lf×Pat):= [(.ext 1,⟨[(5,.h .bool)],hpF 3,4⟩)]
abbrev TRc:Type:=Bool×TF
def uB (x:TRc):Prop:=dQ (mkFX x.2)
def Eg (x:TRc):Nat:=(mkFX x.2).kept.length
def NH (p:Fol×Bool):TRc:=(p.2,p.1.start,p.1.epoch,p.1.known,p.1.match_,p.1.newest,p.1.newestN,p.1.kept,())
def oG (x:TRc):TRc:=NH (ig (mkFX x.2).kept.length (mkFX x.2) x.1)
theorem uw (f:Fol) :∀ (l:List Message) (k:Int),f4 f l k = -1∨∃ i:Nat,i<l.length∧f4 f l k=k+i∧bG f (l.getD i (dflt (Ty.nm Nm.Message)))=true
 | [],_=> .inl rfl
 | m::l,k=>by
  rw [nB]
  by_cases h:bG f m=true
  ·exact .inr ⟨0,by simp,by rw [if_pos h];simp,h⟩
  ·rw [if_neg h]
   rcases uw f l (k+1) with h1 |⟨i,h1,h2,h3⟩
   ·exact .inl h1
   ·exact .inr ⟨i+1,by simp;omega,by rw [h2];omega,h3⟩
theorem wi {f:Fol} (h:dQ f) (hi:0≤f4 f f.kept 0) :(f4 f f.kept 0).toNat<f.kept.length∧okU (LT f (f4 f f.kept 0).toNat) (f.kept.getD (f4 f f.kept 0).toNat (dflt (Ty.nm Nm.Message)))∧dQ (fm f).1∧(fm f).1.kept.length+1=f.kept.length:=by
 obtain ⟨h1,h2,h3⟩:=h
 rcases uw f f.kept 0 with hn |⟨i,h4,h5,h6⟩
 ·omega
 ·have e :(f4 f f.kept 0).toNat=i:=by omega
  have hm:f.kept.getD i (dflt (Ty.nm Nm.Message))∈f.kept:=fZ h4 _
  have hU:okU (LT f i) (f.kept.getD i (dflt (Ty.nm Nm.Message))):=⟨h1,h3 _ hm,h6⟩
  have hk :(fm f).1.kept=f.kept.take i++f.kept.drop (i+1):=by unfold fm;rw [kP,e];rfl
  have hl :(fm f).1.kept.length+1=f.kept.length:=by rw [hk];simp;omega
  rw [e]
  refine ⟨h4,hU,⟨?_,by omega,fun z hz=>?_⟩,hl⟩
  ·unfold fm;rw [e];exact yN hU
  ·rw [hk] at hz
   rcases List.mem_append.1 hz with hz|hz
   ·exact h3 z (List.mem_of_mem_take hz)
   ·exact h3 z (List.mem_of_mem_drop hz)
theorem Br :∀ (n:Nat) (f:Fol) (b:Bool),dQ f→dQ (ig n f b).1
 | 0,_,_,h=>h
 | n+1,f,b,h=>by
  unfold ig
  split
  ·exact h
  ·rename_i hc
   have hc :¬(f4 f f.kept 0<0):=by simpa using hc
   exact Br n _ _ (wi h (by omega)).2.2.1
theorem GA {f:Fol} (h:dQ f) (m:Message):dQ (dC f m):=by
 unfold dC
 split
 ·exact ⟨h.1,Nat.zero_le _,fun z hz=>(by cases hz)⟩
 ·exact h
theorem Hf {f:Fol} {m:Message} (h:dQ f) (hm:Jq m) (hu:bG f m=true):dQ (dT f m).1:=by
 refine ⟨yN ⟨h.1,hm,hu⟩,?_,?_⟩
 ·rw [kP];exact h.2.1
 ·rw [kP];exact h.2.2
theorem M4 {f:Fol} {m:Message} (h:dQ f) (hl:m.Events.length≤aS):dQ (aH f m).1:=by
 unfold aH
 split
 ·exact h
 ·rename_i hf
  have hf:Jq m:=⟨by simpa using hf,hl⟩
  split
  ·exact h
  ·have hn:=GA h m
   split
   ·split
    ·exact hn
    ·rename_i hk
     have hk :¬((dC f m).kept.length:Int)≥64:=by simpa using hk
     refine ⟨hn.1,?_,fun z hz=>?_⟩
     ·show ((dC f m).kept++[m]).length≤64
      rw [List.length_append,List.length_singleton];omega
     ·rcases List.mem_append.1 (show z∈(dC f m).kept++[m] from hz) with hz|hz
      ·exact hn.2.2 z hz
      ·rw [List.mem_singleton.1 hz];exact hf
   ·rename_i hu
    have hu:bG (dC f m) m=true:=by simpa using hu
    exact Br _ _ _ (Hf hn hf hu)
theorem H7 {f:Fol} {m:Message} (h :(!dx m)=true):aH f m =(f,4):=by unfold aH;rw [if_pos h]
theorem H9 {f:Fol} {m:Message} (h :(!dx m)=false) (h2:decide (m.Epoch<f.newest)=true):aH f m =(f,16):=by unfold aH;rw [h,h2];rfl
theorem H8 {f:Fol} {m:Message} (h :(!dx m)=false) (h2:decide (m.Epoch<f.newest)=false) (h3 :(!bG (dC f m) m)=true) (h4:decide (((dC f m).kept.length:Int)≥64)=true):aH f m =(dC f m,9):=by
 unfold aH;rw [h,h2,h3,h4];rfl
theorem yl {f:Fol} {m:Message} (h :(!dx m)=false) (h2:decide (m.Epoch<f.newest)=false) (h3 :(!bG (dC f m) m)=true) (h4:decide (((dC f m).kept.length:Int)≥64)=false):aH f m =(Nz (dC f m) m,0):=by
 unfold aH;rw [h,h2,h3,h4];rfl
theorem ym {f:Fol} {m:Message} (h :(!dx m)=false) (h2:decide (m.Epoch<f.newest)=false) (h3 :(!bG (dC f m) m)=false):aH f m =((sD (dC f m) m).1,if (sD (dC f m) m).2 then 0 else 10):=by
 unfold aH;rw [h,h2,h3];rfl
theorem Cd:CtrOK Tryz.prog KE 37 (yX 4):=D1
theorem DN {f:Fol} (h:f4 f f.kept 0<0) :∀ (n:Nat) (b:Bool),ig n f b =(f,b)
 | 0,_=>rfl
 | n+1,b=>by unfold ig;rw [if_pos (decide_eq_true h)]
theorem DM {f:Fol} (h :¬ f4 f f.kept 0<0) (n:Nat) (b:Bool):ig (n+1) f b=ig n (fm f).1 ((fm f).2&&b):=by
 show (if _ then _ else _)=_
 rw [if_neg (by simpa using h)]
noncomputable def lpRc:Lp:=(⟨3,ao [D6,D2,kDelMsg] Tryz.f20,(fun _=>none),(aA Tryz.f20 0),qRc,xRc⟩:Lp)
theorem Qg (b:Bool) (v1:Match) (v2:Int) (v3:Int) (v4:Match) (v5:Int) (v6:Int) (kp:List Message) (hi:uB (b,v1,v2,v3,v4,v5,v6,kp,())) :(Go.Mir.stepG lpRc oG (fun y:Den (tyP lpRc.q)=>uB y∧Eg y<Eg (b,v1,v2,v3,v4,v5,v6,kp,())) (b,v1,v2,v3,v4,v5,v6,kp,())∧Go.Mir.stepE lpRc oG (b,v1,v2,v3,v4,v5,v6,kp,())=oG (b,v1,v2,v3,v4,v5,v6,kp,())):=by
 refine cast (by kernel_rfl) (?_:let r1:Int:=f4 (live_Follower.mk v1 v2 v3 v4 v5 v6 kp) kp (0:Int);let r2:Message:=kp.getD r1.toNat (dflt (Ty.nm Nm.Message));let r3:Int:=IntKind.i64.wrap (r1 +(1:Int));let r4:Bool:=decide (r1 <(0:Int));let r5:live_Follower:=live_Follower.mk v1 v2 v3 v4 v5 v6 (List.take r1.toNat kp++List.drop r3.toNat kp);let r6:Fol×Bool:=dT r5 r2;(kp.length≤(1000:Nat)∧(r4=true→True)∧(r4=false→((0:Int)≤r1∧r1 <(↑kp.length:Int))∧(0:Int)≤r1∧r1≤r3∧r3≤(↑kp.length:Int)∧okU r5 r2∧(r6.2=true→uB (b,r6.1.1,r6.1.2,r6.1.3,r6.1.4,r6.1.5,r6.1.6,r6.1.7,())∧Eg (b,r6.1.1,r6.1.2,r6.1.3,r6.1.4,r6.1.5,r6.1.6,r6.1.7,())<Eg (b,v1,v2,v3,v4,v5,v6,kp,()))∧(r6.2=false→uB (false,r6.1.1,r6.1.2,r6.1.3,r6.1.4,r6.1.5,r6.1.6,r6.1.7,())∧Eg (false,r6.1.1,r6.1.2,r6.1.3,r6.1.4,r6.1.5,r6.1.6,r6.1.7,())<Eg (b,v1,v2,v3,v4,v5,v6,kp,()))))∧(bif r4 then (b,v1,v2,v3,v4,v5,v6,kp,()) else bif r6.2 then oG (b,r6.1.1,r6.1.2,r6.1.3,r6.1.4,r6.1.5,r6.1.6,r6.1.7,()) else oG (false,r6.1.1,r6.1.2,r6.1.3,r6.1.4,r6.1.5,r6.1.6,r6.1.7,()))=oG (b,v1,v2,v3,v4,v5,v6,kp,()))
 intro r1 r2 r3 r4 r5 r6
 clear_value (hr1:r1=_) (hr2:r2=_) (hr3:r3=_) (hr4:r4=_) (hr5:r5=_) (hr6:r6=_)
 have hi:dQ (mkF v1 v2 v3 v4 v5 v6 kp):=hi
 have hk:kp.length≤64:=hi.2.1
 have hr1:r1=f4 (mkF v1 v2 v3 v4 v5 v6 kp) kp 0:=hr1
 generalize hF:mkF v1 v2 v3 v4 v5 v6 kp=F at hi hr1
 have hK:F.kept=kp:=by rw [←hF];rfl
 have hr1:r1=f4 F F.kept 0:=by rw [hK];exact hr1
 have key :¬ r1<0→r1.toNat<kp.length∧r3=r1+1∧okU r5 r2∧r6=fm F∧dQ (fm F).1∧(fm F).1.kept.length+1=kp.length:=fun h=>by
  obtain ⟨s1,s2,s3,s4⟩:=wi hi (by omega)
  rw [←hr1,hK] at s1 s2
  rw [hK] at s4
  have e3:r3=r1+1:=by rw [hr3];exact bi (by omega) (by omega)
  have e5:r5=LT F r1.toNat:=by
   rw [hr5,e3,show (r1+1).toNat=r1.toNat+1 from by omega,←hF]
   rfl
  have e6:r6=fm F:=by
   rw [hr6,e5,hr2]
   unfold fm
   rw [←hr1,hK]
  exact ⟨s1,e3,by rw [e5,hr2];exact s2,e6,s3,s4⟩
 refine ⟨⟨by omega,fun _=>trivial,fun h=>?_⟩,?_⟩
 ·have h :¬ r1<0:=by rw [hr4] at h;simpa using h
  obtain ⟨k1,k2,k3,k4,k5,k6⟩:=key h
  have k6':r6.1.kept.length<kp.length:=by rw [k4];omega
  have k5':dQ r6.1:=by rw [k4];exact k5
  exact ⟨⟨by omega,by omega⟩,by omega,by omega,by omega,k3,fun _=>⟨k5',k6'⟩,fun _=>⟨k5',k6'⟩⟩
 ·have eR:oG (b,v1,v2,v3,v4,v5,v6,kp,())=NH (ig F.kept.length F b):=by rw [←hF];rfl
  rw [eR,hr4]
  by_cases h:r1<0
  ·rw [decide_eq_true h,DN (by rw [←hr1];exact h),←hF]
   rfl
  ·obtain ⟨k1,k2,k3,k4,k5,k6⟩:=key h
   obtain ⟨n,hn⟩ :∃ n,F.kept.length=n+1:=⟨F.kept.length - 1,by rw [hK];omega⟩
   have hl :(fm F).1.kept.length=n:=by rw [hK] at hn;omega
   rw [decide_eq_false h,hn,DM (by rw [←hr1];exact h),k4,←hl]
   cases hb :(fm F).2 <;> rfl
noncomputable def On:LoopSum:=aI lpRc oG uB
noncomputable def NZ:Nat:=rid (aA Tryz.f20 0)
theorem Pg:LoopOKp Tryz.prog 3 Tryz.f20.ntmps (aA Tryz.f20 0) (aI lpRc oG uB):=
 bj lpRc (al (.consU GK rfl (.consU GB rfl (.consU Cd rfl .nil))) _) mixed (fun b hb S hS=>by cases hS) oG uB Eg (fun |⟨b,v1,v2,v3,v4,v5,v6,kp,⟨⟩⟩,hi=>Qg b v1 v2 v3 v4 v5 v6 kp hi)
theorem Ad (f:live_Follower) (m:Message) (hf:dQ f) (hl:m.Events.length≤aS) :(evPat (ao [xM,ku,gR,D6,D2,kDelMsg] Tryz.f20) (find [(NZ,On)]) Tryz.f20 qFM qFr (m,f.start,f.epoch,f.known,f.match_,f.newest,f.newestN,f.kept,())).sat fun z_=>z_ =(vR (m,f.start,f.epoch,f.known,f.match_,f.newest,f.newestN,f.kept,())).2:=by
 refine cast (by kernel_rfl) (?_:let r1:live_Follower:=live_Follower.mk f.1 f.2 f.3 f.4 m.1 m.3 [];let r2:Int:=if m.3>f.6 then m.3 else f.6;let r3:Fol×Bool:=dT r1 m;let r4:Bool:=!bG r1 m;let r5:Bool:=decide ((0:Int)≥(64:Int));let r6:live_Follower:=live_Follower.mk f.1 f.2 f.3 f.4 f.5 r2 f.7;let r7:Bool:=decide ((↑f.7.length:Int)≥(64:Int));let r8:Fol×Bool:=dT r6 m;let r9:Bool:=!bG r6 m;let r10:Fol×Bool:=ig r3.1.7.length r3.1 r3.2;let r11:Bool:=!r10.2;let r12:Fol×Bool:=ig r8.1.7.length r8.1 r8.2;let r13:Bool:=!r12.2;m.4.length≤aS∧((!dx m)=true→((4:Int),f.1,f.2,f.3,f.4,f.5,f.6,f.7,()) =((aH f m).2,(aH f m).1.1,(aH f m).1.2,(aH f m).1.3,(aH f m).1.4,(aH f m).1.5,(aH f m).1.6,(aH f m).1.7,()))∧((!dx m)=false→(decide (m.1<f.5)=true→((16:Int),f.1,f.2,f.3,f.4,f.5,f.6,f.7,()) =((aH f m).2,(aH f m).1.1,(aH f m).1.2,(aH f m).1.3,(aH f m).1.4,(aH f m).1.5,(aH f m).1.6,(aH f m).1.7,()))∧(decide (m.1<f.5)=false→(decide (m.1>f.5)=true→(r4=true→(r5=true→((9:Int),f.1,f.2,f.3,f.4,m.1,m.3,[],()) =((aH f m).2,(aH f m).1.1,(aH f m).1.2,(aH f m).1.3,(aH f m).1.4,(aH f m).1.5,(aH f m).1.6,(aH f m).1.7,()))∧(r5=false→m.4.length≤(1000000:Nat)∧ [m].length *(48:Nat)≤(70368744177664:Nat)∧((0:Int),f.1,f.2,f.3,f.4,m.1,m.3,[m],()) =((aH f m).2,(aH f m).1.1,(aH f m).1.2,(aH f m).1.3,(aH f m).1.4,(aH f m).1.5,(aH f m).1.6,(aH f m).1.7,())))∧(r4=false→okU r1 m∧((cR fun x=>none)∧lM r3.1∧r3.1.7.length≤(64:Nat)∧jB r3.1.7)∧(r11=true→((10:Int),r10.1.1,r10.1.2,r10.1.3,r10.1.4,r10.1.5,r10.1.6,r10.1.7,()) =((aH f m).2,(aH f m).1.1,(aH f m).1.2,(aH f m).1.3,(aH f m).1.4,(aH f m).1.5,(aH f m).1.6,(aH f m).1.7,()))∧(r11=false→((0:Int),r10.1.1,r10.1.2,r10.1.3,r10.1.4,r10.1.5,r10.1.6,r10.1.7,()) =((aH f m).2,(aH f m).1.1,(aH f m).1.2,(aH f m).1.3,(aH f m).1.4,(aH f m).1.5,(aH f m).1.6,(aH f m).1.7,()))))∧(decide (m.1>f.5)=false→(r9=true→(r7=true→((9:Int),f.1,f.2,f.3,f.4,f.5,r2,f.7,()) =((aH f m).2,(aH f m).1.1,(aH f m).1.2,(aH f m).1.3,(aH f m).1.4,(aH f m).1.5,(aH f m).1.6,(aH f m).1.7,()))∧(r7=false→m.4.length≤(1000000:Nat)∧(f.7.length+[m].length) *(48:Nat)≤(70368744177664:Nat)∧((0:Int),f.1,f.2,f.3,f.4,f.5,r2,f.7++[m],()) =((aH f m).2,(aH f m).1.1,(aH f m).1.2,(aH f m).1.3,(aH f m).1.4,(aH f m).1.5,(aH f m).1.6,(aH f m).1.7,())))∧(r9=false→okU r6 m∧((cR fun x=>none)∧lM r8.1∧r8.1.7.length≤(64:Nat)∧jB r8.1.7)∧(r13=true→((10:Int),r12.1.1,r12.1.2,r12.1.3,r12.1.4,r12.1.5,r12.1.6,r12.1.7,()) =((aH f m).2,(aH f m).1.1,(aH f m).1.2,(aH f m).1.3,(aH f m).1.4,(aH f m).1.5,(aH f m).1.6,(aH f m).1.7,()))∧(r13=false→((0:Int),r12.1.1,r12.1.2,r12.1.3,r12.1.4,r12.1.5,r12.1.6,r12.1.7,()) =((aH f m).2,(aH f m).1.1,(aH f m).1.2,(aH f m).1.3,(aH f m).1.4,(aH f m).1.5,(aH f m).1.6,(aH f m).1.7,())))))))
 intro r1 r2 r3 r4 r5 r6 r7 r8 r9 r10 r11 r12 r13
 clear_value (hr1:r1=_) (hr2:r2=_) (hr3:r3=_) (hr4:r4=_) (hr5:r5=_) (hr6:r6=_) (hr7:r7=_) (hr8:r8=_) (hr9:r9=_) (hr10:r10=_) (hr11:r11=_) (hr12:r12=_) (hr13:r13=_)
 have hh :∀ g:Fol,dx m=true→dQ g→bG g m=true→okU g m∧dQ (dT g m).1:=fun g h1 h2 h3=>⟨⟨h2.1,⟨h1,hl⟩,h3⟩,Hf h2 ⟨h1,hl⟩ h3⟩
 have hlen:dx m=true→m.Events.length≤4000:=fun h=>by have:=(qT ⟨h,hl⟩).2.2.1;have:=(qT ⟨h,hl⟩).2.1;omega
 have hng :∀ g:Fol,dC f m=g→dQ g:=fun g h=>by rw [←h];exact GA hf m
 refine ⟨hl,fun h1=>by rw [H7 h1],fun h1=>⟨fun h2=>by rw [H9 h1 h2],fun h2=>⟨fun h3=>?_,fun h3=>?_⟩⟩⟩
 ·have eN:dC f m=r1:=by rw [hr1];unfold dC;rw [if_pos h3]
  have hF:dx m=true:=by simpa using h1
  have hN:=hng _ eN
  refine ⟨fun h4=>⟨fun h5=>?_,fun h5=>⟨by have:=hlen hF;omega,by simp,?_⟩⟩,fun h4=>?_⟩
  ·rw [hr5] at h5;simp at h5
  ·rw [yl h1 h2 (by rw [eN,←hr4];exact h4) (by rw [eN,hr1];rfl),eN,hr1]
   rfl
  ·have hU:bG r1 m=true:=by rw [hr4] at h4;simpa using h4
   obtain ⟨a,b⟩:=hh r1 hF hN hU
   rw [←hr3] at b
   have eT:aH f m =(r10.1,if r10.2 then 0 else 10):=by
    rw [ym h1 h2 (by rw [eN,←hr4];exact h4),eN]
    have e0:sD r1 m=r10:=by
     unfold sD
     rw [hr10,hr3,kP]
    rw [e0]
   rw [eT]
   refine ⟨a,⟨rfl,b⟩,fun h5=>?_,fun h5=>?_⟩
   ·rw [hr11] at h5
    have:r10.2=false:=by simpa using h5
    rw [this];rfl
   ·rw [hr11] at h5
    have:r10.2=true:=by simpa using h5
    rw [this];rfl
 ·have eN:dC f m=r6:=by rw [hr6,hr2];unfold dC;rw [if_neg (by rw [h3];decide)];rfl
  have hF:dx m=true:=by simpa using h1
  have hN:=hng _ eN
  have eK:r6.kept=f.kept:=by rw [hr6]
  have hk:=hf.2.1
  refine ⟨fun h4=>⟨fun h5=>?_,fun h5=>⟨by have:=hlen hF;omega,by simp only [List.length_singleton];omega,?_⟩⟩,fun h4=>?_⟩
  ·rw [H8 h1 h2 (by rw [eN,←hr9];exact h4) (by rw [eN,eK,←hr7];exact h5),eN,hr6]
  ·rw [yl h1 h2 (by rw [eN,←hr9];exact h4) (by rw [eN,eK,←hr7];exact h5),eN,hr6]
   rfl
  ·have hU:bG r6 m=true:=by rw [hr9] at h4;simpa using h4
   obtain ⟨a,b⟩:=hh r6 hF hN hU
   rw [←hr8] at b
   have eT:aH f m =(r12.1,if r12.2 then 0 else 10):=by
    rw [ym h1 h2 (by rw [eN,←hr9];exact h4),eN]
    have e0:sD r6 m=r12:=by
     unfold sD
     rw [hr12,hr8,kP]
    rw [e0]
   rw [eT]
   refine ⟨a,⟨rfl,b⟩,fun h5=>?_,fun h5=>?_⟩
   ·rw [hr13] at h5
    have:r12.2=false:=by simpa using h5
    rw [this];rfl
   ·rw [hr13] at h5
    have:r12.2=true:=by simpa using h5
    rw [this];rfl
def uI:FuncId×Ctr:=(20,ae KE qFM qFr vR)
theorem Ch:CtrOK Tryz.prog KE 20 (ae KE qFM qFr vR):=by
 refine aq (C:=ao [xM,ku,gR,D6,D2,kDelMsg] Tryz.f20) (al (.consU Eu rfl (.consU pn rfl (.consU nR rfl (.consU GK rfl (.consU GB rfl (.consU Cd rfl .nil)))))) _) mixed (fn:=Tryz.f20) Tryz.func20 (by kernel_rfl) (by kernel_rfl) (by kernel_rfl) (by kernel_rfl) (by kernel_rfl) (by kernel_rfl) (Λ:=fun x=>find [(NZ,On)]) ?_ ?_
 ·rintro ⟨m,v1,v2,v3,v4,v5,v6,kp,⟨⟩⟩ hw hn
  exact LoopsOKp.at (by kernel_rfl) (.cons (by kernel_rfl) (Pg) .nil)
 ·rintro ⟨m,v1,v2,v3,v4,v5,v6,kp,⟨⟩⟩ hw hn
  exact Ad (mkF v1 v2 v3 v4 v5 v6 kp) m (hn _ List.mem_cons_self) (hn _ (List.mem_cons_of_mem _ List.mem_cons_self))
end Go.Proofs.YtkgplaoappjkcaaGreat
namespace Go.Proofs.YtkgplaoappjkcaaGreat
open Go Go.Mir
attribute [local irreducible] Go.Mir.DT.sat Go.Mir.evPat Go.Mir.RT.sat Go.Mir.evFn
def Lt:Den (tyP qNo)→List Prop×Den (tyP ax):=fun _=>([],(true,()))
theorem bno {b:Bool} {p:Prop} (e:b=false):b=true→p:=fun h=>by rw [e] at h;cases h
def R0:Rules:=FJ { data:=#[84,87,69,78,84,89] }
def ev0:Mir.Event:={ rI with Kind:=1,Side:=1,Yes:=true }
def ev1:Mir.Event:={ rI with Kind:=2,Player:=1,Other:=2 }
def ev2:Mir.Event:={ rI with Kind:=8,Player:=2 }
def S0:live_Server:=Me R0
def S1:live_Server:=cV S0 ev0
def S2:live_Server:=cV S1 ev1
def F1:Fol:=(aH (Ca R0) { Epoch:=1,From:=2,To:=3,Events:= [ev2] }).1
theorem hR0:ar R0=0:=by kernel_rfl
theorem QW:okS S0:=⟨hR0,rfl,Nat.zero_le _⟩
theorem QX:okS S1:=EL QW ev0
theorem SI:okS S2:=EL QX ev1
theorem yG {s:live_Server} (h:okS s):ip s:=⟨HM h,h.2.2⟩
theorem QU:dQ (Ca R0):=⟨⟨jj hR0,jj hR0,Int.le_refl _,by decide⟩,Nat.zero_le _,fun z hz=>by cases hz⟩
theorem SH:dQ F1:=M4 QU (of_decide_eq_true (by kernel_rfl))
theorem wb {s t:live_Server} (h:okS s) (e:t=s):ip t:=by rw [e];exact yG h
theorem Ce {s t:Fol} (h:dQ s) (e:t=s):dQ t:=by rw [e];exact h
theorem Ds :(evPat (ao [si,zu,xL,Gt,fz,fy,uI,Gg,JN] Tryz.f5) (fun _=>none) Tryz.f5 qNo ax ()).sat fun z_=>z_ =(Lt ()).2:=by
 refine cast (by kernel_rfl) (?_:let r1:Bool:=(0:Int) !=(0:Int);let r2:Mir.Result:=Result.mk (0:Int) (0:Int) (0:Int);let r3:Int:=if true=true then (1:Int) else bX (1:Int);let r4:Int:=W (W ((0:Int) +(1:Int)) +(1:Int));let r5:Bool:=(if (true&&true)=true then (0:Int) else (10:Int)) !=(0:Int);let r6:Int:=W (r4 +(1:Int));let r7:ByteArray:=ByteArray.mk #[(84:UInt8),(87:UInt8),(69:UInt8),(78:UInt8),(84:UInt8),(89:UInt8)];let r8:Delivery:=Delivery.mk (0:Int) (0:Int) (0:Int) (0:Int) (0:Int) false (0:Int) (0:Int) (0:Int) (0:Int) false (0:Int);let r9:Mir.Event:=Mir.Event.mk (1:Int) (1:Int) (0:Int) (0:Int) true (0:Int) (0:Int) r8;let r10:Mir.Event:=Mir.Event.mk (2:Int) (0:Int) (1:Int) (2:Int) false (0:Int) (0:Int) r8;let r11:Mir.Event:=Mir.Event.mk (8:Int) (0:Int) (2:Int) (0:Int) false (0:Int) (0:Int) r8;let r12:Bool:=bif FI r7 !=(0:Int) then true else bif r1 then true else r1;let r13:List Mir.Event:= []++[r9];let r14:Rules:=Rules.mk r7 (11:Int) (1:Int) (20:Int) (6:Int) (4:Int) (1:Int) (1:Int) true (0:Int) (0:Int) (2:Int) (5:Int) [Phase.mk (1:Int) (6:Int) (2:Int)];let r15:Match:=Match.mk r14 (1:Int) (0:Int) false [] ((0:Int),(0:Int),()) r2;let r16:Match:=Match.mk r14 (2:Int) r3 false [] ((0:Int),(0:Int),()) r2;let r17:List Mir.Event:=r13++[r10];let r18:Match:=bF r15 r9;let r19:List Mir.Event:=r17++[r11];let r20:live_Server:=live_Server.mk r14 (1:Int) [] r15;let r21:Match:=bF r18 r10;let r22:Bool:=iG r20 r9 !=(0:Int);let r23:List Innings:= []++[cK r14 (sG r16) r10];let r24:live_Server:=live_Server.mk r14 (1:Int) r13 r16;let r25:Bool:=iG r24 r10 !=(0:Int);let r26:Match:=Match.mk r14 (3:Int) r3 false r23 ((0:Int),(0:Int),()) r2;let r27:live_Server:=live_Server.mk r14 (1:Int) r17 r26;let r28:Int:=il r27 (0:Int) (1:Int);let r29:Bool:=ji r27 (0:Int) !=(0:Int);let r30:Bool:=iG r27 r11 !=(0:Int);let r31:Int:=il r27 (0:Int) (↑r17.length:Int);let r32:live_Server:=live_Server.mk r14 (1:Int) r19 (Match.mk r14 (3:Int) r3 false (r23.set (Cc r26) (cK r14 (bt r26) r11)) ((0:Int),(0:Int),()) r2);let r33:List Mir.Event:=ky r32 (2:Int);let r34:Int:=il r32 (2:Int) (1:Int);let r35:Bool:=ji r32 (2:Int) !=(0:Int);let r36:Int:=il r32 (2:Int) (↑r19.length:Int);let r37:List Message:= []++[Message.mk r34 (il r32 (2:Int) (2:Int)) r36 r33];let r38:Int:=if r31>r36 then r31 else r36;let r39:live_Follower:=live_Follower.mk r15 (0:Int) (0:Int) r15 r34 r36 r37;let r40:Bool:=D7 r39 !=(3:Int);let r41:Bool:=D7 (live_Follower.mk r15 r28 r6 (Match.mk r14 (3:Int) r3 false (([]++[cK r14 (sG r18) r10]).set (Cc r21) (cK r14 (bt r21) r11)) ((0:Int),(0:Int),()) r2) r34 r38 (List.take (f4 (live_Follower.mk r15 r28 r4 r21 r34 r38 r37) r37 (0:Int)).toNat r37++List.drop ((f4 (live_Follower.mk r15 r28 r4 r21 r34 r38 r37) r37 (0:Int)).toNat +(1:Nat)) r37)) !=(0:Int);zL r14∧zL r14∧(r12=true→(false,()) =(true,()))∧(r12=false→((0:Int)≤(0:Int)∧(0:Int) <(↑tossW.length:Int))∧ip r20∧(r22=true→(false,()) =(true,()))∧(r22=false→((0:Int)≤(1:Int)∧(1:Int) <(↑tossW.length:Int))∧ip r24∧(r25=true→(false,()) =(true,()))∧(r25=false→r17.length≤(1000000:Nat)∧((0:Int)≤(2:Int)∧(2:Int) <(↑tossW.length:Int))∧ip r27∧(r30=true→(false,()) =(true,()))∧(r30=false→r19.length≤(1000000:Nat)∧(r29=true→(false,()) =(true,()))∧(r29=false→(r35=true→(false,()) =(true,()))∧(r35=false→dQ (live_Follower.mk r15 (0:Int) (0:Int) r15 (0:Int) (0:Int) [])∧r33.length≤aS∧(r1=true→(false,()) =(true,()))∧(r1=false→(r40=true→(false,()) =(true,()))∧(r40=false→dQ r39∧(ky r27 (0:Int)).length≤aS∧(r5=true→(false,()) =(true,()))∧(r5=false→(r41=true→(false,()) =(true,()))∧(r41=false→(bif r28 ==(1:Int) then r6 ==(3:Int) else false,()) =(true,()))))))))))))
 intro r1 r2 r3 r4 r5 r6 r7 r8 r9 r10 r11 r12 r13 r14 r15 r16 r17 r18 r19 r20 r21 r22 r23 r24 r25 r26 r27 r28 r29 r30 r31 r32 r33 r34 r35 r36 r37 r38 r39 r40 r41
 clear_value (hr1:r1=_) (hr2:r2=_) (hr3:r3=_) (hr4:r4=_) (hr5:r5=_) (hr6:r6=_) (hr7:r7=_) (hr8:r8=_) (hr9:r9=_) (hr10:r10=_) (hr11:r11=_) (hr12:r12=_) (hr13:r13=_) (hr14:r14=_) (hr15:r15=_) (hr16:r16=_) (hr17:r17=_) (hr18:r18=_) (hr19:r19=_) (hr20:r20=_) (hr21:r21=_) (hr22:r22=_) (hr23:r23=_) (hr24:r24=_) (hr25:r25=_) (hr26:r26=_) (hr27:r27=_) (hr28:r28=_) (hr29:r29=_) (hr30:r30=_) (hr31:r31=_) (hr32:r32=_) (hr33:r33=_) (hr34:r34=_) (hr35:r35=_) (hr36:r36=_) (hr37:r37=_) (hr38:r38=_) (hr39:r39=_) (hr40:r40=_) (hr41:r41=_)
 subst hr1 hr2 hr3 hr4 hr5 hr6 hr7 hr8 hr9 hr10 hr11 hr12 hr13 hr14 hr15 hr16 hr17 hr18 hr19 hr20 hr21 hr22 hr23 hr24 hr25 hr26 hr27 hr28 hr29 hr30 hr31 hr32 hr33 hr34 hr35 hr36 hr37 hr38 hr39 hr40 hr41
 refine ⟨show ar _=0 from by kernel_rfl,show ar _=0 from by kernel_rfl,bno (by kernel_rfl),fun _=>⟨⟨by decide,by decide⟩,wb QW (by kernel_rfl),bno (by kernel_rfl),fun _=>⟨⟨by decide,by decide⟩,wb QX (by kernel_rfl),bno (by kernel_rfl),fun _=>⟨by decide,⟨by decide,by decide⟩,wb SI (by kernel_rfl),bno (by kernel_rfl),fun _=>⟨by decide,bno (by kernel_rfl),fun _=>⟨bno (by kernel_rfl),fun _=>⟨Ce QU (by kernel_rfl),of_decide_eq_true (by kernel_rfl),bno (by kernel_rfl),fun _=>⟨bno (by kernel_rfl),fun _=>⟨Ce SH (by kernel_rfl),of_decide_eq_true (by kernel_rfl),bno (by kernel_rfl),fun _=>⟨bno (by kernel_rfl),fun _=>by kernel_rfl⟩⟩⟩⟩⟩⟩⟩⟩⟩⟩
def nK:FuncId×Ctr:=(5,ae KE qNo ax Lt)
theorem vk:CtrOK Tryz.prog KE 5 (ae KE qNo ax Lt):=by
 refine aq (C:=ao [si,zu,xL,Gt,fz,fy,uI,Gg,JN] Tryz.f5) (al (.consU zS rfl (.consU GJ rfl (.consU Et rfl (.consU Kp rfl (.consU jM rfl (.consU jL rfl (.consU Ch rfl (.consU Kd rfl (.consU MB rfl .nil))))))))) _) mixed (fn:=Tryz.f5) Tryz.func5 (by kernel_rfl) (by kernel_rfl) (by kernel_rfl) (by kernel_rfl) (by kernel_rfl) (by kernel_rfl) (Λ:=fun _ _=>none) ?_ ?_
 ·exact fun _ _ _ _ _ _ _ _ h=>by cases h
 ·rintro ⟨⟩ hw hn
  exact Ds
end Go.Proofs.YtkgplaoappjkcaaGreat
namespace Go.Mir
open Go.RowKit Go.ChangeShapes Go.WideShapes
open Go.Proofs.YtkgplaoappjkcaaGreat.Rows (uptoBulk uptoBulkAll)
section
variable {H:Type} {enc:TypeId×Value→H} {P:Program} {w:World}
theorem OI {K:Nat} {f:FuncId} {c1 c2 c:Ctr} (h1:CtrOK P K f c1) (h2:CtrOK P K f c2)
  (h :∀ args H m ps v dh,c args H m=some (ps,v,dh)→(∀ p∈ps,p)→(∃ ps1,c1 args H m=some (ps1,v,dh)∧∀ p∈ps1,p)∨(∃ ps2,c2 args H m=some (ps2,v,dh)∧∀ p∈ps2,p)):CtrOK P K f c:=
 ⟨h1.fn,fun B E hE args av hav m hm ps v dh hc hps=>by
  rcases h _ _ _ _ _ _ hc hps with ⟨p1,e1,k1⟩ |⟨p2,e2,k2⟩
  ·exact h1.calls B E hE args av hav m hm p1 v dh e1 k1
  ·exact h2.calls B E hE args av hav m hm p2 v dh e2 k2⟩
theorem Kt {K:Nat} {q q':Pat} {s:Den (tyP q)→List Prop×Den (tyP q')} {args:List V} {H:bm} {m:Nat} {ps:List Prop} {v:V} {dh:List (Nat×Blk)} (h:ae K q q' s args H m=some (ps,v,dh)) :
  ∃ x,ps =(s x).1∧∀ s1:Den (tyP q)→List Prop×Den (tyP q'),(s1 x).2 =(s x).2→ae K q q' s1 args H m=some ((s1 x).1,v,dh):=by
 unfold ae at h ⊢
 simp only at h ⊢
 cases hg:zn q ⟨ef 0 args,[],H,m⟩ with
 | none=>rw [hg] at h;cases h
 | some x=>
  rw [hg] at h
  simp only at h ⊢
  cases hb :(GC q q' (kz q ⟨ef 0 args,[],H,m⟩)&&(Nat.beq args.length q.tm.length&&Nat.ble q'.nx K)) with
  | false=>rw [hb] at h;cases h
  | true=>
   rw [hb] at h
   simp only [cond_true,Option.some.injEq,Prod.mk.injEq] at h ⊢
   obtain ⟨h1,h2,h3⟩:=h
   exact ⟨x,h1.symm,fun s1 e=>⟨rfl,by rw [e];exact h2,by rw [e];exact h3⟩⟩
theorem PE {K:Nat} {f:FuncId} {q q':Pat} {s1 s2 s:Den (tyP q)→List Prop×Den (tyP q')} (h1:CtrOK P K f (ae K q q' s1)) (h2:CtrOK P K f (ae K q q' s2)) (e1 :∀ x,(s1 x).2 =(s x).2) (e2 :∀ x,(s2 x).2 =(s x).2)
  (hn :∀ x,(∀ p∈(s x).1,p)→(∀ p∈(s1 x).1,p)∨(∀ p∈(s2 x).1,p)):CtrOK P K f (ae K q q' s):=
 OI h1 h2 fun args H m ps v dh hc hps=>by
  obtain ⟨x,rfl,k⟩:=Kt hc
  rcases hn x hps with h|h
  ·exact .inl ⟨_,k s1 (e1 x),h⟩
  ·exact .inr ⟨_,k s2 (e2 x),h⟩
theorem D8 {K:Nat} {f:FuncId} {fn:Func} {c:Ctr} (hc:CtrOK P K f c) {ps:Ty} (hps:vX P fn.params.toList ps=true)
  (h :∀ x:Den ps,wfD ps x→∃ ls,c (bh ps x) (fun _=>none) 0=some (ls,.bool true,[])∧∀ p∈ls,p)
  {args:Array Value} {ds:List (DataW H)} {p:List MemPlace} (hA:DataW.TrodAll enc P w 0 (fun _=>true) true fn.params.toList args.toList ds p) (hval :∀ (j:Nat) t v,fn.params[j]?=some t→args[j]?=some v→∃ r b,Value.okWide P w r b t v)
  (hw :∀ m∈DataW.weightsEach P fn.params.toList ds,m≤aS) :
  Calls P f args w fun e w'=>e = .returned (.bool true)∧Keeps w (fun _=>False) w':=by
 obtain ⟨x,k1,⟨cs,k2⟩,_,_,_⟩:=qJ hA hps (fun j t v h1 h2=>hval j t v (by simpa using h1) (by simpa using h2)) hw
 obtain ⟨ls,e1,e2⟩:=h x ⟨_,_,_,k2⟩
 have hc:=hc.calls (Ns w) (LW w) (Jn w) _ _ k1 0 (fun n _ _ hu=>hu) ls _ _ e1 e2
 have e:args.toList.toArray=args:=by simp
 rw [e] at hc
 refine Calls.mono hc fun e w' hr=>?_
 obtain ⟨E',v',rfl,G,hv⟩:=hr
 simp only [ac] at hv
 subst hv
 refine ⟨rfl,?_⟩
 have:=G.rel.keeps
 rw [G.w] at this
 exact this
end
end Go.Mir
namespace Go.Proofs.YtkgplaoappjkcaaGreat
open Go Go.Mir
attribute [local irreducible] Go.Mir.DT.sat Go.Mir.evPat Go.Mir.RT.sat Go.Mir.evFn
abbrev LP:Ty:= .slice (.nm .law59_Act)
abbrev R6:List (Nat×PB):= [(0,.cells (Je (.c (.osl 1 2)))),(1,.row 2 (.nm .Event)),(3,.dat (.nm .ref59_Server))]
abbrev qSv:Pat:=⟨[(5,.c (.ptr 0 0)),(7,.c (.ptr 3 0)),(58,.h LP),(59,.h I),(60,.h I)],R6,4⟩
abbrev xSv:List (Lf×Pat):= [(.ret,⟨[(4,.h .bool)],[],0⟩),(.ext 0,⟨[],[],0⟩)]
abbrev TSv:Type:=List law59_Act×Int×Int×Rules×Int×Match×List Mir.Event×ref59_Server×Unit
def Ly (x:TSv):live_Server:=mkS x.2.2.2.1 x.2.2.2.2.1 x.2.2.2.2.2.1 x.2.2.2.2.2.2.1
def ej (s:live_Server):ref59_Server:={ Rules:=s.rules,Events:=s.log,Epoch:=s.epoch }
def rZ (x:TSv):Prop:=(x.2.1 =(x.1.length:Int)∧0≤x.2.2.1∧x.2.2.1≤x.2.1∧x.1.length≤aS)∧okS (Ly x)∧x.2.2.2.2.2.2.2.1=ej (Ly x)
def sN (x:TSv):Nat:=(x.2.1 - x.2.2.1).toNat
def kH (_:TSv):Sum (Bool×Unit) Unit:= .inr ()
abbrev qRA:Pat:=cg [.nm .Rules,LP]
def Nh:Den (tyP qRA)→List Prop×Den (tyP ax):=fun _=>([],(true,()))
def Du:Den (tyP qRA)→List Prop×Den (tyP ax):=fun x=>([zL (oO x.1)],(true,()))
def Dt:Den (tyP qRA)→List Prop×Den (tyP ax):=fun x=>([Bh (oO x.1)],(true,()))
theorem PH {s:live_Server} (h:okS s) (e:Mir.Event):it (ej s) e=iG s e∧lE (ej s) e=ej (cV s e):=by
 have h1:it (ej s) e=iG s e:=by
  by_cases hl :(s.log.length:Int)≥4000
  ·have a:it (ej s) e=26:=by unfold it;rw [if_pos];exact decide_eq_true hl
   have b:iG s e=26:=by unfold iG;rw [if_pos];exact decide_eq_true hl
   rw [a,b]
  ·have hd:¬ decide ((s.log.length:Int)≥4000)=true:=by rw [decide_eq_true_eq];exact hl
   have a:it (ej s) e =(aW s.rules (s.log++[e])).2.2.2:=if_neg hd
   have b:iG s e=aV s.match_ e:=by unfold iG;rw [if_neg];rw [decide_eq_true_eq];exact hl
   rw [a,b,MU h e hl]
 refine ⟨h1,?_⟩
 unfold lE cV
 rw [h1]
 split <;> rfl
theorem OG (s:live_Server) (k:Int) (e:Mir.Event):lV (ej s) k e=oh s k e∧lU (ej s) k e=sH s k e∧qO (ej s) k e=ej (da s k e):=by
 have h1:lV (ej s) k e=oh s k e:=rfl
 refine ⟨h1,rfl,?_⟩
 unfold qO da
 rw [h1]
 split <;> rfl
theorem Jo (x:Mir.Event):eqE x x=true:=by simp [eqE]
theorem xm :∀ l:List Mir.Event,sI l l=true
 | []=>rfl
 | x::l=>by unfold sI;rw [Jo];exact xm l
theorem lc (l:List Mir.Event):i9 l l=true:=by unfold i9;rw [xm];simp
theorem Hz (m:Message):Hy m m=true:=by unfold Hy;rw [lc];simp
theorem Po (s:live_Server) (k:Int):ji s k=qc (ej s) k∧Message.mk (il s k s.epoch) (il s k k) (il s k s.log.length) (ky s k)=wO (ej s) k:=by
 refine ⟨rfl,?_⟩
 have hG:xW (ej s) k=wN s k:=rfl
 unfold wO il ky
 rw [hG]
 split <;> rfl
noncomputable def lpSv:Lp:=(⟨0,ao [fz,gW,jf,gU,fy,gV,mI,kr,uH,fA] Tryz.f3,(fun _=>none),(aA Tryz.f3 0),qSv,xSv⟩:Lp)
theorem Qh (xs:List law59_Act) (n:Int) (i:Int) (v1:Rules) (v2:Int) (v3:Match) (l:List Mir.Event) (t:ref59_Server) (hi:rZ (xs,n,i,v1,v2,v3,l,t,())) :(Go.Mir.stepG lpSv kH (fun y:Den (tyP lpSv.q)=>rZ y∧sN y<sN (xs,n,i,v1,v2,v3,l,t,())) (xs,n,i,v1,v2,v3,l,t,())∧Go.Mir.stepE lpSv kH (xs,n,i,v1,v2,v3,l,t,())=kH (xs,n,i,v1,v2,v3,l,t,())):=by
 refine cast (by kernel_rfl) (?_:let r1:Int:=IntKind.i64.wrap (i +(1:Int));let r2:Int:=(xs.getD i.toNat (dflt (Ty.nm Nm.law59_Act))).1.tmod (7:Int);let r3:Bool:=(↑l.length:Int) !=(↑t.2.length:Int);let r4:ref59_Server:=qO t (xs.getD i.toNat (dflt (Ty.nm Nm.law59_Act))).2 (xs.getD i.toNat (dflt (Ty.nm Nm.law59_Act))).3;let r5:Bool:=iG (live_Server.mk v1 v2 l v3) (xs.getD i.toNat (dflt (Ty.nm Nm.law59_Act))).3 != it t (xs.getD i.toNat (dflt (Ty.nm Nm.law59_Act))).3;let r6:Bool:=(cV (live_Server.mk v1 v2 l v3) (xs.getD i.toNat (dflt (Ty.nm Nm.law59_Act))).3).2 !=(lE t (xs.getD i.toNat (dflt (Ty.nm Nm.law59_Act))).3).3;let r7:Bool:=bif v2 != t.3 then true else bif r3 then true else !i9 l t.2;let r8:Bool:=decide (r2 <(4:Int));let r9:Bool:=(↑(cV (live_Server.mk v1 v2 l v3) (xs.getD i.toNat (dflt (Ty.nm Nm.law59_Act))).3).3.length:Int) !=(↑(lE t (xs.getD i.toNat (dflt (Ty.nm Nm.law59_Act))).3).2.length:Int);let r10:Bool:=decide (r2 <(6:Int));let r11:Bool:=(da (live_Server.mk v1 v2 l v3) (xs.getD i.toNat (dflt (Ty.nm Nm.law59_Act))).2 (xs.getD i.toNat (dflt (Ty.nm Nm.law59_Act))).3).2 != r4.3;let r12:Bool:=(↑(da (live_Server.mk v1 v2 l v3) (xs.getD i.toNat (dflt (Ty.nm Nm.law59_Act))).2 (xs.getD i.toNat (dflt (Ty.nm Nm.law59_Act))).3).3.length:Int) !=(↑r4.2.length:Int);let r13:Bool:=bif sH (live_Server.mk v1 v2 l v3) (xs.getD i.toNat (dflt (Ty.nm Nm.law59_Act))).2 (xs.getD i.toNat (dflt (Ty.nm Nm.law59_Act))).3 != lU t (xs.getD i.toNat (dflt (Ty.nm Nm.law59_Act))).2 (xs.getD i.toNat (dflt (Ty.nm Nm.law59_Act))).3 then true else oh (live_Server.mk v1 v2 l v3) (xs.getD i.toNat (dflt (Ty.nm Nm.law59_Act))).2 (xs.getD i.toNat (dflt (Ty.nm Nm.law59_Act))).3 != lV t (xs.getD i.toNat (dflt (Ty.nm Nm.law59_Act))).2 (xs.getD i.toNat (dflt (Ty.nm Nm.law59_Act))).3;let r14:Bool:=bif r6 then true else bif r9 then true else !i9 (cV (live_Server.mk v1 v2 l v3) (xs.getD i.toNat (dflt (Ty.nm Nm.law59_Act))).3).3 (lE t (xs.getD i.toNat (dflt (Ty.nm Nm.law59_Act))).3).2;let r15:Bool:=bif ji (live_Server.mk v1 v2 l v3) (xs.getD i.toNat (dflt (Ty.nm Nm.law59_Act))).2 != qc t (xs.getD i.toNat (dflt (Ty.nm Nm.law59_Act))).2 then true else !Hy (Message.mk (il (live_Server.mk v1 v2 l v3) (xs.getD i.toNat (dflt (Ty.nm Nm.law59_Act))).2 v2) (il (live_Server.mk v1 v2 l v3) (xs.getD i.toNat (dflt (Ty.nm Nm.law59_Act))).2 (xs.getD i.toNat (dflt (Ty.nm Nm.law59_Act))).2) (il (live_Server.mk v1 v2 l v3) (xs.getD i.toNat (dflt (Ty.nm Nm.law59_Act))).2 (↑l.length:Int)) (ky (live_Server.mk v1 v2 l v3) (xs.getD i.toNat (dflt (Ty.nm Nm.law59_Act))).2)) (wO t (xs.getD i.toNat (dflt (Ty.nm Nm.law59_Act))).2);let r16:Bool:=bif r11 then true else bif r12 then true else !i9 (da (live_Server.mk v1 v2 l v3) (xs.getD i.toNat (dflt (Ty.nm Nm.law59_Act))).2 (xs.getD i.toNat (dflt (Ty.nm Nm.law59_Act))).3).3 r4.2;((decide (i<n)=true→((0:Int)≤i∧i <(↑xs.length:Int))∧(7:Int)≠(0:Int)∧(r8=true→ip (live_Server.mk v1 v2 l v3)∧kc t∧(r5=true→True)∧(r5=false→((r6=true→True)∧(r6=false→(r9=true→True)∧(r9=false→(cV (live_Server.mk v1 v2 l v3) (xs.getD i.toNat (dflt (Ty.nm Nm.law59_Act))).3).3.length≤(1000000:Nat)∧True)))∧(true=true→(r14=true→True)∧(r14=false→rZ (xs,n,r1,(cV (live_Server.mk v1 v2 l v3) (xs.getD i.toNat (dflt (Ty.nm Nm.law59_Act))).3).1,(cV (live_Server.mk v1 v2 l v3) (xs.getD i.toNat (dflt (Ty.nm Nm.law59_Act))).3).2,(cV (live_Server.mk v1 v2 l v3) (xs.getD i.toNat (dflt (Ty.nm Nm.law59_Act))).3).4,(cV (live_Server.mk v1 v2 l v3) (xs.getD i.toNat (dflt (Ty.nm Nm.law59_Act))).3).3,lE t (xs.getD i.toNat (dflt (Ty.nm Nm.law59_Act))).3,())∧sN (xs,n,r1,(cV (live_Server.mk v1 v2 l v3) (xs.getD i.toNat (dflt (Ty.nm Nm.law59_Act))).3).1,(cV (live_Server.mk v1 v2 l v3) (xs.getD i.toNat (dflt (Ty.nm Nm.law59_Act))).3).2,(cV (live_Server.mk v1 v2 l v3) (xs.getD i.toNat (dflt (Ty.nm Nm.law59_Act))).3).4,(cV (live_Server.mk v1 v2 l v3) (xs.getD i.toNat (dflt (Ty.nm Nm.law59_Act))).3).3,lE t (xs.getD i.toNat (dflt (Ty.nm Nm.law59_Act))).3,())<sN (xs,n,i,v1,v2,v3,l,t,())))))∧(r8=false→(r10=true→ip (live_Server.mk v1 v2 l v3)∧kc t∧(r13=true→True)∧(r13=false→((r11=true→True)∧(r11=false→(r12=true→True)∧(r12=false→(da (live_Server.mk v1 v2 l v3) (xs.getD i.toNat (dflt (Ty.nm Nm.law59_Act))).2 (xs.getD i.toNat (dflt (Ty.nm Nm.law59_Act))).3).3.length≤(1000000:Nat)∧True)))∧(true=true→(r16=true→True)∧(r16=false→rZ (xs,n,r1,(da (live_Server.mk v1 v2 l v3) (xs.getD i.toNat (dflt (Ty.nm Nm.law59_Act))).2 (xs.getD i.toNat (dflt (Ty.nm Nm.law59_Act))).3).1,(da (live_Server.mk v1 v2 l v3) (xs.getD i.toNat (dflt (Ty.nm Nm.law59_Act))).2 (xs.getD i.toNat (dflt (Ty.nm Nm.law59_Act))).3).2,(da (live_Server.mk v1 v2 l v3) (xs.getD i.toNat (dflt (Ty.nm Nm.law59_Act))).2 (xs.getD i.toNat (dflt (Ty.nm Nm.law59_Act))).3).4,(da (live_Server.mk v1 v2 l v3) (xs.getD i.toNat (dflt (Ty.nm Nm.law59_Act))).2 (xs.getD i.toNat (dflt (Ty.nm Nm.law59_Act))).3).3,r4,())∧sN (xs,n,r1,(da (live_Server.mk v1 v2 l v3) (xs.getD i.toNat (dflt (Ty.nm Nm.law59_Act))).2 (xs.getD i.toNat (dflt (Ty.nm Nm.law59_Act))).3).1,(da (live_Server.mk v1 v2 l v3) (xs.getD i.toNat (dflt (Ty.nm Nm.law59_Act))).2 (xs.getD i.toNat (dflt (Ty.nm Nm.law59_Act))).3).2,(da (live_Server.mk v1 v2 l v3) (xs.getD i.toNat (dflt (Ty.nm Nm.law59_Act))).2 (xs.getD i.toNat (dflt (Ty.nm Nm.law59_Act))).3).4,(da (live_Server.mk v1 v2 l v3) (xs.getD i.toNat (dflt (Ty.nm Nm.law59_Act))).2 (xs.getD i.toNat (dflt (Ty.nm Nm.law59_Act))).3).3,r4,())<sN (xs,n,i,v1,v2,v3,l,t,())))))∧(r10=false→l.length≤(1000000:Nat)∧kc t∧(r15=true→True)∧(r15=false→(((v2 != t.3)=true→True)∧((v2 != t.3)=false→(r3=true→True)∧(r3=false→l.length≤(1000000:Nat)∧True)))∧(true=true→(r7=true→True)∧(r7=false→rZ (xs,n,r1,v1,v2,v3,l,t,())∧sN (xs,n,r1,v1,v2,v3,l,t,())<sN (xs,n,i,v1,v2,v3,l,t,())))))))∧(decide (i<n)=false→True))∧(bif decide (i<n) then bif r8 then bif r5 then Sum.inl (false,()) else bif true&&(true&&true) then bif r14 then Sum.inl (false,()) else kH (xs,n,r1,(cV (live_Server.mk v1 v2 l v3) (xs.getD i.toNat (dflt (Ty.nm Nm.law59_Act))).3).1,(cV (live_Server.mk v1 v2 l v3) (xs.getD i.toNat (dflt (Ty.nm Nm.law59_Act))).3).2,(cV (live_Server.mk v1 v2 l v3) (xs.getD i.toNat (dflt (Ty.nm Nm.law59_Act))).3).4,(cV (live_Server.mk v1 v2 l v3) (xs.getD i.toNat (dflt (Ty.nm Nm.law59_Act))).3).3,lE t (xs.getD i.toNat (dflt (Ty.nm Nm.law59_Act))).3,()) else bif true then bif r14 then Sum.inl (false,()) else kH (xs,n,r1,(cV (live_Server.mk v1 v2 l v3) (xs.getD i.toNat (dflt (Ty.nm Nm.law59_Act))).3).1,(cV (live_Server.mk v1 v2 l v3) (xs.getD i.toNat (dflt (Ty.nm Nm.law59_Act))).3).2,(cV (live_Server.mk v1 v2 l v3) (xs.getD i.toNat (dflt (Ty.nm Nm.law59_Act))).3).4,(cV (live_Server.mk v1 v2 l v3) (xs.getD i.toNat (dflt (Ty.nm Nm.law59_Act))).3).3,lE t (xs.getD i.toNat (dflt (Ty.nm Nm.law59_Act))).3,()) else bif r6 then Sum.inl (dflt (Ty.bool.prod Ty.unit)) else bif r9 then Sum.inl (dflt (Ty.bool.prod Ty.unit)) else Sum.inl (dflt (Ty.bool.prod Ty.unit)) else bif r10 then bif r13 then Sum.inl (false,()) else bif true&&(true&&true) then bif r16 then Sum.inl (false,()) else kH (xs,n,r1,(da (live_Server.mk v1 v2 l v3) (xs.getD i.toNat (dflt (Ty.nm Nm.law59_Act))).2 (xs.getD i.toNat (dflt (Ty.nm Nm.law59_Act))).3).1,(da (live_Server.mk v1 v2 l v3) (xs.getD i.toNat (dflt (Ty.nm Nm.law59_Act))).2 (xs.getD i.toNat (dflt (Ty.nm Nm.law59_Act))).3).2,(da (live_Server.mk v1 v2 l v3) (xs.getD i.toNat (dflt (Ty.nm Nm.law59_Act))).2 (xs.getD i.toNat (dflt (Ty.nm Nm.law59_Act))).3).4,(da (live_Server.mk v1 v2 l v3) (xs.getD i.toNat (dflt (Ty.nm Nm.law59_Act))).2 (xs.getD i.toNat (dflt (Ty.nm Nm.law59_Act))).3).3,r4,()) else bif true then bif r16 then Sum.inl (false,()) else kH (xs,n,r1,(da (live_Server.mk v1 v2 l v3) (xs.getD i.toNat (dflt (Ty.nm Nm.law59_Act))).2 (xs.getD i.toNat (dflt (Ty.nm Nm.law59_Act))).3).1,(da (live_Server.mk v1 v2 l v3) (xs.getD i.toNat (dflt (Ty.nm Nm.law59_Act))).2 (xs.getD i.toNat (dflt (Ty.nm Nm.law59_Act))).3).2,(da (live_Server.mk v1 v2 l v3) (xs.getD i.toNat (dflt (Ty.nm Nm.law59_Act))).2 (xs.getD i.toNat (dflt (Ty.nm Nm.law59_Act))).3).4,(da (live_Server.mk v1 v2 l v3) (xs.getD i.toNat (dflt (Ty.nm Nm.law59_Act))).2 (xs.getD i.toNat (dflt (Ty.nm Nm.law59_Act))).3).3,r4,()) else bif r11 then Sum.inl (dflt (Ty.bool.prod Ty.unit)) else bif r12 then Sum.inl (dflt (Ty.bool.prod Ty.unit)) else Sum.inl (dflt (Ty.bool.prod Ty.unit)) else bif r15 then Sum.inl (false,()) else bif true&&(true&&true) then bif r7 then Sum.inl (false,()) else kH (xs,n,r1,v1,v2,v3,l,t,()) else bif true then bif r7 then Sum.inl (false,()) else kH (xs,n,r1,v1,v2,v3,l,t,()) else bif v2 != t.3 then Sum.inl (dflt (Ty.bool.prod Ty.unit)) else bif r3 then Sum.inl (dflt (Ty.bool.prod Ty.unit)) else Sum.inl (dflt (Ty.bool.prod Ty.unit)) else Sum.inr ())=kH (xs,n,i,v1,v2,v3,l,t,()))
 intro r1 r2 r3 r4 r5 r6 r7 r8 r9 r10 r11 r12 r13 r14 r15 r16
 clear_value (hr1:r1=_) (hr2:r2=_) (hr3:r3=_) (hr4:r4=_) (hr5:r5=_) (hr6:r6=_) (hr7:r7=_) (hr8:r8=_) (hr9:r9=_) (hr10:r10=_) (hr11:r11=_) (hr12:r12=_) (hr13:r13=_) (hr14:r14=_) (hr15:r15=_) (hr16:r16=_)
 obtain ⟨⟨h1,h2,h3,h4⟩,hs,ht⟩:=hi
 simp only at h1 h2 h3 h4
 have hs:okS (live_Server.mk v1 v2 l v3):=hs
 have ht:t=ej (live_Server.mk v1 v2 l v3):=ht
 generalize xs.getD i.toNat (dflt (Ty.nm Nm.law59_Act))=v at *
 have hx :(xs.length:Int)≤140737488355328:=by have:xs.length≤140737488355328:=h4;omega
 have sS:ip (live_Server.mk v1 v2 l v3):=yG hs
 have ep:=PH hs v.Event
 have ec:=OG (live_Server.mk v1 v2 l v3) v.K v.Event
 have em:=Po (live_Server.mk v1 v2 l v3) v.K
 have oP:=EL hs v.Event
 have oC:=OH hs v.K v.Event
 rw [←ht] at ep ec em
 have sT:kc t:=by rw [ht];exact hs.2.2
 have tl:t.Events=l:=by rw [ht];rfl
 have te:t.Epoch=v2:=by rw [ht];rfl
 have e3:r3=false:=by rw [hr3,tl];simp
 have e5:r5=false:=by rw [hr5,ep.1];simp
 have e6:r6=false:=by rw [hr6,ep.2];simp [ej]
 have e9:r9=false:=by rw [hr9,ep.2];simp [ej]
 have e14:r14=false:=by rw [hr14,e6,e9,ep.2];simp [ej,lc]
 have e11:r11=false:=by rw [hr11,hr4,ec.2.2];simp [ej]
 have e12:r12=false:=by rw [hr12,hr4,ec.2.2];simp [ej]
 have e16:r16=false:=by rw [hr16,e11,e12,hr4,ec.2.2];simp [ej,lc]
 have e13:r13=false:=by rw [hr13,ec.1,ec.2.1];simp
 have e15:r15=false:=by
  have k2:=em.2
  simp only at k2
  rw [hr15,em.1,k2,Hz];simp
 have e7:r7=false:=by rw [hr7,e3,te,tl,lc];simp
 have ev :(v2 != t.Epoch)=false:=by rw [te];simp
 have l1:l.length≤1000000:=by have:=hs.2.2;simp only at this;omega
 have l2:=oP.2.2
 have l3:=oC.2.2
 clear hr3 hr5 hr6 hr9 hr14 hr11 hr12 hr16 hr13 hr15 hr7
 subst e3 e5 e6 e9 e14 e11 e12 e16 e13 e15 e7
 have eW:i<n→r1=i+1:=fun h=>by rw [hr1];exact bi (by omega) (by omega)
 refine ⟨⟨fun h=>?_,fun _=>trivial⟩,?_⟩
 ·have h:i<n:=of_decide_eq_true h
  have eW:=eW h
  refine ⟨⟨h2,by omega⟩,by decide,fun a=>⟨sS,sT,fun _=>trivial,fun _=>⟨⟨fun _=>trivial,fun _=>⟨fun _=>trivial,fun _=>⟨by omega,trivial⟩⟩⟩,fun _=>⟨fun _=>trivial,fun _=>⟨⟨⟨h1,by simp only;omega,by simp only;omega,h4⟩,oP,ep.2⟩,by simp only [sN];omega⟩⟩⟩⟩,
   fun a=>⟨fun b=>⟨sS,sT,fun _=>trivial,fun _=>⟨⟨fun _=>trivial,fun _=>⟨fun _=>trivial,fun _=>⟨by omega,trivial⟩⟩⟩,fun _=>⟨fun _=>trivial,fun _=>⟨⟨⟨h1,by simp only;omega,by simp only;omega,h4⟩,oC,hr4.trans ec.2.2⟩,by simp only [sN];omega⟩⟩⟩⟩,
    fun b=>⟨l1,sT,fun _=>trivial,fun _=>⟨⟨fun _=>trivial,fun _=>⟨fun _=>trivial,fun _=>⟨l1,trivial⟩⟩⟩,fun _=>⟨fun _=>trivial,fun _=>⟨⟨⟨h1,by simp only;omega,by simp only;omega,h4⟩,hs,ht⟩,by simp only [sN];omega⟩⟩⟩⟩⟩⟩
 ·rw [ev]
  cases decide (i<n) <;> cases r8 <;> cases r10 <;> rfl
noncomputable def Hd:LoopSum:=aI lpSv kH rZ
noncomputable def G9:Nat:=rid (aA Tryz.f3 0)
theorem JW:LoopOKp Tryz.prog 0 Tryz.f3.ntmps (aA Tryz.f3 0) (aI lpSv kH rZ):=
 bj lpSv (al (.consU jM rfl (.consU lA rfl (.consU mP rfl (.consU ly rfl (.consU jL rfl (.consU lz rfl (.consU rj rfl (.consU pm rfl (.consU zN rfl (.consU jO rfl .nil)))))))))) _) mixed (fun b hb S hS=>by cases hS) kH rZ sN (fun |⟨xs,n,i,v1,v2,v3,l,t,⟨⟩⟩,hi=>Qh xs n i v1 v2 v3 l t hi)
theorem xa (r:Rules) (acts:List law59_Act) (h0:zL (oO r)) (hx:acts.length≤aS) :(evPat (ao [nK,jK,zu,tu,fz,gW,jf,gU,fy,gV,mI,kr,uH,fA] Tryz.f3) (find [(G9,Hd)]) Tryz.f3 qRA ax (r,acts,())).sat fun z_=>z_ =(Du (r,acts,())).2:=by
 refine cast (by kernel_rfl) (?_:let r1:Int:=if (50:Int) <(↑acts.length:Int) then (50:Int) else (↑acts.length:Int);let r2:List law59_Act:=List.drop (Int.toNat (0:Int)) (List.take r1.toNat acts);let r3:Int:=(↑r2.length:Int);let r4:Rules:=Rules.mk (DI r.1) r.2 r.3 r.4 r.5 r.6 r.7 r.8 r.9 r.10 r.11 r.12 r.13 (List.take (if (10:Int) <(↑r.14.length:Int) then (10:Int) else (↑r.14.length:Int)).toNat r.14);let r5:ref59_Server:=Eh r4;let r6:Bool:=bif (0:Int) != ar r4 then true else (0:Int) !=(0:Int);let r7:live_Server:=Ly (r2,r3,(0:Int),r4,(1:Int),Match.mk r4 (1:Int) (0:Int) false [] ((0:Int),(0:Int),()) (Result.mk (0:Int) (0:Int) (0:Int)),[],r5,());((!true)=true→(false,()) =(true,()))∧((!true)=false→zL r4∧(r6=true→(false,()) =(true,()))∧(r6=false→((0:Int)≤(0:Int)∧(0:Int)≤r1∧r1≤(↑acts.length:Int))∧((cR fun x=>none)∧(r3 =(↑r2.length:Int)∧(0:Int)≤(0:Int)∧(0:Int)≤r3∧r2.length≤aS)∧okS r7∧r5=ej r7)∧(false=true→(false,()) =(true,()))∧(false=false→(true,()) =(true,())))))
 intro r1 r2 r3 r4 r5 r6 r7
 clear_value (hr1:r1=_) (hr2:r2=_) (hr3:r3=_) (hr4:r4=_) (hr5:r5=_) (hr6:r6=_) (hr7:r7=_)
 have h0':ar r4=0:=by rw [hr4];exact h0
 have e6:r6=false:=by rw [hr6,h0'];rfl
 have hl:r2.length≤aS:=by
  rw [hr2]
  show (List.drop 0 (List.take r1.toNat acts)).length≤aS
  rw [List.drop_zero]
  exact Nat.le_trans (List.length_take_le' _ _) hx
 have hb:0≤r1∧r1≤(acts.length:Int):=by rw [hr1];split <;> omega
 refine ⟨fun h=>(by cases h),fun _=>⟨by rw [hr4];exact h0,fun h=>(by rw [e6] at h;cases h),fun _=>⟨⟨Int.le_refl _,hb.1,hb.2⟩,⟨rfl,⟨hr3,Int.le_refl _,by omega,hl⟩,?_,?_⟩,fun h=>(by cases h),fun _=>rfl⟩⟩⟩
 ·rw [hr7]
  exact ⟨h0',rfl,Nat.zero_le _⟩
 ·rw [hr7,hr5]
  unfold Eh
  rw [h0']
  rfl
theorem zU:CtrOK Tryz.prog KE 3 (ae KE qRA ax Du):=by
 refine aq (C:=ao [nK,jK,zu,tu,fz,gW,jf,gU,fy,gV,mI,kr,uH,fA] Tryz.f3) (al (.consU vk rfl (.consU qk rfl (.consU GJ rfl (.consU Cr rfl (.consU jM rfl (.consU lA rfl (.consU mP rfl (.consU ly rfl (.consU jL rfl (.consU lz rfl (.consU rj rfl (.consU pm rfl (.consU zN rfl (.consU jO rfl .nil)))))))))))))) _) mixed (fn:=Tryz.f3) Tryz.func3 (by kernel_rfl) (by kernel_rfl) (by kernel_rfl) (by kernel_rfl) (by kernel_rfl) (by kernel_rfl) (Λ:=fun x=>find [(G9,Hd)]) ?_ ?_
 ·rintro ⟨r,acts,⟨⟩⟩ hw hn
  exact LoopsOKp.at (by kernel_rfl) (.cons (by kernel_rfl) (JW) .nil)
 ·rintro ⟨r,acts,⟨⟩⟩ hw hn
  exact xa r acts (hn _ List.mem_cons_self) (cu (aY (aP hw)))
theorem w9 (r:Rules) (acts:List law59_Act) (h0:Bh (oO r)) (hx:acts.length≤aS) :(evPat (ao [nK,jK,Gh,tu,fz,gW,jf,gU,fy,gV,mI,kr,uH,fA] Tryz.f3) (find [(G9,Hd)]) Tryz.f3 qRA ax (r,acts,())).sat fun z_=>z_ =(Dt (r,acts,())).2:=by
 refine cast (by kernel_rfl) (?_:let r1:Int:=if (50:Int) <(↑acts.length:Int) then (50:Int) else (↑acts.length:Int);let r2:Rules:=Rules.mk (DI r.1) r.2 r.3 r.4 r.5 r.6 r.7 r.8 r.9 r.10 r.11 r.12 r.13 (List.take (if (10:Int) <(↑r.14.length:Int) then (10:Int) else (↑r.14.length:Int)).toNat r.14);let r3:Int:=ar r2;let r4:Bool:=bif r3 != r3 then true else r3 !=(0:Int);((!true)=true→(false,()) =(true,()))∧((!true)=false→Bh r2∧(r4=true→(r3==r3,()) =(true,()))∧(r4=false→((0:Int)≤(0:Int)∧(0:Int)≤r1∧r1≤(↑acts.length:Int))∧((cR fun x=>none)∧False)∧False)))
 intro r1 r2 r3 r4
 clear_value (hr1:r1=_) (hr2:r2=_) (hr3:r3=_) (hr4:r4=_)
 have h0' :¬ ar r2=0:=by rw [hr2];exact h0
 have e4:r4=true:=by rw [hr4,hr3];simp [h0']
 refine ⟨fun h=>(by cases h),fun _=>⟨by rw [hr2];exact h0,fun h=>(by simp),fun h=>(by rw [e4] at h;cases h)⟩⟩
theorem zT:CtrOK Tryz.prog KE 3 (ae KE qRA ax Dt):=by
 refine aq (C:=ao [nK,jK,Gh,tu,fz,gW,jf,gU,fy,gV,mI,kr,uH,fA] Tryz.f3) (al (.consU vk rfl (.consU qk rfl (.consU Ke rfl (.consU Cr rfl (.consU jM rfl (.consU lA rfl (.consU mP rfl (.consU ly rfl (.consU jL rfl (.consU lz rfl (.consU rj rfl (.consU pm rfl (.consU zN rfl (.consU jO rfl .nil)))))))))))))) _) mixed (fn:=Tryz.f3) Tryz.func3 (by kernel_rfl) (by kernel_rfl) (by kernel_rfl) (by kernel_rfl) (by kernel_rfl) (by kernel_rfl) (Λ:=fun x=>find [(G9,Hd)]) ?_ ?_
 ·rintro ⟨r,acts,⟨⟩⟩ hw hn
  exact LoopsOKp.at (by kernel_rfl) (.cons (by kernel_rfl) (JW) .nil)
 ·rintro ⟨r,acts,⟨⟩⟩ hw hn
  exact w9 r acts (hn _ List.mem_cons_self) (cu (aY (aP hw)))
theorem Ct:CtrOK Tryz.prog KE 3 (ae KE qRA ax Nh):=
 PE zU zT (fun _=>rfl) (fun _=>rfl) fun x _=>by
  by_cases h:ar (oO x.1)=0
  ·exact .inl fun p hp=>by rw [List.mem_singleton.1 hp];exact h
  ·exact .inr fun p hp=>by rw [List.mem_singleton.1 hp];exact h
end Go.Proofs.YtkgplaoappjkcaaGreat
