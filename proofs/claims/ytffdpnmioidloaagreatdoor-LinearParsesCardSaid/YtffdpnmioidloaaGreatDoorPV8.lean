/- Texts of the mirror and contracts, put together. -/
import Derived.Test.YtffdpnmioidloaaGreatDoorPV7
import Derived.LoopN
import Derived.Laws.Externs
import Derived.Lib.Bytealg
import Derived.Test.YtffdpnmioidloaaGreatDoorPV3
import Derived.Test.YtffdpnmioidloaaGreatDoorPV6
import Derived.Test.YtffdpnmioidloaaGreatDoorTie
import Derived.SizedLaws
import Derived.LaidMore
import Derived.OpenShut
import Derived.ProofKit
import Derived.HandedShaped
import Derived.LaidSub
import Derived.Stop.LaidErr
import Derived.Lib.LaidTab
import Derived.Lay
import Derived.MakeChecks
namespace Go.Mir
open Go.RowKit
variable {P:Program} {tb:Tbl} {N K:Nat}
theorem mT :∀ (l:List Nat) (k:List Nat→Rv),iL l k=k l
 | [],_=>rfl
 | n::r,k=>by simp only [iL,cu,mT r]
noncomputable def tmL (K:Nat) (tm:TM):Nat→List (Nat×V)
 | 0=> []
 | n+1=>bif isK K n then (n,((cq n).get tm).toV)::tmL K tm n else tmL K tm n
theorem rF (tm:TM) (s:Nat) :∀ n,find (tmL K tm n) s=if s<n∧isK K s=true then some ((cq s).get tm).toV else none
 | 0=>by rw [if_neg (by omega)];rfl
 | n+1=>by
  simp only [tmL]
  cases hk:isK K n with
  | false=>
   rw [cond_false,rF tm s n]
   by_cases h:s<n∧isK K s=true
   ·rw [if_pos h,if_pos ⟨by omega,h.2⟩]
   ·rw [if_neg h,if_neg (fun e=>by
     by_cases e1:s=n
     ·rw [e1,hk] at e;cases e.2
     ·exact h ⟨by omega,e.2⟩)]
  | true=>
   simp only [cond_true,find]
   cases hb:Nat.beq n s with
   | true=>
    have e1:=aw hb
    subst e1
    rw [cond_true,if_pos ⟨by omega,hk⟩]
   | false=>
    have hne:n≠s:=fun e=>by subst e;rw [Nat.beq_refl] at hb;cases hb
    rw [cond_false,rF tm s n]
    by_cases h:s<n∧isK K s=true
    ·rw [if_pos h,if_pos ⟨by omega,h.2⟩]
    ·rw [if_neg h,if_neg (fun e=>h ⟨by omega,e.2⟩)]
def FL (K:Nat) (tm:TM) (L:List (Nat×V)):Prop:=∀ s,find L s=if isK K s=true then some ((cq s).get tm).toV else none
theorem wv (tm:TM):FL K tm (tmL K tm 512):=fun s=>by
 rw [rF]
 by_cases h:isK K s=true
 ·rw [if_pos ⟨rP h,h⟩,if_pos h]
 ·rw [if_neg (fun e=>h e.2),if_neg h]
theorem FL.look {tm:TM} {L:List (Nat×V)} (h:FL K tm L) (s:Nat):cx L s=vp K tm s:=by
 unfold cx vp
 rw [h s,gZ]
 by_cases hk:isK K s=true
 ·rw [if_pos hk,hk];rfl
 ·have:isK K s=false:=by simpa using hk
  rw [if_neg hk,this]
  rfl
theorem jO (tm:TM) (i:Nat) (u:U):tj tm i u =(cq i).put u tm:=rfl
theorem FL.put {tm:TM} {L:List (Nat×V)} (h:FL K tm L) {d:Option Nat} (hd:y4 N K d=true) {u:U} {v:V} (hv:u.toV=v):FL K (lz d u tm) (b7 d v++L):=by
 cases d with
 | none=>exact h
 | some dd=>
  have hk:isK K dd=true:=by
   unfold y4 at hd
   rw [Bool.and_eq_true] at hd
   exact hd.2
  intro s
  simp only [b7,List.singleton_append,find,lz,jO]
  cases hb:Nat.beq dd s with
  | true=>
   have e1:=aw hb
   subst e1
   rw [cond_true,if_pos hk,gM,hv]
  | false=>
   have hne:dd≠s:=fun e=>by subst e;rw [Nat.beq_refl] at hb;cases hb
   rw [cond_false,h s]
   by_cases hs:isK K s=true
   ·rw [if_pos hs,if_pos hs,jl hk hs hne]
   ·rw [if_neg hs,if_neg hs]
def KW (K:Nat) (tm:TM):Prop:=∀ i,isK K i=true→((cq i).get tm).wf
theorem KW.put {tm:TM} (h:KW K tm) {d:Option Nat} (hd:y4 N K d=true) {u:U} (hu:u.wf):KW K (lz d u tm):=by
 cases d with
 | none=>exact h
 | some dd=>
  have hk:isK K dd=true:=by
   unfold y4 at hd
   rw [Bool.and_eq_true] at hd
   exact hd.2
  intro i hi
  show ((cq i).get (tj tm dd u)).wf
  rw [jO]
  by_cases e1:dd=i
  ·subst e1;rw [gM];exact hu
  ·rw [jl hk hi e1];exact h i hi
theorem KW.wt {tm:TM} (h:KW K tm):WT K tm:=by
 refine ⟨fun i=>?_,h⟩
 rw [gZ]
 cases hk:isK K i with
 | true=>exact h i hk
 | false=>exact wg
theorem Ld {d:Option Nat} (h:y4 N K d=true):dstIn N d=true:=by
 cases d with
 | none=>rfl
 | some dd=>
  unfold y4 at h
  rw [Bool.and_eq_true] at h
  exact h.1
theorem jw {all:List Oper} {L:List (Nat×V)} {tm:TM} (h :∀ s,cx L s=vp K tm s) (o:Oper):fh all L o=Cn K all tm o:=by
 unfold fh Cn
 cases o.guard with
 | none=>rfl
 | some q=>
  simp only
  cases all[q.1]? with
  | none=>rfl
  | some oj=>
   simp only
   cases oj.dst with
   | none=>rfl
   | some dj=>simp only;rw [h];rfl
theorem IW {rs:List Nat} {L:List (Nat×V)} {tm:TM} (h :∀ s,cx L s=vp K tm s):aM rs L=eM K rs tm:=by
 funext x
 cases x <;> simp only [aM,eM]
 rw [h]
theorem KI {v:V} {w:W} (h:wEx v=some w):w.toV=v∧w.wf:=by
 cases v with
 | agg cs=>
  have h :(Bool.rec (motive:=fun _=>Option W) none (some (.agg (ofL cs) cs.length)) (fZ cs):Option W)=some w:=h
  cases ho:fZ cs with
  | false=>rw [ho] at h;cases h
  | true=>
   rw [ho] at h
   cases h
   have hc:=CsR.ofL ho
   exact ⟨by show V.agg (toL _ _)=_;rw [hc.toL],⟨_,hc⟩⟩
 | tup vs=>cases h
 | _=>cases h;exact ⟨rfl,trivial⟩
theorem wj :∀ {vs:List V} {l:List W},KJ vs=some l→l.map W.toV=vs∧∀ w∈l,w.wf
 | [],l,h=>by cases h;exact ⟨rfl,fun w hw=>by cases hw⟩
 | v::vs,l,h=>by
  simp only [KJ] at h
  split at h
  case h_2=>cases h
  rename_i w hw
  split at h
  case h_2=>cases h
  rename_i l' hl
  cases h
  obtain ⟨h1,h2⟩:=KI hw
  obtain ⟨h3,h4⟩:=wj hl
  refine ⟨by rw [List.map_cons,h1,h3],fun x hx=>?_⟩
  rcases List.mem_cons.1 hx with rfl|hx
  ·exact h2
  ·exact h4 x hx
theorem tq {v:V} {u:U} (h:uEx v=some u):u.toV=jk v∧u.wf:=by
 cases v with
 | agg cs=>
  have h :(Bool.rec (motive:=fun _=>Option U) none (some (.agg (ofL cs) cs.length)) (fZ cs):Option U)=some u:=h
  cases ho:fZ cs with
  | false=>rw [ho] at h;cases h
  | true=>
   rw [ho] at h
   cases h
   have hc:=CsR.ofL ho
   exact ⟨by show V.agg (toL _ _)=_;rw [hc.toL];rfl,⟨_,hc⟩⟩
 | tup vs=>
  have h :(match KJ vs with|some l=>some (U.tup l)|none=>none:Option U)=some u:=h
  split at h
  case h_2=>cases h
  rename_i l hl
  cases h
  obtain ⟨h1,h2⟩:=wj hl
  exact ⟨by show V.tup (l.map W.toV)=_;rw [h1];rfl,h2⟩
 | _=>cases h;exact ⟨rfl,trivial⟩
theorem Fl {hp:HP} {h:Nat} (hl :¬ h<262144) (b:Bk):cS hp h b=hp:=by rw [mL,DI hl]
theorem sC {hp:HP} (j:Nat) :∀ (R:List Nat) (t:HP),aP (sB hp R t) j=if j∈R then aP hp j else aP t j
 | [],t=>by simp [sB]
 | h::R,t=>by
  simp only [sB]
  rw [sC j R]
  by_cases e:j∈R
  ·simp [e]
  ·rw [if_neg e]
   by_cases e2:j=h
   ·subst e2
    rw [if_pos List.mem_cons_self]
    by_cases hl:j<262144
    ·rw [qN hl]
    ·rw [ow hl,ow hl]
   ·rw [if_neg (by simp [e,e2])]
    by_cases hl:h<262144
    ·rw [BV hl (Ne.symm e2)]
    ·rw [Fl hl]
theorem Mc {hp:HP} (R:List Nat):hpH (sB hp R hp0)=restr (hpH hp) R:=by
 funext j
 unfold hpH restr
 rw [sC,xE]
 cases hm:memN R j with
 | true=>rw [if_pos (memN_iff.1 hm)];rfl
 | false=>rw [if_neg (fun e=>by rw [memN_iff.2 e] at hm;cases hm)];rfl
theorem Md {hp:HP} (W:hpW hp) (R:List Nat):hpW (sB hp R hp0):=fun j=>by
 rw [sC,xE]
 split
 ·exact W j
 ·trivial
theorem vx {hp':HP} (W':hpW hp') :∀ {keys:List Nat} {hp hp2:HP} {dh:List (Nat×Blk)},hpW hp→F0 hp' keys hp=some (hp2,dh)→hpH hp2=an (hpH hp) dh∧hpW hp2∧∀ h b,find dh h=some b→hpH hp' h=some b
 | [],hp,hp2,dh,W,h=>by cases h;exact ⟨rfl,W,fun h b hb=>by cases hb⟩
 | q::r,hp,hp2,dh,W,h=>by
  unfold F0 at h
  split at h
  case h_2=>cases h
  rename_i b hb
  split at h
  case h_2=>cases h
  rename_i hp1 dh1 h1
  cases h
  obtain ⟨e1,W1,e2⟩:=vx W' W h1
  have hq:q<262144:=BU (fun e=>by rw [e] at hb;cases hb)
  refine ⟨?_,fP W1 hq (W' q),fun j b' hj=>?_⟩
  ·rw [fO hq hb,e1]
   funext k
   simp only [an,find]
   cases Nat.beq q k <;> rfl
  ·simp only [find] at hj
   cases hx:Nat.beq q j with
   | true=>
    rw [hx,cond_true] at hj
    cases hj
    rw [←aw hx]
    exact hb
   | false=>rw [hx] at hj;exact e2 j b' hj
theorem vw {hp':HP} :∀ {keys:List Nat} {hp hp2:HP} {dh:List (Nat×Blk)},F0 hp' keys hp=some (hp2,dh)→dh.map (·.1)=keys
 | [],hp,hp2,dh,h=>by cases h;rfl
 | q::r,hp,hp2,dh,h=>by
  unfold F0 at h
  split at h
  case h_2=>cases h
  split at h
  case h_2=>cases h
  rename_i h1
  cases h
  rw [List.map_cons,vw h1]
theorem OG (c:C) (r:List Nat):OE c r=c.toV.hs++r:=by cases c <;> rfl
theorem Cq (t:CT) :∀ n i,hsT t n i=hss (tp t n i)
 | 0,_=>rfl
 | n+1,i=>by
  show OE (bZ t i) (hsT t n (i+1))=_
  rw [OG,Cq t n (i+1)]
  rfl
theorem qy {b:Bk} {B:Blk} (h:b.toB=some B):xF b=B.hs:=by
 cases b with
 | none=>cases h
 | cells t n=>cases h;exact Cq t n 0
 | grow v e t n=>cases h;exact Cq t n 0
 | mp es=>cases h;rfl
theorem FU {b:Bk} (h:b.toB=none):xF b=[]:=by cases b <;> first|rfl|cases h
theorem vT (hp:HP) :∀ n new acc,pn hp n new acc=mD (hpH hp) n new acc
 | 0,_,_=>rfl
 | n+1,new,acc=>by
  simp only [pn,mD]
  have :(fun h=>xF (aP hp h))=fun h=>(match hpH hp h with|some b=>b.hs|none=> []:List Nat):=by
   funext h
   unfold hpH
   cases hb :(aP hp h).toB with
   | none=>exact FU hb
   | some B=>exact qy hb
  rw [this]
  generalize new.filter (fun h=>!memN acc h)=add
  cases add with
  | nil=>rfl
  | cons a l=>exact vT hp n _ _
theorem FQ (hp:HP) (R:List Nat) (m K:Nat) (v:V) (dh:List (Nat×Blk)):xy hp R m K v dh=gK (hpH hp) R m K v dh:=by
 unfold xy gK
 have :(fun h=>bif Rh (aP hp h) then mm R m K (xF (aP hp h)) else false)=fun h=>(match hpH hp h with|some b=>mm R m K b.hs|none=>false:Bool):=by
  funext h
  unfold hpH
  cases hb:aP hp h with
  | none=>rfl
  | cells t n=>show mm R m K (xF (.cells t n))=_;rw [qy (B:= .cells (toL t n)) rfl];rfl
  | grow v e t n=>show mm R m K (xF (.grow v e t n))=_;rw [qy (B:= .grow v e (toL t n)) rfl];rfl
  | mp es=>show mm R m K (xF (.mp es))=_;rw [qy (B:= .mp es) rfl];rfl
 rw [this]
 rfl
theorem Oq {a b:Int} (h:eqS a b=true):a=b:=by
 rw [Cc] at h
 simpa using h
theorem jn {p q:Bool} (h :(Bool.rec (motive:=fun _=>Bool) false q p:Bool)=true):p=true∧q=true:=by
 cases p <;> cases q <;> first|exact ⟨rfl,rfl⟩|cases h
theorem On {c d:C} (h:eqC c d=true):c.toV=d.toV:=by
 cases c <;> cases d <;> first|cases h|skip
 ·obtain ⟨h1,h2⟩:=jn h
  rw [Ee h1,Oq h2]
 ·rename_i b b'
  cases b <;> cases b' <;> first|rfl|cases h
 ·obtain ⟨h1,h2⟩:=jn h
  rw [aw h1,aw h2]
 ·obtain ⟨h1,h2⟩:=jn h
  obtain ⟨h2,h3⟩:=jn h2
  rw [aw h1,aw h2,aw h3]
 ·obtain ⟨h1,h2⟩:=jn h
  obtain ⟨h2,h3⟩:=jn h2
  obtain ⟨h3,h4⟩:=jn h3
  obtain ⟨h4,h5⟩:=jn h4
  rw [aw h1,aw h2,aw h3,aw h4,aw h5]
 ·exact V.eqb_eq _ _ h
theorem Ce {t t':CT} :∀ n i,eqT t t' n i=true→tp t n i=tp t' n i
 | 0,_,_=>rfl
 | n+1,i,h=>by
  obtain ⟨hc,h⟩:=jn (show (Bool.rec (motive:=fun _=>Bool) false (eqT t t' n (i+1)) (eqC (bZ t i) (bZ t' i)):Bool)=true from h)
  simp only [tp]
  rw [On hc,Ce n (i+1) h]
theorem Lh {b d:Bk} (h:FK b d=true):b.toB=d.toB:=by
 cases b <;> cases d <;> first|cases h|skip
 ·rfl
 ·obtain ⟨h1,h2⟩:=jn h
  have e:=aw h1
  subst e
  show some (Blk.cells (toL _ _))=some (Blk.cells (toL _ _))
  unfold toL
  rw [Ce _ _ h2]
 ·obtain ⟨h1,k1⟩:=jn h
  obtain ⟨h2,k2⟩:=jn k1
  obtain ⟨h3,h4⟩:=jn k2
  have e1:=aw h1
  have e2:=aw h2
  have e3:=aw h3
  subst e1
  subst e2
  subst e3
  show some (Blk.grow _ _ (toL _ _))=some (Blk.grow _ _ (toL _ _))
  unfold toL
  rw [Ce _ _ h4]
 ·show some (Blk.mp _)=some (Blk.mp _)
  rw [DX _ _ h]
theorem wX {call:eD} (hcall:CallVOK P call) {g:FuncId} {args:List U} {hp:HP} (W:hpW hp) (Wa :∀ x∈args,x.wf) {R:List Nat} {m:Nat} {k:U→HP→List (Nat×Blk)→Nat→Rv} {l:Lf} {tm':TM} {hp':HP} {nx':Nat} (h:B6 call g args hp R m k = .go l tm' hp' nx') :
  ∃ u hp2 dh nx,k u hp2 dh nx = .go l tm' hp' nx'∧u.wf∧hpW hp2∧hpH hp2=an (hpH hp) dh∧(∃ fn,P.funcs[g]?=some fn∧fn.body.isSome=true∧(fn.name == "runtime.NumGoroutine")=false)∧m≤nx∧
   ∀ (B:Base) (E:Env) (av:List Value),HRel B E→E.H=restr (hpH hp) R→ab E (args.map U.toV) av→(∀ n,m≤n→n<nx→¬ E.U n)→
    Calls P g av.toArray E.w fun e w'=>∃ E' v',e = .returned v'∧GoodK B E m (nx+1 - m) dh w' E'∧aa E' u.toV v':=by
 unfold B6 at h
 split at h
 case h_2=>cases h
 case h_3=>cases h
 rename_i u hp1 nx1 hc
 simp only [mT] at h
 generalize hkeys :(pn hp1 64 (u.toV.hs++R.filter fun h=>!FK (aP hp h) (aP hp1 h)) []).filter (fun h=>!(memN R h&&!memN (R.filter fun h=>!FK (aP hp h) (aP hp1 h)) h))=keys at h
 cases hall :(R.filter fun h=>!FK (aP hp h) (aP hp1 h)).all (fun h=>memN keys h) with
 | false=>rw [hall] at h;cases h
 | true=>
  rw [hall] at h
  simp only [cond_true] at h
  split at h
  case h_2=>cases h
  rename_i hp2 dh hm
  have F:=hcall.ok g args _ m u hp1 nx1 Wa (Md W R) hc
  obtain ⟨e1,W2,e2⟩:=vx F.hw W hm
  refine ⟨u,hp2,dh,nx1,h,F.wf,W2,e1,F.fn,F.le,fun B E av hE hH hav hfr=>?_⟩
  refine (F.calls B E av hE (by rw [hH,Mc]) hav hfr).mono fun e w' hh=>?_
  obtain ⟨E',v',rfl,C⟩:=hh
  obtain ⟨R1,X1⟩:=C.rel.weak (an E.H dh) (fun j k' hk=>by
   refine ⟨k',?_,.inl rfl⟩
   rw [C.h]
   unfold an at hk
   cases hf:find dh j with
   | some b=>rw [hf] at hk;simp only [Option.some.injEq] at hk;subst hk;exact e2 j b hf
   | none=>
    rw [hf] at hk
    simp only at hk
    rw [hH] at hk
    unfold restr at hk
    cases hm1:memN R j with
    | false=>rw [hm1] at hk;cases hk
    | true=>
     rw [hm1] at hk
     simp only [cond_true] at hk
     cases he:FK (aP hp j) (aP hp1 j) with
     | false=>
      have h5:=List.all_eq_true.1 hall j (List.mem_filter.2 ⟨memN_iff.1 hm1,by rw [he];rfl⟩)
      rw [←vw hm] at h5
      exact absurd hf (xq h5)
     | true=>
      have h5:hpH hp j=hpH hp1 j:=Lh he
      rw [←h5];exact hk)
  exact ⟨_,v',rfl,⟨R1,C.ext.trans X1,C.w,rfl,fun n hn=>by
   rcases C.u n hn with h|h
   ·exact .inl h
   ·exact .inr ⟨h.1,by have:=h.2;omega⟩⟩,aH X1 _ _ C.v⟩
theorem oG {ms:List Nat} {i:Nat} {r:Rec} :∀ {ss:List Rec} {j:Nat},HD ms i r j ss=true→∀ k s,ss[k]?=some s→Gi ms i (j+k)=true∨HC r s=true
 | [],j,_,k,s,h=>by simp at h
 | s0::ss,j,h,k,s,hs=>by
  simp only [HD,Bool.and_eq_true,Bool.or_eq_true] at h
  cases k with
  | zero=>simp only [List.getElem?_cons_zero,Option.some.injEq] at hs;subst hs;exact h.1
  | succ k=>
   have:=oG h.2 k s (by simpa using hs)
   rwa [show j+1+k=j +(k+1) by omega] at this
theorem oE {ms:List Nat} {recs:List Rec} :∀ {rs:List Rec} {i:Nat},FH ms recs i rs=true→∀ k r,rs[k]?=some r→r.dh=[]∨HD ms (i+k) r 0 recs=true
 | [],i,_,k,r,h=>by simp at h
 | r0::rs,i,h,k,r,hr=>by
  simp only [FH,Bool.and_eq_true] at h
  cases k with
  | zero=>
   simp only [List.getElem?_cons_zero,Option.some.injEq] at hr
   subst hr
   cases hd:r0.dh with
   | nil=>exact .inl rfl
   | cons q l=>have h1:=h.1;rw [hd] at h1;exact .inr h1
  | succ k=>
   have:=oE h.2 k r (by simpa using hr)
   rwa [show i+1+k=i +(k+1) by omega] at this
theorem s9 {ms:List Nat} {all:List Oper} {i:Nat} {o:Oper} :∀ {os:List Oper} {j:Nat},E6 ms all i o j os=true→∀ k o',os[k]?=some o'→((ms[j+k]?).getD 0).testBit i=true∨EZ all o o'=true
 | [],j,_,k,s,h=>by simp at h
 | s0::ss,j,h,k,s,hs=>by
  simp only [E6,Bool.and_eq_true,Bool.or_eq_true] at h
  cases k with
  | zero=>simp only [List.getElem?_cons_zero,Option.some.injEq] at hs;subst hs;exact h.1
  | succ k=>
   have:=s9 h.2 k s (by simpa using hs)
   rwa [show j+1+k=j +(k+1) by omega] at this
theorem s8 {ms:List Nat} {all:List Oper} :∀ {os:List Oper} {i:Nat},EX ms all i os=true→∀ k l o o',os[k]?=some o→os[k+1+l]?=some o'→((ms[i +(k+1+l)]?).getD 0).testBit (i+k)=true∨EZ all o o'=true
 | [],i,_,k,l,o,o',h,_=>by simp at h
 | o0::os,i,h,k,l,o,o',ho,ho'=>by
  simp only [EX,Bool.and_eq_true] at h
  cases k with
  | zero=>
   simp only [List.getElem?_cons_zero,Option.some.injEq] at ho
   subst ho
   have:=s9 h.1 l o' (by rw [show 0+1+l=l+1 by omega] at ho';simpa using ho')
   rwa [show i+1+l=i +(0+1+l) by omega] at this
  | succ k=>
   have:=s8 h.2 k l o o' (by simpa using ho) (by rw [show k+1+1+l =(k+1+l)+1 by omega] at ho';simpa using ho')
   rwa [show i+1 +(k+1+l)=i +(k+1+1+l) by omega,show i+1+k=i +(k+1) by omega] at this
theorem vP {ms:List Nat} {i:Nat} {r:Rec} :∀ {ss:List Rec} {j:Nat},(∀ k s,ss[k]?=some s→((ms[j+k]?).getD 0).testBit i=true∨comm r s=true)→ph ms i r j ss=true
 | [],j,_=>rfl
 | s0::ss,j,h=>by
  simp only [ph,Bool.and_eq_true,Bool.or_eq_true]
  refine ⟨h 0 s0 (by simp),vP fun k s hs=>?_⟩
  have:=h (k+1) s (by simpa using hs)
  rwa [show j +(k+1)=j+1+k by omega] at this
theorem ux {ms:List Nat} :∀ {rs:List Rec} {i:Nat},(∀ k l r s,rs[k]?=some r→rs[k+1+l]?=some s→((ms[i +(k+1+l)]?).getD 0).testBit (i+k)=true∨comm r s=true)→dN ms i rs=true
 | [],i,_=>rfl
 | r0::rs,i,h=>by
  simp only [dN,Bool.and_eq_true]
  refine ⟨vP fun k s hs=>?_,ux fun k l r s hr hs=>?_⟩
  ·have:=h 0 k r0 s (by simp) (by rw [show 0+1+k=k+1 by omega];simpa using hs)
   rwa [show i +(0+1+k)=i+1+k by omega] at this
  ·have:=h (k+1) l r s (by simpa using hr) (by rw [show k+1+1+l =(k+1+l)+1 by omega];simpa using hs)
   rwa [show i +(k+1+1+l)=i+1 +(k+1+l) by omega,show i +(k+1)=i+1+k by omega] at this
theorem Oh {all:List Oper} {recs:List Rec} (hlen:recs.length=all.length) (hrec :∀ (i:Nat) (o:Oper) (r:Rec),all[i]?=some o→recs[i]?=some r→r.dst=o.dst∧r.rs=ak all o) (hs:EY all=true) (hd:FH (bD all []) recs 0 recs=true):cr 0 all=true∧dN (bD all []) 0 recs=true:=by
 unfold EY at hs
 rw [Bool.and_eq_true] at hs
 refine ⟨hs.1,ux fun k l r s hr hs'=>?_⟩
 have hkl:k+1+l<recs.length:=(List.getElem?_eq_some_iff.1 hs').1
 obtain ⟨o,ho⟩ :∃ o,all[k]?=some o:=⟨all[k]'(by omega),List.getElem?_eq_getElem (by omega)⟩
 obtain ⟨o',ho'⟩ :∃ o',all[k+1+l]?=some o':=⟨all[k+1+l]'(by omega),List.getElem?_eq_getElem (by omega)⟩
 have e1:=hrec _ _ _ ho hr
 have e2:=hrec _ _ _ ho' hs'
 rcases s8 hs.2 k l o o' ho ho' with h|h
 ·exact .inl h
 rw [Nat.zero_add,Nat.zero_add]
 have hne:Nat.beq k (k+1+l)=false:=by
  cases hb:Nat.beq k (k+1+l) with
  | false=>rfl
  | true=>have:=aw hb;omega
 have hne':Nat.beq (k+1+l) k=false:=by
  cases hb:Nat.beq (k+1+l) k with
  | false=>rfl
  | true=>have:=aw hb;omega
 have hlt:Nat.blt k (k+1+l)=true:=by rw [Nat.blt_eq];omega
 have hlt':Nat.blt (k+1+l) k=false:=by
  cases hb:Nat.blt (k+1+l) k with
  | false=>rfl
  | true=>rw [Nat.blt_eq] at hb;omega
 have o1:Gi (bD all []) k (k+1+l) =(((bD all [])[k+1+l]?).getD 0).testBit k:=by
  unfold Gi;rw [hne,hlt];rfl
 have o2:Gi (bD all []) (k+1+l) k =(((bD all [])[k+1+l]?).getD 0).testBit k:=by
  unfold Gi;rw [hne',hlt'];rfl
 cases hbit :(((bD all [])[k+1+l]?).getD 0).testBit k with
 | true=>exact .inl rfl
 | false=>
  refine .inr ?_
  have d1:r.dh=[]∨HC r s=true:=by
   rcases oE hd k r hr with h1|h1
   ·exact .inl h1
   ·rcases oG h1 (k+1+l) s hs' with h2|h2
    ·rw [Nat.zero_add,Nat.zero_add,o1,hbit] at h2;cases h2
    ·exact .inr h2
  have d2:s.dh=[]∨HC s r=true:=by
   rcases oE hd (k+1+l) s hs' with h1|h1
   ·exact .inl h1
   ·rcases oG h1 k r hr with h2|h2
    ·rw [Nat.zero_add,Nat.zero_add,o2,hbit] at h2;cases h2
    ·exact .inr h2
  unfold EZ at h
  unfold comm
  rw [e1.1,e1.2,e2.1,e2.2]
  simp only [Bool.and_eq_true] at h ⊢
  refine ⟨h,?_⟩
  unfold HC at d1 d2
  simp only [Bool.and_eq_true] at d1 d2
  refine ⟨⟨?_,?_⟩,?_⟩
  ·rcases d1 with h1|h1
   ·rw [h1];rfl
   ·exact h1.1
  ·rcases d1 with h1|h1
   ·rw [h1];rfl
   ·exact h1.2
  ·rcases d2 with h1|h1
   ·rw [h1];rfl
   ·exact h1.2
theorem uh {ms:List Nat} {i h0:Nat} {okB:Blk→Bool} :∀ {ss:List Rec} {j:Nat},GZ ms i h0 okB j ss=true→∀ k s b,ss[k]?=some s→find s.dh h0=some b→j+k≠i→
  (j+k<i→((ms[i]?).getD 0).testBit (j+k)=true)∧(i<j+k→((ms[j+k]?).getD 0).testBit i=true∨okB b=true)
 | [],j,_,k,s,b,h,_,_=>by simp at h
 | s0::ss,j,h,k,s,b,hs,hb,hne=>by
  simp only [GZ,Bool.and_eq_true] at h
  cases k with
  | zero=>
   simp only [List.getElem?_cons_zero,Option.some.injEq] at hs
   subst hs
   have h1:=h.1
   rw [hb] at h1
   simp only [Bool.or_eq_true,Nat.add_zero] at h1 hne ⊢
   rcases h1 with h1|h1
   ·exact absurd (aw h1).symm hne
   ·refine ⟨fun hlt=>?_,fun hgt=>?_⟩
    ·rw [show Nat.blt j i=true by rw [Nat.blt_eq];exact hlt] at h1
     exact h1
    ·rw [show Nat.blt j i=false by cases hx:Nat.blt j i with|false=>rfl|true=>rw [Nat.blt_eq] at hx;omega] at h1
     simpa using h1
  | succ k=>
   have:=uh h.2 k s b (by simpa using hs) hb (by omega)
   rwa [show j+1+k=j +(k+1) by omega] at this
theorem ug {ms:List Nat} {recs:List Rec} :∀ {asz:List Alt} {i:Nat},wB ms recs i asz=true→∀ k h0 okB,asz[k]?=some (some (h0,okB))→GZ ms (i+k) h0 okB 0 recs=true
 | [],i,_,k,h0,okB,h=>by simp at h
 | a0::asz,i,h,k,h0,okB,ha=>by
  cases k with
  | zero=>
   simp only [List.getElem?_cons_zero,Option.some.injEq] at ha
   subst ha
   simp only [wB,Bool.and_eq_true] at h
   exact h.1
  | succ k=>
   have h2:wB ms recs (i+1) asz=true:=by
    cases a0 with
    | none=>exact h
    | some q=>obtain ⟨a,b⟩:=q;simp only [wB,Bool.and_eq_true] at h;exact h.2
   have:=ug h2 k h0 okB (by simpa using ha)
   rwa [show i+1+k=i +(k+1) by omega] at this
theorem NX {ms:List Nat} {recs:List Rec} {asz:List Alt} (h:wB ms recs 0 asz=true):AltOK (fun n=>(asz[n]?).getD none) ms recs:=fun i h0 okB ha j s b hs hb hne=>by
 have ha:asz[i]?=some (some (h0,okB)):=by
  have ha :(asz[i]?).getD none=some (h0,okB):=ha
  cases hx:asz[i]? with
  | none=>rw [hx] at ha;cases ha
  | some a=>rw [hx] at ha;simp only [Option.getD_some] at ha;rw [ha]
 have:=uh (ug h i h0 okB ha) j s b hs hb (by omega)
 simpa using this
theorem IT {tb:Tbl} {ev:Operand→V} {op:Op} {h0:Nat} {tk te:TD} {k:V} {ok:Bool} (h:lkD tb ev op=some (h0,tk,te,k,ok)) :∃ t x ky q,op = .lookup t x ky ok∧jf tb t=some q∧ev x = .mpv h0∧q.1=tk∧q.2=te∧ev ky=k:=by
 unfold lkD at h
 split at h
 case h_2=>cases h
 rename_i t x ky ok'
 split at h
 case h_2=>cases h
 rename_i q hq
 split at h
 case h_2=>cases h
 rename_i h' hx
 cases h
 exact ⟨t,x,ky,q,rfl,hq,hx,rfl,rfl,rfl⟩
theorem mw {tk te:TD} {H:aq} {x k:V} {ok:Bool} {ps:List Ob} {v:V} {dh:List (Nat×Blk)} (h:cc tk te H x k ok = .val ps v dh):ps=[]∧dh=[]:=by
 unfold cc at h
 split at h
 case h_2=>cases h
 split at h
 ·cases h;exact ⟨rfl,rfl⟩
 ·split at h
  ·cases h;exact ⟨rfl,rfl⟩
  ·cases h
 ·cases h
theorem zb {tk te:TD} {H:aq} {h0:Nat} {k:V} {ok:Bool} {b:Blk} (h:H h0=some b):cc tk te H (.mpv h0) k ok=cc tk te (fun _=>some b) (.mpv h0) k ok:=by
 simp only [cc,LN,h]
section
variable {call:eD} {all:List Oper}
theorem uE (hT:aO P tb) (hcall:CallVOK P call) {st:St} :∀ (rest:List Oper) (tm:TM) (hp:HP) (nx:Nat) (rr:List (Rec×Alt)) (ra:List (Rec×Alt)) (recs:List Rec) (d:Dl) (l:Lf) (tm':TM) (hp':HP) (nx':Nat),kE tb N K call all rest tm hp nx rr = .go l tm' hp' nx'→rr.reverse=ra→ra.map (·.1)=recs→
  KW K tm→hpW hp→FL K tm (d.tm++st.tm)→an st.H d.hp=hpH hp→∀ i,recs.length+rest.length=all.length→(∀ (j:Nat) (o:Oper),rest[j]?=some o→all[recs.length+j]?=some o)→(∀ (j:Nat) (o:Oper) (r:Rec),all[j]?=some o→recs[j]?=some r→r.dst=o.dst∧r.rs=ak all o)→
  l = .nrm∧KW K tm'∧hpW hp'∧∃ (ks:List (Nat×Cfg)) (als:List Alt) (df:Dl) (rf:List Rec),ks.length=rest.length∧Chain nx ks nx'∧(∀ q∈ks,CfgOK P q.2∧q.2.N=N)∧
   (∀ (Cf:Nat→Cfg) (lo:Nat→Nat) (al:Nat→Alt),(∀ j q,ks[j]?=some q→Cf (i+j)=q.2∧lo (i+j)=q.1)→(∀ j x,als[j]?=some x→al (i+j)=x)→RunV Cf lo al all st i rest d recs df rf)∧
   cr 0 all=true∧dN (bD all []) 0 rf=true∧AltOK (fun n=>((ra.map (·.2)++als)[n]?).getD none) (bD all []) rf∧FL K tm' (df.tm++st.tm)∧an st.H df.hp=hpH hp'
 | [],tm,hp,nx,rr,ra,recs,d,l,tm',hp',nx',h,hrr,hra,Wt,Wh,h2,h3,i,hln,_,hrc=>by
  simp only [kE,hrr,hra] at h
  cases hc:EY all&&(FH (bD all []) recs 0 recs&&wB (bD all []) recs 0 (ra.map (·.2))) with
  | false=>rw [hc] at h;cases h
  | true=>
   rw [hc] at h
   simp only [cond_true,Rv.go.injEq] at h
   obtain ⟨rfl,rfl,rfl,rfl⟩:=h
   simp only [Bool.and_eq_true] at hc
   have hal:=NX hc.2.2
   have hc:=Oh (by simpa using hln) hrc hc.1 hc.2.1
   exact ⟨rfl,Wt,Wh,[],[],d,recs,rfl,rfl,fun q hq=>by simp at hq,fun _ _ _ _ _=> .nil,hc.1,hc.2,by simpa using hal,h2,h3⟩
 | o::rest,tm,hp,nx,rr,ra,recs,d,l,tm',hp',nx',h,hrr,hra,Wt,Wh,h2,h3,i,hln,hall,hrc=>by
  simp only [kE] at h
  cases hd0:y4 N K o.dst with
  | false=>rw [hd0] at h;cases h
  | true=>
   rw [hd0] at h
   simp only [cond_true] at h
   have hd:=Ld hd0
   have h1:=h2.look
   have glue :∀ (C0:Cfg) (alt:Alt) (r:Rec) (u:U) (hp1:HP) (nx1:Nat),CfgOK P C0→C0.N=N→nx+C0.K≤nx1→DoesV C0 alt all (d.tm++st.tm) (an st.H d.hp) nx o r→
     u.toV=r.v→r.dst=o.dst→u.wf→hpW hp1→hpH hp1=an (hpH hp) r.dh→kE tb N K call all rest (lz o.dst u tm) hp1 nx1 ((r,alt)::rr) = .go l tm' hp' nx'→
     l = .nrm∧KW K tm'∧hpW hp'∧∃ (ks:List (Nat×Cfg)) (als:List Alt) (df:Dl) (rf:List Rec),ks.length =(o::rest).length∧Chain nx ks nx'∧(∀ q∈ks,CfgOK P q.2∧q.2.N=N)∧
      (∀ (Cf:Nat→Cfg) (lo:Nat→Nat) (al:Nat→Alt),(∀ j q,ks[j]?=some q→Cf (i+j)=q.2∧lo (i+j)=q.1)→(∀ j x,als[j]?=some x→al (i+j)=x)→RunV Cf lo al all st i (o::rest) d recs df rf)∧
      cr 0 all=true∧dN (bD all []) 0 rf=true∧AltOK (fun n=>((ra.map (·.2)++als)[n]?).getD none) (bD all []) rf∧FL K tm' (df.tm++st.tm)∧an st.H df.hp=hpH hp':=fun C0 alt r u hp1 nx1 hC hCN hle hdo hu hrd huw W1 hhp hrest=>by
    have hf':FL K (lz o.dst u tm) (b7 r.dst r.v++d.tm++st.tm):=by
     rw [List.append_assoc,hrd]
     exact h2.put hd0 hu
    obtain ⟨q1,q2,q3,ks,als,df,rf,k1,k2,k3,k4,k5a,k5b,k5c,k5⟩:=uE hT hcall (st:=st) rest (lz o.dst u tm) hp1 nx1 ((r,alt)::rr) (ra++[(r,alt)]) (recs++[r]) ⟨b7 r.dst r.v++d.tm,r.dh++d.hp⟩ l tm' hp' nx' hrest (by rw [List.reverse_cons,hrr]) (by rw [List.map_append,hra];rfl) (Wt.put hd0 huw) W1 hf' (by rw [bN,h3,hhp]) (i+1) (by simp at hln ⊢;omega) (fun j o' hj=>by
     have:=hall (j+1) o' (by simpa using hj)
     rw [List.length_append,List.length_singleton,show recs.length+1+j=recs.length +(j+1) by omega]
     exact this) (fun j o' r' ho' hr'=>by
     rcases Nat.lt_or_ge j recs.length with hj|hj
     ·rw [List.getElem?_append_left hj] at hr'
      exact hrc j o' r' ho' hr'
     ·rw [List.getElem?_append_right hj] at hr'
      have hj0:j - recs.length=0:=by
       cases hx:j - recs.length with
       | zero=>rfl
       | succ n=>rw [hx] at hr';simp at hr'
      rw [hj0] at hr'
      simp only [List.getElem?_cons_zero,Option.some.injEq] at hr'
      subst hr'
      have:=hall 0 o (by simp)
      rw [Nat.add_zero,show recs.length=j by omega] at this
      rw [this] at ho'
      cases ho'
      obtain ⟨_,q1,q2⟩:=hdo.dstIn
      exact ⟨q1,q2⟩)
    refine ⟨q1,q2,q3,(nx,C0)::ks,alt::als,df,rf,by simp [k1],⟨rfl,nx1,hle,k2⟩,fun q hq=>?_,fun Cf lo al hCf hal=>?_,k5a,k5b,by simpa using k5c,k5⟩
    ·rcases List.mem_cons.1 hq with rfl|hq
     ·exact ⟨hC,hCN⟩
     ·exact k3 q hq
    ·have h0:=hCf 0 (nx,C0) (by simp)
     have h0a:=hal 0 alt (by simp)
     refine .cons (r:=r) ?_ (k4 Cf lo al (fun j q hq=>?_) fun j x hx=>?_)
     ·rw [show i=i+0 from rfl,h0.1,h0.2,h0a];exact hdo
     ·have:=hCf (j+1) q (by simpa using hq)
      rw [show i+1+j=i +(j+1) by omega]
      exact this
     ·have:=hal (j+1) x (by simpa using hx)
      rw [show i+1+j=i +(j+1) by omega]
      exact this
   have hmask :∀ rs,aM rs (d.tm++st.tm)=eM K rs tm:=fun rs=>IW h1
   have hC1:CfgOK P ⟨tb,fun _=>none,1,N⟩:=⟨hT,Nat.le_refl _,fun _ _ h=>by cases h⟩
   split at h
   ·
    rename_i hg
    rw [cu] at h
    exact glue ⟨tb,fun _=>none,1,N⟩ none ⟨o.dst,.tup [],[],[],ak all o⟩ (.tup []) hp (nx+1) hC1 rfl (Nat.le_refl _) (.old (.skip hd (by rw [jw h1];exact hg))) rfl rfl (fun w hw=>by cases hw) Wh rfl h
   ·rename_i hg
    simp only [mT,vT,FQ] at h
    split at h
    ·
     rename_i h0 tk te ky ok hlk
     obtain ⟨t,x,kx,q,ho,hq,hx,rfl,rfl,rfl⟩:=IT hlk
     split at h
     case h_2=>cases h
     rename_i ps v dh he
     split at h
     case h_2=>cases h
     rename_i u hu
     rw [cu] at h
     obtain ⟨rfl,rfl⟩:=mw he
     obtain ⟨hu1,hu2⟩:=tq hu
     have ev1 :∀ H2:aq,ay ⟨tb,fun _=>none,1,N⟩ nx H2 (eM K (ak all o) tm) o.op=match cc q.1 q.2 H2 (.mpv h0) (eM K (ak all o) tm kx) ok with | .val ps v dh=>some (ps,v,dh)|_=>none:=fun H2=>by
      simp only [ay,ho,bQ,bI,hq,hx]
      rfl
     refine glue ⟨tb,fun _=>none,1,N⟩ (some (h0,Pj q.1 q.2 h0 (eM K (ak all o) tm kx) ok v)) ⟨o.dst,jk v,[],[],ak all o⟩ u hp (nx+1) hC1 rfl (Nat.le_refl _) (.dir (v:=v) (ps:= []) hd (by rw [jw h1];exact hg) (by rw [hmask,h3,ev1,he]) (fun H2 _ hag=>?_) (fun p hp=>by cases hp) (by cases v <;> simp [jk])) hu1 rfl hu2 Wh rfl h
     rw [hmask,h3,ev1,ev1,he]
     rcases hag h0 _ rfl with e |⟨b,e1,e2⟩
     ·rw [h3] at e
      have:cc q.1 q.2 H2 (.mpv h0) (eM K (ak all o) tm kx) ok=cc q.1 q.2 (hpH hp) (.mpv h0) (eM K (ak all o) tm kx) ok:=by simp only [cc,LN,e]
      rw [this,he]
     ·rw [zb e1]
      unfold Pj at e2
      split at e2
      ·rename_i ps' v' dh' he'
       obtain ⟨rfl,rfl⟩:=mw he'
       rw [he',V.eqb_eq _ _ e2]
      ·cases e2
    rename_i hlk
    cases hdir:nC (eM K (ak all o) tm) o.op
    case true=>
     rw [hdir] at h
     simp only [cond_true] at h
     split at h
     case h_1=>cases h
     rename_i ps v dh he
     cases hps:ps.all Ob.chk with
     | false=>rw [hps] at h;cases h
     | true=>
      rw [hps] at h
      simp only [cond_true] at h
      split at h
      case h_2=>cases h
      rename_i u hp2 hu hs
      rw [cu] at h
      obtain ⟨hu1,hu2⟩:=tq hu
      obtain ⟨hs1,hs2⟩:=ku Wh hs
      have hev:=oJ tb N nx _ _ o.op he
      refine glue ⟨tb,fun _=>none,1,N⟩ none ⟨o.dst,jk v,dh,_,ak all o⟩ u hp2 (nx+1) hC1 rfl (Nat.le_refl _) (.dir (v:=v) (ps:=ps) hd (by rw [jw h1];exact hg) (by rw [hmask,h3];exact hev) (fun H2 hag=>?_) (fun p hp=>Ob.chk_holds (List.all_eq_true.1 hps p hp)) (by cases v <;> simp [jk])) hu1 rfl hu2 hs2 hs1 h
      rw [hmask]
      rw [h3] at hag ⊢
      exact fun _=>yY hdir (fun x hx k hk=>hag k (List.mem_flatMap.2 ⟨x,hx,hk⟩))
    rw [hdir] at h
    simp only [cond_false] at h
    split at h
    ·
     rename_i g args he
     have hwa :∀ x∈args.map jQ,x.wf:=fun x hx=>by
      obtain ⟨v,_,rfl⟩:=List.mem_map.1 hx
      exact kC v
     obtain ⟨u,hp2,dh,nx2,h,huw,W2,hhp,hfn,hle,hcalls⟩:=wX hcall Wh hwa h
     cases hfr:gK (hpH hp) (mD (hpH hp) 8 (o.op.operands.toList.flatMap fun x=>(eM K (ak all o) tm x).hs) []) nx (nx2+1 - nx) u.toV dh with
     | false=>rw [hfr] at h;cases h
     | true=>
      rw [hfr] at h
      simp only [cond_true,cu] at h
      obtain ⟨c,f,caps,ho,hf,hg2,hargs,hpl⟩:=HF tb N nx _ _ o.op he
      let ct:Ctr:=fun args' H' m'=>open Classical in if args'=args∧H'=restr (hpH hp) (mD (hpH hp) 8 (o.op.operands.toList.flatMap fun x=>(eM K (ak all o) tm x).hs) [])∧m'=nx then some ([],u.toV,dh) else none
      let C0:Cfg:=⟨tb,fun g'=>if g'=g then some ct else none,nx2+1 - nx,N⟩
      have hK:1≤nx2+1 - nx:=by omega
      have hC:CfgOK P C0:=⟨hT,hK,fun f' c' hf'=>by
       have hf2 :(if f'=g then some ct else none)=some c':=hf'
       split at hf2
       case isFalse=>cases hf2
       rename_i e
       cases hf2
       subst e
       refine ⟨hfn,fun B E hE args' av hav m hm ps' v' dh' hp2 _=>?_⟩
       simp only [ct] at hp2
       split at hp2
       case isFalse=>cases hp2
       rename_i e
       obtain ⟨rfl,e2,rfl⟩:=e
       cases hp2
       refine hcalls B E av hE e2 ?_ (fun n h1 h2=>hm n h1 (by show n<m +(nx2+1 - m);omega))
       rw [List.map_map]
       exact oq (fun v=>v) _ kB args' av (by simpa using hav)⟩
      have hev:ay C0 nx (restr (hpH hp) (mD (hpH hp) 8 (o.op.operands.toList.flatMap fun x=>(eM K (ak all o) tm x).hs) [])) (eM K (ak all o) tm) o.op=some ([],u.toV,dh):=by
       simp only [ay,ho,bQ,bI,hf,hg2,C0,if_true,CP hpl]
       rw [←hargs]
       simp only [xf,ct]
       rw [if_pos ⟨rfl,by rw [ho],rfl⟩]
       rfl
      refine glue C0 none ⟨o.dst,u.toV,dh,_,ak all o⟩ u hp2 (nx2+1) hC rfl (by show nx +(nx2+1 - nx)≤nx2+1;omega) (.old <| .run (v:=u.toV) hd (by rw [jw h1];exact hg) (by
       simp only [lH]
       rw [hmask,h3]
       rw [hev]
       simp only [C0,hfr,cond_true]
       rfl) (fun p hp=>by cases hp) (.inl rfl)) rfl rfl huw W2 hhp h
    ·cases h
    ·
     rename_i ps v dh he
     cases hfr:ps.all Ob.chk&&gK (hpH hp) (mD (hpH hp) 8 (o.op.operands.toList.flatMap fun x=>(eM K (ak all o) tm x).hs) []) nx 1 v dh with
     | false=>rw [hfr] at h;cases h
     | true=>
      rw [hfr] at h
      simp only [cond_true] at h
      simp only [Bool.and_eq_true] at hfr
      split at h
      case h_2=>cases h
      rename_i u hp2 hu hs
      rw [cu] at h
      obtain ⟨hu1,hu2⟩:=tq hu
      obtain ⟨hs1,hs2⟩:=ku Wh hs
      have hev:=FN tb N nx _ _ o.op he
      refine glue ⟨tb,fun _=>none,1,N⟩ none ⟨o.dst,jk v,dh,_,ak all o⟩ u hp2 (nx+1) hC1 rfl (Nat.le_refl _) (.old <| .run (v:=v) hd (by rw [jw h1];exact hg) (by
       simp only [lH]
       rw [hmask,h3]
       rw [hev]
       simp only [hfr.2,cond_true]) (fun p hp=>Ob.chk_holds (List.all_eq_true.1 hfr.1 p hp)) (by cases v <;> simp [jk])) hu1 rfl hu2 hs2 hs1 h
   ·cases h
theorem B8 (hT:aO P tb) (hP:P.follows .mixedOrders=true) (hcall:CallVOK P call) {tm:TM} {hp:HP} {nx:Nat} {l:Lf} {tm':TM} {hp':HP} {nx':Nat} (Wt:WT K tm) (Wh:hpW hp) (h:kE tb N K call all all tm hp nx [] = .go l tm' hp' nx') (id:Nat) :
  EndsV N K en0 u0 u0 u0 u0 tm hp nx l tm' hp' nx' (fun Q act w=>(Code.region id all.toArray true).wp P Q act w):=by
 obtain ⟨q1,q2,q3,ks,als,df,rf,k1,k2,k3,k4,k5,k6,k6a,k7,k8⟩:=uE hT hcall (st:=⟨tmL K tm 512,[],hpH hp,nx⟩) all tm hp nx [] [] [] ⟨[],[]⟩ l tm' hp' nx' h rfl rfl Wt.tm Wh (wv tm) rfl 0 (by simp) (fun j o h=>by simpa using h) (fun j o r _ h=>by simp at h)
 refine ⟨q1,k2.le,q2.wt,q3,fun B E0 n0 Q E act hfr hQ hR=>?_⟩
 have hC0:CfgOK P ⟨tb,fun _=>none,1,N⟩:=⟨hT,Nat.le_refl _,fun _ _ h=>by cases h⟩
 let Cf:Nat→Cfg:=fun j=>match ks[j]? with|some q=>q.2|none=>⟨tb,fun _=>none,1,N⟩
 let lo:Nat→Nat:=fun j=>match ks[j]? with|some q=>q.1|none=>0
 have hCf :∀ j q,ks[j]?=some q→Cf j=q.2∧lo j=q.1:=fun j q hq=>by simp only [Cf,lo,hq];exact ⟨trivial,trivial⟩
 have hget :∀ j,j<all.length→∃ q,ks[j]?=some q:=fun j hj=>⟨ks[j]'(by omega),List.getElem?_eq_getElem (by omega)⟩
 have hle:n0≤nx:=hR.le
 have tmok :∀ {tm:TM} {L:List (Nat×V)} {E:Env} {act:Act},FL K tm L→(∀ i,isK K i=true→aa E ((cq i).get tm).toV (act.tmps.getD i undef))→dt E (find L) act:=fun {tm L E act} hL ht s v hv=>by
  rw [hL s] at hv
  by_cases hk:isK K s=true
  ·rw [if_pos hk] at hv
   cases hv
   exact ht s hk
  ·rw [if_neg hk] at hv
   cases hv
 refine FG (Cf:=Cf) (lo:=lo) (al:=fun n=>(als[n]?).getD none) (N:=N) (fun j=>?_) (fun j=>?_) hP (k4 Cf lo _ (fun j q hq=>by rw [Nat.zero_add];exact hCf j q hq) (fun j x hx=>by rw [Nat.zero_add,hx];rfl)) k5 k6 (by simpa using k6a) hR.rel hR.h (tmok (wv tm) hR.tm.tm) hR.size hR.defers (fun j hj n h1 h2 hu=>?_) (fun i j hij hj=>?_) (fun E' a' r1 x1 h1 u1 t1 s1 d1=>?_) id
 ·show CfgOK P (match ks[j]? with|some q=>q.2|none=>⟨tb,fun _=>none,1,N⟩)
  cases hq:ks[j]? with
  | none=>exact hC0
  | some q=>exact (k3 q (List.mem_of_getElem? hq)).1
 ·show (match ks[j]? with|some q=>q.2|none=>(⟨tb,fun _=>none,1,N⟩:Cfg)).N=N
  cases hq:ks[j]? with
  | none=>rfl
  | some q=>exact (k3 q (List.mem_of_getElem? hq)).2
 ·obtain ⟨q,hq⟩:=hget j hj
  obtain ⟨e1,e2⟩:=hCf j q hq
  rw [e1,e2] at h2
  rw [e2] at h1
  have:=k2.at j q hq
  rcases hR.u n hu with h3|h3
  ·exact hfr n (by omega) (by omega) h3
  ·have:=h3.2;omega
 ·obtain ⟨p,hp⟩:=hget i (by omega)
  obtain ⟨q,hq⟩:=hget j hj
  rw [(hCf i p hp).1,(hCf i p hp).2,(hCf j q hq).2]
  exact k2.lt i j p q hij hp hq
 ·have t2:TmR K en0 u0 u0 u0 u0 tm' E' a':=by
   have h2 :∀ i,isK K i=true→aa E' ((cq i).get tm').toV (a'.tmps.getD i undef):=fun i hi=>t1 i _ (by rw [k7 i,if_pos hi])
   refine ⟨fun i=>?_,h2⟩
   rw [gZ]
   cases hk:isK K i with
   | true=>exact h2 i hk
   | false=>exact nt
  refine hQ E' a' ⟨r1,hR.ext.trans x1,by rw [h1];exact k8,fun n hn=>?_,Nat.le_trans hle k2.le,t2,s1,d1⟩
  rcases u1 n hn with h |⟨j,hj,h2,h3⟩
  ·rcases hR.u n h with h|h
   ·exact .inl h
   ·have:=k2.le;exact .inr ⟨h.1,by have:=h.2;omega⟩
  ·obtain ⟨q,hq⟩:=hget j hj
   obtain ⟨e1,e2⟩:=hCf j q hq
   rw [e1,e2] at h3
   rw [e2] at h2
   have:=k2.at j q hq
   exact .inr ⟨by omega,by omega⟩
end
end Go.Mir
namespace Go.Mir
open Go.RowKit
variable {P:Program} {tb:Tbl} {N K:Nat} {call:eD}
structure EndsC (N K:Nat) (tm:TM) (hp:HP) (nx:Nat) (l:Lf) (tm':TM) (hp':HP) (nx':Nat) (W:Wp):Prop where
 le:nx≤nx'
 wt:WT K tm'
 hw:hpW hp'
 wp :∀ (B:Base) (E0:Env) (n0:Nat) (Q:Exit→Act→World→Prop) (E:Env) (act:Act),(∀ n,n0≤n→n<nx'→¬ E0.U n)→(∀ E act,RX B E0 n0 N K tm' hp' nx' E act→Q (dP l) act E.w)→RX B E0 n0 N K tm hp nx E act→W Q act E.w
def BN (N K:Nat) (f:KR) (W:Wp):Prop:=∀ (tm:TM) (hp:HP) (nx:Nat) (l:Lf) (tm':TM) (hp':HP) (nx':Nat),WT K tm→hpW hp→f tm hp nx = .go l tm' hp' nx'→EndsC N K tm hp nx l tm' hp' nx' W
theorem vq {b:Code} {f:KR} (hf:BN N K f (fun Q act w=>b.wp P Q act w)) :∀ n,BN N K (IU f n) (fun Q act w=>Code.rounds P b Q n act w)
 | 0=>fun tm hp nx l tm' hp' nx' Wt Wh h=>by cases h
 | n+1=>fun tm hp nx l tm' hp' nx' Wt Wh h=>by
  have h:bK nx (fun nx=>My (f tm hp nx) (IU f n)) = .go l tm' hp' nx':=h
  rw [cu] at h
  cases hr:f tm hp nx with
  | no w=>rw [hr] at h;cases h
  | go e1 tm1 hp1 nx1=>
   rw [hr] at h
   have h1:=hf tm hp nx e1 tm1 hp1 nx1 Wt Wh hr
   have hl1:=h1.le
   cases e1 with
   | nrm=>
    have h2:=vq hf n tm1 hp1 nx1 l tm' hp' nx' h1.wt h1.hw h
    have hl2:=h2.le
    refine ⟨by omega,h2.wt,h2.hw,fun B E0 n0 Q E act hfr hQ hR=>?_⟩
    show Code.rounds P b Q (n+1) act E.w
    rw [rounds_succ]
    exact h1.wp B E0 n0 _ E act (fun k h3 h4=>hfr k h3 (by omega)) (fun E act hR1=>h2.wp B E0 n0 Q E act hfr hQ hR1) hR
   | ext id=>
    cases h
    refine ⟨hl1,h1.wt,h1.hw,fun B E0 n0 Q E act hfr hQ hR=>?_⟩
    show Code.rounds P b Q (n+1) act E.w
    rw [rounds_succ]
    exact h1.wp B E0 n0 _ E act hfr (fun E act hR1=>hQ E act hR1) hR
   | ret=>
    cases h
    refine ⟨hl1,h1.wt,h1.hw,fun B E0 n0 Q E act hfr hQ hR=>?_⟩
    show Code.rounds P b Q (n+1) act E.w
    rw [rounds_succ]
    exact h1.wp B E0 n0 _ E act hfr (fun E act hR1=>hQ E act hR1) hR
theorem HW {e:En} {i:Nat} {k:Gt→Cd}:D5 K e i k=k (cX K e i):=by
 unfold D5 cX
 cases Nat.beq e.e0 (Nat.succ i)
 case true=>rfl
 cases Nat.beq e.e1 (Nat.succ i)
 case true=>rfl
 cases Nat.beq e.e2 (Nat.succ i)
 case true=>rfl
 cases Nat.beq e.e3 (Nat.succ i)
 case true=>rfl
 cases isK K i
 case true=>rfl
 rfl
attribute [local irreducible] iV in
theorem fC (hT:aO P tb) (hP:P.follows .mixedOrders=true) (hcall:CallVOK P call) :∀ (c:Code),BN N K ((fx tb N K c).run call) (fun Q act w=>c.wp P Q act w)
 | .skip=>fun tm hp nx l tm' hp' nx' Wt Wh h=>by
  cases h
  exact ⟨Nat.le_refl _,Wt,Wh,fun B E0 n0 Q E act hfr hQ hR=>wp_skip (hQ E act hR)⟩
 | .ret=>fun tm hp nx l tm' hp' nx' Wt Wh h=>by
  cases h
  exact ⟨Nat.le_refl _,Wt,Wh,fun B E0 n0 Q E act hfr hQ hR=>wp_ret (hQ E act hR)⟩
 | .exit id=>fun tm hp nx l tm' hp' nx' Wt Wh h=>by
  cases h
  exact ⟨Nat.le_refl _,Wt,Wh,fun B E0 n0 Q E act hfr hQ hR=>wp_exit (hQ E act hR)⟩
 | .region id ops false=>fun tm hp nx l tm' hp' nx' Wt Wh h=>by
  have h:Cd.run (PD tb N K ops.toList) call tm hp nx = .go l tm' hp' nx':=h
  unfold PD at h
  cases hd:HB N ops.toList with
  | false=>rw [hd] at h;cases h
  | true=>
   rw [hd] at h
   have h1:=AH (P:=P) (N:=N) (K:=K) (all:=ops.toList) hT hcall ops.toList en0 (fun o ho=>List.all_eq_true.1 hd o ho) u0 u0 u0 u0 tm hp nx l tm' hp' nx' Wt Wh h
   obtain rfl:=h1.l
   refine ⟨h1.le,h1.wt,h1.hw,fun B E0 n0 Q E act hfr hQ hR=>wp_region_list ?_⟩
   have:=h1.wp B E0 n0 Q E act hfr hQ hR
   simpa using this
 | .region id ops true=>fun tm hp nx l tm' hp' nx' Wt Wh h=>by
  have h:kE tb N K call ops.toList ops.toList tm hp nx [] = .go l tm' hp' nx':=h
  have h1:=B8 (P:=P) hT hP hcall Wt Wh h id
  obtain rfl:=h1.l
  refine ⟨h1.le,h1.wt,h1.hw,fun B E0 n0 Q E act hfr hQ hR=>?_⟩
  have:=h1.wp B E0 n0 Q E act hfr hQ hR
  simpa using this
 | .seq x y=>fun tm hp nx l tm' hp' nx' Wt Wh h=>by
  have h:My (Cd.run (fx tb N K x) call tm hp nx) (Cd.run (fx tb N K y) call) = .go l tm' hp' nx':=h
  cases hr:Cd.run (fx tb N K x) call tm hp nx with
  | no w=>rw [hr] at h;cases h
  | go e1 tm1 hp1 nx1=>
   rw [hr] at h
   have h1:=fC hT hP hcall x tm hp nx e1 tm1 hp1 nx1 Wt Wh hr
   have hl1:=h1.le
   cases e1 with
   | nrm=>
    have h2:=fC hT hP hcall y tm1 hp1 nx1 l tm' hp' nx' h1.wt h1.hw h
    have hl2:=h2.le
    exact ⟨by omega,h2.wt,h2.hw,fun B E0 n0 Q E act hfr hQ hR=>wp_seq (h1.wp B E0 n0 _ E act (fun k h3 h4=>hfr k h3 (by omega)) (fun E act hR1=>h2.wp B E0 n0 Q E act hfr hQ hR1) hR)⟩
   | ext id=>
    cases h
    exact ⟨hl1,h1.wt,h1.hw,fun B E0 n0 Q E act hfr hQ hR=>wp_seq (h1.wp B E0 n0 _ E act hfr (fun E act hR1=>hQ E act hR1) hR)⟩
   | ret=>
    cases h
    exact ⟨hl1,h1.wt,h1.hw,fun B E0 n0 Q E act hfr hQ hR=>wp_seq (h1.wp B E0 n0 _ E act hfr (fun E act hR1=>hQ E act hR1) hR)⟩
 | .cond c x y=>fun tm hp nx l tm' hp' nx' Wt Wh h=>by
  have key :∀ (u:U),(∀ E act,TmR K en0 u0 u0 u0 u0 tm E act→aa E u.toV (act.eval c))→uKb u (fun b=>Bool.rec (motive:=fun _=>Rv) (Cd.run (fx tb N K y) call tm hp nx) (Cd.run (fx tb N K x) call tm hp nx) b) (.no [4]) = .go l tm' hp' nx'→EndsC N K tm hp nx l tm' hp' nx' (fun Q act w=>(Code.cond c x y).wp P Q act w):=fun u hu h=>by
   cases u with
   | kb b=>
    cases b with
    | true=>
     have h1:=fC hT hP hcall x tm hp nx l tm' hp' nx' Wt Wh h
     exact ⟨h1.le,h1.wt,h1.hw,fun B E0 n0 Q E act hfr hQ hR=>wp_cond_true (by have:=hu E act hR.tm;simpa [U.toV,aa] using this) (h1.wp B E0 n0 Q E act hfr hQ hR)⟩
    | false=>
     have h1:=fC hT hP hcall y tm hp nx l tm' hp' nx' Wt Wh h
     exact ⟨h1.le,h1.wt,h1.hw,fun B E0 n0 Q E act hfr hQ hR=>wp_cond_false (by have:=hu E act hR.tm;simpa [U.toV,aa] using this) (h1.wp B E0 n0 Q E act hfr hQ hR)⟩
   | _=>cases h
  cases c with
  | tmp i=>
   have h:Cd.run (D5 K en0 i fun g=>⟨fun call tm hp nx=>uKb (g u0 u0 u0 u0 tm) (fun b=>Bool.rec (motive:=fun _=>Rv) (Cd.run (fx tb N K y) call tm hp nx) (Cd.run (fx tb N K x) call tm hp nx) b) (.no [4])⟩) call tm hp nx = .go l tm' hp' nx':=h
   rw [HW] at h
   exact key (cX K en0 i u0 u0 u0 u0 tm) (fun E act hR=>hR.win i) h
  | const v=>exact key (jQ (cv v)) (fun E act hR=>kB _ _ _ (fV v)) h
  | global i=>cases h
  | func f=>cases h
 | .block id b=>fun tm hp nx l tm' hp' nx' Wt Wh h=>by
  have h:G7 id (Cd.run (fx tb N K b) call tm hp nx) = .go l tm' hp' nx':=h
  cases hr:Cd.run (fx tb N K b) call tm hp nx with
  | no w=>rw [hr] at h;cases h
  | go e1 tm1 hp1 nx1=>
   rw [hr] at h
   have h1:=fC hT hP hcall b tm hp nx e1 tm1 hp1 nx1 Wt Wh hr
   cases e1 with
   | nrm=>
    cases h
    exact ⟨h1.le,h1.wt,h1.hw,fun B E0 n0 Q E act hfr hQ hR=>wp_block (h1.wp B E0 n0 _ E act hfr (fun E act hR1=>hQ E act hR1) hR)⟩
   | ret=>
    cases h
    exact ⟨h1.le,h1.wt,h1.hw,fun B E0 n0 Q E act hfr hQ hR=>wp_block (h1.wp B E0 n0 _ E act hfr (fun E act hR1=>hQ E act hR1) hR)⟩
   | ext i=>
    have h :(Bool.rec (motive:=fun _=>Rv) (.go (.ext i) tm1 hp1 nx1) (.go .nrm tm1 hp1 nx1) (Nat.beq i id):Rv) = .go l tm' hp' nx':=h
    cases hb:Nat.beq i id with
    | true=>
     rw [hb] at h
     cases h
     refine ⟨h1.le,h1.wt,h1.hw,fun B E0 n0 Q E act hfr hQ hR=>wp_block (h1.wp B E0 n0 _ E act hfr (fun E act hR1=>?_) hR)⟩
     simp only [dP,Exit.inBlock]
     rw [if_pos (aw hb)]
     exact hQ E act hR1
    | false=>
     rw [hb] at h
     cases h
     refine ⟨h1.le,h1.wt,h1.hw,fun B E0 n0 Q E act hfr hQ hR=>wp_block (h1.wp B E0 n0 _ E act hfr (fun E act hR1=>?_) hR)⟩
     simp only [dP,Exit.inBlock]
     rw [if_neg (fun e=>by subst e;rw [Nat.beq_refl] at hb;cases hb)]
     exact hQ E act hR1
 | .loop b=>fun tm hp nx l tm' hp' nx' Wt Wh h=>by
  have h1:=vq (fC hT hP hcall b) iV tm hp nx l tm' hp' nx' Wt Wh h
  exact ⟨h1.le,h1.wt,h1.hw,fun B E0 n0 Q E act hfr hQ hR=>wp_loop_rounds iV (h1.wp B E0 n0 Q E act hfr hQ hR)⟩
 | .rangeFunc _ _ _ _=>fun tm hp nx l tm' hp' nx' Wt Wh h=>by cases h
 | .scope _=>fun tm hp nx l tm' hp' nx' Wt Wh h=>by cases h
 | .label _=>fun tm hp nx l tm' hp' nx' Wt Wh h=>by cases h
 | .goto _=>fun tm hp nx l tm' hp' nx' Wt Wh h=>by cases h
 | .refuse _=>fun tm hp nx l tm' hp' nx' Wt Wh h=>by cases h
theorem uk :∀ {l:List U} {i:Nat} {tm:TM} {s:Nat},i+l.length≤512→s<512→(cq s).get (iJ l i tm)=if i≤s∧s<i+l.length then (l[s - i]?).getD u0 else (cq s).get tm
 | [],i,tm,s,_,_=>by rw [if_neg (by simp)];rfl
 | u::l,i,tm,s,h,hs=>by
  simp only [List.length_cons] at h
  show (cq s).get (iJ l (i+1) (tj tm i u))=_
  rw [uk (by omega) hs]
  by_cases e:s=i
  ·subst e
   rw [if_neg (by omega),if_pos (by simp),jO,gM]
   simp
  ·by_cases e2:i+1≤s∧s<i+1+l.length
   ·rw [if_pos e2,if_pos (by simp;omega)]
    obtain ⟨d,rfl⟩ :∃ d,s=i+1+d:=⟨s - (i+1),by omega⟩
    rw [show i+1+d - (i+1)=d by omega,show i+1+d - i=d+1 by omega]
    simp
   ·rw [if_neg e2,if_neg (by simp;omega),jO,DH (by omega) hs (Ne.symm e)]
theorem MJ (s:Nat) :(cq s).get tm0=u0:=GW _ _
theorem EN {G:Rv→Prop} {sl:Rv} (h0:G sl) {tm:TM} (Wt:WT K tm) {hp:HP} (Wh:hpW hp) {r:ResultVar} {k:U→Rv} (h :∀ u v,ye tb (tmL K tm 512) (hpH hp) r=some v→v=u.toV→u.wf→G (k u)):G (EP tb K r tm hp k sl):=by
 have hl :∀ s,cx (tmL K tm 512) s =(cX K en0 s u0 u0 u0 u0 tm).toV:=(wv tm).look
 cases r with
 | tmp t=>exact h _ _ (by simp only [ye,hl]) rfl (Wt.win t)
 | cell a t=>
  show G (TI.rec (motive:=fun _=>TM→HP→(U→Rv)→Rv→Rv) (fun _ _ _ sl=>sl) (fun tm hp=>ldP Ah (cX K en0 a u0 u0 u0 u0 tm) hp) (fun n tm hp=>ldP (Ag n) (cX K en0 a u0 u0 u0 u0 tm) hp) (tyI tb t) tm hp k sl)
  have main :∀ f:LdF,Qw tb t f→G (ldP f (cX K en0 a u0 u0 u0 u0 tm) hp k sl):=fun f hf=>by
   obtain ⟨td,ht,hf⟩:=hf
   refine oP h0 (fun q o hx=>HN h0 fun ct n hg=>?_) (fun q v o hx=>h0)
   obtain ⟨cs,hc,hH,_⟩:=oR Wh hg
   refine hf G ct n cs o k sl hc h0 fun u v hl1 hv hw=>h u v ?_ hv hw
   simp only [ye,ht,hl,tvp hx,kS,hH,hl1]
  cases hi:tyI tb t with
  | no=>exact h0
  | one=>
   refine main Ah ?_
   obtain ⟨td,ht,ha,hs⟩:=yB hi
   refine ⟨td,ht,fun G ct n cs o k sl hc h0 hk=>bR h0 fun hb=>?_⟩
   have hlt:o<n:=aX hb
   refine hk _ (bZ ct o).toV ?_ (B3 _).symm (Hh _)
   unfold ld
   rw [ha,hc.get o hlt]
   rfl
  | agg m=>
   refine main (Ag m) ?_
   obtain ⟨td,ht,ha,hs⟩:=yA hi
   refine ⟨td,ht,fun G ct n cs o k sl hc h0 hk=>bR h0 fun hb=>?_⟩
   have hle:o+m≤n:=aX hb
   have hld:ld td cs o = .val [] (.agg ((cs.drop o).take m)) []:=by
    unfold ld
    rw [ha,hs,if_pos rfl,if_pos (by rw [hc.len];exact hle)]
   cases hm:Nat.beq m n with
   | false=>
    have:=hc.sub hle
    exact hk _ _ hld (by show _=V.agg (toL _ _);rw [this.toL]) ⟨_,this⟩
   | true=>
    have e1:=aw hm
    have e0:o=0:=by omega
    subst e0
    subst e1
    refine hk _ _ hld ?_ ⟨_,hc⟩
    show _=V.agg (toL ct m)
    rw [hc.toL,List.drop_zero,List.take_of_length_le (by rw [hc.len];exact Nat.le_refl _)]
theorem Qm {G:Rv→Prop} {sl:Rv} (h0:G sl) {u:U} (hu:u.wf) {k:W→Rv} (h :∀ w,w.toV=u.toV→w.wf→G (k w)):G (wOf u k sl):=by
 refine HO h0 (fun c hc _=>h (.c c) hc trivial) (fun t n e=>?_)
 subst e
 exact h (.agg t n) rfl hu
theorem EO {G:Rv→Prop} {sl:Rv} (h0:G sl) {tm:TM} (Wt:WT K tm) {hp:HP} (Wh:hpW hp) :∀ {rs:List ResultVar} {k:List W→Rv},(∀ ws,nn tb (tmL K tm 512) (hpH hp) rs=some (ws.map W.toV)→(∀ w∈ws,w.wf)→G (k ws))→G (JU tb K rs tm hp k sl)
 | [],k,h=>h [] rfl (fun w hw=>by cases hw)
 | r::rs,k,h=>by
  show G (EP tb K r tm hp (fun u=>wOf u (fun w=>JU tb K rs tm hp (fun l=>k (w::l)) sl) sl) sl)
  refine EN h0 Wt Wh fun u v hr hv hu=>Qm h0 hu fun w hw hww=>EO h0 Wt Wh fun ws hws hwf=>h (w::ws) ?_ (fun x hx=>?_)
  ·simp only [nn,hr,hws,List.map_cons,hw,hv]
  ·rcases List.mem_cons.1 hx with rfl|hx
   ·exact hww
   ·exact hwf x hx
theorem Mt {G:Rv→Prop} {sl:Rv} (h0:G sl) {tm:TM} (Wt:WT K tm) {hp:HP} (Wh:hpW hp) {rs:List ResultVar} {k:U→Rv} (h :∀ u,qm tb (tmL K tm 512) (hpH hp) rs=some u.toV→u.wf→G (k u)):G (RA tb K rs tm hp k sl):=by
 match rs with
 | []=>exact h (.tup []) rfl (fun w hw=>by cases hw)
 | [r]=>exact EN h0 Wt Wh fun u v hr hv hu=>h u (by simp only [qm,nn,hr,hv]) hu
 | r::r2::rs=>
  refine EO (rs:=r::r2::rs) h0 Wt Wh fun ws hws hwf=>h (.tup ws) ?_ hwf
  have h2:2≤ws.length:=by
   have key :∀ (rs:List ResultVar) (l:List V),nn tb (tmL K tm 512) (hpH hp) rs=some l→l.length=rs.length:=by
    intro rs
    induction rs with
    | nil=>intro l h;simp only [nn,Option.some.injEq] at h;rw [←h];rfl
    | cons r rs ih=>
     intro l h
     simp only [nn] at h
     split at h
     ·split at h
      ·rename_i l' hl'
       cases h
       simp [ih _ hl']
      ·cases h
     ·cases h
   have:=key _ _ hws
   simp at this
   omega
  unfold qm
  rw [hws]
  match ws,h2 with
  | a::b::ws,_=>rfl
theorem zo (hT:aO P tb) (hP:P.follows .mixedOrders=true) (hname :∀ (f:FuncId) (fn:Func),P.funcs[f]?=some fn→(fn.name == "runtime.NumGoroutine")=false) (hcall:CallVOK P call) {f:FuncId} {fn:Func} (hf:P.funcs[f]?=some fn) {args:List U} {hp:HP} {nx:Nat} (Wa :∀ x∈args,x.wf) (Wh:hpW hp) {u:U} {hp':HP} {nx':Nat}
  (h :(xz tb K fn).run call args hp nx = .ok u hp' nx'):FnV P f args hp nx u hp' nx':=by
 unfold xz at h
 cases hc:fn.body with
 | none=>rw [hc] at h;cases h
 | some c=>
  rw [hc] at h
  cases hn:Nat.ble fn.ntmps 512 with
  | false=>rw [hn] at h;cases h
  | true=>
   rw [hn] at h
   cases hl:Nat.ble args.length fn.ntmps with
   | false=>
    have h :(Bool.rec (motive:=fun _=>Rf) (.no [9]) (FJ tb K fn.results.toList (bK nx fun nx=>Cd.run (fx tb fn.ntmps K c) call (iJ args 0 tm0) hp nx)) (Nat.ble args.length fn.ntmps):Rf) = .ok u hp' nx':=h
    rw [hl] at h;cases h
   | true=>
    have h :(Bool.rec (motive:=fun _=>Rf) (.no [9]) (FJ tb K fn.results.toList (bK nx fun nx=>Cd.run (fx tb fn.ntmps K c) call (iJ args 0 tm0) hp nx)) (Nat.ble args.length fn.ntmps):Rf) = .ok u hp' nx':=h
    rw [hl] at h
    have h:FJ tb K fn.results.toList (bK nx fun nx=>Cd.run (fx tb fn.ntmps K c) call (iJ args 0 tm0) hp nx) = .ok u hp' nx':=h
    rw [cu] at h
    have hn:=aX hn
    have hl:=aX hl
    have hget :∀ s,s<512→(cq s).get (iJ args 0 tm0) =(args[s]?).getD u0:=fun s hs=>by
     rw [uk (by omega) hs]
     by_cases e:0≤s∧s<0+args.length
     ·rw [if_pos e,Nat.sub_zero]
     ·rw [if_neg e,MJ,List.getElem?_eq_none (by omega)]
      rfl
    have hwf :∀ s:Nat,((args[s]?).getD u0).wf:=fun s=>by
     cases hx:args[s]? with
     | none=>exact wg
     | some x=>exact Wa x (List.mem_of_getElem? hx)
    have Wt:WT K (iJ args 0 tm0):=by
     have h2 :∀ i,isK K i=true→((cq i).get (iJ args 0 tm0)).wf:=fun i hi=>by rw [hget i (rP hi)];exact hwf i
     refine ⟨fun i=>?_,h2⟩
     rw [gZ]
     cases hk:isK K i with
     | true=>exact h2 i hk
     | false=>exact wg
    cases hr:Cd.run (fx tb fn.ntmps K c) call (iJ args 0 tm0) hp nx with
    | no w=>rw [hr] at h;cases h
    | go e1 tm1 hp1 nx1=>
     rw [hr] at h
     have h1:=fC (N:=fn.ntmps) (K:=K) hT hP hcall c _ hp nx e1 tm1 hp1 nx1 Wt Wh hr
     have hret :(∀ id,e1≠ .ext id)∧JW (Mu tb K fn.results.toList tm1 hp1 nx1) = .ok u hp' nx':=by
      cases e1 with
      | nrm=>exact ⟨fun id h=>(by cases h),h⟩
      | ret=>exact ⟨fun id h=>(by cases h),h⟩
      | ext id=>cases h
     obtain ⟨hne,h⟩:=hret
     have h2:qm tb (tmL K tm1 512) (hpH hp1) fn.results.toList=some u.toV∧u.wf∧hp'=hp1∧nx'=nx1:=by
      revert h
      unfold Mu
      refine Mt (G:=fun r=>JW r = .ok u hp' nx'→_) (fun h=>by cases h) h1.wt h1.hw fun u1 hu1 hw1 h=>?_
      have h:Rf.ok ((cq 0).get (tj tm0 0 u1)) hp1 nx1 = .ok u hp' nx':=h
      rw [jO,gM] at h
      cases h
      exact ⟨hu1,hw1,rfl,rfl⟩
     obtain ⟨hres,huw,rfl,rfl⟩:=h2
     refine ⟨⟨fn,hf,by rw [hc];rfl,hname f fn hf⟩,h1.le,huw,h1.hw,fun B E av hE hH hav hfr=>calls_of_wp hf hc ?_⟩
     have hav_len:=aA hav
     rw [List.length_map] at hav_len
     refine h1.wp B E nx _ E _ hfr (fun E' a hR=>?_) ?_
     ·have hEH:E'.H=hpH hp':=hR.h
      rw [←hEH] at hres
      have htm:dt E' (find (tmL K tm1 512)) a:=fun s v hv=>by
       rw [wv tm1 s] at hv
       by_cases hk:isK K s=true
       ·rw [if_pos hk] at hv;cases hv;exact hR.tm.tm s hk
       ·rw [if_neg hk] at hv;cases hv
      obtain ⟨v',k1,k2⟩:=sJ hR.rel hT htm hres
      have fin :∃ v',(results fn a.tmps).run P E'.w = .ok v' E'.w∧∃ E2 v2,(Ending.returned v') = .returned v2∧Came B E (hpH hp') nx nx' u.toV v2 E'.w E2:=
       ⟨v',k1,E',v',rfl,⟨hR.rel,rfl,hEH,hR.ext,hR.u,k2⟩⟩
      cases e1 with
      | ext id=>exact (hne id rfl).elim
      | nrm=>exact ⟨hR.defers,fin⟩
      | ret=>exact ⟨hR.defers,fin⟩
     ·have hrel :∀ i,isK K i=true→aa E ((cq i).get (iJ args 0 tm0)).toV ((av.toArray++Array.replicate (fn.ntmps - av.toArray.size) undef).getD i undef):=fun i hi=>by
       rw [hget i (rP hi)]
       cases hx:args[i]? with
       | none=>exact nt
       | some x=>
        obtain ⟨v',q1,q2⟩:=dM hav i x.toV (by rw [List.getElem?_map,hx];rfl)
        have :(av.toArray++Array.replicate (fn.ntmps - av.toArray.size) undef).getD i undef=v':=by
         rw [Array.getD_eq_getD_getElem?]
         have hl:i<av.toArray.size:=by
          rcases Nat.lt_or_ge i av.length with h3|h3
          ·simpa using h3
          ·rw [List.getElem?_eq_none h3] at q1;cases q1
         rw [Array.getElem?_append_left hl]
         simp [q1]
        rw [this]
        exact q2
      refine ⟨hE,Ext.refl E,hH,fun n hn=> .inl hn,Nat.le_refl _,⟨fun i=>?_,hrel⟩,?_,rfl⟩
      ·rw [gZ]
       cases hk:isK K i with
       | true=>exact hrel i hk
       | false=>exact nt
      ·simp only [Array.size_append,Array.size_replicate,List.size_toArray];omega
def XOK (P:Program) (X:wu):Prop:=∀ g x,X g=some x→∀ args u,(∀ a∈args,U.wf a)→x args=some u→u.wf∧wq P g args u
theorem D1 {fn:Func} {args:List U} {hp:HP} {nx:Nat} {u:U} {hp':HP} {nx':Nat} (h :(xz tb K fn).run call args hp nx = .ex u hp' nx'):False:=by
 have key :∀ r:Rv,JW r = .ex u hp' nx'→False:=fun r h=>by cases r <;> cases h
 unfold xz at h
 cases hc:fn.body with
 | none=>rw [hc] at h;cases h
 | some c=>
  rw [hc] at h
  cases hn:Nat.ble fn.ntmps 512 with
  | false=>rw [hn] at h;cases h
  | true=>
   rw [hn] at h
   have h :(Bool.rec (motive:=fun _=>Rf) (.no [9]) (FJ tb K fn.results.toList (bK nx fun nx=>Cd.run (fx tb fn.ntmps K c) call (iJ args 0 tm0) hp nx)) (Nat.ble args.length fn.ntmps):Rf) = .ex u hp' nx':=h
   cases hl:Nat.ble args.length fn.ntmps with
   | false=>rw [hl] at h;cases h
   | true=>
    rw [hl] at h
    have h:FJ tb K fn.results.toList (bK nx fun nx=>Cd.run (fx tb fn.ntmps K c) call (iJ args 0 tm0) hp nx) = .ex u hp' nx':=h
    generalize (bK nx fun nx=>Cd.run (fx tb fn.ntmps K c) call (iJ args 0 tm0) hp nx)=r at h
    cases r with
    | no w=>cases h
    | go e tm hp1 nx1=>
     cases e with
     | ext id=>cases h
     | nrm=>exact key _ h
     | ret=>exact key _ h
theorem yT (hT:aO P tb) (hP:P.follows .mixedOrders=true) (hname :∀ (f:FuncId) (fn:Func),P.funcs[f]?=some fn→(fn.name == "runtime.NumGoroutine")=false) {Pf:FuncId→Option Func} (hPf :∀ (f:FuncId) (fn:Func),Pf f=some fn→P.funcs[f]?=some fn) {X:wu} (hX:XOK P X) (KK:FuncId→Nat) :∀ d,CallVOK P (uq tb Pf X KK d)
 | 0=>⟨fun g args hp nx u hp' nx' _ _ h=>(by cases h),fun g args hp nx u hp' nx' _ h=>(by cases h)⟩
 | d+1=>by
  have ih:=yT hT hP hname hPf hX KK d
  refine ⟨fun g args hp nx u hp' nx' Wa Wh h=>?_,fun g args hp nx u hp' nx' Wa h=>?_⟩
  ·have h:Fc.run (qj tb Pf X KK g) (uq tb Pf X KK d) args hp nx = .ok u hp' nx':=h
   unfold qj at h
   cases hx:X g with
   | some x=>
    rw [hx] at h
    have h:HH (x args) hp nx = .ok u hp' nx':=h
    cases hxa:x args with
    | none=>rw [hxa] at h;cases h
    | some u1=>rw [hxa] at h;cases h
   | none=>
    rw [hx] at h
    have h:Fc.run (Option.rec (motive:=fun _=>Fc) ⟨fun _ _ _ _=> .no [12]⟩ (xz tb (KK g)) (Pf g)) (uq tb Pf X KK d) args hp nx = .ok u hp' nx':=h
    cases hp1:Pf g with
    | none=>rw [hp1] at h;cases h
    | some fn=>
     rw [hp1] at h
     exact zo hT hP hname ih (hPf _ _ hp1) Wa Wh h
  ·have h:Fc.run (qj tb Pf X KK g) (uq tb Pf X KK d) args hp nx = .ex u hp' nx':=h
   unfold qj at h
   cases hx:X g with
   | some x=>
    rw [hx] at h
    have h:HH (x args) hp nx = .ex u hp' nx':=h
    cases hxa:x args with
    | none=>rw [hxa] at h;cases h
    | some u1=>
     rw [hxa] at h
     cases h
     obtain ⟨h1,h2⟩:=hX g x hx args u Wa hxa
     exact ⟨rfl,rfl,h1,h2⟩
   | none=>
    rw [hx] at h
    have h:Fc.run (Option.rec (motive:=fun _=>Fc) ⟨fun _ _ _ _=> .no [12]⟩ (xz tb (KK g)) (Pf g)) (uq tb Pf X KK d) args hp nx = .ex u hp' nx':=h
    cases hp1:Pf g with
    | none=>rw [hp1] at h;cases h
    | some fn=>rw [hp1] at h;exact (D1 h).elim
noncomputable section
def Re (b:Bool) (r:Rf):Bool:=Rf.rec (motive:=fun _=>Bool) (fun u _ _=>U.rec (motive:=fun _=>Bool) (fun _ _=>false) (fun c=>Bool.rec (motive:=fun _=>Bool) (F5 c) c b) (fun _ _=>false) (fun _ _ _=>false) (fun _ _ _ _ _=>false) (fun _=>false) (fun _ _=>false) (fun _=>false) u) (fun _ _ _=>false) (fun _=>false) r
end
theorem B5 (hcall:CallVOK P call) {f:FuncId} {Kc:Nat} {b:Bool} (h:Re b (call f [] hp0 0)=true):CtrOK P Kc f (bC Kc .unit fun _=>⟨[],.bool b,[]⟩):=by
 cases hr:call f [] hp0 0 with
 | no w=>rw [hr] at h;cases h
 | ex u hp' nx'=>rw [hr] at h;cases h
 | ok u hp' nx'=>
  rw [hr] at h
  have hu:u = .kb b:=by
   cases u with
   | kb c=>cases b <;> cases c <;> first|rfl|cases h
   | _=>cases h
  subst hu
  have F:=hcall.ok f [] hp0 0 _ hp' nx' (fun x hx=>by cases hx) Ik hr
  refine ⟨F.fn,fun B E hE args av hav m hm ps' v0 dh hct hps=>?_⟩
  unfold bC at hct
  simp only at hct
  cases args with
  | cons x xs=>simp [cz] at hct
  | nil=>
   have h0:Nat.ble 0 Kc=true:=by cases Kc <;> rfl
   simp only [cz,List.length_nil,h0,cond_true,Option.some.injEq,Prod.mk.injEq] at hct
   obtain ⟨rfl,rfl,rfl⟩:=hct
   cases av with
   | cons x xs=>simp [ab] at hav
   | nil=>
    let E1:Env:=⟨fun _=>False,fun _=>none,E.S,E.w,fun _=>none⟩
    have hE1:HRel (DM E.w (fun _=>False) E.S hE.glob0) E1:=by
     refine ⟨fun h b hx=>?_,fun b hb=>hE.stab b hb,fun h k b hx=>?_,fun h h' k k' b hx=>?_,fun h k hx=>?_,Keeps.refl _ _,fun h k b hx=>?_,fun _ h=>h,fun _ h=> .inl h⟩ <;> cases hx
    refine (F.calls _ E1 [] hE1 (by rw [M7]) (by simp [ab]) (fun n _ _ h=>h)).mono fun e w' hh=>?_
    obtain ⟨E',v',rfl,C⟩:=hh
    have hw:=C.w
    subst hw
    obtain ⟨E2,G,_,_⟩:=QB hE hm (S1:=E.S) (fun b hb=>hb) C.rel (acc:= []) ⟨by simp,fun h r hr=>by simp at hr⟩ (Nat.zero_le _) (.inl fun b hb=>hb)
    refine ⟨E2,v',rfl,by simpa [gB,PRes.flat,V.noF] using G,?_⟩
    have hv:=C.v
    simp only [V.shift,aa]
    simpa [U.toV,aa] using hv
end Go.Mir
namespace Go.Mir
open Go.RowKit
variable {P:Program}
theorem Li {g:FuncId} {fn:Func} {e:Array Value→Sem Value} (hf:P.funcs[g]?=some fn) (hname :(fn.name == "runtime.NumGoroutine")=false) (hb:fn.body.isNone=true) (hn:Extern.findNext fn=none) (he:Extern.find fn=some e) {args:List U} {u:U}
  (h :∀ (E:Env) (av:List Value),ab E (args.map U.toV) av→∃ v',aa E u.toV v'∧(e av.toArray).run P E.w = .ok v' E.w):wq P g args u:=fun E av hav=>by
 obtain ⟨v',hv,hr⟩:=h E av hav
 refine ⟨v',hv,fun o c f l a next Q ho hcf hfe hav2 hnx=>?_⟩
 have hrun :(execOp a.eval o).run P E.w = .ok (.value v') E.w:=by
  have e1 :(c.args.toList.map a.eval++l.toList).toArray=#[]++c.args.map a.eval++l:=by
   apply Array.ext'
   simp
  have :(execOp a.eval o).run P E.w =(callFunc g (#[]++c.args.map a.eval++l)).run P E.w:=by
   simp [execOp,ho,resolve,hcf,Deferred.ofValue,hfe,invoke]
  rw [this,run_callFunc_extern hf hname hb hn he,←e1,←hav2,hr]
  rfl
 unfold Oper.wp
 rw [hrun]
 simp only [Oper.upon]
 exact hnx
theorem Rj :∀ (l:List UInt8) (c:UInt8),Lib.indexByte l c≤l.length
 | [],c=>by unfold Lib.indexByte;simp
 | b::l,c=>by
  have:=Rj l c
  unfold Lib.indexByte
  simp only [List.length_cons]
  split
  ·omega
  ·split <;> omega
theorem Ei :∀ (l:List UInt8) (c i:Nat),c<256→Iv l c i=if Lib.indexByte l c.toUInt8 = -1 then -1 else Lib.indexByte l c.toUInt8 +(i:Int)
 | [],c,i,_=>rfl
 | b::l,c,i,hc=>by
  show Bool.rec (motive:=fun _=>Int) (Iv l c (i+1)) (.ofNat i) (Nat.beq b.toNat c)=_
  rw [Ei l c (i+1) hc]
  have hge:=Lib.indexByte_ge l c.toUInt8
  have hcn:c.toUInt8.toNat=c:=by simp [Nat.toUInt8];omega
  have step:Lib.indexByte (b::l) c.toUInt8=if b==c.toUInt8 then 0 else if Lib.indexByte l c.toUInt8 == -1 then -1 else Lib.indexByte l c.toUInt8+1:=rfl
  rw [step]
  cases hb:Nat.beq b.toNat c with
  | true=>
   have e:b=c.toUInt8:=UInt8.toNat.inj (by rw [hcn];exact aw hb)
   have e2 :(b==c.toUInt8)=true:=by rw [e];simp
   rw [e2]
   simp
  | false=>
   have e :¬(b==c.toUInt8)=true:=fun h=>by
    have:b=c.toUInt8:=by simpa using h
    rw [this,hcn,Nat.beq_refl] at hb
    cases hb
   have e2 :(b==c.toUInt8)=false:=by simpa using e
   rw [e2]
   simp only [Bool.false_eq_true,if_false]
   by_cases h1:Lib.indexByte l c.toUInt8 = -1
   ·rw [if_pos h1,h1];rfl
   ·rw [if_neg h1]
    have h2 :¬(Lib.indexByte l c.toUInt8 == -1)=true:=by simpa using h1
    rw [if_neg h2,if_neg (by omega)]
    push_cast
    omega
theorem OM {g:FuncId} {fn:Func} (hf:P.funcs[g]?=some fn) (hname :(fn.name == "runtime.NumGoroutine")=false) (hb:fn.body.isNone=true) (hn:Extern.findNext fn=none) (he:Extern.find fn=some Extern.BytealgIndexByte.indexByte) {args:List U} {u:U} (h:ixB args=some u):u.wf∧wq P g args u:=by
 unfold ixB at h
 split at h
 case h_2=>cases h
 rename_i s c
 cases h
 refine ⟨trivial,Li hf hname hb hn he fun E av hav=>?_⟩
 obtain ⟨a,r,rfl,h1,h2⟩:=bp hav
 obtain ⟨b,r2,rfl,h3,h4⟩:=bp h2
 have h5:r2=[]:=by cases r2 with|nil=>rfl|cons=>simp [ab] at h4
 subst h5
 simp only [U.toV,aa] at h1 h3
 obtain ⟨rfl,hs⟩:=h1
 obtain ⟨rfl,hc⟩:=h3
 have hc2:c<256:=by
  have:=hc.2
  simp [IntKind.max,IntKind.bits,IntKind.signed] at this
  omega
 refine ⟨_,?_,Lib.run_indexByteString s (Int.ofNat c) E.w⟩
 have e:Iv s.data.toList c 0=Lib.indexByte s.data.toList c.toUInt8:=by
  rw [Ei _ _ _ hc2]
  split
  ·rename_i h;rw [h]
  ·simp
 show aa E (.int .i64 (Iv s.data.toList c 0)) _
 rw [e]
 refine gD ?_
 have hge:=Lib.indexByte_ge s.data.toList c.toUInt8
 have hle:=Rj s.data.toList c.toUInt8
 have hl:s.data.toList.length≤ai:=by simpa using hs
 unfold ai at hl
 have e1:IntKind.i64.min = -9223372036854775808:=by decide
 have e2:IntKind.i64.max=9223372036854775807:=by decide
 unfold ok
 rw [e1,e2]
 omega
end Go.Mir
namespace Go.Mir
open Go.RowKit
variable {P:Program} {tb:Tbl} {call:eD}
noncomputable section
def EG {t:Ty} (p:List V→Option (Den t×List V)):Nat→List V→Option (List (Den t))
 | 0,_=>some []
 | n+1,vs=>match p vs with
  | some (x,r)=>match EG p n r with
   | some xs=>some (x::xs)
   | none=>none
  | none=>none
def CN (H:aq) (t:Ty) (p:List V→Option (Den t×List V)):List V→Option (List (Den t)×List V)
 | .fsl t' xs::r=>if h:t'=t then some ((h▸xs:List (Den t)),r) else none
 | .nilsl::r=>some ([],r)
 | .esl::r=>some ([],r)
 | .gsl h ver esz off len::r=>match H h with
  | some (.grow ver' esz' cs)=>if ver=ver'∧esz=esz'∧esz=sz t∧(off+len)*esz≤cs.length∧len≤ai then match EG p len (cs.drop (off*esz)) with
   | some xs=>some (xs,r)
   | none=>none
   else none
  | _=>none
 | _=>none
def jA (H:aq):Nat→(t:Ty)→List V→Option (Den t×List V)
 | 0,_,_=>none
 | _+1,.int k,vs=>EF k vs
 | _+1,.bool,vs=>EE vs
 | _+1,.str,vs=>EH vs
 | _+1,.unit,r=>some ((),r)
 | f+1,.prod a b,r=>match jA H f a r with
  | some (x,r')=>match jA H f b r' with
   | some (y,r'')=>some ((x,y),r'')
   | none=>none
  | none=>none
 | f+1,.slice t,vs=>CN H t (jA H f t) vs
 | f+1,.nm n,r=>match jA H f n.flds r with
  | some (x,r')=>some (n.of x,r')
  | none=>none
def EI (H:aq) (t:Ty) (v:V):Option (Den t):=bif jm t==fj v then (match cellsOf v with
 | some cs=>match jA H gn t cs with
  | some (x,[])=>some x
  | _=>none
 | none=>none) else none
def Q2 (E:Env) (b:Nat):Prop:=∃ h ver esz cs,E.H h=some (.grow ver esz cs)∧E.ρ h=some b
def rG (E:Env):Env:=⟨E.U,E.ρ,fun b=>E.S b∨Q2 E b,E.w,fun _=>none⟩
theorem FR {B:Base} {E:Env} (hE:HRel B E):HRel B (rG E)∧Ext E (rG E):=by
 refine ⟨⟨fun h b hx=>?_,fun b hb=>?_,fun h k b hx=>?_,fun h h' k k' b hx=>?_,fun h k hx=>?_,hE.keeps,fun h k b hx=>?_,fun b hb=> .inl (hE.s0 b hb),fun b hb=>?_⟩,
  ⟨fun _ h=>h,fun _ h=> .inl h,fun _ _=>rfl,fun _ _ _ hx=>?_,fun _ _ _ _ _ _ _ hx=>?_,fun _ _ _ _ _ _ hx=>?_,fun _ _ _ hx=>?_,fun _ _ _ _ _ hx=>?_⟩⟩ <;> try (cases hx)
 ·rcases hb with hb |⟨h,ver,esz,cs,h1,h2⟩
  ·exact hE.stab b hb
  ·exact hE.lt _ _ _ h1 h2
 ·rcases hb with hb |⟨h,ver,esz,cs,h1,h2⟩
  ·exact hE.sb b hb
  ·exact .inr (hE.own _ _ _ h1 h2)
theorem pV {E:Env} {S:Nat→Prop} {t:Ty} {p:List V→Option (Den t×List V)} (hp :∀ vs x r cs,p vs=some (x,r)→ab E vs cs→∃ c1 c2,cs=c1++c2∧Rd S E.w t x c1∧ab E r c2) :
  ∀ (n:Nat) (vs:List V) (xs:List (Den t)) (cs:List Value),EG p n vs=some xs→ab E vs cs→xs.length=n∧∀ (i:Nat) (h:i<xs.length),Rd S E.w t xs[i] ((cs.drop (i*sz t)).take (sz t))
 | 0,vs,xs,cs,h,_=>by
  cases h
  exact ⟨rfl,fun i hi=>by simp at hi⟩
 | n+1,vs,xs,cs,h,hv=>by
  simp only [EG] at h
  split at h
  case h_2=>cases h
  rename_i x r hx
  split at h
  case h_2=>cases h
  rename_i xs' hxs
  cases h
  obtain ⟨c1,c2,rfl,h1,h2⟩:=hp _ _ _ _ hx hv
  obtain ⟨h3,h4⟩:=pV hp n r xs' c2 hxs h2
  refine ⟨by simp [h3],fun i hi=>?_⟩
  have hl:=h1.len
  cases i with
  | zero=>
   rw [Nat.zero_mul,List.drop_zero,←hl,List.take_left]
   exact h1
  | succ i=>
   have e :(c1++c2).drop ((i+1)*sz t)=c2.drop (i*sz t):=by
    rw [Nat.succ_mul,Nat.add_comm,←List.drop_drop,←hl,List.drop_left]
   rw [e]
   exact h4 i (by simpa using hi)
theorem x6 {B:Base} {E:Env} (hE:HRel B E) {t:Ty} {p:List V→Option (Den t×List V)} (hp :∀ vs x r cs,p vs=some (x,r)→ab E vs cs→∃ c1 c2,cs=c1++c2∧Rd (rG E).S E.w t x c1∧ab E r c2)
  {vs:List V} {xs:List (Den t)} {rest:List V} {cs:List Value} (h:CN E.H t p vs=some (xs,rest)) (hv:ab E vs cs) :∃ c1 c2,cs=c1++c2∧Rd (rG E).S E.w (.slice t) xs c1∧ab E rest c2:=by
 unfold CN at h
 split at h
 ·split at h
  ·rename_i e
   subst e
   cases h
   obtain ⟨c,r',rfl,h1,h2⟩:=aJ hv
   exact ⟨_,_,rfl,Rd.ext (fun _ h=> .inl h) (fun _ _=>rfl) h1,h2⟩
  ·cases h
 ·cases h
  obtain ⟨c,r',rfl,h1,h2⟩:=aJ hv
  simp only [aa] at h1
  subst h1
  exact ⟨_,_,rfl,.nil,h2⟩
 ·cases h
  obtain ⟨c,r',rfl,h1,h2⟩:=aJ hv
  simp only [aa] at h1
  obtain ⟨a,rfl⟩:=h1
  exact ⟨_,_,rfl,.nil,h2⟩
 ·rename_i hh ver esz off len r
  split at h
  case h_2=>cases h
  rename_i ver' esz' csB hH
  split at h
  case isFalse=>cases h
  rename_i hc
  obtain ⟨rfl,rfl,e3,h4,h5⟩:=hc
  split at h
  case h_2=>cases h
  rename_i xs' hxs
  cases h
  obtain ⟨c,r',rfl,h1,h2⟩:=aJ hv
  simp only [aa] at h1
  obtain ⟨_,_,_,h1⟩:=h1
  obtain ⟨b,cap,c,T,fr,k1,rfl,k3,k4,k5,k6⟩:=h1 _ hH
  obtain ⟨_,b',c',T',fr',q1,q2,q3,q4,q5⟩:=hE.blk _ _ hH
  rw [k1] at q1
  cases q1
  rw [k3] at q2
  cases q2
  obtain ⟨g1,g2⟩:=pV (S:=(rG E).S) hp _ _ _ _ hxs (fI q5 (off*esz))
  subst e3
  refine ⟨_,_,rfl,?_,h2⟩
  rw [←g1] at k5 ⊢
  refine .slice (.inr ⟨_,_,_,_,hH,k1⟩) k3 ?_ k5 (by omega) fun i hi=>?_
  ·rw [Nat.add_mul] at k4
   have:=Nat.mul_le_mul_right (sz t) k5
   omega
  ·have:=g2 i hi
   have e :((c.toList.take csB.length).drop (off*sz t)).drop (i*sz t) =((c.toList.drop (off*sz t+i*sz t))).take (csB.length - (off*sz t+i*sz t)):=by
    rw [List.drop_drop,List.drop_take]
   rw [e,List.take_take] at this
   have hle:sz t≤csB.length - (off*sz t+i*sz t):=by
    have h6 :(off +(i+1))*sz t≤(off+len)*sz t:=Nat.mul_le_mul_right _ (by omega)
    rw [Nat.add_mul,Nat.add_mul,Nat.one_mul] at h6
    omega
   rw [Nat.min_eq_left hle] at this
   exact this
 ·cases h
theorem gg {B:Base} {E:Env} (hE:HRel B E) :∀ (f:Nat) (t:Ty) (vs:List V) (x:Den t) (rest:List V) (cs:List Value),jA E.H f t vs=some (x,rest)→ab E vs cs→
  ∃ c1 c2,cs=c1++c2∧Rd (rG E).S E.w t x c1∧ab E rest c2
 | 0,t,vs,x,rest,cs,h,_=>by simp [jA] at h
 | f+1,.int k,vs,x,rest,cs,h,hv=>by
  simp only [jA] at h
  unfold EF at h
  split at h
  ·split at h
   ·rename_i e
    subst e
    cases h
    obtain ⟨c,r',rfl,h1,h2⟩:=aJ hv
    simp only [aa] at h1
    obtain ⟨rfl,h1⟩:=h1
    exact ⟨_,_,rfl,.int h1,h2⟩
   ·cases h
  ·cases h
 | f+1,.bool,vs,x,rest,cs,h,hv=>by
  simp only [jA] at h
  unfold EE at h
  split at h
  ·cases h
   obtain ⟨c,r',rfl,h1,h2⟩:=aJ hv
   simp only [aa] at h1
   subst h1
   exact ⟨_,_,rfl,.bool,h2⟩
  ·cases h
   obtain ⟨c,r',rfl,h1,h2⟩:=aJ hv
   simp only [aa] at h1
   subst h1
   exact ⟨_,_,rfl,.bool,h2⟩
  ·cases h
 | f+1,.str,vs,x,rest,cs,h,hv=>by
  simp only [jA] at h
  unfold EH at h
  split at h
  ·cases h
   obtain ⟨c,r',rfl,h1,h2⟩:=aJ hv
   simp only [aa] at h1
   obtain ⟨rfl,h1⟩:=h1
   exact ⟨_,_,rfl,.str h1,h2⟩
  ·cases h
 | f+1,.unit,vs,x,rest,cs,h,hv=>by
  simp only [jA] at h
  cases h
  exact ⟨[],cs,rfl,.unit,hv⟩
 | f+1,.prod a b,vs,x,rest,cs,h,hv=>by
  simp only [jA] at h
  split at h
  ·rename_i x1 r1 h1
   split at h
   ·rename_i y1 r2 h2
    cases h
    obtain ⟨c1,c2,rfl,k1,k2⟩:=gg hE f _ _ _ _ _ h1 hv
    obtain ⟨d1,d2,rfl,k3,k4⟩:=gg hE f _ _ _ _ _ h2 k2
    exact ⟨c1++d1,d2,by simp,.prod k1 k3,k4⟩
   ·cases h
  ·cases h
 | f+1,.slice t,vs,x,rest,cs,h,hv=>x6 hE (fun vs x r cs=>gg hE f t vs x r cs) h hv
 | f+1,.nm n,vs,x,rest,cs,h,hv=>by
  simp only [jA] at h
  split at h
  ·rename_i x1 r1 h1
   cases h
   obtain ⟨c1,c2,rfl,k1,k2⟩:=gg hE f _ _ _ _ _ h1 hv
   exact ⟨c1,c2,rfl,.nm (by rw [n.to_of];exact k1),k2⟩
  ·cases h
theorem pY {B:Base} {E:Env} (hE:HRel B E) {t:Ty} {v:V} {x:Den t} (h:EI E.H t v=some x) {u:Value} (hv:aa E v u):aa (rG E) (dS t x) u:=by
 unfold EI at h
 cases hg:jm t==fj v with
 | false=>rw [hg] at h;cases h
 | true=>
  rw [hg] at h
  simp only [cond_true] at h
  split at h
  case h_2=>cases h
  rename_i cs hcs
  split at h
  case h_2=>cases h
  rename_i x' hx
  cases h
  obtain ⟨c1,c2,e,hrd,h2⟩:=gg hE _ _ _ _ _ _ hx (bq hv hcs)
  have hc2:c2=[]:=by cases c2 with|nil=>rfl|cons=>simp [ab] at h2
  subst hc2
  rw [List.append_nil] at e
  subst e
  simp only [beq_iff_eq] at hg
  refine qL (E:=rG E) hrd ?_
  cases e:jm t with
  | true=>
   rw [e] at hg
   cases v <;> simp only [fj,Bool.true_eq_false] at hg
   simp only [aa] at hv
   obtain ⟨l,hl,_⟩:=hv
   exact .inl ⟨rfl,l,hl⟩
  | false=>
   rw [e] at hg
   refine .inr ⟨rfl,?_⟩
   have h1:u.oneCell'=true:=by
    cases v <;> simp only [fj,Bool.false_eq_true] at hg <;> simp only [cellsOf,reduceCtorEq] at hcs <;> exact ga rfl hv
   rw [pd h1]
def Cb {α:Type} (e:α→α→Bool):List α→List α→Bool
 | [],[]=>true
 | x::xs,y::ys=>bif e x y then Cb e xs ys else false
 | _,_=>false
theorem xb {α:Type} {e:α→α→Bool} (h :∀ x y,e x y=true→x=y) :∀ {xs ys:List α},Cb e xs ys=true→xs=ys
 | [],[],_=>rfl
 | [],_::_,h=>by simp [Cb] at h
 | _::_,[],h=>by simp [Cb] at h
 | x::xs,y::ys,hh=>by
  simp only [Cb] at hh
  cases he:e x y with
  | false=>rw [he] at hh;cases hh
  | true=>rw [he] at hh;rw [h _ _ he,xb h hh]
def eqD:Nat→(t:Ty)→Den t→Den t→Bool
 | 0,_,_,_=>false
 | _+1,.int _,x,y=>@decide ((x:Int)=y) (Int.instDecidableEq x y)
 | _+1,.bool,x,y=>@decide ((x:Bool)=y) (instDecidableEqBool x y)
 | _+1,.str,x,y=>decide ((x:ByteArray).data.toList =(y:ByteArray).data.toList)
 | _+1,.unit,_,_=>true
 | f+1,.prod a b,x,y=>bif eqD f a x.1 y.1 then eqD f b x.2 y.2 else false
 | f+1,.slice t,xs,ys=>Cb (eqD f t) xs ys
 | f+1,.nm n,x,y=>eqD f n.flds (n.to x) (n.to y)
theorem oH :∀ (f:Nat) (t:Ty) (x y:Den t),eqD f t x y=true→x=y
 | 0,_,_,_,h=>by simp [eqD] at h
 | _+1,.int _,x,y,h=>@of_decide_eq_true ((x:Int)=y) (Int.instDecidableEq x y) h
 | _+1,.bool,x,y,h=>@of_decide_eq_true ((x:Bool)=y) (instDecidableEqBool x y) h
 | _+1,.str,x,y,h=>ByteArray.ext (Array.toList_inj.1 (of_decide_eq_true (p:=(x:ByteArray).data.toList =(y:ByteArray).data.toList) h))
 | _+1,.unit,_,_,_=>rfl
 | f+1,.prod a b,x,y,h=>by
  simp only [eqD] at h
  cases he:eqD f a x.1 y.1 with
  | false=>rw [he] at h;cases h
  | true=>rw [he] at h;exact Prod.ext (oH f a _ _ he) (oH f b _ _ h)
 | f+1,.slice t,xs,ys,h=>xb (oH f t) (by simpa only [eqD] using h)
 | f+1,.nm n,x,y,h=>by
  simp only [eqD] at h
  have:=oH f n.flds _ _ h
  rw [←n.of_to x,←n.of_to y,this]
def vN (H:aq):List Ty→List V→Option (List V)
 | [],[]=>some []
 | t::ts,v::vs=>match EI H t v with
  | some x=>match vN H ts vs with
   | some r=>some (dS t x::r)
   | none=>none
  | none=>none
 | _,_=>none
def vM (H:aq) (ts:List Ty) (v:V):Option V:=match ts with
 | [t]=>match EI H t v with
  | some x=>some (dS t x)
  | none=>none
 | ts=>match v with
  | .tup vs=>match vN H ts vs with
   | some l=>some (.tup l)
   | none=>none
  | _=>none
theorem pX {B:Base} {E:Env} (hE:HRel B E) :∀ {ts:List Ty} {vs l:List V} {us:List Value},vN E.H ts vs=some l→ab E vs us→ab (rG E) l us∧l.length=ts.length
 | [],[],l,us,h,hv=>by
  cases h
  cases us with
  | nil=>exact ⟨by simp [ab],rfl⟩
  | cons=>simp [ab] at hv
 | t::ts,v::vs,l,us,h,hv=>by
  simp only [vN] at h
  split at h
  case h_2=>cases h
  rename_i x hx
  split at h
  case h_2=>cases h
  rename_i r hr
  cases h
  cases us with
  | nil=>simp [ab] at hv
  | cons u us=>
   simp only [ab] at hv ⊢
   obtain ⟨h1,h2⟩:=pX hE hr hv.2
   exact ⟨⟨pY hE hx hv.1,h1⟩,by simp [h2]⟩
 | [],_::_,_,_,h,_=>by cases h
 | _::_,[],_,_,h,_=>by cases h
theorem AN {B:Base} {E:Env} (hE:HRel B E) {ts:List Ty} {v v0:V} {u:Value} (h:vM E.H ts v=some v0) (hv:aa E v u):aa (rG E) v0 u∧(ts.length≠1→∃ l,v0 = .tup l∧l.length=ts.length):=by
 unfold vM at h
 split at h
 ·split at h
  case h_2=>cases h
  rename_i x hx
  cases h
  exact ⟨pY hE hx hv,fun hn=>absurd rfl hn⟩
 ·split at h
  case h_2=>cases h
  rename_i vs
  split at h
  case h_2=>cases h
  rename_i l hl
  cases h
  simp only [aa] at hv ⊢
  obtain ⟨us,rfl,hus⟩:=hv
  obtain ⟨h1,h2⟩:=pX hE hl hus
  exact ⟨⟨us,rfl,h1⟩,fun _=>⟨l,rfl,h2⟩⟩
theorem Me {f:FuncId} (hfn :∃ fn,P.funcs[f]?=some fn∧fn.body.isSome=true∧(fn.name == "runtime.NumGoroutine")=false) {n:Nat}
  {K:Nat} {q q':Pat} {spec:Den (tyP q)→List Prop×Den (tyP q')} (hpair:jh q q'=true) (hres:q'.tm.length=n)
  (h :∀ x:Den (tyP q),wfD (tyP q) x→(∀ p∈(spec x).1,p)→∃ (v0:V) (d:List (Nat×Blk)) (nx:Nat),(n≠1→∃ l,v0 = .tup l∧l.length=n)∧cA q.nx q' ⟨jJ n v0,d,fun _=>none,nx⟩=some (spec x).2∧
   ∀ (B:Base) (E:Env) (av:List Value),HRel B E→E.H=an (fun _=>none) (q.hpOf x)→ab E ((q.tmOf x).map (·.2)) av→(∀ n,E.U n→n<q.nx)→
    Calls P f av.toArray E.w fun e w'=>∃ Ec v',e = .returned v'∧HRel B Ec∧Ec.w=w'∧Ec.H=an (fun _=>none) d∧Ext E Ec∧(∀ n,Ec.U n→n<nx)∧aa Ec v0 v'):CtrOK P K f (ae K q q' spec):=by
 refine ⟨hfn,fun B E hE args av hav m hm ps' v dh hct hps=>?_⟩
 unfold ae at hct
 simp only at hct
 split at hct
 case h_2=>cases hct
 rename_i x hx
 cases hle:Az q q' (iI q ⟨b8 0 args,[],E.H,m⟩)&&(Nat.beq args.length q.tm.length&&Nat.ble q'.nx K) with
 | false=>rw [hle] at hct;cases hct
 | true=>
 rw [hle] at hct
 simp only [cond_true,Option.some.injEq,Prod.mk.injEq] at hct
 obtain ⟨rfl,rfl,rfl⟩:=hct
 simp only [Bool.and_eq_true,Nat.beq_eq] at hle
 obtain ⟨hok,hlen,hKK⟩:=hle
 have hKK:q'.nx≤K:=Nat.le_of_ble_eq_true hKK
 have havl:=aA hav
 have hstH:E.H =(⟨b8 0 args,[],E.H,m⟩:St).H:=by funext h;simp [St.H,an,find]
 let a0:Act:=⟨av.toArray,[]⟩
 have hT0:dt E (find (b8 0 args)) a0:=fun s v hv=>by
  simp only [fW,Nat.zero_le,if_true,Nat.sub_zero] at hv
  obtain ⟨v',h1,h2⟩:=dM hav s v hv
  have:av.toArray.getD s undef=v':=by
   rw [Array.getD_eq_getD_getElem?]
   simp [h1]
  show aa E v (av.toArray.getD s undef)
  rw [this]
  exact h2
 have hna :(q.hp.all fun x=>mZ x.2)=true:=vE hpair
 obtain ⟨hsub,hnd,htm,hwf⟩:=zz hna hx hE hstH hT0
 obtain ⟨hE1,_⟩:=bO hE (hsP q ⟨b8 0 args,[],E.H,m⟩)
 have hMnx :(iI q ⟨b8 0 args,[],E.H,m⟩).nx=q.nx:=rfl
 generalize hM:iI q ⟨b8 0 args,[],E.H,m⟩=M at *
 generalize hL:hsP q ⟨b8 0 args,[],E.H,m⟩=L at *
 have hE2:=oh hE1 hsub hnd
 let B':Base:=⟨E.w,ox (aL M (bb E L) (q.hpOf x)) (q.hpOf x),(bb E L).S,fun E'=>Ext (aL M (bb E L) (q.hpOf x)) E',fun _ _ h k=>h.trans k,hE2.glob (E:=aL M (bb E L) (q.hpOf x)) fun _ ⟨n,k,hf,hb⟩=>⟨n,k,by show an (fun _=>none) (q.hpOf x) n=_;unfold an;rw [hf],hb⟩,[]⟩
 have hpins:B'.pins q.nx:=by rw [←hMnx];exact AU
 have hE2':HRel B' (aL M (bb E L) (q.hpOf x)):=
  ⟨hE2.used,hE2.stab,hE2.lt',hE2.inj',hE2.blk,Keeps.refl _ _,fun h k b hx hb=> .inl ⟨h,k,ah hx,hb⟩,fun _ h=>h,fun _ h=> .inl h⟩
 have hkeysq :(q.tmOf x).map (·.1)=q.tm.map (·.1):=me _
 have hlenq :(q.tmOf x).length=q.tm.length:=by have:=congrArg List.length hkeysq;simpa using this
 have hpair0:=hpair
 simp only [jh,Bool.and_eq_true] at hpair0
 have hseqq:sR 0 (q.tmOf x)=true:=(mc (l:=q.tmOf x) (l':=q.tm) hkeysq).trans hpair0.2.2.2.2.2.2.2
 have hav2:ab (aL M (bb E L) (q.hpOf x)) ((q.tmOf x).map (·.2)) av:=ot (by rw [List.length_map,hlenq,←hlen,havl]) fun i z u hz hu=>by
  have h1:=jL hseqq i z hz
  have h2:=htm (0+i) z (ag h1)
  have:a0.tmps.getD (0+i) undef=u:=by
   show av.toArray.getD (0+i) undef=u
   rw [Nat.zero_add,Array.getD_eq_getD_getElem?]
   simp [hu]
  rw [this] at h2
  exact h2
 obtain ⟨v0,d,nx,htup,h2,hcalls⟩:=h x hwf hps
 refine (hcalls B' (aL M (bb E L) (q.hpOf x)) av hE2' rfl hav2 (fun n hn=>by have:n<M.nx:=hn;rw [hMnx] at this;exact this)).mono fun e w hh=>?_
 obtain ⟨Ec,v',rfl,hEc,rfl,hHc,hXc,hUc,k2⟩:=hh
 obtain ⟨hp0,hg0⟩:=cJ h2
 revert hg0
 generalize hy :(spec x).2=y at *
 intro hg0
 obtain ⟨a',ha'⟩ :∃ a':Act,a'.defers=[]∧dt Ec (find (jJ n v0)) a'∧(n=1→a'.tmps=#[v'])∧(n≠1→v' = .tuple a'.tmps∧a'.tmps.size=n):=by
  by_cases hn:n=1
  ·refine ⟨⟨#[v'],[]⟩,rfl,fun s v hv=>?_,fun _=>rfl,fun h=>absurd hn h⟩
   rw [hn] at hv
   have hv:find [(0,v0)] s=some v:=hv
   cases s with
   | zero=>
    have hv:some v0=some v:=hv
    cases hv
    simpa using k2
   | succ s=>
    have hv :(none:Option V)=some v:=hv
    cases hv
  ·obtain ⟨l,rfl,hl⟩:=htup hn
   simp only [aa] at k2
   obtain ⟨us,rfl,hus⟩:=k2
   have hul:=aA hus
   refine ⟨⟨us,[]⟩,rfl,fun s v hv=>?_,fun h=>absurd h hn,fun _=>⟨rfl,by rw [←hl,hul];simp⟩⟩
   have hb:Nat.beq n 1=false:=by
    cases hb:Nat.beq n 1 with
    | false=>rfl
    | true=>exact absurd (Nat.eq_of_beq_eq_true hb) hn
   unfold jJ at hv
   rw [hb] at hv
   simp only [cond_false,fW,Nat.zero_le,if_true,Nat.sub_zero] at hv
   obtain ⟨u,g1,g2⟩:=dM hus s v hv
   have:us.getD s undef=u:=by
    rw [Array.getD_eq_getD_getElem?,←Array.getElem?_toList,g1]
    rfl
   rw [this];exact g2
 obtain ⟨hd',hT',hone,hmany⟩:=ha'
 have hst:eu B' a'.tmps.size ⟨jJ n v0,d,fun _=>none,nx⟩ a' Ec.w:=⟨⟨Ec,hEc,rfl,hHc,⟨hXc,hUc⟩,hT'⟩,rfl,hd'⟩
 obtain ⟨⟨Ed,hEd,hdw,hHd,⟨hXd,hUd⟩,hTd⟩,_,_⟩:=dG hpins hg0 hp0 hst
 simp only [jh,Bool.and_eq_true,List.all_eq_true] at hpair
 obtain ⟨o8,o1,o2,o3,o4,o5,o6,o7⟩:=hpair
 simp only [Az,Bool.and_eq_true,List.all_eq_true] at hok
 obtain ⟨n1,n2⟩:=hok
 have hkeys1 :(q'.hpOf y).map (·.1)=q'.hp.map (·.1):=kc _
 have hkeys0 :(q.hpOf x).map (·.1)=q.hp.map (·.1):=kc _
 have hfl:bJ q'=false∨((q'.tm.all fun x=>zn x.2)=true∧(q'.hp.all fun x=>xw x.2)=true):=by
  cases hf:bJ q' with
  | false=>exact .inl rfl
  | true=>simp only [bJ,Bool.and_eq_true] at hf;exact .inr hf
 have hhp:=Cp (fl:=bJ q') (hl:=q'.hp.map (·.1)) (vl:=gl q'.hp) (l:=q'.hp) (r:= .unit) (gF q'.tm (dK q'.hp .unit) y).2 (List.all_eq_true.2 o2) (hfl.imp id (·.2))
 have htmv:=Dz (fl:=bJ q') (hl:=q'.hp.map (·.1)) (vl:=gl q'.hp) (l:=q'.tm) (r:=dK q'.hp .unit) y (List.all_eq_true.2 o1) (hfl.imp id (·.1))
 have vers :∀ (l:List (Nat×PB)) (z:Den (dK l .unit)) (v:Nat),v∈gl l→∃ n t xs,(n,Blk.row v true t xs)∈(bE l .unit z).1:=by
  intro l
  induction l with
  | nil=>intro z v hv;simp [gl] at hv
  | cons q0 l ih=>
   obtain ⟨n0,b0⟩:=q0
   intro z v hv
   have tl:v∈gl l→∃ n t xs,(n,Blk.row v true t xs)∈(bE ((n0,b0)::l) .unit z).1:=fun h=>by
    obtain ⟨n,t,xs,hm⟩:=ih (ir b0 (dK l .unit) z).2 v h
    exact ⟨n,t,xs,by simp only [bE];exact List.mem_cons_of_mem _ hm⟩
   cases b0 with
   | cells=>exact tl hv
   | dat=>exact tl hv
   | abs=>exact tl hv
   | row v0 t0=>
    simp only [gl,List.mem_cons] at hv
    rcases hv with rfl|hv
    ·exact ⟨n0,t0,_,by simp only [bE,ir];exact List.mem_cons_self⟩
    ·exact tl hv
 have rowsP :∀ (l:List (Nat×PB)) (z:Den (dK l .unit)) (n v:Nat) (rw:Bool) (t:Ty) (xs:List (Den t)),(n,Blk.row v rw t xs)∈(bE l .unit z).1→(n,PB.row v t)∈l:=by
  intro l
  induction l with
  | nil=>intro z n v rw t xs hm;simp [bE] at hm
  | cons q0 l ih=>
   obtain ⟨n0,b0⟩:=q0
   intro z n v rw t xs hm
   simp only [bE,List.mem_cons,Prod.mk.injEq] at hm
   rcases hm with ⟨rfl,hm⟩|hm
   ·cases b0 with
    | cells=>simp [ir] at hm
    | dat=>simp [ir] at hm
    | abs=>simp [ir] at hm
    | row v0 t0=>
     simp only [ir,Blk.row.injEq] at hm
     obtain ⟨rfl,rfl,rfl,_⟩:=hm
     exact List.mem_cons_self
   ·exact List.mem_cons_of_mem _ (ih _ _ _ _ _ _ hm)
 have hHd':Ed.H=an (fun _=>none) (q'.hpOf y):=hHd
 have hvl :∀ v,v∈gl q'.hp→∃ n t xs,find (q'.hpOf y) n=some (.row v true t xs):=fun v hv=>by
  obtain ⟨n,t,xs,hm⟩:=vers q'.hp _ v hv
  have hnd1 :((q'.hpOf y).map (·.1)).Nodup:=by
   rw [hkeys1]
   exact nodupN_iff.1 o8
  exact ⟨n,t,xs,jY hnd1 hm⟩
 obtain ⟨E',G,hv⟩:=uo (B:=B) (fl:=bJ q') hE hm hsub hnd hEd hHd' hXd (nx1:=q'.nx) hUd hKK (vl:=gl q'.hp)
  (fun n k hm'=>by
   have:=hhp n k hm'
   rw [hkeys1]
   exact this) hvl
  (fun n hn=>by
   rw [hkeys1] at hn
   rw [hkeys0]
   have:=o5 n hn
   simp only [Bool.or_eq_true] at this
   rcases this with h1|h1
   ·left;rw [hMnx];exact Nat.le_of_ble_eq_true h1
   ·right;exact memN_iff.1 h1)
  (fun n hn=>by
   rw [hkeys0] at hn
   rw [hkeys1]
   obtain ⟨z,hz1,rfl⟩:=List.mem_map.1 hn
   exact memN_iff.1 (o6 z hz1).1)
  (fun n v rw t xs hf=>by
   have:=o4 _ (rowsP q'.hp _ _ _ _ _ _ (ag hf))
   simp only [Bool.or_eq_true,Nat.blt_eq] at this
   rw [hMnx]
   exact this.imp Nat.le_of_ble_eq_true id)
  (fun n hn hz=>by
   rw [hkeys0] at hn
   obtain ⟨z,hz1,rfl⟩:=List.mem_map.1 hn
   have:=n1 z hz1
   rw [hz] at this
   exact this)
  (fun n v rw t xs hf hz=>by
   have:=n1 _ (rowsP q.hp _ _ _ _ _ _ (ag hf))
   simp only [hz] at this
   cases hh:find M.σ v with
   | none=>rfl
   | some j=>rw [hh] at this;cases this)
  (fun v v' hv hv' l1 l2 z1 z2 s1 s2 e=>by
   refine ee (nodupN_iff.1 n2) (List.mem_filter.2 ⟨hv,?_⟩) (List.mem_filter.2 ⟨hv',?_⟩) e
   ·simp [l1,z1,s1]
   ·simp [l2,z2,s2])
 rw [hdw] at G
 refine ⟨E',v',rfl,G,hv _ _ ?_ ?_⟩
 ·rw [hkeys1]
  unfold AK
  split
  ·rfl
  ·rename_i y0 r hy0
   split
   ·exact htmv y0.1 y0.2 (by show (y0.1,y0.2)∈q'.tmOf y;rw [hy0];exact List.mem_cons_self)
   ·show dz _ _ _ ((q'.tmOf y).map (·.2))=true
    have :∀ l:List (Nat×V),(∀ s v,(s,v)∈l→okV (bJ q') (q'.hp.map (·.1)) (gl q'.hp) v=true)→dz (bJ q') (q'.hp.map (·.1)) (gl q'.hp) (l.map (·.2))=true:=by
     intro l
     induction l with
     | nil=>intro _;rfl
     | cons z l ih=>intro hz;simp only [List.map_cons,dz,Bool.and_eq_true];exact ⟨hz z.1 z.2 List.mem_cons_self,ih fun s v hm=>hz s v (List.mem_cons_of_mem _ hm)⟩
    exact this _ htmv
 ·have hlen :(q'.tmOf y).length=n:=by
   have :((q'.tmOf y).map (·.1)).length =(q'.tm.map (·.1)).length:=by rw [show (q'.tmOf y).map (·.1)=q'.tm.map (·.1) from me _]
   simpa [hres] using this
  have hseq:sR 0 (q'.tmOf y)=true:=(mc (l:=q'.tmOf y) (l':=q'.tm) (me _)).trans o3
  unfold AK
  split
  ·rename_i hy0
   rw [hy0] at hlen
   obtain ⟨h5,h6⟩:=hmany (by rw [←hlen];simp)
   rw [h5]
   simp only [aa]
   refine ⟨_,rfl,?_⟩
   have:a'.tmps.toList=[]:=by
    apply List.eq_nil_of_length_eq_zero
    simp [h6,←hlen]
   rw [this];simp [ab]
  ·rename_i y0 r hy0
   split
   ·rw [hy0] at hlen
    have h5:=hone (by rw [←hlen];rfl)
    have h6:=jL hseq 0 y0.2 (by rw [hy0];rfl)
    have:=hTd (0+0) y0.2 h6
    rw [h5] at this
    simpa using this
   ·rename_i y1 r'
    rw [hy0] at hlen
    obtain ⟨h5,h6⟩:=hmany (by rw [←hlen];simp)
    rw [h5]
    simp only [aa]
    refine ⟨_,rfl,ot ?_ fun i z u hz hu=>?_⟩
    ·rw [hy0];simp only [List.length_map,Array.length_toList,h6,←hlen]
    ·have h7:=jL hseq i z hz
     have:=hTd (0+i) z h7
     rw [Nat.zero_add,Array.getD_eq_getD_getElem?,←Array.getElem?_toList,hu] at this
     exact this
def yO (q:Pat) (x:Den (tyP q)):List U:=(q.tmOf x).map fun z=>jQ (kbV z.2)
def Si (q':Pat) (ts:List Ty) (p:Nat) (r:Rf):Option (Den (tyP q')):=Rf.rec (motive:=fun _=>Option (Den (tyP q'))) (fun u hp nx=>match vM (hpH hp) ts u.toV with
 | some v0=>cA p q' ⟨jJ ts.length v0,[],fun _=>none,nx⟩
 | none=>none) (fun _ _ _=>none) (fun _=>none) r
def isD {q':Pat} (y0:Den (tyP q')) (r:Option (Den (tyP q'))):Bool:=match r with
 | some y=>eqD gn (tyP q') y y0
 | none=>false
theorem wi {E:Env} :∀ {vs:List V} {us:List Value},ab E vs us→ab E (vs.map fun v=>(jQ (kbV v)).toV) us
 | [],[],_=>by simp [ab]
 | [],_::_,h=>by simp [ab] at h
 | _::_,[],h=>by simp [ab] at h
 | _::_,_::_,h=>by simp only [List.map_cons,ab] at h ⊢;exact ⟨(Cv _).trans (kB _) _ _ h.1,wi h.2⟩
theorem qS (hcall:CallVOK P call) {f:FuncId} {Kc:Nat} {q q':Pat} (x0:Den (tyP q)) (y0:Den (tyP q')) {ts:List Ty} (hpair:jh q q'=true) (hq:q.hp=[]) (hres:q'.tm.length=ts.length)
  (hrun:isD y0 (Si q' ts q.nx (call f (yO q x0) hp0 q.nx))=true):CtrOK P Kc f (ae Kc q q' fun x=>([x=x0],y0)):=by
 cases hr:call f (yO q x0) hp0 q.nx with
 | no w=>rw [hr] at hrun;cases hrun
 | ex u hp' nx'=>rw [hr] at hrun;cases hrun
 | ok u hp' nx'=>
  rw [hr] at hrun
  have F:=hcall.ok f (yO q x0) hp0 q.nx u hp' nx' (fun x hx=>by
   unfold yO at hx
   obtain ⟨z,_,rfl⟩:=List.mem_map.1 hx
   exact kC _) Ik hr
  have hrun:isD y0 (match vM (hpH hp') ts u.toV with
   | some v0=>cA q.nx q' ⟨jJ ts.length v0,[],fun _=>none,nx'⟩
   | none=>none)=true:=hrun
  cases hpk:vM (hpH hp') ts u.toV with
  | none=>rw [hpk] at hrun;cases hrun
  | some v0=>
   rw [hpk] at hrun
   simp only at hrun
   cases hrd:cA q.nx q' ⟨jJ ts.length v0,[],fun _=>none,nx'⟩ with
   | none=>rw [hrd] at hrun;cases hrun
   | some y=>
    rw [hrd] at hrun
    have hy:y=y0:=oH gn _ y y0 hrun
    subst hy
    refine Me F.fn hpair hres fun x _ hx=>?_
    obtain rfl:x=x0:=hx _ (List.mem_singleton.2 rfl)
    have hpn:q.hpOf x=[]:=by
     have hk :(q.hpOf x).map (·.1)=q.hp.map (·.1):=kc _
     rw [hq] at hk
     exact List.map_eq_nil_iff.1 hk
    have htup:ts.length≠1→∃ l,v0 = .tup l∧l.length=ts.length:=fun hn=>by
     unfold vM at hpk
     split at hpk
     ·exact absurd rfl hn
     ·split at hpk
      case h_2=>cases hpk
      rename_i vs _
      split at hpk
      case h_2=>cases hpk
      rename_i l hl
      cases hpk
      refine ⟨l,rfl,?_⟩
      have :∀ {ts:List Ty} {vs l:List V},vN (hpH hp') ts vs=some l→l.length=ts.length:=by
       intro ts
       induction ts with
       | nil=>intro vs l h;cases vs <;> cases h;rfl
       | cons t ts ih=>
        intro vs l h
        cases vs with
        | nil=>cases h
        | cons v vs=>
         simp only [vN] at h
         split at h
         case h_2=>cases h
         split at h
         case h_2=>cases h
         rename_i r hr
         cases h
         simp [ih hr]
      exact this hl
    refine ⟨v0,[],nx',htup,hrd,fun B E av hE hH hav hU=>?_⟩
    refine (F.calls B E av hE (by rw [hH,hpn,M7];rfl) ?_ (fun n h1 _ hu=>absurd (hU n hu) (by omega))).mono fun e w' hh=>?_
    ·unfold yO
     have:=wi hav
     rw [List.map_map] at this
     rw [List.map_map]
     exact this
    ·obtain ⟨E',v',rfl,C⟩:=hh
     obtain ⟨R2,X2⟩:=FR C.rel
     refine ⟨rG E',v',rfl,R2,C.w,rfl,C.ext.trans X2,fun n hn=>?_,?_⟩
     ·have hle:=F.le
      rcases C.u n hn with h|h
      ·have:=hU n h;omega
      ·exact h.2
     ·rw [←C.h] at hpk
      exact (AN C.rel hpk C.v).1
theorem Ea {g Kc:Nat} {ct:Ctr} (hc:CtrOK P Kc g ct) {us:List U} {v:V} {u:U} (hct :∀ H m,∃ ps,ct (us.map U.toV) H m=some (ps,v,[])∧∀ p∈ps,p) (hu:VLe v u.toV) (hw:u.wf) {hp:HP} {nx:Nat} (W:hpW hp):FnV P g us hp nx u hp (nx+Kc):=
 ⟨hc.fn,Nat.le_add_right _ _,hw,W,fun B E av hE hH hav hfr=>by
  obtain ⟨ps,h1,h2⟩:=hct E.H nx
  refine (hc.calls B E hE _ av hav nx hfr ps v [] h1 h2).mono fun e w' hh=>?_
  obtain ⟨E',v',rfl,G,hv⟩:=hh
  exact ⟨E',v',rfl,⟨G.rel,G.w,by rw [G.h,la,hH],G.ext,G.u,hu _ _ hv⟩⟩⟩
abbrev yG:=FuncId→Option (List U→Option (U×Nat))
def mo (n:Nat) :(Nat→Rf)→Rf:=Nat.rec (motive:=fun _=>(Nat→Rf)→Rf) (fun k=>k 0) (fun n _ k=>k (Nat.succ n)) n
theorem Ey (n:Nat) (k:Nat→Rf):mo n k=k n:=by cases n <;> rfl
def Ii (Kf:Nat→Rf) (r:Rf):Option (U×Nat)→HP→Nat→Rf:=fun o hp nx=>Option.rec (motive:=fun _=>Rf) r (fun q=>Prod.rec (motive:=fun _=>Rf) (fun u k=>mo (Nat.add nx k) fun nx=> .ok u hp nx) q) o
def HI (tb:Tbl) (P:FuncId→Option Func) (X:wu) (KK:FuncId→Nat) (Hk:yG) (f:FuncId):Fc:=Option.rec (motive:=fun _=>Fc) (qj tb P X KK f) (fun hk=>⟨fun call args hp nx=>Ii (fun _=> .no []) (Fc.run (qj tb P X KK f) call args hp nx) (hk args) hp nx⟩) (Hk f)
def qP (tb:Tbl) (P:FuncId→Option Func) (X:wu) (KK:FuncId→Nat) (Hk:yG) (d:Nat):eD:=Nat.rec (motive:=fun _=>eD) (fun _ _ _ _=> .no [11]) (fun _ ih f args hp nx=>Fc.run (HI tb P X KK Hk f) ih args hp nx) d
def Qv (P:Program) (Hk:yG):Prop:=∀ g hk,Hk g=some hk→∀ args q hp nx,(∀ x∈args,U.wf x)→hpW hp→hk args=some q→FnV P g args hp nx q.1 hp (nx+q.2)
theorem Lj (hT:aO P tb) (hP:P.follows .mixedOrders=true) (hname :∀ (f:FuncId) (fn:Func),P.funcs[f]?=some fn→(fn.name == "runtime.NumGoroutine")=false) {Pf:FuncId→Option Func} (hPf :∀ (f:FuncId) (fn:Func),Pf f=some fn→P.funcs[f]?=some fn) {X:wu} (hX:XOK P X) (KK:FuncId→Nat) (ih:CallVOK P call) :
  CallVOK P fun g args hp nx=>Fc.run (qj tb Pf X KK g) call args hp nx:=by
 refine ⟨fun g args hp nx u hp' nx' Wa Wh h=>?_,fun g args hp nx u hp' nx' Wa h=>?_⟩
 ·unfold qj at h
  cases hx:X g with
  | some x=>
   rw [hx] at h
   have h:HH (x args) hp nx = .ok u hp' nx':=h
   cases hxa:x args with
   | none=>rw [hxa] at h;cases h
   | some u1=>rw [hxa] at h;cases h
  | none=>
   rw [hx] at h
   have h:Fc.run (Option.rec (motive:=fun _=>Fc) ⟨fun _ _ _ _=> .no [12]⟩ (xz tb (KK g)) (Pf g)) call args hp nx = .ok u hp' nx':=h
   cases hp1:Pf g with
   | none=>rw [hp1] at h;cases h
   | some fn=>
    rw [hp1] at h
    exact zo hT hP hname ih (hPf _ _ hp1) Wa Wh h
 ·unfold qj at h
  cases hx:X g with
  | some x=>
   rw [hx] at h
   have h:HH (x args) hp nx = .ex u hp' nx':=h
   cases hxa:x args with
   | none=>rw [hxa] at h;cases h
   | some u1=>
    rw [hxa] at h
    cases h
    obtain ⟨h1,h2⟩:=hX g x hx args u Wa hxa
    exact ⟨rfl,rfl,h1,h2⟩
  | none=>
   rw [hx] at h
   have h:Fc.run (Option.rec (motive:=fun _=>Fc) ⟨fun _ _ _ _=> .no [12]⟩ (xz tb (KK g)) (Pf g)) call args hp nx = .ex u hp' nx':=h
   cases hp1:Pf g with
   | none=>rw [hp1] at h;cases h
   | some fn=>rw [hp1] at h;exact (D1 h).elim
theorem yS (hT:aO P tb) (hP:P.follows .mixedOrders=true) (hname :∀ (f:FuncId) (fn:Func),P.funcs[f]?=some fn→(fn.name == "runtime.NumGoroutine")=false) {Pf:FuncId→Option Func} (hPf :∀ (f:FuncId) (fn:Func),Pf f=some fn→P.funcs[f]?=some fn) {X:wu} (hX:XOK P X) (KK:FuncId→Nat) {Hk:yG} (hH:Qv P Hk) :∀ d,CallVOK P (qP tb Pf X KK Hk d)
 | 0=>⟨fun g args hp nx u hp' nx' _ _ h=>(by cases h),fun g args hp nx u hp' nx' _ h=>(by cases h)⟩
 | d+1=>by
  have ih:=yS hT hP hname hPf hX KK hH d
  have ic:=Lj hT hP hname hPf hX KK ih
  refine ⟨fun g args hp nx u hp' nx' Wa Wh h=>?_,fun g args hp nx u hp' nx' Wa h=>?_⟩
  ·have h:Fc.run (HI tb Pf X KK Hk g) (qP tb Pf X KK Hk d) args hp nx = .ok u hp' nx':=h
   unfold HI at h
   cases hx:Hk g with
   | none=>rw [hx] at h;exact ic.ok g args hp nx u hp' nx' Wa Wh h
   | some hk=>
    rw [hx] at h
    have h:Ii (fun _=> .no []) (Fc.run (qj tb Pf X KK g) (qP tb Pf X KK Hk d) args hp nx) (hk args) hp nx = .ok u hp' nx':=h
    cases hq:hk args with
    | none=>rw [hq] at h;exact ic.ok g args hp nx u hp' nx' Wa Wh h
    | some q=>
     rw [hq] at h
     have h:mo (nx+q.2) (fun nx=> .ok q.1 hp nx) = .ok u hp' nx':=h
     rw [Ey] at h
     cases h
     exact hH g hk hx args q _ nx Wa Wh hq
  ·have h:Fc.run (HI tb Pf X KK Hk g) (qP tb Pf X KK Hk d) args hp nx = .ex u hp' nx':=h
   unfold HI at h
   cases hx:Hk g with
   | none=>rw [hx] at h;exact ic.ex g args hp nx u hp' nx' Wa h
   | some hk=>
    rw [hx] at h
    have h:Ii (fun _=> .no []) (Fc.run (qj tb Pf X KK g) (qP tb Pf X KK Hk d) args hp nx) (hk args) hp nx = .ex u hp' nx':=h
    cases hq:hk args with
    | none=>rw [hq] at h;exact ic.ex g args hp nx u hp' nx' Wa h
    | some q=>
     rw [hq] at h
     have h:mo (nx+q.2) (fun nx=> .ok q.1 hp nx) = .ex u hp' nx':=h
     rw [Ey] at h
     cases h
end
end Go.Mir
namespace Go.Proofs.YtffdpnmioidloaaGreatDoor
open Go Go.Mir Go.RowKit
noncomputable def N0:List Nat:= [
 0,0,0,5368710655,36028522149442547,5368710653,4415226381821,1527,1527,18014398580791287,54975854010319,140720310845503,1032940127599,
 9223264285382124223,47301970752111457256778715619071745507284655,268435677,2207680827519,342961754377944325198902640958314186751,
 1569419104573232187173592783605487638321880253905708777469,69206271,146477,1106874459013247391197,442722209871163882461,
 151115727451828646850589,33518643,633980042618954450908787834813,5,618970010428591257176961527,316853431581361610345484644855,1074250695,
 480381044530407671,120093090446862583,33624375,2787604209658536138125601562096699283598344183,4202461,33518643,15927415,1,31039,2175,80941,
 160053247034850358852287,62151,43663,5,5,66037,37463,21,1005,554067624221,7,2787591820912781336787614706022950608412659,19,19,132127,
 33518643,16909343,1074250695,1074250695,33518643,101191923,4210141,33789,19,504373101,5,288239182042702077,307,147,16381,5,1048701,
 536875975,2478602523605874885703778247,17205069072303483745460431797280757845121363959,432600376175263735,135333885,590293562956938354615,
 21299455823972908768697484916704673631,15647962890497478761257512869494775,154653373227835051981125359370231,135858109,270003,
 147569453388095438327,18031149959998317,2537796727798967729357673716799,56705726091603258377343,33624247,
 524050826953046096848959272722126231045247,584132333839,100215,75,41619509458458402374926480527327247,2308112542947344287,
 157734642905710068991,7,7,262719,575408255,206561870351,5,277033812445,138351151751817639347,16885,19,1,17823899,19,1074668531,21,
 33773,1141361790201615,403,68531,65875,787475,2361651,4311876109,141837033562243,524481,50467315,28994152961910681312403245,65805,
 393671,567637910811613,34871,17247504839,287,751,1125899906781167,543,68531,15,68531,31,2111,67791,1267766971744237,537982711,7,
 550831686637,17247504839,33271,287,18154794255615,1157496576784466559,36296793806975,2111,67791,2436141435116378390535,181815,5,
 583228246103949343,730729220306227659762194183914400919200083747103,2436141435116378390535,264499,93,5,2203355973565,7,18013866068819231,
 549823021095,5,623371976811471490270839,21,5,4193923,255,17188391667,19,8804716774131,285246067,19,3091,67635213,0,275,1030960988221,
 13229874735489527,19,17714647155,594912002450663878599,17247509535,41461,7,1074266623,41461,554189343,537427959,7,30767,
 10680565413657634966791598749211705311,1748372298083039162489419473994526981374079,613909102082408237765055,23,4611685889574277119,
 9690297247829818509099023,29,7,21,71,17661509535773,71,71,71,19,34359873459,69868716031,2097139,21,141,
 3288334866514706593133645328825960668421405409267,20426029832823244530989399071,0,85,1037,0,702345484717335833347805173187876055236595,147,
 8467,65811,66109,4243,33171,262771,201458291,749019592093908130998168547243858079179057434181575,2035,2035,711,711,21,
 5574585500266620241506278819022995797836279,45798598826349314118952776107391,30767,1166414994787599451,30468223768147948836066781331485,7,
 35184338929599,313835791421,189,71,5,72110370594031615,10625322633999130018815,270007,2658455675924155280183567316963852351,71,17314119695,
 68531,526359,5,0,5,540949,13,5,5,167646794486930362006707544072189,0,5,152001198347852507514867,1043,19,19,281518060864637,5,
 3259340307738458011409318461,77,5,5,39696297806334883182330020991,147511,545799231,189,71,16403,8388487,5,37742254529999670338043,
 4718529,18330886059069691,270007,166153420561695367707252321293500543,7,101442647862428755572662893270609959105484889768075967,147511,16527,
 30791694323487,72268425669383167,7,21,21,1107366397,15663183425078192791428758033914457634011265410594242675,5,5,71,
 9942831655231632527697442807,17041395,89478431,8191,21,21,21,281473366116127,8380695,4726978173286391744511,39,1125899890069523,71,
 1137188723,290623467576168319,9175,145025710296123410904321674198368924715718399,18272502847,1037,19,5,7,5233021378056568784808409033611007,
 18272502847,15,67650767,66015,669319516925162926939791635824639,8311,8396919,577588028814460111,134199,17318199,2276601635023,33882175,
 176160575,153157571569583935,39,526271,68531,19,5,4393886845391,132063,2502854235920920419110911,16631,16793847,20268951531555279,
 268407,34636407,18212808952271,67764351,264703,4327551,2449471999,19221507316027580516863,39,526271,151,180457415182559,1069614111,
 5465788277392579832897814308109687003511,4434693189791,18281528828543,72057680004915423,7,8406071,151,16535,31,68531,8388487,7,151,
 8388487,739154422722068959,9663669631,148638630510879231,72057680004907231,4047,8406071,65795,8388487,151,279,31,151,34357774559,34771,
 34082647,61,538972275,5,5,151,34357772511,4278323263,4434693189791,34082647,0,0,0,0,0,0,0,0,0,0,0,0,0,0,0,0,0,0,0,0,0,
 0,0,0,0,0,0,0,0,8]
noncomputable def awK (f:FuncId):Nat:=(N0[f]?).getD 0
noncomputable def awX:wu:=fun f=>Bool.rec (motive:=fun _=>Option (List U→Option U)) none (some ixB) (Nat.beq f 214)
noncomputable def awP (f:FuncId):Option Func:=Tryz.prog.funcs[f]?
theorem DL:Ev Tryz.prog=true:=by kernel_rfl
theorem QE:aO Tryz.prog (GJ tbl):=MI Kt
theorem MV:XOK Tryz.prog awX:=fun g x hx args u _ h=>by
 have hx :(Bool.rec (motive:=fun _=>Option (List U→Option U)) none (some ixB) (Nat.beq g 214):Option (List U→Option U))=some x:=hx
 cases hb:Nat.beq g 214 with
 | false=>rw [hb] at hx;cases hx
 | true=>
  rw [hb] at hx
  cases hx
  obtain rfl:=aw hb
  exact OM Tryz.func214 (by kernel_rfl) (by kernel_rfl) (by kernel_rfl) (by kernel_rfl) h
theorem G6 (d:Nat):CallVOK Tryz.prog (uq (GJ tbl) awP awX awK d):=yT QE mixed (Ap DL) (fun _ _ h=>h) MV awK d
end Go.Proofs.YtffdpnmioidloaaGreatDoor
namespace Go.Proofs.YtffdpnmioidloaaGreatDoor
open Go Go.Mir Go.RowKit
abbrev tEx:Ty:= .slice (.nm .Event)
abbrev tPx:Ty:= .slice (.nm .Delivered)
abbrev tI6:Ty:= .int .i64
def exR:Rules:={ Rules.zero with Name:=⟨#[84,69,83,84]⟩,Side:=2,Innings:=1,Overs:=1,Balls:=4,Wide:=1,NoBall:=1,Outside:=11 }
def exL:List Mir.Event:= [⟨1,1,0,0,true,0,0,⟨0,0,0,0,0,false,0,0,0,0,false,0⟩⟩,⟨2,0,1,2,false,0,0,⟨0,0,0,0,0,false,0,0,0,0,false,0⟩⟩,⟨8,0,2,0,false,0,0,⟨0,0,0,0,0,false,0,0,0,0,false,0⟩⟩,⟨3,0,1,0,false,0,0,⟨0,0,0,0,0,false,0,0,0,0,false,0⟩⟩,⟨4,0,0,0,false,0,0,⟨1,1,1,0,0,false,0,0,0,0,false,0⟩⟩,⟨4,0,0,0,false,0,0,⟨1,0,0,0,0,false,1,1,0,0,false,0⟩⟩,⟨2,0,2,1,false,0,0,⟨0,0,0,0,0,false,0,0,0,0,false,0⟩⟩,⟨8,0,1,0,false,0,0,⟨0,0,0,0,0,false,0,0,0,0,false,0⟩⟩,⟨3,0,2,0,false,0,0,⟨0,0,0,0,0,false,0,0,0,0,false,0⟩⟩,⟨4,0,0,0,false,0,0,⟨2,0,0,0,0,false,0,0,0,0,false,0⟩⟩,⟨4,0,0,0,false,0,0,⟨1,1,0,0,4,false,0,0,0,0,false,0⟩⟩]
abbrev Px:Pat:=cW []
abbrev JL:Pat:=cW [tEx]
abbrev Sg:List PC0:= [.h .str,.h tI6,.h tI6,.h tI6,.h tI6,.h tI6,.h tI6,.h tI6,.h .bool,.h tI6,.h tI6,.h tI6,.h tI6,.c .nilsl]
abbrev ya:Pat:=⟨[(0,.a Sg),(1,.h tEx)],[],0⟩
def pA:Den (tyP ya):=(exR.Name,exR.Side,exR.Innings,exR.Overs,exR.Balls,exR.Quota,exR.Wide,exR.NoBall,exR.FreeHit,exR.NewBall,exR.FollowOn,exR.Reviews,exR.Outside,exL,())
abbrev q2Play0:Pat:=cW [tPx,.nm .Match,tI6,tI6]
theorem Pk:CtrOK Tryz.prog KE 38 (ae KE Px JL fun x=>([x =()],(exL,()))):=
 qS (q:=Px) (q':=JL) (G6 10) () (exL,()) (ts:= [tEx]) rfl rfl rfl (by kernel_rfl)
def exP:List Delivered:= [⟨4,0,0,0,1,1,2,false,⟨1,1,1,0,0,false,0,0,0,0,false,0⟩,⟨1,0,0,0,0,1,true,true,false,true⟩,1,0⟩,⟨5,0,0,1,1,2,1,false,⟨1,0,0,0,0,false,1,1,0,0,false,0⟩,⟨0,0,0,0,0,0,true,true,true,false⟩,1,1⟩,⟨9,1,0,0,2,2,1,false,⟨2,0,0,0,0,false,0,0,0,0,false,0⟩,⟨0,1,0,0,0,1,false,false,false,false⟩,1,0⟩,⟨10,1,0,0,2,2,1,false,⟨1,1,0,0,4,false,0,0,0,0,false,0⟩,⟨4,0,0,0,0,4,true,true,false,false⟩,5,0⟩]
def exM:Match:=⟨exR,5,1,false,[⟨1,0,1,1,1,⟨0,0,0,0,0⟩,0,2,0,1,[1,2],1,[1],[],true,[2,0],false,2,2,0,[false,false],(0,0,()),1⟩,⟨2,2,1,5,0,⟨1,0,0,0,0⟩,0,1,2,1,[1,1],2,[2],[],true,[0,1],false,1,1,0,[false,false],(0,0,()),3⟩],(0,0,()),⟨2,2,1⟩⟩
def tz:Den (tyP q2Play0):=(exP,exM,(-1:Int),(0:Int),())
theorem LW:CtrOK Tryz.prog KE 76 (ae KE ya q2Play0 fun x=>([x=pA],tz)):=
 qS (G6 40) pA tz (ts:= [tPx,.nm .Match,tI6,tI6]) rfl rfl rfl (by kernel_rfl)
end Go.Proofs.YtffdpnmioidloaaGreatDoor
namespace Go.Proofs.YtffdpnmioidloaaGreatDoor
open Go Go.Mir Go.RowKit
def KG:V:= .fsl (.nm .Event) exL
noncomputable def RW:U:= .oth KG
def Fe:V:=AK (q2Play0.tmOf tz)
noncomputable def RY:U:=jQ (kbV Fe)
def GV:V:= .agg [.str exR.Name,.int .i64 2,.int .i64 1,.int .i64 1,.int .i64 4,.int .i64 0,.int .i64 1,.int .i64 1,.kb false,.int .i64 0,.int .i64 0,.int .i64 0,.int .i64 11,.nilsl]
def Eg (v:V):Bool:=match v with
 | .fsl t xs=>if h:t = .nm .Event then Cb (eqD gn (.nm .Event)) (h▸xs:List (Den (.nm .Event))) exL else false
 | _=>false
theorem Iq {v:V} (h:Eg v=true):v=KG:=by
 unfold Eg at h
 split at h
 ·split at h
  ·rename_i e
   subst e
   have:=xb (oH gn _) h
   unfold KG
   exact congrArg _ this
  ·cases h
 ·cases h
noncomputable def Ie (args:List U):Option (U×Nat):=match args with
 | []=>some (RW,KE)
 | _=>none
noncomputable def Co (args:List U):Option (U×Nat):=match args with
 | [a,b]=>Bool.rec (motive:=fun _=>Option (U×Nat)) none (Bool.rec (motive:=fun _=>Option (U×Nat)) none (some (RY,KE)) (Eg b.toV)) (V.eqb a.toV GV)
 | _=>none
noncomputable def Ou:yG:=fun f=>Bool.rec (motive:=fun _=>Option (List U→Option (U×Nat))) (Bool.rec (motive:=fun _=>Option (List U→Option (U×Nat))) none (some Co) (Nat.beq f 76)) (some Ie) (Nat.beq f 38)
theorem OA (H:aq) (m:Nat) :∃ ps,ae KE Px JL (fun x=>([x =()],(exL,()))) [] H m=some (ps,KG,[])∧∀ p∈ps,p:=
 ⟨[() =()],by kernel_rfl,fun p hp=>by rw [List.mem_singleton.1 hp]⟩
theorem Lr (H:aq) (m:Nat) :∃ ps,ae KE ya q2Play0 (fun x=>([x=pA],tz)) [GV,KG] H m=some (ps,Fe,[])∧∀ p∈ps,p:=
 ⟨[pA=pA],by kernel_rfl,fun p hp=>by rw [List.mem_singleton.1 hp]⟩
theorem Ov:Qv Tryz.prog Ou:=fun g hk h args q hp nx _ W hq=>by
 have h :(Bool.rec (motive:=fun _=>Option (List U→Option (U×Nat))) (Bool.rec (motive:=fun _=>Option (List U→Option (U×Nat))) none (some Co) (Nat.beq g 76)) (some Ie) (Nat.beq g 38))=some hk:=h
 cases h1:Nat.beq g 38 with
 | true=>
  rw [h1] at h
  cases h
  obtain rfl:=aw h1
  unfold Ie at hq
  split at hq
  ·cases hq
   exact Ea Pk (us:= []) (u:=RW) OA (VLe.refl _) trivial W
  ·cases hq
 | false=>
  rw [h1] at h
  cases h2:Nat.beq g 76 with
  | false=>rw [h2] at h;cases h
  | true=>
   rw [h2] at h
   cases h
   obtain rfl:=aw h2
   unfold Co at hq
   split at hq
   ·rename_i a b _
    cases h3:V.eqb a.toV GV with
    | false=>rw [h3] at hq;cases hq
    | true=>
     rw [h3] at hq
     cases h4:Eg b.toV with
     | false=>rw [h4] at hq;cases hq
     | true=>
      rw [h4] at hq
      cases hq
      refine Ea LW (us:= [a,b]) (v:=Fe) (fun H m=>?_) ((Cv _).trans (kB _)) (kC _) W
      show ∃ ps,ae KE ya q2Play0 (fun x=>([x=pA],tz)) [a.toV,b.toV] H m=some (ps,Fe,[])∧∀ p∈ps,p
      rw [V.eqb_eq _ _ h3,Iq h4]
      exact Lr H m
   ·cases hq
theorem Ot (d:Nat):CallVOK Tryz.prog (qP (GJ tbl) awP awX awK Ou d):=yS QE mixed (Ap DL) (fun _ _ h=>h) MV awK Ov d
end Go.Proofs.YtffdpnmioidloaaGreatDoor
namespace Go.Proofs.YtffdpnmioidloaaGreatDoor
open Go Go.Mir Go.RowKit
def vo:FuncId×Ctr:=(19,bC KE .unit fun _=>⟨[],.bool true,[]⟩)
theorem Sb:Re true (qP (GJ tbl) awP awX awK Ou 40 19 [] hp0 0)=true:=by kernel_rfl
theorem CL:CtrOK Tryz.prog KE 19 (bC KE .unit fun _=>⟨[],.bool true,[]⟩):=B5 (Ot 40) Sb
end Go.Proofs.YtffdpnmioidloaaGreatDoor
namespace Go.Proofs.YtffdpnmioidloaaGreatDoor
open Go Go.Mir Go.RowKit
attribute [local irreducible] Go.Mir.DT.sat Go.Mir.evPat Go.Mir.RT.sat Go.Mir.evFn
def sP:Den (tyP qPn)→List Prop×Den (tyP AX):=fun x=>([x.1.size≤20000],((bW x.1).1,(bW x.1).2,()))
abbrev qR2:Pat:=cW [RwsL,RwsL]
def Oo:List Mir.Row→List Mir.Row→Prop:=fun a b=>a=b
def PM:Den (tyP qR2)→List Prop×Den (tyP nj):=fun x=>([Oo x.1 x.2.1],(true,()))
abbrev qEr:Pat:=⟨[(0,.h RwsL),(1,.h RwsL),(12,.h I),(13,.h I)],[],0⟩
abbrev xEr:List (Lf×Pat):= [(.ret,⟨[(4,.h .bool)],[],0⟩),(.ext 0,⟨[],[],0⟩)]
abbrev TEr:Type:=List Mir.Row×List Mir.Row×Int×Int×Unit
def uL (x:TEr):Prop:=x.2.2.1 =(x.1.length:Int)∧x.1=x.2.1∧0≤x.2.2.2.1∧x.2.2.2.1≤x.2.2.1∧x.1.length≤ai
def I0 (x:TEr):Nat:=(x.2.2.1 - x.2.2.2.1).toNat
def p9 (_:TEr):Sum (Bool×Unit) Unit:= .inr ()
def RH:Den (tyP qPn)→List Prop×Den (tyP nj):=fun _=>([],(true,()))
theorem JZ {l:List ByteArray} {r:Mir.Row} (h:kK l=some r):r.Symbol=l.getD 6 ByteArray.empty∧l.length=9:=by
 unfold kK at h
 split at h
 ·rename_i hl
  cases hf:jj l 0 with
  | none=>rw [hf] at h;cases h
  | some a=>rw [hf] at h;cases h;exact ⟨rfl,hl⟩
 ·cases h
theorem A6 :∀ (L:List ByteArray) (v:List Mir.Row),(∀ x∈L,x.size≤20000)→fA L=some v→v.length=L.length∧MH v
 | [],v,_,h=>by cases h;exact ⟨rfl,fun r hr=>by cases hr⟩
 | x::L,v,hL,h=>by
  have h :(kK (bj x 32)).bind (fun r=>(fA L).map (r::·))=some v:=h
  cases hT:kK (bj x 32) with
  | none=>rw [hT] at h;cases h
  | some r=>
   rw [hT,Option.bind_some] at h
   cases hR:fA L with
   | none=>rw [hR] at h;cases h
   | some u=>
    rw [hR] at h;cases h
    obtain ⟨i1,i2⟩:=A6 L u (fun y hy=>hL y (List.mem_cons_of_mem _ hy)) hR
    refine ⟨by rw [List.length_cons,List.length_cons,i1],fun q hq=>?_⟩
    rcases List.mem_cons.1 hq with rfl|hq
    ·obtain ⟨g1,g2⟩:=JZ hT
     have hx:=hL x List.mem_cons_self
     have hc:=(lK x 32).2
     rw [g1]
     have :(bj x 32).getD 6 ByteArray.empty∈bj x 32:=by
      rw [List.getD_eq_getElem?_getD,List.getElem?_eq_getElem (by omega)]
      exact List.getElem_mem _
     have:=hc _ this
     omega
    ·exact i2 q hq
theorem Bg (s:ByteArray) (hs:s.size≤20000) :(evPat (ax [oU,zS] Tryz.f25) (find [(Nn,NJ)]) Tryz.f25 qPn AX (s,())).sat fun z_=>z_ =(sP (s,())).2:=by
 refine cast (by kernel_rfl) (?_:let r1:Int:=(↑(bj s (UInt8.ofNat (Int.toNat (10:Int)))).length:Int);let r2:Int:=IntKind.i64.wrap (r1 - (1:Int));let r3:List ByteArray:=List.drop (Int.toNat (0:Int)) (List.take r2.toNat (bj s (UInt8.ofNat (Int.toNat (10:Int)))));let r4:Int:=(↑r3.length:Int);let r5:Bool:=isL (jH (s,r3,r4,(0:Int),[],()));let r6:ByteArray×List Mir.Row×PUnit:=oQ (dflt (Ty.str.prod ((Ty.nm Nm.Row).slice.prod Ty.unit))) (jH (s,r3,r4,(0:Int),[],()));let r7:ByteArray×Int:=bm r6.2.1;let r8:Bool:=bif r7.2 !=(0:Int) then true else !r7.1.toList==r6.1.toList;s.size≤(1000000:Nat)∧((0:Int)≤(0:Int)∧(0:Int)≤r2∧r2≤r1)∧((ij fun x=>none)∧(r4 =(↑r3.length:Int)∧IM r3)∧((0:Int)≤(0:Int)∧(0:Int)≤r4)∧(↑(0:Nat):Int)≤(0:Int))∧(r5=true→qI r6.2.1∧(r8=true→([],(4:Int),()) =((bW s).1,(bW s).2,()))∧(r8=false→(r6.2.1,(0:Int),()) =((bW s).1,(bW s).2,())))∧(r5=false→([],qk (dflt (I.prod Ty.unit)) (jH (s,r3,r4,(0:Int),[],()))) =((bW s).1,(bW s).2,())))
 intro r1 r2 r3 r4 r5 r6 r7 r8
 clear_value (hr1:r1=_) (hr2:r2=_) (hr3:r3=_) (hr4:r4=_) (hr5:r5=_) (hr6:r6=_) (hr7:r7=_) (hr8:r8=_)
 have hc:=lK s 10
 have hc0:=Hr s 10
 have e1:r1 =((bj s 10).length:Int):=hr1
 have e2:r2=r1 - 1:=by rw [hr2];exact wrap64 (by omega) (by omega)
 have e3:r3 =(bj s 10).dropLast:=by
  rw [hr3,List.dropLast_eq_take]
  show (bj s 10).take r2.toNat=_
  congr 1
  omega
 have hl3:r3.length =(bj s 10).length - 1:=by rw [e3,List.length_dropLast]
 have hx3 :∀ x∈r3,x.size≤20000:=fun x hx=>by
  rw [e3] at hx
  exact Nat.le_trans (hc.2 x (List.dropLast_subset _ hx)) hs
 have er:jH (s,r3,r4,0,[],())=sw s [] (fA r3):=rfl
 have eP:bW s=qZ s (fA r3):=by rw [e3];rfl
 rw [er] at hr5 hr6 ⊢
 rw [eP]
 refine ⟨Nat.le_trans hs (by decide),⟨Int.le_refl _,by omega,by omega⟩,⟨rfl,⟨hr4,⟨by omega,hx3⟩⟩,⟨Int.le_refl _,by omega⟩,Int.le_refl _⟩,fun h5=>?_,fun h5=>?_⟩
 ·cases hF:fA r3 with
  | none=>rw [hr5,hF] at h5;exact Bool.noConfusion h5
  | some b=>
   obtain ⟨g1,g2⟩:=A6 _ _ hx3 hF
   have e6:r6 =(s,b,()):=by rw [hr6,hF];rfl
   have e8:r8 =((bm b).2 != 0 ||(bm b).1.toList != s.toList):=by
    rw [hr8,hr7,e6]
    cases (bm b).2 != 0 <;> rfl
   have eO:qZ s (some b)=if r8=true then ([],4) else (b,0):=by rw [e8];rfl
   rw [eO,e6]
   refine ⟨⟨?_,g2⟩,fun h8=>?_,fun h8=>?_⟩
   ·show b.length≤20100;omega
   ·rw [if_pos h8]
   ·rw [if_neg (by rw [h8];decide)]
 ·cases hF:fA r3 with
  | some b=>rw [hr5,hF] at h5;exact Bool.noConfusion h5
  | none=>rfl
def vi:FuncId×Ctr:=(25,ae KE qPn AX sP)
theorem CH:CtrOK Tryz.prog KE 25 (ae KE qPn AX sP):=by
 refine aE (C:=ax [oU,zS] Tryz.f25) (au (.consU sq rfl (.consU Gd rfl .nil)) _) mixed (fn:=Tryz.f25) Tryz.func25 (by kernel_rfl) (by kernel_rfl) (by kernel_rfl) (by kernel_rfl) (by kernel_rfl) (by kernel_rfl) (Λ:=fun x=>find [(Nn,NJ)]) ?_ ?_
 ·rintro ⟨s,⟨⟩⟩ hw hn
  exact LoopsOKp.at (by kernel_rfl) (.cons (by kernel_rfl) (OY) .nil)
 ·rintro ⟨s,⟨⟩⟩ hw hn
  exact Bg s (hn _ List.mem_cons_self)
noncomputable def lpEr:Lp:=(⟨0,ax [] Tryz.f24,(fun _=>none),(bf Tryz.f24 0),qEr,xEr⟩:Lp)
theorem PW (xs:List Mir.Row) (zs:List Mir.Row) (n:Int) (i:Int) (hi:uL (xs,zs,n,i,())) :(Go.Mir.stepG lpEr p9 (fun y:Den (tyP lpEr.q)=>uL y∧I0 y<I0 (xs,zs,n,i,())) (xs,zs,n,i,())∧Go.Mir.stepE lpEr p9 (xs,zs,n,i,())=p9 (xs,zs,n,i,())):=by
 refine cast (by kernel_rfl) (?_:let r1:Bool:=!((xs.getD i.toNat (dflt (Ty.nm Nm.Row))).1 ==(zs.getD i.toNat (dflt (Ty.nm Nm.Row))).1&&((xs.getD i.toNat (dflt (Ty.nm Nm.Row))).2 ==(zs.getD i.toNat (dflt (Ty.nm Nm.Row))).2&&((xs.getD i.toNat (dflt (Ty.nm Nm.Row))).3 ==(zs.getD i.toNat (dflt (Ty.nm Nm.Row))).3&&((xs.getD i.toNat (dflt (Ty.nm Nm.Row))).4 ==(zs.getD i.toNat (dflt (Ty.nm Nm.Row))).4&&((xs.getD i.toNat (dflt (Ty.nm Nm.Row))).5 ==(zs.getD i.toNat (dflt (Ty.nm Nm.Row))).5&&((xs.getD i.toNat (dflt (Ty.nm Nm.Row))).6 ==(zs.getD i.toNat (dflt (Ty.nm Nm.Row))).6&&((xs.getD i.toNat (dflt (Ty.nm Nm.Row))).7.toList ==(zs.getD i.toNat (dflt (Ty.nm Nm.Row))).7.toList&&((xs.getD i.toNat (dflt (Ty.nm Nm.Row))).8 ==(zs.getD i.toNat (dflt (Ty.nm Nm.Row))).8&&((xs.getD i.toNat (dflt (Ty.nm Nm.Row))).9 ==(zs.getD i.toNat (dflt (Ty.nm Nm.Row))).9&&true)))))))));((decide (i<n)=true→((0:Int)≤i∧i <(↑xs.length:Int))∧((0:Int)≤i∧i <(↑zs.length:Int))∧(r1=true→True)∧(r1=false→uL (xs,zs,n,IntKind.i64.wrap (i +(1:Int)),())∧I0 (xs,zs,n,IntKind.i64.wrap (i +(1:Int)),())<I0 (xs,zs,n,i,())))∧(decide (i<n)=false→True))∧(bif decide (i<n) then bif r1 then Sum.inl (false,()) else p9 (xs,zs,n,IntKind.i64.wrap (i +(1:Int)),()) else Sum.inr ())=p9 (xs,zs,n,i,()))
 intro r1
 clear_value (hr1:r1=_)
 obtain ⟨h1,h2,h3,h4,h5⟩:=hi
 have h1:n =(xs.length:Int):=h1
 have h2:xs=zs:=h2
 subst h2
 have h3:0≤i:=h3
 have h4:i≤n:=h4
 have h5:xs.length≤140737488355328:=h5
 have e1:r1=false:=by rw [hr1];simp
 by_cases h:i<n
 ·have ew:IntKind.i64.wrap (i+1)=i+1:=wrap64 (by omega) (by omega)
  rw [decide_eq_true h,ew,e1]
  refine ⟨⟨fun _=>⟨⟨h3,by omega⟩,⟨h3,by omega⟩,fun z=>Bool.noConfusion z,fun _=>⟨⟨h1,rfl,?_,?_,h5⟩,?_⟩⟩,fun z=>Bool.noConfusion z⟩,rfl⟩
  ·show 0≤i+1;omega
  ·show i+1≤n;omega
  ·show (n - (i+1)).toNat <(n - i).toNat;omega
 ·rw [decide_eq_false h]
  exact ⟨⟨fun z=>Bool.noConfusion z,fun _=>trivial⟩,rfl⟩
noncomputable def ND:LoopSum:=az lpEr p9 uL
noncomputable def Nh:Nat:=rid (bf Tryz.f24 0)
theorem OR:LoopOKp Tryz.prog 0 Tryz.f24.ntmps (bf Tryz.f24 0) (az lpEr p9 uL):=
 aY lpEr (au (CtrsOK.nil) _) mixed (fun b hb S hS=>by cases hS) p9 uL I0 (fun |⟨xs,zs,n,i,⟨⟩⟩,hi=>PW xs zs n i hi)
theorem J1 (xs:List Mir.Row) (zs:List Mir.Row) (he:Oo xs zs) (hx:xs.length≤ai) :(evPat (ax [] Tryz.f24) (find [(Nh,ND)]) Tryz.f24 qR2 nj (xs,zs,())).sat fun z_=>z_ =(PM (xs,zs,())).2:=by
 refine cast (by kernel_rfl) (?_:let r1:Bool:=(↑xs.length:Int) !=(↑zs.length:Int);(r1=true→(false,()) =(true,()))∧(r1=false→((ij fun x=>none)∧(↑xs.length:Int) =(↑xs.length:Int)∧xs=zs∧(0:Int)≤(0:Int)∧(0:Int)≤(↑xs.length:Int)∧xs.length≤ai)∧(false=true→(false,()) =(true,()))∧(false=false→(true,()) =(true,()))))
 intro r1
 clear_value (hr1:r1=_)
 have he:xs=zs:=he
 have e1:r1=false:=by rw [hr1,he];simp
 exact ⟨fun h=>(by rw [e1] at h;cases h),fun _=>⟨⟨rfl,rfl,he,Int.le_refl _,by omega,hx⟩,fun h=>(by cases h),fun _=>rfl⟩⟩
def Iw:FuncId×Ctr:=(24,ae KE qR2 nj PM)
theorem LU:CtrOK Tryz.prog KE 24 (ae KE qR2 nj PM):=by
 refine aE (C:=ax [] Tryz.f24) (au (CtrsOK.nil) _) mixed (fn:=Tryz.f24) Tryz.func24 (by kernel_rfl) (by kernel_rfl) (by kernel_rfl) (by kernel_rfl) (by kernel_rfl) (by kernel_rfl) (Λ:=fun x=>find [(Nh,ND)]) ?_ ?_
 ·rintro ⟨xs,zs,⟨⟩⟩ hw hn
  exact LoopsOKp.at (by kernel_rfl) (.cons (by kernel_rfl) (OR) .nil)
 ·rintro ⟨xs,zs,⟨⟩⟩ hw hn
  exact J1 xs zs (hn _ List.mem_cons_self) (BI (nv hw))
theorem yj (s:ByteArray) :(evPat (ax [vo,zP,vi,Iw,xI] Tryz.f6) (fun _=>none) Tryz.f6 qPn nj (s,())).sat fun z_=>z_ =(RH (s,())).2:=by
 refine cast (by kernel_rfl) (?_:let r1:Int:=if (500:Int) <(↑s.size:Int) then (500:Int) else (↑s.size:Int);let r2:ByteArray:=s.extract (Int.toNat (0:Int)) r1.toNat;let r3:List Mir.Row×Int:=bc r2;let r4:List Mir.Row×Int:=bW r2;let r5:ByteArray×Int:=bm r3.1;let r6:Bool:=bif !true then true else r3.2 != r4.2;((!true)=true→(false,()) =(true,()))∧((!true)=false→((0:Int)≤(0:Int)∧(0:Int)≤r1∧r1≤(↑s.size:Int))∧r2.size≤(20000:Nat)∧r2.size≤(20000:Nat)∧(Oo r3.1 r4.1∧((!true)=true→True)∧((!true)=false→True))∧(true=true→(r6=true→(false,()) =(true,()))∧(r6=false→qI r3.1∧(bif r3.2 !=(0:Int) then true else bif r5.2 ==(0:Int) then r5.1.toList==r2.toList else false,()) =(true,())))))
 intro r1 r2 r3 r4 r5 r6
 clear_value (hr1:r1=_) (hr2:r2=_) (hr3:r3=_) (hr4:r4=_) (hr5:r5=_) (hr6:r6=_)
 have e1:0≤r1∧r1≤(s.size:Int)∧r1≤500:=by rw [hr1];split <;> omega
 have e2:r2.size≤20000:=by rw [hr2,ByteArray.size_extract];omega
 have e4:r4=r3:=by rw [hr4,hr3];exact AO _
 have e6:r6=false:=by rw [hr6,e4];simp
 refine ⟨fun h=>Bool.noConfusion h,fun _=>⟨⟨Int.le_refl _,e1.1,e1.2.1⟩,e2,e2,⟨by rw [e4];rfl,fun z=>Bool.noConfusion z,fun _=>trivial⟩,fun _=>⟨fun h6=>?_,fun _=>⟨?_,?_⟩⟩⟩⟩
 ·rw [e6] at h6;exact Bool.noConfusion h6
 ·rw [hr3]
  by_cases h0 :(bc r2).2=0
  ·have e:bc r2 =((bc r2).1,0):=by rw [←h0]
   obtain ⟨_,_,k3⟩:=qp (s:=r2) (b:=(bc r2).1) e
   obtain ⟨l1,l2⟩:=lj r2
   obtain ⟨g1,g2⟩:=sM _ _ (fun x hx=>Nat.le_trans (l2 x hx) e2) k3
   exact ⟨by omega,g2⟩
  ·have e:bc r2 =([],4):=q7 h0
   rw [e]
   exact ⟨Nat.zero_le _,fun r hr=>by cases hr⟩
 ·by_cases h0 :(bc r2).2=0
  ·obtain ⟨k1,k2⟩:=Gk h0
   rw [←hr3] at h0 k1 k2
   have e5:r5 =(r2,0):=by rw [hr5,tg k1,k2]
   rw [h0,e5]
   show (r2.toList==r2.toList,())=_
   rw [beq_self_eq_true]
  ·rw [←hr3] at h0
   have :(r3.2 != 0)=true:=by simpa using h0
   rw [this]
   rfl
theorem AD:CtrOK Tryz.prog KE 6 (ae KE qPn nj RH):=by
 refine aE (C:=ax [vo,zP,vi,Iw,xI] Tryz.f6) (au (.consU CL rfl (.consU Ga rfl (.consU CH rfl (.consU LU rfl (.consU AA rfl .nil))))) _) mixed (fn:=Tryz.f6) Tryz.func6 (by kernel_rfl) (by kernel_rfl) (by kernel_rfl) (by kernel_rfl) (by kernel_rfl) (by kernel_rfl) (Λ:=fun _ _=>none) ?_ ?_
 ·exact fun _ _ _ _ _ _ _ _ h=>by cases h
 ·rintro ⟨s,⟨⟩⟩ hw hn
  exact yj s
end Go.Proofs.YtffdpnmioidloaaGreatDoor
namespace Go.Proofs.YtffdpnmioidloaaGreatDoor
open Go Go.ChangeShapes Go.WideShapes Go.ChangeAt Go.RowKit
theorem Sz:ownKnob Tryz.prog.godebug=none:=by kernel_rfl
end Go.Proofs.YtffdpnmioidloaaGreatDoor
namespace Go.Proofs.YtffdpnmioidloaaGreatDoor
open Go Go.Mir Go.RowKit Go.Shelf Go.ChangeShapes Go.WideShapes Go.ChangeAt
theorem nz {H:Type} {enc:TypeId×Value→H} {a:Assume} {C:Checked} {os:Os} {f:FuncId} {fn:Func} {s:ChangeSpec} {conds:List PathCond} {apart fresh handsOn again:Bool} {X:World→Array Value→Prop}
  (hX :∀ (w w':World) (args:Array Value),w.heap=w'.heap→X w args→X w' args)
  (own:ownKnob C.prog.godebug=none) (started:os.Started) (noInit:C.prog.inits.idxOf? f=none) (hfn:C.prog.funcs[f]?=some fn)
  (witness :∃ (w:World) (tape:Tape) (i:Input),w.os=os∧(w.forCall tape i).Shaped C.prog∧i.vars=[]∧Input.okWide C.prog (w.forCall tape i) .any w.heap.size f i∧
   ((s.pre enc C.prog fn conds apart (w.forCall tape i).memory i.args∧X (w.forCall tape i).memory i.args)∧sizedMet enc C.prog fn (OpenSpec.ofChange s) apart (w.forCall tape i).memory i.args)∧a.holds C.prog (lone (Frame.enter C.prog f i.args .normal) [] (w.forCall tape i)))
  (contract :∀ (W:World) (base:Nat) (args:Array Value) (ds gs:List (DataW H)) (before:List MemPlace),
   (∀ (j:Nat) t v,fn.params[j]?=some t→args[j]?=some v→Value.okWide C.prog W .any base t v)→
   DataW.Whole enc C.prog fn.params.toList s.vars apart W args.toList ds gs before→
   conds.all (PathCond.test C.prog ⟨fn.params.toList,ds,s.plain.varTypes C.prog,gs⟩)=true→
   (DataW.weightsEach C.prog (fn.params.toList++s.plain.varTypes C.prog) (ds++gs)).all (·≤reachBytes)=true→X W args→W.ShapedOpen C.prog→
   a.holds C.prog (lone (Frame.enter C.prog f args .normal) [] W)→
   Calls C.prog f args W fun e W'=>∃ v,e = .returned v∧s.post enc C.prog fn apart fresh handsOn again W args v W') :
  ReturnsInHanded a C os f .any (fun w args=>(s.pre enc C.prog fn conds apart w args∧X w args)∧sizedMet enc C.prog fn (OpenSpec.ofChange s) apart w args) (s.post enc C.prog fn apart fresh handsOn again):=by
 refine returnsInHanded_of_calls own started noInit witness ?_
 intro w tape i _ hsh _ hok hpre hholds
 obtain ⟨_,_,_,fn',hfn',_,_,_,_,hval⟩:=hok
 have e:fn'=fn:=Option.some.inj (hfn'.symm.trans hfn)
 subst e
 obtain ⟨⟨⟨ds,gs,before,hw,hc⟩,hx⟩,hz⟩:=hpre
 have hw':=DataW.Whole.of_heap (w':=w.forCall tape i) (by rfl) hw
 refine (contract (w.forCall tape i) w.heap.size i.args ds gs before hval hw' hc (hz.weights hw) (hX _ _ _ (by rfl) hx) hsh hholds).mono fun e W' ⟨v,he,hp⟩=>?_
 subst he
 exact ChangeSpec.post_blind hp
abbrev kG:List (String×DataW Unit):= [("math/bits.deBruijn32tab",Rows.laid_math_bits_deBruijn32tab),("math/bits.deBruijn64tab",Rows.laid_math_bits_deBruijn64tab),("internal/strconv.uint64pow10",Rows.laid_internal_strconv_uint64pow10),("unicode/utf8.acceptRanges",Rows.laid_unicode_utf8_acceptRanges),("strconv.ErrRange",Rows.laid_strconv_ErrRange),("strconv.ErrSyntax",Rows.laid_strconv_ErrSyntax),("unicode/utf8.first",Rows.laid_unicode_utf8_first)]
theorem IG {w:World} (h:laidMetH Tryz.prog kG w):laidMet Tryz.prog kG w:=by
 have:=(laidMetH_iff.1 h).1
 exact this
theorem qO {w:World} {n:String} {g:Nat} (hg:Tryz.prog.globalNamed n=some g) {c:Array Value} (h:w.var? Tryz.prog n=some c) :∃ T fr,w.heap[g]?=some (.cells c T fr):=by
 unfold World.var? at h
 rw [hg] at h
 simp only [Option.bind_some] at h
 split at h
 ·rename_i c' T fr hh
  cases h
  exact ⟨_,_,hh⟩
 ·cases h
theorem RI : "*" ++ "errors.errorString" = "*errors.errorString":=by decide
theorem Nv (u:TypeId) (h:Tryz.prog.typeName? 3 u=some "*errors.errorString"):u=325:=
 typeName_ptr_named (nm:="errors.errorString") (by rw [RI];kernel_rfl) (by kernel_rfl) (by decide) u (by rw [RI];exact h)
theorem Kr {w:World} (h:laidMet Tryz.prog kG w):Lib.TabIs Tryz.prog w "internal/strconv.uint64pow10" .u64 Lib.pow10Tab:=
 Lib.tabIs_of_head (g:=0) (t:=298) (e:=197) (n:=20) (by kernel_rfl) (by kernel_rfl) Tryz.underlying298 Tryz.underlying197 (by kernel_rfl) (by kernel_rfl) h.tail.tail
theorem GH {w:World} (h:laidMet Tryz.prog kG w) :∃ T fr te pe,w.heap[2]?=some (.cells #[.iface te pe] T fr):=by
 obtain ⟨a,s,hv,-,-,-⟩:=laid_sentinel (g:=2) (ti:=118) h.tail.tail.tail.tail.tail (by kernel_rfl) (by kernel_rfl) Tryz.underlying118 Nv Tryz.underlying325 Tryz.underlying327 rfl rfl Tryz.underlying9 (by kernel_rfl) (by kernel_rfl)
 obtain ⟨T,fr,hb⟩:=qO (g:=2) (by kernel_rfl) hv
 exact ⟨T,fr,_,_,hb⟩
theorem Gn {w:World} (h:laidMet Tryz.prog kG w) :∃ T fr te pe,w.heap[3]?=some (.cells #[.iface te pe] T fr):=by
 obtain ⟨a,s,hv,-,-,-⟩:=laid_sentinel (g:=3) (ti:=118) h.tail.tail.tail.tail (by kernel_rfl) (by kernel_rfl) Tryz.underlying118 Nv Tryz.underlying325 Tryz.underlying327 rfl rfl Tryz.underlying9 (by kernel_rfl) (by kernel_rfl)
 obtain ⟨T,fr,hb⟩:=qO (g:=3) (by kernel_rfl) hv
 exact ⟨T,fr,_,_,hb⟩
theorem jq {P:Program} {w:World} {g:Nat} {t:TypeId} {zero:Array Value} {k:IntKind}
  (h:w.ShapedOpen P) (hg:g<P.globals.size)
  (h0 :((begin P (fun _ _=>0) default).world.heap[g]?).bind Obj.row?=some (zero,t)) (hz:zero.size=1)
  (hb:P.buildable t=true) (hc:P.cellTypes P.depth t=some [t]) (hu:P.underlying t=some (.int k)) :
  ∃ m T fr,w.heap[g]?=some (.cells #[.int k m] T fr):=by
 obtain ⟨cs,hh,hs,hr⟩:=h.1 g zero t hg h0
 obtain ⟨ts,hts,_,hall⟩:=hr hb
 rw [hc] at hts
 cases hts
 have hs1:cs.size=1:=by omega
 have h1:0<cs.size:=by omega
 obtain ⟨u,hu',hok⟩:=hall 0 cs[0] (by simp [h1])
 have:u=t:=by simpa using hu'.symm
 subst this
 unfold Cell.ok at hok
 rw [hu] at hok
 have hcs:cs=#[cs[0]]:=by
  apply Array.ext
  ·simp [hs1]
  ·intro i h1 h2
   have:i=0:=by omega
   subst this
   rfl
 cases hv:cs[0] <;> rw [hv] at hok <;> simp at hok
 case int k' n=>
  refine ⟨n,u,(0,0),?_⟩
  rw [hh,hcs,hv,hok.1]
theorem Lo {w:World} (h:laidMetH Tryz.prog kG w) (hs:w.ShapedOpen Tryz.prog):jT w fun _=>False:=by
 have h:=IG h
 intro p hp
 refine ⟨?_,fun h=>h⟩
 unfold GL at hp
 simp only [List.mem_cons,List.not_mem_nil,or_false] at hp
 rcases hp with rfl|rfl|rfl|rfl
 ·have ht:=Kr h
  unfold Lib.TabIs at ht
  obtain ⟨T,fr,hb⟩:=qO (g:=0) (by kernel_rfl) ht
  exact ⟨_,hb,T,fr,rfl⟩
 ·obtain ⟨m,T,fr,hb⟩:=jq (g:=1) (k:= .i64) (zero:=#[.int .i64 0]) (t:=3) hs (of_decide_eq_true (by kernel_rfl)) (by kernel_rfl) rfl (by kernel_rfl) (by kernel_rfl) Tryz.underlying3
  exact ⟨_,hb,m,T,fr,rfl⟩
 ·obtain ⟨T,fr,te,pe,hb⟩:=GH h
  exact ⟨_,hb,te,pe,T,fr,rfl⟩
 ·obtain ⟨T,fr,te,pe,hb⟩:=Gn h
  exact ⟨_,hb,te,pe,T,fr,rfl⟩
end Go.Proofs.YtffdpnmioidloaaGreatDoor
namespace Go.Proofs.YtffdpnmioidloaaGreatDoor
open Go Go.ChangeShapes Go.WideShapes Go.ChangeAt Go.RowKit
theorem FD (os:Os) (args:Array Value):laidMetH Tryz.prog kG ((World.laidAll Tryz.prog os kG).forCall (fun _ _=>0) ⟨#[],args,[]⟩).memory:=by
 rw [MakeChecks.laidMetH_plain _ _ _ (by kernel_rfl)]
 exact laidMet_laidAll _ (by kernel_rfl) (by kernel_rfl)
end Go.Proofs.YtffdpnmioidloaaGreatDoor
namespace Go.Mir
open Go.RowKit
variable {P:Program}
inductive PF where
 | dat
 | ptr
 | clo (g:FuncId)
end Go.Mir
namespace Go.Mir
open Go.RowKit Go.ChangeShapes Go.WideShapes
open Go.Proofs.YtffdpnmioidloaaGreatDoor.Rows (uptoBulk uptoBulkAll)
section
variable {H:Type} {enc:TypeId×Value→H} {P:Program} {w:World}
theorem Cy {K:Nat} {f:FuncId} {fn:Func} {c:Ctr} (hc:CtrOK P K f c) {ps:Ty} (hps:sV P fn.params.toList ps=true) (hgl:jT w fun _=>False)
  (h :∀ x:Den ps,wfD ps x→∃ ls,c (iK ps x) (fun _=>none) 0=some (ls,.bool true,[])∧∀ p∈ls,p)
  {args:Array Value} {ds:List (DataW H)} {p:List MemPlace} (hA:DataW.TrodAll enc P w 0 (fun _=>true) true fn.params.toList args.toList ds p) (hval :∀ (j:Nat) t v,fn.params[j]?=some t→args[j]?=some v→∃ r b,Value.okWide P w r b t v)
  (hw :∀ m∈DataW.weightsEach P fn.params.toList ds,m≤ai) :
  Calls P f args w fun e w'=>e = .returned (.bool true)∧Keeps w (fun _=>False) w':=by
 obtain ⟨x,k1,⟨cs,k2⟩,_,_,_⟩:=ov hA hps (fun j t v h1 h2=>hval j t v (by simpa using h1) (by simpa using h2)) hw
 obtain ⟨ls,e1,e2⟩:=h x ⟨_,_,_,k2⟩
 have hc:=hc.calls (MW w hgl) (Lg w) (HE w hgl) _ _ k1 0 (fun n _ _ hu=>hu) ls _ _ e1 e2
 have e:args.toList.toArray=args:=by simp
 rw [e] at hc
 refine Calls.mono hc fun e w' hr=>?_
 obtain ⟨E',v',rfl,G,hv⟩:=hr
 simp only [aa] at hv
 subst hv
 refine ⟨rfl,?_⟩
 have:=G.rel.keeps
 rw [G.w] at this
 exact this
end
end Go.Mir
