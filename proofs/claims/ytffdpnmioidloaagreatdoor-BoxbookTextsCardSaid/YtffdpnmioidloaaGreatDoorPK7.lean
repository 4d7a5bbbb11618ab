/- Texts of the mirror and contracts, put together. -/
import Derived.Test.YtffdpnmioidloaaGreatDoorPK6
import Derived.LoopN
import Derived.Laws.Externs
import Derived.Lib.Bytealg
import Derived.Test.YtffdpnmioidloaaGreatDoorPK3
namespace Go.Mir
open Go.RowKit
variable {tb:Tbl} {N K:Nat} {e:En}
structure ValOK (tb:Tbl) (N:Nat) (ev:Operand→V) (op:Op) (hp:HP) (nx:Nat) (u:U) (hp':HP):Prop where
 ex :∃ ps v dh,aA ⟨tb,fun _=>none,1,N⟩ nx (hpH hp) ev op=some (ps,v,dh)∧(∀ p∈ps,p.holds)∧VLe v u.toV∧hpH hp'=ak (hpH hp) dh
 wf:u.wf
 hw:hpW hp'
structure CalOK (ev:Operand→V) (op:Op) (g:FuncId) (args:List U):Prop where
 ex :∃ c f caps,op = .call c∧c.callee = .value f∧ev f = .fn g caps∧bV caps=true∧∀ E l,ab E (c.args.toList.map ev++caps) l→ab E (args.map U.toV) l
 wf :∀ u∈args,u.wf
def bb (tb:Tbl) (N K:Nat) (e:En) (op:Op):Stp→Prop
 | .slow=>True
 | .val f=>∀ (a b c d:U) (tm:TM) (hp:HP) (nx:Nat) (G:Rv→Prop) (k:U→Rv) (sl:Rv),(∀ i,(cZ K e i a b c d tm).wf)→hpW hp→G sl→
   (∀ u,ValOK tb N (fun x=>(rdS K e x a b c d tm).toV) op hp nx u hp→G (k u))→G (f a b c d tm hp nx k sl)
 | .mem f=>∀ (a b c d:U) (tm:TM) (hp:HP) (nx:Nat) (G:Rv→Prop) (k:U→HP→Rv) (sl:Rv),(∀ i,(cZ K e i a b c d tm).wf)→hpW hp→G sl→
   (∀ u hp',ValOK tb N (fun x=>(rdS K e x a b c d tm).toV) op hp nx u hp'→G (k u hp'))→G (f a b c d tm hp nx k sl)
 | .cal f=>∀ (a b c d:U) (tm:TM) (G:Rv→Prop) (k:FuncId→List U→Rv) (sl:Rv),(∀ i,(cZ K e i a b c d tm).wf)→G sl→
   (∀ g args,CalOK (fun x=>(rdS K e x a b c d tm).toV) op g args→G (k g args))→G (f a b c d tm k sl)
theorem ef :∀ p∈([]:List Ob),p.holds:=fun p hp=>by cases hp
theorem om {p:Ob} (h:p.holds) :∀ q∈ [p],q.holds:=by intro q hq;rw [List.mem_singleton.1 hq];exact h
theorem vok {ev:Operand→V} {op:Op} {hp:HP} {nx:Nat} {u:U} {ps:List Ob} {v:V} (W:hpW hp) (h:aA ⟨tb,fun _=>none,1,N⟩ nx (hpH hp) ev op=some (ps,v,[])) (hps :∀ p∈ps,p.holds) (hv:VLe v u.toV) (hw:u.wf):ValOK tb N ev op hp nx u hp:=
 ⟨⟨ps,v,[],h,hps,hv,rfl⟩,hw,W⟩
theorem jG {a b c d:U} {tm:TM} (h :∀ i,(cZ K e i a b c d tm).wf) (x:Operand) :(rdS K e x a b c d tm).wf:=by
 cases x with
 | tmp i=>exact h i
 | const v=>exact kN (cv v)
 | _=>trivial
theorem tvp {u:U} {a o:Nat} (h:u = .ptr a o):u.toV = .ptr a o:=by rw [h];rfl
theorem tvg {u:U} {a v o:Nat} (h:u = .gp a v o):u.toV = .gp a v o:=by rw [h];rfl
theorem tvs {u:U} {a v e o l:Nat} (h:u = .gsl a v e o l):u.toV = .gsl a v e o l:=by rw [h];rfl
theorem tvi {u:U} {k:IntKind} {n:Int} (h:u = .int k n):u.toV = .int k n:=by rw [h];rfl
theorem tvb {u:U} {b:Bool} (h:u = .kb b):u.toV = .kb b:=by rw [h];rfl
theorem tvo {u:U} {v:V} (h:u = .oth v):u.toV=v:=by rw [h];rfl
theorem tva {u:U} {t:CT} {n:Nat} {cs:List V} (hc:CsR t n cs) (h:u = .agg t n):u.toV = .agg cs:=by rw [h];show V.agg (toL t n)=_;rw [hc.toL]
theorem tvt {u:U} {l:List W} (h:u = .tup l):u.toV = .tup (l.map W.toV):=by rw [h];rfl
theorem Hb {S:Stp→Prop} {i:Nat} {k:Gt→Stp} (h :∀ g,g=cZ K e i→S (k g)):S (Ha K e i k):=by
 unfold Ha
 unfold cZ at h
 cases h0:Nat.beq e.e0 (Nat.succ i)
 case true=>exact h _ (by rw [h0])
 rw [h0] at h
 cases h1:Nat.beq e.e1 (Nat.succ i)
 case true=>exact h _ (by rw [h1])
 rw [h1] at h
 cases h2:Nat.beq e.e2 (Nat.succ i)
 case true=>exact h _ (by rw [h2])
 rw [h2] at h
 cases h3:Nat.beq e.e3 (Nat.succ i)
 case true=>exact h _ (by rw [h3])
 rw [h3] at h
 cases h4:isK K i
 case true=>exact h _ (by rw [h4];rfl)
 exact h _ (by rw [h4])
theorem aN {S:Stp→Prop} {x:Operand} {k:Gt→Stp} (h :∀ g,g=rdS K e x→S (k g)):S (di K e x k):=by
 cases x with
 | tmp i=>exact Hb (S:=S) (fun g hg=>h g hg)
 | const v=>
  show S (U.rec (motive:=fun _=>Stp) _ _ _ _ _ _ _ _ (jV (cv v)))
  have h :∀ g,g =(fun _ _ _ _ _=>jV (cv v))→S (k g):=h
  cases hu:jV (cv v) <;>(rw [hu] at h;exact h _ rfl)
 | global i=>exact h _ rfl
 | func f=>exact h _ rfl
theorem An {S:Stp→Prop} :∀ {l:List Operand} {k:List Gt→Stp},(∀ gs,gs=l.map (rdS K e)→S (k gs))→S (LU K e l k)
 | [],k,h=>h _ rfl
 | x::l,k,h=>aN (S:=S) fun g hg=>An (S:=S) (l:=l) fun gs hgs=>h _ (by rw [hg,hgs];rfl)
def OP (K:Nat) (e:En) (pi:Nat→PI):List (Nat×Operand)→List PG→Prop
 | [],[]=>True
 | q::l,.at o s g::gs=>pi q.1 = .at o s∧g=rdS K e q.2∧OP K e pi l gs
 | _,_=>False
theorem pz {S:Stp→Prop} (h0:S .slow) {pi:Nat→PI} :∀ {l:List (Nat×Operand)} {k:List PG→Stp},(∀ gs,OP K e pi l gs→S (k gs))→S (xU K e pi l k)
 | [],k,h=>h _ trivial
 | q::l,k,h=>by
  show S (PI.rec (motive:=fun _=>Stp) .slow (fun o s=>di K e q.2 fun g=>xU K e pi l fun gs=>k (.at o s g::gs)) (pi q.1))
  cases hp:pi q.1 with
  | no=>exact h0
  | «at» o s=>exact aN (S:=S) fun g hg=>pz (S:=S) h0 (l:=l) fun gs hgs=>h _ ⟨hp,hg,hgs⟩
theorem oZ {hp:HP} (W:hpW hp) {h:Nat} {t:CT} {n:Nat} (hg:a8 hp h = .cells t n) :∃ cs,CsR t n cs∧hpH hp h=some (.cells cs)∧h<262144:=by
 have hw:=W h
 rw [hg] at hw
 obtain ⟨cs,hc⟩:=hw
 exact ⟨cs,hc,by unfold hpH;rw [hg];show some (Blk.cells (toL t n))=_;rw [hc.toL],Bn (by rw [hg];exact fun h=>by cases h)⟩
theorem fQ {hp:HP} (W:hpW hp) {h v ez:Nat} {t:CT} {n:Nat} (hg:a8 hp h = .grow v ez t n) :∃ cs,CsR t n cs∧hpH hp h=some (.grow v ez cs)∧h<262144:=by
 have hw:=W h
 rw [hg] at hw
 obtain ⟨cs,hc⟩:=hw
 exact ⟨cs,hc,by unfold hpH;rw [hg];show some (Blk.grow v ez (toL t n))=_;rw [hc.toL],Bn (by rw [hg];exact fun h=>by cases h)⟩
theorem yu {t:TypeId} (h:tyI tb t = .one) :∃ td,tb t=some td∧td.kind.agg=false∧td.size=1:=by
 unfold tyI at h
 split at h
 ·rename_i td ht
  refine ⟨td,ht,?_⟩
  split at h
  ·cases h
  ·rename_i ha
   split at h
   ·rename_i hs;exact ⟨by simpa using ha,hs⟩
   ·cases h
 ·cases h
theorem yt {t:TypeId} {n:Nat} (h:tyI tb t = .agg n) :∃ td,tb t=some td∧td.kind.agg=true∧td.size=n:=by
 unfold tyI at h
 split at h
 ·rename_i td ht
  refine ⟨td,ht,?_⟩
  split at h
  ·rename_i ha;cases h;exact ⟨ha,rfl⟩
  ·split at h <;> cases h
 ·cases h
theorem Bv (c:C) :(cU c).toV=c.toV:=by cases c <;> rfl
theorem GA (c:C) :(cU c).wf:=by cases c <;> trivial
def PT (tb:Tbl) (t:TypeId) (f:LdF):Prop:=∃ td,tb t=some td∧∀ (G:Rv→Prop) (ct:CT) (n:Nat) (cs:List V) (o:Nat) (k:U→Rv) (sl:Rv),CsR ct n cs→G sl→(∀ u v,ld td cs o = .val [] v []→v=u.toV→u.wf→G (k u))→G (f ct n o k sl)
theorem B1 {S:Stp→Prop} (h0:S .slow) {t:TypeId} {k:LdF→Stp} (h :∀ f,PT tb t f→S (k f)):S (ldS (tyI tb t) k):=by
 cases hi:tyI tb t with
 | no=>exact h0
 | one=>
  obtain ⟨td,ht,ha,hs⟩:=yu hi
  refine h zL ⟨td,ht,fun G ct n cs o k sl hc h0 hk=>bX h0 fun hb=>?_⟩
  have hlt:o<n:=bd hb
  refine hk _ (b9 ct o).toV ?_ (Bv _).symm (GA _)
  unfold ld
  rw [ha,hc.get o hlt]
  rfl
 | agg m=>
  obtain ⟨td,ht,ha,hs⟩:=yt hi
  refine h (zK m) ⟨td,ht,fun G ct n cs o k sl hc h0 hk=>bX h0 fun hb=>?_⟩
  have hle:o+m≤n:=bd hb
  have hld:ld td cs o = .val [] (.agg ((cs.drop o).take m)) []:=by
   unfold ld
   rw [ha,hs,if_pos rfl,if_pos (by rw [hc.len];exact hle)]
  cases hm:Nat.beq m n with
  | false=>
   have:=hc.sub hle
   exact hk _ _ hld (by show _=V.agg (toL _ _);rw [this.toL]) ⟨_,this⟩
  | true=>
   have e1:=ax hm
   have e0:o=0:=by omega
   subst e0
   subst e1
   refine hk _ _ hld ?_ ⟨_,hc⟩
   show _=V.agg (toL ct m)
   rw [hc.toL,List.drop_zero,List.take_of_length_le (by rw [hc.len];exact Nat.le_refl _)]
theorem yw {v:V} (h:v.one=true):cellsOf v=some [v]:=by cases v <;> first|rfl|cases h
def Rb (tb:Tbl) (t:TypeId) (f:StF):Prop:=∃ td,tb t=some td∧∀ (G:Rv→Prop) (x:U) (ct:CT) (n:Nat) (cs:List V) (o:Nat) (k:CT→Rv) (sl:Rv),x.wf→CsR ct n cs→G sl→
 (∀ xs ct',cellsOf x.toV=some xs→xs.length=td.size→xs.all V.one=true→o+td.size≤cs.length→CsR ct' n (splice cs o xs)→G (k ct'))→G (f x ct n o k sl)
theorem O6 {S:Stp→Prop} (h0:S .slow) {t:TypeId} {k:StF→Stp} (h :∀ f,Rb tb t f→S (k f)):S (stS (tyI tb t) k):=by
 cases hi:tyI tb t with
 | no=>exact h0
 | one=>
  obtain ⟨td,ht,ha,hs⟩:=yu hi
  refine h Ms ⟨td,ht,fun G x ct n cs o k sl hx hc h0 hk=>bX h0 fun hb=>Rs h0 fun c hcv h1=>?_⟩
  have hlt:o<n:=bd hb
  rw [hcv] at h1
  refine hk [x.toV] _ (yw h1) (by rw [hs];rfl) (by simp [h1]) (by rw [hs,hc.len];exact hlt) ?_
  rw [←sQ (by rw [hc.len];exact hlt),←hcv]
  exact hc.put hlt (by rw [hcv];exact h1)
 | agg m=>
  obtain ⟨td,ht,ha,hs⟩:=yt hi
  refine h (Mr m) ⟨td,ht,fun G x ct n cs o k sl hx hc h0 hk=>BN h0 fun xt m' hxe=>bX h0 fun hb=>bX h0 fun hle=>?_⟩
  have e1:m=m':=ax hb
  subst e1
  subst hxe
  obtain ⟨xs,hxs⟩:=hx
  have hle:o+m≤n:=bd hle
  have hall:xs.all V.one=true:=List.all_eq_true.2 hxs.one
  have hcl:cellsOf (U.agg xt m).toV=some xs:=by show some (toL xt m)=_;rw [hxs.toL]
  cases hm:Nat.beq m n with
  | false=>exact hk xs _ hcl (by rw [hs,hxs.len]) hall (by rw [hs,hc.len];exact hle) (hc.splice hxs hle rfl)
  | true=>
   have e1:=ax hm
   subst e1
   have e0:o=0:=by omega
   subst e0
   refine hk xs _ hcl (by rw [hs,hxs.len]) hall (by rw [hs,hc.len];exact hle) ?_
   have:splice cs 0 xs=xs:=by
    unfold splice
    rw [List.take_zero,List.nil_append,List.drop_eq_nil_of_le (by rw [hc.len,hxs.len];omega),List.append_nil]
   rw [this]
   exact hxs
theorem Gx {t:TypeId} {x:Operand}:bb tb N K e (.load t x) (Lx t x K e tb):=by
 refine B1 (S:=bb tb N K e (.load t x)) trivial fun f hf=>aN (S:=bb tb N K e (.load t x)) fun gx hgx=>?_
 subst hgx
 intro a b c d tm hp nx G k sl Wg W h0 h
 obtain ⟨td,ht,hf⟩:=hf
 refine oY h0 (fun q o hx=>G1 h0 fun ct n hg=>?_) (fun q v o hx=>pT h0 fun v' ez ct n hg=>bX h0 fun hb=>?_)
 ·obtain ⟨cs,hc,hH,_⟩:=oZ W hg
  refine hf G ct n cs o k sl hc h0 fun u v hl hv hw=>h u (vok W (ps:= []) (v:=v) ?_ ef (VLe.of_eq hv) hw)
  simp only [aA,bW,bO,ht,tvp hx,eU,kf,hH,hl]
 ·obtain ⟨cs,hc,hH,_⟩:=fQ W hg
  have e1:=ax hb
  subst e1
  refine hf G ct n cs o k sl hc h0 fun u v' hl hv hw=>h u (vok W (ps:= []) (v:=v') ?_ ef (VLe.of_eq hv) hw)
  simp only [aA,bW,bO,ht,tvg hx,eU,hH,hl,if_true]
theorem EH {t:TypeId} {x y:Operand}:bb tb N K e (.store t x y) (Gz t x y K e tb):=by
 refine O6 (S:=bb tb N K e (.store t x y)) trivial fun f hf=>aN (S:=bb tb N K e (.store t x y)) fun gx hgx=>aN (S:=bb tb N K e (.store t x y)) fun gy hgy=>?_
 subst hgx
 subst hgy
 intro a b c d tm hp nx G k sl Wg W h0 h
 obtain ⟨td,ht,hf⟩:=hf
 refine oY h0 (fun q o hx=>G1 h0 fun ct n hg=>?_) (fun q v o hx=>pT h0 fun v' ez ct n hg=>bX h0 fun hb=>?_)
 ·obtain ⟨cs,hc,hH,hl⟩:=oZ W hg
  refine hf G _ ct n cs o _ sl (jG Wg y) hc h0 fun xs ct' hcl hlen hall hle hct=>h _ _ ⟨⟨[],.tup [],[(q,.cells (splice cs o xs))],?_,ef,VLe.refl _,?_⟩,fun w hw=>(by cases hw),fK W hl ⟨_,hct⟩⟩
  ·simp only [aA,bW,ht,tvp hx,eY,cL,nU,hcl,hlen,hall,hH,if_true,and_self,hle]
  ·rw [fJ hl (B:= .cells (splice cs o xs))]
   show some (Blk.cells (toL ct' n))=_
   rw [hct.toL]
 ·obtain ⟨cs,hc,hH,hl⟩:=fQ W hg
  have e1:=ax hb
  subst e1
  refine hf G _ ct n cs o _ sl (jG Wg y) hc h0 fun xs ct' hcl hlen hall hle hct=>h _ _ ⟨⟨[],.tup [],[(q,.grow v ez (splice cs o xs))],?_,ef,VLe.refl _,?_⟩,fun w hw=>(by cases hw),fK W hl ⟨_,hct⟩⟩
  ·simp only [aA,bW,ht,tvg hx,eY,cL,hcl,hlen,hall,hH,if_true,and_self,hle,true_and]
  ·rw [fJ hl (B:= .grow v ez (splice cs o xs))]
   show some (Blk.grow v ez (toL ct' n))=_
   rw [hct.toL]
theorem cMove_ok {x:Operand}:bb tb N K e (.move x) (C5 x K e tb)∧bb tb N K e (.assign x) (C5 x K e tb):=by
 constructor
 ·refine aN (S:=bb tb N K e (.move x)) fun gx hgx=>?_
  subst hgx
  intro a b c d tm hp nx G k sl Wg W h0 h
  exact h _ (vok W (ps:= []) (v:=(rdS K e x a b c d tm).toV) (by simp only [aA,bW,bO]) ef (VLe.refl _) (jG Wg x))
 ·refine aN (S:=bb tb N K e (.assign x)) fun gx hgx=>?_
  subst hgx
  intro a b c d tm hp nx G k sl Wg W h0 h
  exact h _ (vok W (ps:= []) (v:=(rdS K e x a b c d tm).toV) (by simp only [aA,bW,bO]) ef (VLe.refl _) (jG Wg x))
theorem Gy {p x y:Operand}:bb tb N K e (.pick p x y) (Ly p x y K e tb):=by
 refine aN (S:=bb tb N K e (.pick p x y)) fun gp hgp=>aN (S:=bb tb N K e (.pick p x y)) fun gx hgx=>aN (S:=bb tb N K e (.pick p x y)) fun gy hgy=>?_
 subst hgp;subst hgx;subst hgy
 intro a b c d tm hp nx G k sl Wg W h0 h
 refine LK h0 fun q hq=>?_
 cases q with
 | true=>exact h _ (vok W (ps:= []) (v:=(rdS K e x a b c d tm).toV) (by simp only [aA,bW,bO,tvb hq,oW]) ef (VLe.refl _) (jG Wg x))
 | false=>exact h _ (vok W (ps:= []) (v:=(rdS K e y a b c d tm).toV) (by simp only [aA,bW,bO,tvb hq,oW]) ef (VLe.refl _) (jG Wg y))
theorem Bg {t:TypeId} {z:CT} {n:Nat} (h:wy tb t = .at z n) :∃ td,tb t=some td∧CsR z n td.zero:=by
 unfold wy at h
 split at h
 ·rename_i td ht
  cases ho:fS td.zero with
  | false=>rw [ho] at h;cases h
  | true=>
   rw [ho] at h
   cases h
   exact ⟨td,ht,CsR.ofL ho⟩
 ·cases h
theorem rI {G:Rv→Prop} {m:Nat} {hp:HP} {b:Bk} {u:U} {k:U→HP→Rv} {sl:Rv} (h0:G sl) (h:m<262144→G (k u (cX hp m b))):G (Fq m hp b u k sl):=bX h0 fun hb=>h (bd hb)
theorem ED {t:TypeId}:bb tb N K e (.alloc t) (Bs t K e tb):=by
 unfold Bs
 cases hz:wy tb t with
 | no=>trivial
 | «at» z n=>
  obtain ⟨td,ht,hc⟩:=Bg hz
  intro a b c d tm hp nx G k sl Wg W h0 h
  show G (dV nx _)
  rw [cJ]
  refine rI h0 fun hm=>h _ _ ⟨⟨[],.ptr nx 0,[(nx,.cells td.zero)],by simp only [aA,bW,bO,ht,qp],ef,VLe.refl _,fJ hm ?_⟩,trivial,fK W hm ⟨_,hc⟩⟩
  show some (Blk.cells (toL z n))=_
  rw [hc.toL]
theorem JS {t:TypeId} {x:Operand}:bb tb N K e (.box t x) (P2 t x K e tb):=by
 refine aN (S:=bb tb N K e (.box t x)) fun gx hgx=>?_
 subst hgx
 intro a b c d tm hp nx G k sl Wg W h0 h
 show G (dV nx _)
 rw [cJ]
 have hw:=jG Wg x
 refine G2 h0 (fun c1 hc1 h1=>rI h0 fun hm=>?_) fun t' n hx=>rI h0 fun hm=>?_
 ·have hc:CsR (dE ct0 0 c1) 1 ([]++[c1.toV]):=(CsR.nil ct0).push (by omega) h1
  rw [List.nil_append,hc1] at hc
  rw [hc1] at h1
  refine h _ _ ⟨⟨[],.ptr nx 0,[(nx,.cells [(rdS K e x a b c d tm).toV])],by simp only [aA,bW,bO,yw h1],ef,VLe.refl _,fJ hm ?_⟩,trivial,fK W hm ⟨_,hc⟩⟩
  show some (Blk.cells (toL _ 1))=_
  rw [hc.toL]
 ·rw [hx] at hw
  obtain ⟨cs,hc⟩:=hw
  refine h _ _ ⟨⟨[],.ptr nx 0,[(nx,.cells cs)],by simp only [aA,bW,bO,tva hc hx,cellsOf],ef,VLe.refl _,fJ hm ?_⟩,trivial,fK W hm ⟨_,hc⟩⟩
  show some (Blk.cells (toL t' n))=_
  rw [hc.toL]
theorem J7 {t:TypeId} {f d:Nat} (h:J6 tb t f=some d) :∃ td fs ft tf,tb t=some td∧td.kind = .struct fs∧fs[f]?=some (d,ft)∧tb ft=some tf∧¬ tf.size=0:=by
 unfold J6 at h
 split at h
 case h_2=>cases h
 rename_i td ht
 split at h
 case h_2=>cases h
 rename_i fs hk
 split at h
 case h_2=>cases h
 rename_i o ft hf
 split at h
 case h_2=>cases h
 rename_i tf htf
 split at h
 ·cases h
 ·rename_i hs
  cases h
  exact ⟨td,fs,ft,tf,ht,hk,hf,htf,hs⟩
theorem Ni {t:TypeId} {x:Operand} {f:Nat}:bb tb N K e (.fieldAddr t x f) (cFA t x f K e tb):=by
 unfold cFA
 cases hd:J6 tb t f with
 | none=>trivial
 | some o1=>
  obtain ⟨td,fs,ft,tf,ht,hk,hf,htf,hs⟩:=J7 hd
  refine aN (S:=bb tb N K e (.fieldAddr t x f)) fun gx hgx=>?_
  subst hgx
  intro a b c d tm hp nx G k sl Wg W h0 h
  refine oY h0 (fun q o hx=>?_) (fun q v o hx=>?_)
  ·exact h _ (vok W (ps:= []) (v:= .ptr q (o+o1)) (by simp only [aA,bW,bO,ht,tvp hx,jx,qt,hk,hf,htf,hs,if_false]) ef (VLe.refl _) trivial)
  ·exact h _ (vok W (ps:= []) (v:= .gp q v (o+o1)) (by simp only [aA,bW,bO,ht,tvg hx,jx,hk,hf,htf,hs,if_false]) ef (VLe.refl _) trivial)
theorem Nj {t:TypeId} {x:Operand} {f:Nat}:bb tb N K e (.field t x f) (cFV t x f K e tb):=by
 unfold cFV
 cases hv:NF tb t f with
 | no=>trivial
 | «at» o i=>
  unfold NF at hv
  split at hv
  case h_2=>cases hv
  rename_i td ht
  split at hv
  case h_2=>cases hv
  rename_i fs hk
  split at hv
  case h_2=>cases hv
  rename_i o' ft hf
  cases hv
  refine B1 (S:=bb tb N K e (.field t x f)) trivial fun f1 hf1=>aN (S:=bb tb N K e (.field t x f)) fun gx hgx=>?_
  subst hgx
  intro a b c d tm hp nx G k sl Wg W h0 h
  obtain ⟨tf,htf,hf1⟩:=hf1
  have hw:=jG Wg x
  refine BN h0 fun ct n hx=>?_
  have hx0:=hx
  rw [hx] at hw
  obtain ⟨cs,hc⟩:=hw
  refine hf1 G ct n cs _ k sl hc h0 fun u v hl hv hw=>h u (vok W (ps:= []) (v:=v) ?_ ef (VLe.of_eq hv) hw)
  simp only [aA,bW,bO,ht,tva hc hx0,gH,hk,hf,htf,hl]
theorem Nk {t:TypeId} {x i:Operand}:bb tb N K e (.indexAddr t x i) (cIA t x i K e tb):=by
 unfold cIA
 cases hx:Kh tb t with
 | no=>trivial
 | sl esz=>
  unfold Kh at hx
  split at hx
  case h_2=>cases hx
  rename_i td ht
  split at hx
  case h_2=>split at hx <;> cases hx
  case h_3=>cases hx
  rename_i et hk
  split at hx
  case h_2=>cases hx
  rename_i te hte
  cases hx
  refine aN (S:=bb tb N K e (.indexAddr t x i)) fun gx hgx=>aN (S:=bb tb N K e (.indexAddr t x i)) fun gi hgi=>?_
  subst hgx;subst hgi
  intro a b c d tm hp nx G k sl Wg W h0 h
  refine np h0 fun ik n hi=>Dg h0 fun m hn=>G3 h0 fun q v e' o l hu=>bX h0 fun hb=>pT h0 fun v' e2 ct n2 hg=>bX h0 fun h1=>bX h0 fun h2=>bX h0 fun h3=>?_
  subst hn
  obtain ⟨cs,hc,hH,_⟩:=fQ W hg
  have hlt:m<l:=bd hb
  have e1:=ax h1
  have e3:=ax h2
  have e4:=ax h3
  subst e1
  subst e3
  subst e4
  exact h _ (vok W (ps:= [.rng (.ofNat m) l]) (v:= .gp q v ((o+m)*te.size)) (by simp only [aA,bW,bO,ht,tvs hu,tvi hi,dv,hk,hte,hH,and_self,if_true];rfl) (om ⟨by show (0:Int)≤(m:Int);omega,by show (m:Int)<l;omega⟩) (VLe.refl _) trivial)
 | ar l esz=>
  unfold Kh at hx
  split at hx
  case h_2=>cases hx
  rename_i td ht
  split at hx
  case h_1=>split at hx <;> cases hx
  case h_3=>cases hx
  rename_i l' et hk
  split at hx
  case h_2=>cases hx
  rename_i te hte
  cases hx
  refine aN (S:=bb tb N K e (.indexAddr t x i)) fun gx hgx=>aN (S:=bb tb N K e (.indexAddr t x i)) fun gi hgi=>?_
  subst hgx;subst hgi
  intro a b c d tm hp nx G k sl Wg W h0 h
  refine np h0 fun ik n hi=>Dg h0 fun m hn=>bX h0 fun hb=>oY h0 (fun q o hu=>?_) (fun q v o hu=>?_)
  ·have hlt:m<l:=bd hb
   subst hn
   exact h _ (vok W (ps:= [.rng (.ofNat m) l]) (v:= .ptr q (o+m*te.size)) (by simp only [aA,bW,bO,ht,tvp hu,tvi hi,dv,nR,hk,hte];rfl) (om ⟨by show (0:Int)≤(m:Int);omega,by show (m:Int)<l;omega⟩) (VLe.refl _) trivial)
  ·have hlt:m<l:=bd hb
   subst hn
   exact h _ (vok W (ps:= [.rng (.ofNat m) l]) (v:= .gp q v (o+m*te.size)) (by simp only [aA,bW,bO,ht,tvg hu,tvi hi,dv,hk,hte];rfl) (om ⟨by show (0:Int)≤(m:Int);omega,by show (m:Int)<l;omega⟩) (VLe.refl _) trivial)
theorem JU {t:TypeId} {x i:Operand}:bb tb N K e (.index t x i) (Nl t x i K e tb):=by
 unfold Nl
 cases hx:NR tb t with
 | no=>trivial
 | «at» l esz ti=>
  unfold NR at hx
  split at hx
  case h_2=>cases hx
  rename_i td ht
  split at hx
  case h_2=>cases hx
  rename_i l' et hk
  split at hx
  case h_2=>cases hx
  rename_i te hte
  cases hx
  refine B1 (S:=bb tb N K e (.index t x i)) trivial fun f1 hf1=>aN (S:=bb tb N K e (.index t x i)) fun gx hgx=>aN (S:=bb tb N K e (.index t x i)) fun gi hgi=>?_
  subst hgx;subst hgi
  intro a b c d tm hp nx G k sl Wg W h0 h
  obtain ⟨tf,htf,hf1⟩:=hf1
  rw [hte] at htf
  cases htf
  have hw:=jG Wg x
  refine np h0 fun ik n hi=>Dg h0 fun m hn=>bX h0 fun hb=>BN h0 fun ct n1 hx=>?_
  subst hn
  have hx0:=hx
  rw [hx] at hw
  obtain ⟨cs,hc⟩:=hw
  have hlt:m<l:=bd hb
  refine hf1 G ct n1 cs _ k sl hc h0 fun u v hl hv hw=>h u (vok W (ps:= [.rng (.ofNat m) l]) (v:=v) ?_ (om ⟨by show (0:Int)≤(m:Int);omega,by show (m:Int)<l;omega⟩) (VLe.of_eq hv) hw)
  have hl:ld te cs ((Int.ofNat m).toNat*te.size) = .val [] v []:=hl
  simp only [aA,bW,bO,ht,tva hc hx0,tvi hi,lp,hk,hte,hl]
theorem JR {op:BinOp} {t t2:TypeId} {x y:Operand}:bb tb N K e (.binOp op t x y t2) (Nh op t x y t2 K e tb):=by
 unfold Nh
 cases hty:PN tb t with
 | false=>trivial
 | true=>
  obtain ⟨td,ht⟩ :∃ td,tb t=some td:=by
   unfold PN at hty
   split at hty
   ·exact ⟨_,by assumption⟩
   ·cases hty
  have main :∀ f:Eu,(∀ (ik:IntKind) (p q:Int) (G:Rv→Prop) (k:U→Rv) (sl:Rv),G sl→(∀ u ps v,fh td op (.int ik p) (.int ik q) = .val ps v []→(∀ p∈ps,p.holds)→VLe v u.toV→u.wf→G (k u))→G (f ik p q k sl))→
    bb tb N K e (.binOp op t x y t2) (di K e x fun gx=>di K e y fun gy=> .val fun a b c d tm _ _=>JN f (gx a b c d tm) (gy a b c d tm)):=fun f hf=>by
   refine aN (S:=bb tb N K e (.binOp op t x y t2)) fun gx hgx=>aN (S:=bb tb N K e (.binOp op t x y t2)) fun gy hgy=>?_
   subst hgx;subst hgy
   intro a b c d tm hp nx G k sl Wg W h0 h
   refine np h0 fun ik p hx=>np h0 fun ik' q hy=>bX h0 fun hk=>?_
   have e1:=Dr hk
   subst e1
   refine hf ik p q G k sl h0 fun u ps v hr hps hv hw=>h u (vok W (ps:=ps) (v:=v) ?_ hps hv hw)
   simp only [aA,bW,bO,ht,tvi hx,tvi hy,hr]
  have bo :∀ (f:Eu) (r s:IntKind→Int→Int→Bool),(∀ ik p q k sl,f ik p q k sl=k (.kb (r ik p q)))→(∀ ik p q,r ik p q=s ik p q)→(∀ ik p q,fh td op (.int ik p) (.int ik q) = .val [] (.bool (s ik p q)) [])→
    bb tb N K e (.binOp op t x y t2) (di K e x fun gx=>di K e y fun gy=> .val fun a b c d tm _ _=>JN f (gx a b c d tm) (gy a b c d tm)):=fun f r s h1 h2 h3=>main f fun ik p q G k sl h0 h=>by
   rw [h1]
   exact h _ [] _ (h3 ik p q) ef (by rw [h2];exact Hr _) trivial
  have nu :∀ (f:Eu) (r s:IntKind→Int→Int→Int),(∀ ik p q k sl,f ik p q k sl=k (.int ik (r ik p q)))→(∀ ik p q,r ik p q=s ik p q)→(∀ ik p q,fh td op (.int ik p) (.int ik q) = .val [] (.int ik (s ik p q)) [])→
    bb tb N K e (.binOp op t x y t2) (di K e x fun gx=>di K e y fun gy=> .val fun a b c d tm _ _=>JN f (gx a b c d tm) (gy a b c d tm)):=fun f r s h1 h2 h3=>main f fun ik p q G k sl h0 h=>by
   rw [h1]
   exact h _ [] _ (h3 ik p q) ef (by rw [h2];exact VLe.refl _) trivial
  cases op with
  | add=>exact nu Qc (fun ik p q=>eN ik p q) (fun ik p q=>ik.wrap (p+q)) (fun _ _ _ _ _=>rfl) JM (fun ik p q=>by simp only [fh,if_true])
  | sub=>exact nu Qg (fun ik p q=>PJ ik p q) (fun ik p q=>ik.wrap (p - q)) (fun _ _ _ _ _=>rfl) Lc (fun ik p q=>by simp only [fh,if_true])
  | mul=>exact nu Qd (fun ik p q=>Ov ik p q) (fun ik p q=>ik.wrap (p*q)) (fun _ _ _ _ _=>rfl) Kw (fun ik p q=>by simp only [fh,if_true])
  | quo=>
   refine main Qe fun ik p q G k sl h0 h=>LI h0 fun m n ha hb=>bX h0 fun h1=>?_
   have h1:1≤n:=bd h1
   subst ha;subst hb
   refine h _ [.ne0 (.ofNat n)] (.int ik (ik.wrap ((Int.ofNat m).tdiv (.ofNat n)))) (by simp only [fh,if_true]) (om (by show ¬(n:Int)=0;omega)) ?_ trivial
   have:xj ik (Nat.div m n) (ik.wrap ((Int.ofNat m).tdiv (.ofNat n)))=ik.wrap ((Int.ofNat m).tdiv (.ofNat n)):=nV (by rfl)
   show VLe _ (V.int ik (xj ik (Nat.div m n) _))
   rw [this]
   exact VLe.refl _
  | rem=>
   refine main Qf fun ik p q G k sl h0 h=>LI h0 fun m n ha hb=>bX h0 fun h1=>?_
   have h1:1≤n:=bd h1
   subst ha;subst hb
   exact h _ [.ne0 (.ofNat n)] (.int ik ((Int.ofNat m).tmod (.ofNat n))) (by simp only [fh,if_true]) (om (by show ¬(n:Int)=0;omega)) (VLe.refl _) trivial
  | and=>trivial
  | or=>trivial
  | xor=>trivial
  | shl=>trivial
  | shr=>trivial
  | andNot=>trivial
  | eql=>exact bo fEq (fun _ p q=>eqS p q) (fun _ p q=>p==q) (fun _ _ _ _ _=>rfl) (fun _=>BF) (fun ik p q=>by simp only [fh,if_true])
  | neq=>exact bo fNe (fun _ p q=>Ft (eqS p q)) (fun _ p q=>p != q) (fun _ _ _ _ _=>rfl) (fun _ p q=>by rw [DP,BF];rfl) (fun ik p q=>by simp only [fh,if_true])
  | lss=>exact bo fLt (fun _ p q=>ltS p q) (fun _ p q=>decide (p<q)) (fun _ _ _ _ _=>rfl) (fun _=>HE) (fun ik p q=>by simp only [fh,if_true])
  | leq=>exact bo fLe (fun _ p q=>leS p q) (fun _ p q=>decide (p≤q)) (fun _ _ _ _ _=>rfl) (fun _=>Hy) (fun ik p q=>by simp only [fh,if_true])
  | gtr=>exact bo fGt (fun _ p q=>ltS q p) (fun _ p q=>decide (p>q)) (fun _ _ _ _ _=>rfl) (fun _ p q=>HE q p) (fun ik p q=>by simp only [fh,if_true])
  | geq=>exact bo fGe (fun _ p q=>leS q p) (fun _ p q=>decide (p≥q)) (fun _ _ _ _ _=>rfl) (fun _ p q=>Hy q p) (fun ik p q=>by simp only [fh,if_true])
theorem Np {op:UnOp} {t:TypeId} {x:Operand}:bb tb N K e (.unOp op t x) (cUn op t x K e tb):=by
 cases op with
 | not=>
  refine aN (S:=bb tb N K e (.unOp .not t x)) fun gx hgx=>?_
  subst hgx
  intro a b c d tm hp nx G k sl Wg W h0 h
  refine LK h0 fun q hx=>h _ (vok W (ps:= []) (v:= .kb (!q)) (by simp only [aA,bW,bO,GU,tvb hx]) ef (by rw [←DP];exact VLe.refl _) trivial)
 | _=>trivial
theorem Gw {s t:TypeId} {x:Operand}:bb tb N K e (.convert s t x) (Gv s t x K e tb):=by
 unfold Gv
 cases hk:cvI tb s t with
 | none=>trivial
 | some ik=>
  unfold cvI at hk
  split at hk
  case h_2=>cases hk
  rename_i ts td hs hd
  split at hk
  case h_2=>cases hk
  rename_i k1 k2 hks hkd
  cases hk
  refine aN (S:=bb tb N K e (.convert s t x)) fun gx hgx=>?_
  subst hgx
  intro a b c d tm hp nx G k sl Wg W h0 h
  refine np h0 fun ik' n hx=>h _ (vok W (ps:= []) (v:= .int ik (ik.wrap n)) (by simp only [aA,bW,bO,hs,hd,qq,xc,hks,hkd,tvi hx]) ef (by rw [←Ns];exact VLe.refl _) trivial)
theorem qW (ev:Operand→U) :∀ l:List Operand,C6 l ev=l.map fun x=>(ev x).toV
 | []=>rfl
 | x::l=>by show (ev x).toV::C6 l ev=_;rw [qW ev l];rfl
theorem No {fn:Fn} {first caps:Array Operand}:bb tb N K e (.makeFunc fn first caps) (cMF fn first caps K e tb):=by
 unfold cMF
 cases fn with
 | func f=>
  show bb tb N K e _ (Bool.rec (motive:=fun _=>Stp) .slow _ (Nat.beq first.size 0))
  cases hb:Nat.beq first.size 0 with
  | false=>trivial
  | true=>
   have hs:=ax hb
   intro a b c d tm hp nx G k sl Wg W h0 h
   refine bX h0 fun hpl=>?_
   rw [qW] at hpl
   have hf0:first.toList=[]:=by simpa using hs
   exact h _ (vok W (ps:= []) (v:= .fn f (caps.toList.map fun x=>(rdS K e x a b c d tm).toV)) (by simp only [aA,bW,bO,hf0,List.map_nil];rw [Ck hpl]) ef (by rw [qW];exact VLe.refl _) trivial)
 | _=>trivial
theorem PR (w:W) :(wU w).toV=w.toV:=by
 cases w with
 | c x=>exact Bv x
 | agg t n=>rfl
theorem Q8 {w:W} (h:w.wf) :(wU w).wf:=by
 cases w with
 | c x=>exact GA x
 | agg t n=>exact h
theorem LJ {G:Rv→Prop} {sl:Rv} (h0:G sl) {k:U→Rv} :∀ (i:Nat) (l:List W),(∀ w,l[i]?=some w→G (k (wU w)))→G (QB i l k sl)
 | 0,[],_=>h0
 | 0,w::_,h=>h w rfl
 | i+1,[],_=>h0
 | i+1,w::l,h=>LJ h0 i l h
theorem JT {x:Operand} {i:Nat}:bb tb N K e (.extract x i) (P4 x i K e tb):=by
 refine aN (S:=bb tb N K e (.extract x i)) fun gx hgx=>?_
 subst hgx
 intro a b c d tm hp nx G k sl Wg W h0 h
 have hw:=jG Wg x
 refine NH h0 fun l hx=>LJ h0 i l fun w hl=>?_
 have hx0:=hx
 rw [hx] at hw
 exact h _ (vok W (ps:= []) (v:=w.toV) (by simp only [aA,bW,bO,l9,tvt hx0,List.getElem?_map,hl,Option.map_some]) ef (VLe.of_eq (PR w).symm) (Q8 (hw w (List.mem_of_getElem? hl))))
theorem JW {x:Operand}:bb tb N K e (.nilCheck x) (P5 x K e tb):=by
 refine aN (S:=bb tb N K e (.nilCheck x)) fun gx hgx=>?_
 subst hgx
 intro a b c d tm hp nx G k sl Wg W h0 h
 refine oY h0 (fun q o hx=>?_) (fun q v o hx=>?_)
 ·exact h _ (vok W (ps:= []) (v:= .ptr q o) (by simp only [aA,bW,bO,y7,tvp hx]) ef (VLe.refl _) trivial)
 ·exact h _ (vok W (ps:= []) (v:= .gp q v o) (by simp only [aA,bW,bO,y7,tvg hx]) ef (VLe.refl _) trivial)
theorem rH {G:Rv→Prop} {sl:Rv} (h0:G sl) {a b c d:U} {tm:TM} (Wg :∀ i,(cZ K e i a b c d tm).wf) {pi:Nat→PI} {f:Nat→Option (Nat×Nat)} (hf :∀ i o s,pi i = .at o s→f i=some (o,s)) {n:Nat} :∀ {l:List (Nat×Operand)} {gs:List PG},OP K e pi l gs→∀ {t:CT} {cs:List V} {k:CT→Rv},CsR t n cs→
  (∀ t' cs',CsR t' n cs'→gJ f cs (l.map fun p=>(p.1,(rdS K e p.2 a b c d tm).toV))=some cs'→G (k t'))→G (GX a b c d tm n gs t k sl)
 | [],[],_,t,cs,k,hc,h=>h t cs hc rfl
 | q::l,.at o s g::gs,hp,t,cs,k,hc,h=>by
  obtain ⟨hp1,hp2,hp3⟩:=hp
  subst hp2
  have hfi:=hf _ _ _ hp1
  have hw:=jG Wg q.2
  refine bX h0 fun hle=>?_
  have hle:o+s≤n:=bd hle
  refine G2 h0 (fun x hx h1=>bX h0 fun hs=>?_) fun xt m hx=>bX h0 fun hs=>?_
  ·have e1:s=1:=ax hs
   subst e1
   rw [hx] at h1
   refine rH h0 Wg hf hp3 (hc.put (i:=o) (x:=x) (by omega) (by rw [hx];exact h1)) fun t' cs' hc' hfl=>h t' cs' hc' ?_
   simp only [List.map_cons,gJ,hfi,yw h1,List.length_singleton,if_true,hc.len,hle]
   rw [←sQ (by rw [hc.len];omega),←hx]
   exact hfl
  ·have e1:s=m:=ax hs
   subst e1
   have hx0:=hx
   rw [hx] at hw
   obtain ⟨xs,hxs⟩:=hw
   refine rH h0 Wg hf hp3 (hc.splice hxs hle rfl) fun t' cs' hc' hfl=>h t' cs' hc' ?_
   simp only [List.map_cons,gJ,hfi,tva hxs hx0,cellsOf,hxs.len,if_true,hc.len,hle]
   exact hfl
 | [],.at _ _ _::_,h,_,_,_,_,_=>h.elim
 | _::_,[],h,_,_,_,_,_=>h.elim
theorem EE {t:TypeId} {parts:Array (Nat×Operand)}:bb tb N K e (.build t parts) (Bt t parts K e tb):=by
 unfold Bt
 cases hb:wJ tb t with
 | false=>trivial
 | true=>
  cases hz:wy tb t with
  | no=>trivial
  | «at» z n=>
   obtain ⟨td,ht,hc⟩:=Bg hz
   refine pz (S:=bb tb N K e (.build t parts)) trivial fun gs hgs=>?_
   intro a b c d tm hp nx G k sl Wg W h0 h
   unfold wJ at hb
   rw [ht] at hb
   simp only at hb
   split at hb
   ·rename_i fs hk
    refine rH h0 Wg (f:=fun i=>(fs[i]?).map fun q=>(q.1,((tb q.2).map TD.size).getD 0)) (fun i o s hi=>?_) hgs hc fun t' cs' hc' hfl=>?_
    ·unfold II at hi
     rw [ht] at hi
     simp only [hk] at hi
     split at hi
     ·rename_i o' ft hft
      split at hi
      ·rename_i tf htf
       cases hi
       simp [hft,htf]
      ·cases hi
     ·cases hi
    ·exact h _ (vok W (ps:= []) (v:= .agg cs') (by simp only [aA,bW,bO,ht,l8,hk,hb,if_true,hfl]) ef (by show VLe _ (V.agg (toL t' n));rw [hc'.toL];exact VLe.refl _) ⟨_,hc'⟩)
   ·rename_i l et hk
    obtain ⟨te,hte⟩:=Option.isSome_iff_exists.1 hb
    refine rH h0 Wg (f:=fun i=>some (i*te.size,te.size)) (fun i o s hi=>?_) hgs hc fun t' cs' hc' hfl=>?_
    ·unfold II at hi
     rw [ht] at hi
     simp only [hk,hte] at hi
     cases hi
     rfl
    ·exact h _ (vok W (ps:= []) (v:= .agg cs') (by simp only [aA,bW,bO,ht,l8,hk,hte,hfl]) ef (by show VLe _ (V.agg (toL t' n));rw [hc'.toL];exact VLe.refl _) ⟨_,hc'⟩)
   ·cases hb
theorem Qb {td te:TD} {et:TypeId} (hk:td.kind = .slice et) (hte:tb et=some te) (hty:te.ty=none) (H:au) (m n:Nat) (parts:List (Nat×V)):cO tb td H m n parts=if n≤1000∧te.size≤1000∧te.zero.length=te.size then
     match gJ (fun i=>some (i*te.size,te.size)) (mF te.zero n) parts with
     | some cs=> .val [] (.gsl m m te.size 0 n) [(m,.grow m te.size cs)]
     | none=> .bad
    else .bad:=by
 have h1 :∀ H,cG tb td H m n parts = .bad:=fun H=>by simp only [cG,hk,hte,hty]
 have h2:dS tb td H m n parts = .bad:=by
  unfold dS
  rw [h1]
  simp only
  unfold ll
  rw [h1]
  cases Nv tb td <;> rfl
 unfold cO
 rw [h2]
 simp only [hk,hte]
 rfl
theorem JQ {t:TypeId} {n:Nat} {parts:Array (Nat×Operand)}:bb tb N K e (.buildSlice t n parts) (Ng t n parts K e tb):=by
 unfold Ng
 cases hb:Nd tb t n with
 | no=>trivial
 | «at» esz z len=>
  unfold Nd at hb
  split at hb
  case h_2=>cases hb
  rename_i td ht
  split at hb
  case h_2=>cases hb
  rename_i et hk
  split at hb
  case h_2=>cases hb
  rename_i te hte
  split at hb
  case isFalse=>cases hb
  rename_i hcond
  obtain ⟨h1,h2,h3,h4,h5⟩:=hcond
  cases hb
  have hty:te.ty=none:=by cases hq:te.ty with|none=>rfl|some _=>rw [hq] at h1;cases h1
  have hc:=CsR.ofL h5
  rw [AJ,h4] at hc
  refine pz (S:=bb tb N K e (.buildSlice t n parts)) trivial fun gs hgs=>?_
  intro a b c d tm hp nx G k sl Wg W h0 h
  refine rH h0 Wg (f:=fun i=>some (i*te.size,te.size)) (fun i o s hi=>(by cases hi;rfl)) hgs hc fun t' cs' hc' hfl=>?_
  show G (dV nx _)
  rw [cJ]
  refine rI h0 fun hm=>h _ _ ⟨⟨[],.gsl nx nx te.size 0 n,[(nx,.grow nx te.size cs')],by simp only [aA,bW,bO,ht,Qb hk hte hty,h2,h3,h4,and_self,if_true,hfl],ef,VLe.refl _,fJ hm ?_⟩,trivial,fK W hm ⟨_,hc'⟩⟩
  show some (Blk.grow nx te.size (toL t' _))=_
  rw [hc'.toL]
theorem LH {G:Rv→Prop} {sl:Rv} (h0:G sl) {x:Option Operand} {dn:Nat} {ev:Operand→U} {k:Nat→Rv} (h :∀ m:Nat,bnd (dn:Int) (x.map fun x=>(ev x).toV)=some (m:Int)→G (k m)):G (Nc x dn ev k sl):=by
 cases x with
 | none=>exact h dn rfl
 | some x=>
  refine np h0 fun ik n hx=>Dg h0 fun m hn=>h m ?_
  subst hn
  simp only [Option.map_some,tvi hx,bnd]
  rfl
theorem EG {t:TypeId} {x:Operand} {lo hi mx:Option Operand}:bb tb N K e (.slice t x lo hi mx) (Bu t x lo hi mx K e tb):=by
 unfold Bu
 cases mx with
 | some _=>trivial
 | none=>
  cases hs:O5 tb t with
  | none=>trivial
  | some esz=>
   unfold O5 at hs
   split at hs
   case h_2=>cases hs
   rename_i td ht
   refine aN (S:=bb tb N K e (.slice t x lo hi none)) fun gx hgx=>?_
   subst hgx
   intro a b c d tm hp nx G k sl Wg W h0 h
   refine G3 h0 fun q v e' o l hu=>pT h0 fun v' e2 ct n2 hg=>bX h0 fun h1=>bX h0 fun h2=>bX h0 fun h3=>LH h0 fun i hi=>LH h0 fun j hj=>bX h0 fun h4=>bX h0 fun h5=>?_
   obtain ⟨cs,hc,hH,_⟩:=fQ W hg
   have e1:=ax h1
   have e3:=ax h2
   have e4:=ax h3
   have h4:j≤l:=bd h4
   have h5:i<j:=bd h5
   subst e1
   subst e3
   subst e4
   have hcond :(Nat.beq i 0||Nat.blt i j)=true:=by
    rw [Bool.or_eq_true]
    exact .inr (by rw [Nat.blt_eq];exact h5)
   refine h _ (vok W (ps:= [.sub i j l]) (v:= .gsl q v esz (o+i) (j - i)) ?_ (om ⟨by omega,by omega,by omega⟩) (VLe.refl _) trivial)
   have hi:bnd 0 (lo.map fun x=>(rdS K e x a b c d tm).toV)=some (i:Int):=hi
   simp only [aA,bW,bO,ht,tvs hu,eV,Option.map_none,hs,hi,hj,hH,and_self,if_true,Int.toNat_natCast,hcond,cond_true]
theorem FA {S:Stp→Prop} (h0:S .slow) {l:List Operand} {k:Operand→Stp} (h :∀ x,l=[x]→S (k x)):S (Cc l k):=by
 match l with
 | []=>exact h0
 | [x]=>exact h x rfl
 | _::_::_=>exact h0
theorem F4 {S:Stp→Prop} (h0:S .slow) {l:List Operand} {k:Operand→Operand→Stp} (h :∀ x y,l=[x,y]→S (k x y)):S (JB l k):=by
 match l with
 | []=>exact h0
 | [x]=>exact h0
 | [x,y]=>exact h x y rfl
 | _::_::_::_=>exact h0
theorem JV {q:Call} (hq:q.callee = .builtin .len):bb tb N K e (.call q) (Nn q K e tb):=by
 unfold Nn
 cases hs:Hm tb q with
 | false=>trivial
 | true=>
  unfold Hm at hs
  split at hs
  case h_2=>cases hs
  rename_i t hat
  split at hs
  case h_2=>cases hs
  rename_i td ht
  obtain ⟨et,hk⟩ :∃ et,td.kind = .slice et:=by
   unfold Hl at hs
   split at hs
   ·exact ⟨_,by assumption⟩
   ·cases hs
  refine FA (S:=bb tb N K e (.call q)) trivial fun x hx=>aN (S:=bb tb N K e (.call q)) fun gx hgx=>?_
  subst hgx
  intro a b c d tm hp nx G k sl Wg W h0 h
  refine Dh h0 (fun hu=>?_) (fun hu=>?_) fun r v e' o l hu=>pT h0 fun v' e2 ct n2 hg=>bX h0 fun h1=>bX h0 fun h2=>bX h0 fun h3=>?_
  ·exact h _ (vok W (ps:= []) (v:= .int .i64 0) (by simp only [aA,bW,bO,hq,hat,hx,ht,tvo hu,iZ,uN,hk]) ef (VLe.refl _) trivial)
  ·exact h _ (vok W (ps:= []) (v:= .int .i64 0) (by simp only [aA,bW,bO,hq,hat,hx,ht,tvo hu,iZ,uN,hk]) ef (VLe.refl _) trivial)
  ·obtain ⟨cs,hc,hH,_⟩:=fQ W hg
   have e1:=ax h1
   have e3:=ax h2
   have h3:l≤aw:=bd h3
   subst e1
   subst e3
   exact h _ (vok W (ps:= []) (v:= .int .i64 l) (by simp only [aA,bW,bO,hq,hat,hx,ht,tvs hu,iZ,hk,hH,h3,and_self,if_true]) ef (VLe.refl _) trivial)
theorem Rr {G:Rv→Prop} {sl:Rv} (h0:G sl) {hp:HP} (W:hpW hp) {esz:Nat} {u:U} {k:Nat→CT→Nat→Rv} (h :∀ cnt t xo n cs,CsR t n cs→xo+cnt*esz≤n→ja (hpH hp) esz u.toV=some (cnt,(cs.drop xo).take (cnt*esz))→G (k cnt t xo)):G (gcG hp esz u k sl):=by
 refine Dh h0 (fun hu=>?_) (fun hu=>?_) fun r v e' o l hu=>pT h0 fun v' e2 ct n2 hg=>bX h0 fun h1=>bX h0 fun h2=>bX h0 fun h3=>bX h0 fun h4=>?_
 ·exact h 0 ct0 0 0 [] (.nil _) (by omega) (by simp [tvo hu,ja])
 ·exact h 0 ct0 0 0 [] (.nil _) (by omega) (by simp [tvo hu,ja])
 ·obtain ⟨cs,hc,hH,_⟩:=fQ W hg
  have e1:=ax h1
  have e3:=ax h2
  have e4:=ax h3
  have h4 :(o+l)*esz≤n2:=bd h4
  refine h l ct (o*esz) n2 cs hc (by rw [←Nat.add_mul];exact h4) ?_
  simp only [tvs hu,ja,hH,e1,e3,e4,and_self,if_true]
theorem JP {q:Call} (hq:q.callee = .builtin .append):bb tb N K e (.call q) (Nf q K e tb):=by
 unfold Nf
 cases ha:M8 tb q with
 | no=>trivial
 | «at» esz bytes=>
  unfold M8 at ha
  split at ha
  case h_2=>cases ha
  rename_i t t2 hat
  split at ha
  case h_2=>cases ha
  rename_i td td2 ht ht2
  split at ha
  case h_2=>cases ha
  rename_i et hk
  split at ha
  case h_2=>cases ha
  rename_i te hte
  split at ha
  case isFalse=>cases ha
  rename_i hcond
  obtain ⟨hel,hty,hb1,hb2,hz⟩:=hcond
  cases ha
  refine F4 (S:=bb tb N K e (.call q)) trivial fun s x hsx=>aN (S:=bb tb N K e (.call q)) fun gs hgs=>aN (S:=bb tb N K e (.call q)) fun gx hgx=>?_
  subst hgs;subst hgx
  intro a b c d tm hp nx G k sl Wg W h0 h
  refine Rr h0 W fun cnt xt xo xn xs hxc hxo hgc=>?_
  show G (dV nx _)
  rw [cJ]
  have hall :((xs.drop xo).take (cnt*te.size)).all V.one=true:=List.all_eq_true.2 fun v hv=>hxc.one v (List.mem_of_mem_drop (List.mem_of_mem_take hv))
  have main:aA ⟨tb,fun _=>none,1,N⟩ nx (hpH hp) (fun x=>(rdS K e x a b c d tm).toV) (.call q)=match dF tb td (hpH hp) nx (rdS K e s a b c d tm).toV (rdS K e x a b c d tm).toV with | .val ps v dh=>some (ps,v,dh)|_=>none:=by
   simp only [aA,bW,bO,hq,hat,hsx,ht,ht2,M9,hel,Bool.true_or,if_true]
   rfl
  have hev :∀ r,(match cnt with
       | 0=>(match (rdS K e s a b c d tm).toV with
        | .nilsl=> .val [] .nilsl []
        | .esl=> .val [] .esl []
        | .gsl h ver esz off len=>match hpH hp h with
         | some (.grow ver' esz' _)=>if ver=ver'∧esz=esz' then .val [] (.gsl h ver esz off len) [] else .bad
         | _=> .bad
        | _=> .bad)
       | k+1=>match (rdS K e s a b c d tm).toV with
        | .nilsl=> .val [.leN ((k+1)*te.bytes) 70368744177664] (.gsl nx nx te.size 0 (k+1)) [(nx,.grow nx te.size ((xs.drop xo).take (cnt*te.size)))]
        | .esl=> .val [.leN ((k+1)*te.bytes) 70368744177664] (.gsl nx nx te.size 0 (k+1)) [(nx,.grow nx te.size ((xs.drop xo).take (cnt*te.size)))]
        | .gsl h ver esz off len=>match hpH hp h with
         | some (.grow ver' esz' cs)=>if ver=ver'∧esz=te.size∧esz'=te.size∧off=0∧len*te.size=cs.length then
           .val [.leN ((len +(k+1))*te.bytes) 70368744177664] (.gsl h nx te.size 0 (len +(k+1))) [(h,.grow nx te.size (cs ++((xs.drop xo).take (cnt*te.size))))] else .bad
         | _=> .bad
        | _=> .bad:Res)=r→dF tb td (hpH hp) nx (rdS K e s a b c d tm).toV (rdS K e x a b c d tm).toV=r:=fun r hr=>by
   have hor:isG (rdS K e s a b c d tm).toV=true∨isG (rdS K e x a b c d tm).toV=true∨te.ty.isNone=true:= .inr (.inr hty)
   simp only [dF,hk,hte]
   rw [if_pos hor,if_pos ⟨hb1,hb2,hz⟩,hgc]
   simp only [hall,if_true]
   exact hr
  cases cnt with
  | zero=>
   have hw:=jG Wg s
   refine Dh h0 (fun hu=>?_) (fun hu=>?_) fun r v e' o l hu=>pT h0 fun v' e2 ct n2 hg=>bX h0 fun h1=>bX h0 fun h2=>?_
   ·exact h _ _ (vok W (ps:= []) (v:= .nilsl) (by rw [main,hev _ (by simp only [tvo hu];rfl)]) ef (by rw [hu];exact VLe.refl _) hw)
   ·exact h _ _ (vok W (ps:= []) (v:= .esl) (by rw [main,hev _ (by simp only [tvo hu];rfl)]) ef (by rw [hu];exact VLe.refl _) hw)
   ·obtain ⟨cs,hc,hH,_⟩:=fQ W hg
    have e1:=ax h1
    have e3:=ax h2
    subst e1
    subst e3
    exact h _ _ (vok W (ps:= []) (v:= .gsl r v e' o l) (by rw [main,hev (.val [] (.gsl r v e' o l) []) (by simp only [tvs hu,hH,and_self,if_true])]) ef (by rw [hu];exact VLe.refl _) hw)
  | succ cnt=>
   have hnew :(rdS K e s a b c d tm).toV = .nilsl∨(rdS K e s a b c d tm).toV = .esl→G (Gj te.size te.bytes hp nx (Nat.succ cnt) xt xo k sl):=fun hs=>by
    refine bX h0 fun h1=>bX h0 fun h2=>rI h0 fun hm=>?_
    have h1 :(cnt+1)*te.bytes≤70368744177664:=bd h1
    have hc:=hxc.sub hxo
    refine h _ _ ⟨⟨[.leN ((cnt+1)*te.bytes) 70368744177664],.gsl nx nx te.size 0 (cnt+1),[(nx,.grow nx te.size ((xs.drop xo).take ((cnt+1)*te.size)))],?_,om h1,VLe.refl _,fJ hm ?_⟩,trivial,fK W hm ⟨_,hc⟩⟩
    ·rw [main]
     rcases hs with hs|hs
     ·rw [hev _ (by simp only [hs];rfl)]
     ·rw [hev _ (by simp only [hs];rfl)]
    ·show some (Blk.grow nx te.size (toL (oL ct0 0 xt xo ((cnt+1)*te.size)) ((cnt+1)*te.size)))=_
     rw [hc.toL]
   refine Dh h0 (fun hu=>hnew (.inl (by rw [hu];rfl))) (fun hu=>hnew (.inr (by rw [hu];rfl))) fun r v e' o l hu=>pT h0 fun v' e2 ct n2 hg=>bX h0 fun h1=>bX h0 fun h2=>bX h0 fun h3=>bX h0 fun h4=>bX h0 fun h5=>bX h0 fun h6=>bX h0 fun h7=>?_
   obtain ⟨cs,hc,hH,hm⟩:=fQ W hg
   have e1:=ax h1
   have e3:=ax h2
   have e4:=ax h3
   have e5:=ax h4
   have e6:l*te.size=n2:=ax h5
   have h6 :(l +(cnt+1))*te.bytes≤70368744177664:=bd h6
   have h7:n2 +(cnt+1)*te.size≤4096:=bd h7
   subst e1
   subst e3
   subst e5
   have e4:e2=te.size:=e4
   have hl:=hc.len
   have hap:=hc.app hxc hxo h7
   refine h _ _ ⟨⟨[.leN ((l +(cnt+1))*te.bytes) 70368744177664],.gsl r nx te.size 0 (l +(cnt+1)),[(r,.grow nx te.size (cs ++(xs.drop xo).take ((cnt+1)*te.size)))],?_,om h6,VLe.refl _,fJ hm ?_⟩,trivial,fK W hm ⟨_,hap⟩⟩
   ·rw [main,hev _ (by simp only [tvs hu,hH,e4,e6,hl,and_self,if_true];rfl)]
   ·show some (Blk.grow nx te.size (toL (oL ct n2 xt xo ((cnt+1)*te.size)) (n2 +(cnt+1)*te.size)))=_
    rw [hap.toL]
theorem yF (a b c d:U) (tm:TM) (cs:List V) :∀ l:List Operand,Gk (l.map (rdS K e)) a b c d tm cs =(l.map fun x=>rdS K e x a b c d tm)++cs.map jV
 | []=>rfl
 | x::l=>by
  show rdS K e x a b c d tm::Gk (l.map (rdS K e)) a b c d tm cs=_
  rw [yF a b c d tm cs l]
  rfl
theorem Gu {q:Call}:bb tb N K e (.call q) (Gs q K e tb):=by
 unfold Gs
 cases hq:q.callee with
 | value f=>
  refine aN (S:=bb tb N K e (.call q)) fun gf hgf=>An (S:=bb tb N K e (.call q)) fun gs hgs=>?_
  subst hgf;subst hgs
  intro a b c d tm G k sl Wg h0 h
  refine Qh h0 fun g cs hf=>bX h0 fun hpl=>?_
  rw [yF]
  refine h g _ ⟨⟨q,f,cs,rfl,hq,by show (rdS K e f a b c d tm).toV=_;rw [hf];rfl,hpl,fun E l hl=>?_⟩,fun u hu=>?_⟩
  ·rw [List.map_append,List.map_map,List.map_map]
   have :∀ (xs:List V) (l:List Value),ab E (xs++cs) l→ab E (xs++cs.map (U.toV ∘ jV)) l:=by
    intro xs
    induction xs with
    | nil=>intro l hl;exact oB (fun v=>v) _ kM cs l (by simpa using hl)
    | cons x xs ih=>
     intro l hl
     cases l with
     | nil=>simp [ab] at hl
     | cons y l=>simp only [List.cons_append,ab] at hl ⊢;exact ⟨hl.1,ih l hl.2⟩
   exact this _ l hl
  ·rcases List.mem_append.1 hu with h1|h1
   ·obtain ⟨x,_,rfl⟩:=List.mem_map.1 h1
    exact jG Wg x
   ·obtain ⟨v,_,rfl⟩:=List.mem_map.1 h1
    exact kN v
 | builtin b=>
  show bb tb N K e (.call q) (P3 b q K e tb)
  cases b with
  | append=>exact JP hq
  | len=>exact JV hq
  | _=>exact trivial
 | _=>exact trivial
theorem Nr (op:Op):bb tb N K e op (cmp K e tb op):=by
 cases op with
 | move x=>exact cMove_ok.1
 | assign x=>exact cMove_ok.2
 | pick=>exact Gy
 | alloc=>exact ED
 | box=>exact JS
 | build=>exact EE
 | buildSlice=>exact JQ
 | load=>exact Gx
 | store=>exact EH
 | nilCheck=>exact JW
 | binOp=>exact JR
 | unOp=>exact Np
 | convert=>exact Gw
 | makeFunc=>exact No
 | slice=>exact EG
 | fieldAddr=>exact Ni
 | field=>exact Nj
 | indexAddr=>exact Nk
 | index=>exact JU
 | extract=>exact JT
 | call=>exact Gu
 | _=>exact trivial
end Go.Mir
namespace Go.Mir
open Go.RowKit
variable {P:Program} {tb:Tbl} {N K:Nat}
structure TmW (K:Nat) (e:En) (a b c d:U) (tm:TM):Prop where
 win :∀ i,(cZ K e i a b c d tm).wf
 tm :∀ i,isK K i=true→((cr i).get tm).wf
structure TmR (K:Nat) (e:En) (a b c d:U) (tm:TM) (E:Env) (act:Act):Prop where
 win :∀ i,aa E (cZ K e i a b c d tm).toV (act.tmps.getD i undef)
 tm :∀ i,isK K i=true→aa E ((cr i).get tm).toV (act.tmps.getD i undef)
structure RV (B:Base) (E0:Env) (n0 N K:Nat) (e:En) (a b c d:U) (tm:TM) (hp:HP) (nx:Nat) (E:Env) (act:Act):Prop where
 rel:HRel B E
 ext:Ext E0 E
 h:E.H=hpH hp
 u :∀ n,E.U n→E0.U n∨(n0≤n∧n<nx)
 le:n0≤nx
 tm:TmR K e a b c d tm E act
 size:act.tmps.size=N
 defers:act.defers=[]
abbrev WT (K:Nat) (tm:TM):Prop:=TmW K en0 u0 u0 u0 u0 tm
abbrev RX (B:Base) (E0:Env) (n0 N K:Nat) (tm:TM) (hp:HP) (nx:Nat) (E:Env) (act:Act):Prop:=RV B E0 n0 N K en0 u0 u0 u0 u0 tm hp nx E act
theorem rO {K i:Nat} (h:isK K i=true):i<512:=by
 unfold isK at h
 cases hb:Nat.ble (Nat.succ i) 512 with
 | true=>exact bd hb
 | false=>rw [hb] at h;cases h
theorem gM (i:Nat) (tm:TM):cZ K en0 i u0 u0 u0 u0 tm=bif isK K i then (cr i).get tm else u0:=by
 unfold cZ
 have:Nat.beq en0.e0 (Nat.succ i)=false:=rfl
 cases hk:isK K i <;> rfl
theorem kj {p:U→Prop} {e:En} {i dd:Nat} {u a b c d:U} {tm tm':TM} (h0:p u0) (hu:i=dd→p u) (hw:i≠dd→p (cZ K e i a b c d tm)) (ht:i≠dd→isK K i=true→p ((cr i).get tm')):p (cZ K ⟨Nat.succ dd,e.e0,e.e1,e.e2⟩ i u a b c tm'):=by
 by_cases e1:i=dd
 ·have:cZ K ⟨Nat.succ dd,e.e0,e.e1,e.e2⟩ i u a b c tm'=u:=by
   unfold cZ
   have:Nat.beq (Nat.succ dd) (Nat.succ i)=true:=by rw [e1];exact Nat.beq_refl _
   simp only [this]
  rw [this]
  exact hu e1
 ·have hw:=hw e1
  have ht:=ht e1
  unfold cZ at hw ⊢
  have hb:Nat.beq (Nat.succ dd) (Nat.succ i)=false:=by
   cases hb:Nat.beq (Nat.succ dd) (Nat.succ i) with
   | false=>rfl
   | true=>exact absurd (Nat.succ.inj (ax hb)).symm e1
  simp only [hb]
  cases h1:Nat.beq e.e0 (Nat.succ i)
  case true=>rw [h1] at hw;exact hw
  rw [h1] at hw
  cases h2:Nat.beq e.e1 (Nat.succ i)
  case true=>rw [h2] at hw;exact hw
  rw [h2] at hw
  cases h3:Nat.beq e.e2 (Nat.succ i)
  case true=>rw [h3] at hw;exact hw
  cases h4:isK K i
  case true=>exact ht h4
  exact h0
theorem wq:u0.wf:=trivial
theorem nK {E:Env} {v:Value}:aa E u0.toV v:=by simp [u0,U.toV,aa]
theorem jo {K i j:Nat} (hi:isK K i=true) (hj:isK K j=true) (h:i≠j) (u:U) (tm:TM) :(cr j).get ((cr i).put u tm) =(cr j).get tm:=CZ (rO hi) (rO hj) h u tm
theorem jb {a:Act} {dd:Nat} (h:dd<a.tmps.size) (v:Value) :(a.put (some dd) v).tmps.getD dd undef=v:=by
 simp [Act.put,Array.getD_eq_getD_getElem?,h]
theorem ew {a:Act} {dd i:Nat} (h:i≠dd) (v:Value) :(a.put (some dd) v).tmps.getD i undef=a.tmps.getD i undef:=by
 simp [Act.put,Array.getD_eq_getD_getElem?,Array.getElem?_setIfInBounds_ne (Ne.symm h)]
theorem Jw {e:En} {dd:Nat} {u a b c d:U} {tm:TM} (h:TmW K e a b c d tm) (hu:u.wf):TmW K ⟨Nat.succ dd,e.e0,e.e1,e.e2⟩ u a b c tm:=
 ⟨fun i=>kj (p:=U.wf) (d:=d) (tm:=tm) wq (fun _=>hu) (fun _=>h.win i) (fun _ hk=>h.tm i hk),h.tm⟩
theorem Jy {e:En} {dd:Nat} (hd:isK K dd=true) {u a b c d:U} {tm:TM} (h:TmW K e a b c d tm) (hu:u.wf):TmW K ⟨Nat.succ dd,e.e0,e.e1,e.e2⟩ u a b c ((cr dd).put u tm):=by
 refine ⟨fun i=>kj (p:=U.wf) (d:=d) (tm:=tm) wq (fun _=>hu) (fun _=>h.win i) (fun hne hk=>?_),fun i hk=>?_⟩
 ·rw [jo hd hk (Ne.symm hne)];exact h.tm i hk
 ·by_cases e1:dd=i
  ·subst e1;rw [gv];exact hu
  ·rw [jo hd hk e1];exact h.tm i hk
theorem yq {e:En} {a b c d:U} {tm:TM} {E E':Env} {act:Act} (X:Ext E E') (h:TmR K e a b c d tm E act):TmR K e a b c d tm E' act:=
 ⟨fun i=>aK X _ _ (h.win i),fun i hk=>aK X _ _ (h.tm i hk)⟩
theorem Jv {e:En} {a b c d:U} {tm:TM} {E:Env} {act:Act} {v:Value} (h:TmR K e a b c d tm E act):TmR K e a b c d tm E (act.put none v):=h
theorem Jt {e:En} {dd:Nat} (hk0:isK K dd=false) {u a b c d:U} {tm:TM} {E:Env} {act:Act} (hd:dd<act.tmps.size) {v:Value} (h:TmR K e a b c d tm E act) (hu:aa E u.toV v):TmR K ⟨Nat.succ dd,e.e0,e.e1,e.e2⟩ u a b c tm E (act.put (some dd) v):=by
 refine ⟨fun i=>kj (p:=fun u=>aa E u.toV ((act.put (some dd) v).tmps.getD i undef)) (d:=d) (tm:=tm) nK (fun e1=>?_) (fun hne=>?_) (fun hne hk=>?_),fun i hk=>?_⟩
 ·rw [e1,jb hd];exact hu
 ·rw [ew hne];exact h.win i
 ·rw [ew hne];exact h.tm i hk
 ·have hne:i≠dd:=fun e1=>by rw [e1,hk0] at hk;cases hk
  rw [ew hne];exact h.tm i hk
theorem Ju {e:En} {dd:Nat} (hk0:isK K dd=true) {u a b c d:U} {tm:TM} {E:Env} {act:Act} (hd:dd<act.tmps.size) {v:Value} (h:TmR K e a b c d tm E act) (hu:aa E u.toV v):TmR K ⟨Nat.succ dd,e.e0,e.e1,e.e2⟩ u a b c ((cr dd).put u tm) E (act.put (some dd) v):=by
 refine ⟨fun i=>kj (p:=fun u=>aa E u.toV ((act.put (some dd) v).tmps.getD i undef)) (d:=d) (tm:=tm) nK (fun e1=>?_) (fun hne=>?_) (fun hne hk=>?_),fun i hk=>?_⟩
 ·rw [e1,jb hd];exact hu
 ·rw [ew hne];exact h.win i
 ·rw [ew hne,jo hk0 hk (Ne.symm hne)];exact h.tm i hk
 ·by_cases e1:dd=i
  ·subst e1;rw [gv,jb hd];exact hu
  ·rw [ew (Ne.symm e1),jo hk0 hk e1];exact h.tm i hk
theorem Cu {e:En} {a b c d:U} {tm:TM} {E:Env} {act:Act} (h:TmR K e a b c d tm E act) (x:Operand):aa E (rdS K e x a b c d tm).toV (act.eval x):=by
 cases x with
 | tmp i=>exact h.win i
 | const v=>exact kM _ _ _ (fO v)
 | func f=>simp only [rdS,U.toV,aa,Act.eval];exact ⟨#[],rfl,by simp [ab]⟩
 | global i=>exact nK
theorem TmW.out {e:En} {a b c d:U} {tm:TM} (h:TmW K e a b c d tm):WT K tm:=by
 refine ⟨fun i=>?_,h.tm⟩
 rw [gM]
 cases hk:isK K i with
 | true=>exact h.tm i hk
 | false=>exact wq
theorem TmR.out {e:En} {a b c d:U} {tm:TM} {E:Env} {act:Act} (h:TmR K e a b c d tm E act):TmR K en0 u0 u0 u0 u0 tm E act:=by
 refine ⟨fun i=>?_,h.tm⟩
 rw [gM]
 cases hk:isK K i with
 | true=>exact h.tm i hk
 | false=>exact nK
theorem RV.out {B:Base} {E0:Env} {n0:Nat} {e:En} {a b c d:U} {tm:TM} {hp:HP} {nx:Nat} {E:Env} {act:Act} (h:RV B E0 n0 N K e a b c d tm hp nx E act):RX B E0 n0 N K tm hp nx E act:=
 ⟨h.rel,h.ext,h.h,h.u,h.le,h.tm.out,h.size,h.defers⟩
def wA (P:Program) (g:FuncId) (args:List U) (u:U):Prop:=∀ (E:Env) (av:List Value),ab E (args.map U.toV) av→∃ v',aa E u.toV v'∧
 ∀ (o:Oper) (c:Call) (f:Operand) (l:Array Value) (a:Act) (next:Act→World→Prop) (Q:Exit→Act→World→Prop),o.op = .call c→c.callee = .value f→a.eval f = .func (.func g) #[] l→av=c.args.toList.map a.eval++l.toList→
  next (a.put o.dst v') E.w→o.wp P a E.w next Q
structure FnV (P:Program) (g:FuncId) (args:List U) (hp:HP) (nx:Nat) (u:U) (hp':HP) (nx':Nat):Prop where
 fn :∃ fn,P.funcs[g]?=some fn∧fn.body.isSome=true∧(fn.name == "runtime.NumGoroutine")=false
 le:nx≤nx'
 wf:u.wf
 hw:hpW hp'
 calls :∀ (B:Base) (E:Env) (av:List Value),HRel B E→E.H=hpH hp→ab E (args.map U.toV) av→(∀ n,nx≤n→n<nx'→¬ E.U n)→
  Calls P g av.toArray E.w fun e w'=>∃ E' v',e = .returned v'∧Came B E (hpH hp') nx nx' u.toV v' w' E'
structure CallVOK (P:Program) (call:ek):Prop where
 ok :∀ g args hp nx u hp' nx',(∀ x∈args,x.wf)→hpW hp→call g args hp nx = .ok u hp' nx'→FnV P g args hp nx u hp' nx'
 ex :∀ g args hp nx u hp' nx',(∀ x∈args,x.wf)→call g args hp nx = .ex u hp' nx'→hp'=hp∧nx'=nx∧u.wf∧wA P g args u
theorem Ll (v:V):VLe v (jl v):=fun _ _ h=>kL h
theorem Be {E:Env} :∀ {cs:List V} {l:List Value},ab E cs l→ab E (cs.map jl) l
 | [],[],_=>by simp [ab]
 | [],_::_,h=>by simp [ab] at h
 | _::_,[],h=>by simp [ab] at h
 | _::_,_::_,h=>by simp only [List.map_cons,ab] at h ⊢;exact ⟨kL h.1,Be h.2⟩
theorem yD (cs:List V):VLe (.agg cs) (.agg (cs.map jl)):=fun _ _ h=>by
 simp only [aa] at h ⊢
 obtain ⟨l,h1,h2⟩:=h
 exact ⟨l,h1,Be h2⟩
theorem BW (v:V):VLe v (kbV v):=by
 cases v with
 | agg cs=>exact yD cs
 | tup vs=>
  intro E x h
  simp only [kbV,aa] at h ⊢
  obtain ⟨l,h1,h2⟩:=h
  refine ⟨l,h1,?_⟩
  revert h2
  generalize l.toList=us
  induction vs generalizing us with
  | nil=>exact id
  | cons v vs ih=>
   cases us with
   | nil=>intro h;simp [ab] at h
   | cons u us=>
    intro h
    simp only [List.map_cons,ab] at h ⊢
    refine ⟨?_,ih us h.2⟩
    have h:=h.1
    cases v <;> first|exact yD _ _ _ h|exact kL h
 | _=>exact Ll _
abbrev Wp:=(Exit→Act→World→Prop)→Act→World→Prop
structure EndsV (N K:Nat) (e:En) (a b c d:U) (tm:TM) (hp:HP) (nx:Nat) (l:Lf) (tm':TM) (hp':HP) (nx':Nat) (W:Wp):Prop where
 l:l = .nrm
 le:nx≤nx'
 wt:WT K tm'
 hw:hpW hp'
 wp :∀ (B:Base) (E0:Env) (n0:Nat) (Q:Exit→Act→World→Prop) (E:Env) (act:Act),(∀ n,n0≤n→n<nx'→¬ E0.U n)→(∀ E act,RX B E0 n0 N K tm' hp' nx' E act→Q .normal act E.w)→RV B E0 n0 N K e a b c d tm hp nx E act→W Q act E.w
def pI (N K:Nat) (call:ek) (X:Cds) (e:En) (W:Wp):Prop:=∀ (a b c d:U) (tm:TM) (hp:HP) (nx:Nat) (l:Lf) (tm':TM) (hp':HP) (nx':Nat),TmW K e a b c d tm→hpW hp→X.run a b c d call tm hp nx = .go l tm' hp' nx'→EndsV N K e a b c d tm hp nx l tm' hp' nx' W
structure PostV (N K:Nat) (e:En) (a b c d:U) (tm:TM) (dst:Option Nat) (u:U) (hp1:HP) (nx1:Nat) (l:Lf) (tm':TM) (hp':HP) (nx':Nat) (W:Wp):Prop where
 l:l = .nrm
 le:nx1≤nx'
 wt:WT K tm'
 hw:hpW hp'
 wp :∀ (B:Base) (E0:Env) (n0:Nat) (Q:Exit→Act→World→Prop) (E:Env) (act:Act) (hp:HP) (nx:Nat) (E':Env) (v':Value),(∀ n,n0≤n→n<nx'→¬ E0.U n)→(∀ E act,RX B E0 n0 N K tm' hp' nx' E act→Q .normal act E.w)→RV B E0 n0 N K e a b c d tm hp nx E act→
  nx≤nx1→HRel B E'→Ext E E'→E'.H=hpH hp1→(∀ n,E'.U n→E.U n∨(nx≤n∧n<nx1))→aa E' u.toV v'→W Q (act.put dst v') E'.w
theorem mq {call:ek} {nxt:Cds} {e:En} {dst:Option Nat} {W:Wp} (hn:pI N K call nxt (enS e dst) W) (hd:dstIn N dst=true) {a b c d:U} {tm:TM} {u:U} {hp1:HP} {nx1:Nat} {l:Lf} {tm':TM} {hp':HP} {nx':Nat} (Wt:TmW K e a b c d tm) (hu:u.wf) (Wh:hpW hp1)
  (h:jE (dkS K dst) nxt u a b c d call tm hp1 nx1 = .go l tm' hp' nx'):PostV N K e a b c d tm dst u hp1 nx1 l tm' hp' nx' W:=by
 have mk :∀ {B:Base} {E0:Env} {n0:Nat} {E:Env} {act:Act} {hp:HP} {nx:Nat} {E':Env} {v':Value} {e2:En} {a2 b2 c2 d2:U} {tm2:TM},RV B E0 n0 N K e a b c d tm hp nx E act→nx≤nx1→HRel B E'→Ext E E'→E'.H=hpH hp1→(∀ n,E'.U n→E.U n∨(nx≤n∧n<nx1))→
   TmR K e2 a2 b2 c2 d2 tm2 E' (act.put dst v')→RV B E0 n0 N K e2 a2 b2 c2 d2 tm2 hp1 nx1 E' (act.put dst v'):=fun {B E0 n0 E act hp nx E' v' e2 a2 b2 c2 d2 tm2} hR hle hE hX hH hU hT=>by
  have hle0:=hR.le
  refine ⟨hE,hR.ext.trans hX,hH,fun n hn=>?_,Nat.le_trans hle0 hle,hT,by rw [lO];exact hR.size,by rw [gV];exact hR.defers⟩
  rcases hU n hn with h|h
  ·rcases hR.u n h with h|h
   ·exact .inl h
   ·exact .inr ⟨h.1,by have:=h.2;omega⟩
  ·exact .inr ⟨by omega,h.2⟩
 cases dst with
 | none=>
  have:=hn a b c d tm hp1 nx1 l tm' hp' nx' Wt Wh h
  exact ⟨this.l,this.le,this.wt,this.hw,fun B E0 n0 Q E act hp nx E' v' hfr hQ hR hle hE hX hH hU hv=>this.wp B E0 n0 Q E' _ hfr hQ (mk hR hle hE hX hH hU (Jv (yq hX hR.tm)))⟩
 | some dd=>
  have hdn:dd<N:=by have h:Nat.blt dd N=true:=hd;rw [Nat.blt_eq] at h;exact h
  cases hk:isK K dd with
  | false=>
   have h1:Cds.run nxt u a b c call tm hp1 nx1 = .go l tm' hp' nx':=by
    have:dkS K (some dd) = .drop:=by show Bool.rec (motive:=fun _=>DK) _ _ (isK K dd)=_;rw [hk]
    rw [this] at h
    exact h
   have:=hn u a b c tm hp1 nx1 l tm' hp' nx' (Jw Wt hu) Wh h1
   exact ⟨this.l,this.le,this.wt,this.hw,fun B E0 n0 Q E act hp nx E' v' hfr hQ hR hle hE hX hH hU hv=>this.wp B E0 n0 Q E' _ hfr hQ (mk hR hle hE hX hH hU (Jt hk (by rw [hR.size];exact hdn) (yq hX hR.tm) hv))⟩
  | true=>
   have h1:Cds.run nxt u a b c call ((cr dd).put u tm) hp1 nx1 = .go l tm' hp' nx':=by
    have:dkS K (some dd) = .keep (cr dd).put:=by show Bool.rec (motive:=fun _=>DK) _ _ (isK K dd)=_;rw [hk]
    rw [this] at h
    exact h
   have:=hn u a b c ((cr dd).put u tm) hp1 nx1 l tm' hp' nx' (Jy hk Wt hu) Wh h1
   exact ⟨this.l,this.le,this.wt,this.hw,fun B E0 n0 Q E act hp nx E' v' hfr hQ hR hle hE hX hH hU hv=>this.wp B E0 n0 Q E' _ hfr hQ (mk hR hle hE hX hH hU (Ju hk (by rw [hR.size];exact hdn) (yq hX hR.tm) hv))⟩
theorem kH :∀ {dh:List (Nat×Blk)} {hp hp':HP},hpW hp→sR dh hp=some hp'→hpH hp'=ak (hpH hp) dh∧hpW hp'
 | [],hp,hp',W,h=>by cases h;exact ⟨rfl,W⟩
 |(q,b)::r,hp,hp',W,h=>by
  unfold sR at h
  split at h
  case h_2=>cases h
  rename_i hp1 h1
  obtain ⟨e1,W1⟩:=kH W h1
  cases hq:Nat.ble (Nat.succ q) Ks with
  | false=>rw [hq] at h;cases h
  | true=>
   have hq:q<262144:=bd hq
   have key :∀ (b':Bk) (b:Blk),b'.toB=some b→b'.wf→hpH (cX hp1 q b')=ak (hpH hp) ((q,b)::r)∧hpW (cX hp1 q b'):=fun b' b hb hw=>by
    refine ⟨?_,fK W1 hq hw⟩
    rw [fJ hq hb,e1]
    funext k
    simp only [ak,find]
    cases Nat.beq q k <;> rfl
   rw [‹Nat.ble (Nat.succ q) Ks=true›] at h
   simp only [cond_true] at h
   split at h
   ·rename_i cs
    cases ho:fS cs with
    | false=>rw [ho] at h;cases h
    | true=>
     rw [ho] at h
     cases h
     have hc:=CsR.ofL ho
     exact key _ _ (by show some (Blk.cells (toL _ _))=_;rw [hc.toL]) ⟨_,hc⟩
   ·rename_i v e cs
    cases ho:fS cs with
    | false=>rw [ho] at h;cases h
    | true=>
     rw [ho] at h
     cases h
     have hc:=CsR.ofL ho
     exact key _ _ (by show some (Blk.grow _ _ (toL _ _))=_;rw [hc.toL]) ⟨_,hc⟩
   ·cases h
    exact key _ _ rfl trivial
   ·cases h
   ·cases h
section
variable {call:ek} {all:List Oper}
abbrev opW (P:Program) (o:Oper) (W:Wp):Wp:=fun Q act w=>o.wp P act w (fun act w=>W Q act w) Q
theorem tv (hT:aZ P tb) {o:Oper} {e:En} {a b c d:U} {tm:TM} {hp:HP} {nx:Nat} {u:U} {hp1:HP} {l:Lf} {tm':TM} {hp':HP} {nx':Nat} {W:Wp} (hv:ValOK tb N (fun x=>(rdS K e x a b c d tm).toV) o.op hp nx u hp1)
  (hq:PostV N K e a b c d tm o.dst u hp1 (Nat.succ nx) l tm' hp' nx' W):EndsV N K e a b c d tm hp nx l tm' hp' nx' (opW P o W):=by
 obtain ⟨ps,v,dh,h1,h2,h3,h4⟩:=hv.ex
 have hle:=hq.le
 refine ⟨hq.l,by omega,hq.wt,hq.hw,fun B E0 n0 Q E act hfr hQ hR=>?_⟩
 have hle0:=hR.le
 have hH:=hR.h
 rw [←hH] at h1
 refine du (C:=⟨tb,fun _=>none,1,N⟩) hR.rel hT (Nat.le_refl _) (fun _ _ h=>by cases h) (fun n k1 k2 hu=>?_) (Cu hR.tm) h1 h2 (fun v' E' G hv'=>?_)
 ·have k2:n<nx+1:=k2
  rcases hR.u n hu with h|h
  ·exact hfr n (by omega) (by omega) h
  ·have:=h.2;omega
 ·exact hq.wp B E0 n0 Q E act _ nx E' v' hfr hQ hR (Nat.le_succ nx) G.rel G.ext (by rw [G.h,hH,h4]) (fun n hn=>by
   rcases G.u n hn with h|h
   ·exact .inl h
   ·exact .inr h) (h3 E' v' hv')
theorem FW (hT:aZ P tb) {o:Oper} {e:En} {nxt:Cds} {W:Wp} (hn:pI N K call nxt (enS e o.dst) W) (hd:dstIn N o.dst=true):pI N K call ⟨oy tb N K e o.op (dkS K o.dst) nxt⟩ e (opW P o W):=by
 intro a b c d tm hp nx l tm' hp' nx' Wt Wh h
 have h:dV nx (fun nx=>match re tb N nx (hpH hp) (fun x=>(rdS K e x a b c d tm).toV) o.op with
 | some (ps,v,dh)=>match LS ps with
  | true=>match sR dh hp with
   | some hp=>jE (dkS K o.dst) nxt (jV (kbV v)) a b c d call tm hp (Nat.succ nx)
   | none=> .no [104]
  | false=> .no [100]
 | none=> .no [101]) = .go l tm' hp' nx':=by
  simp only [oy,Mq,cJ] at h ⊢
  exact h
 rw [cJ] at h
 split at h
 case h_2=>cases h
 rename_i ps v dh hev
 split at h
 case h_2=>cases h
 rename_i hobs
 split at h
 case h_2=>cases h
 rename_i hp1 hs
 obtain ⟨e1,W1⟩:=kH Wh hs
 have hps :∀ p∈ps,p.holds:=fun p hp=>by
  cases ps with
  | nil=>cases hp
  | cons q qs=>
   have :(q::qs).all Ob.chk=true:=hobs
   exact Ob.chk_holds (List.all_eq_true.1 this p hp)
 exact tv hT ⟨⟨ps,v,dh,oS _ _ _ _ _ _ hev,hps,(BW v).trans (kM _),e1⟩,kN _,W1⟩ (mq hn hd Wt (kN _) W1 h)
theorem Jm (hT:aZ P tb) (hcall:CallVOK P call) {o:Oper} {e:En} {nxt:Cds} {W:Wp} (hn:pI N K call nxt (enS e o.dst) W) (hd:dstIn N o.dst=true):pI N K call (ym tb N K e o.op (dkS K o.dst) nxt (cmp K e tb o.op)) e (opW P o W):=by
 have hst:=Nr (tb:=tb) (N:=N) (K:=K) (e:=e) o.op
 have hsl:=FW (P:=P) (call:=call) (e:=e) hT hn hd
 generalize cmp K e tb o.op=s at hst
 cases s with
 | slow=>exact hsl
 | val f=>
  intro a b c d tm hp nx l tm' hp' nx' Wt Wh h
  have h:f a b c d tm hp nx (fun u=>jE (dkS K o.dst) nxt u a b c d call tm hp (Nat.succ nx)) (oy tb N K e o.op (dkS K o.dst) nxt a b c d call tm hp nx) = .go l tm' hp' nx':=by
   unfold ym at h
   cases hdk:dkS K o.dst <;>(rw [hdk] at h;exact h)
  revert h
  refine hst a b c d tm hp nx (fun r=>r = .go l tm' hp' nx'→EndsV N K e a b c d tm hp nx l tm' hp' nx' (opW P o W)) _ _ Wt.win Wh (hsl a b c d tm hp nx l tm' hp' nx' Wt Wh) (fun u hv h=>?_)
  exact tv hT hv (mq hn hd Wt hv.wf hv.hw h)
 | mem f=>
  intro a b c d tm hp nx l tm' hp' nx' Wt Wh h
  revert h
  refine hst a b c d tm hp nx (fun r=>r = .go l tm' hp' nx'→EndsV N K e a b c d tm hp nx l tm' hp' nx' (opW P o W)) _ _ Wt.win Wh (hsl a b c d tm hp nx l tm' hp' nx' Wt Wh) (fun u hp1 hv h=>?_)
  exact tv hT hv (mq hn hd Wt hv.wf hv.hw h)
 | cal f=>
  intro a b c d tm hp nx l tm' hp' nx' Wt Wh h
  revert h
  refine hst a b c d tm (fun r=>r = .go l tm' hp' nx'→EndsV N K e a b c d tm hp nx l tm' hp' nx' (opW P o W)) _ _ Wt.win (hsl a b c d tm hp nx l tm' hp' nx' Wt Wh) (fun g args hv h=>?_)
  obtain ⟨q,f,caps,ho,hf,hg,hpl,hargs⟩:=hv.ex
  have av :∀ {E:Env} {act:Act},TmR K e a b c d tm E act→∃ l:Array Value,act.eval f = .func (.func g) #[] l∧ab E (args.map U.toV) (q.args.toList.map act.eval++l.toList):=fun {E act} hR=>by
   have hfv:=Cu hR f
   rw [hg] at hfv
   simp only [aa] at hfv
   obtain ⟨l,hfe,hl⟩:=hfv
   rw [IJ hpl hl] at hfe
   exact ⟨l,hfe,hargs E _ (bc (eK _ _ (Cu hR) _) hl)⟩
  cases hc:call g args hp nx with
  | no w=>rw [hc] at h;cases h
  | ok u hp1 nx1=>
   rw [hc] at h
   have F:=hcall.ok g args hp nx u hp1 nx1 hv.wf Wh hc
   have hp2:=mq hn hd Wt F.wf F.hw (show jE (dkS K o.dst) nxt u a b c d call tm hp1 nx1 = .go l tm' hp' nx' from h)
   have hle1:=F.le
   have hle2:=hp2.le
   refine ⟨hp2.l,by omega,hp2.wt,hp2.hw,fun B E0 n0 Q E act hfr hQ hR=>?_⟩
   obtain ⟨l,hfe,hav⟩:=av hR.tm
   have hle0:=hR.le
   refine JX ho hf hfe F.fn (F.calls B E _ hR.rel hR.h hav (fun n h3 h4 hu=>?_)) (fun e w' hh=>?_)
   ·rcases hR.u n hu with h|h
    ·exact hfr n (by omega) (by omega) h
    ·have:=h.2;omega
   ·obtain ⟨E',v',rfl,C⟩:=hh
    refine ⟨v',rfl,?_⟩
    have:=hp2.wp B E0 n0 Q E act hp nx E' v' hfr hQ hR (by omega) C.rel C.ext C.h (fun n hn=>by
     rcases C.u n hn with h|h
     ·exact .inl h
     ·exact .inr ⟨h.1,by have:=h.2;omega⟩) C.v
    rw [C.w] at this
    exact this
  | ex u hp1 nx1=>
   rw [hc] at h
   obtain ⟨rfl,rfl,hu,hx⟩:=hcall.ex g args hp nx u hp1 nx1 hv.wf hc
   have hp2:=mq hn hd Wt hu Wh (show jE (dkS K o.dst) nxt u a b c d call tm hp1 nx1 = .go l tm' hp' nx' from h)
   have hle2:=hp2.le
   refine ⟨hp2.l,by omega,hp2.wt,hp2.hw,fun B E0 n0 Q E act hfr hQ hR=>?_⟩
   obtain ⟨l,hfe,hav⟩:=av hR.tm
   obtain ⟨v',hv',hcan⟩:=hx E _ hav
   exact hcan o q f l act _ Q ho hf hfe rfl (hp2.wp B E0 n0 Q E act hp1 nx1 E v' hfr hQ hR (Nat.le_refl _) hR.rel (Ext.refl E) hR.h (fun n hn=> .inl hn) hv')
theorem G8 {e:En} {i:Nat} {k:Gt→Cds}:G7 K e i k=k (cZ K e i):=by
 unfold G7 cZ
 cases Nat.beq e.e0 (Nat.succ i)
 case true=>rfl
 cases Nat.beq e.e1 (Nat.succ i)
 case true=>rfl
 cases Nat.beq e.e2 (Nat.succ i)
 case true=>rfl
 cases Nat.beq e.e3 (Nat.succ i)
 case true=>rfl
 cases isK K i
 case true=>rfl
 rfl
theorem Qi {e:En} {a b c d:U} {tm:TM} {E:Env} {act:Act} (hR:TmR K e a b c d tm E act) {o:Oper} {q:Nat×Bool} (hg:o.guard=some q) {dj:Nat} (hj:G0 all q.1=some dj) {r:Bool} (h :(match (cZ K e dj a b c d tm).toV with | .kb b=>some (b==q.2) | .tup []=>some false|_=>none:Option Bool)=some r):Region.wanted o (yielded all.toArray act.tmps)=r:=by
 refine lC (E:=E) (T:=fun s=>(cZ K e s a b c d tm).toV) hR.win ?_
 unfold G0 at hj
 obtain ⟨j,want⟩:=q
 rw [hg]
 simp only at hj ⊢
 cases hx:all[j]? with
 | none=>rw [hx] at hj;cases hj
 | some oj=>
  rw [hx] at hj
  simp only at hj ⊢
  rw [hj]
  exact h
theorem IC (hT:aZ P tb) (hcall:CallVOK P call) {o:Oper} {rest:List Oper} {e:En} {nxt:Cds} (hn:pI N K call nxt (enS e o.dst) (fun Q act w=>wpList P all.toArray Q rest act w)) (hd:dstIn N o.dst=true):pI N K call (OM tb N K all e o (dkS K o.dst) nxt) e (fun Q act w=>wpList P all.toArray Q (o::rest) act w):=by
 have hst:=Jm (P:=P) (e:=e) hT hcall hn hd
 unfold OM
 cases hg:o.guard with
 | none=>
  intro a b c d tm hp nx l tm' hp' nx' Wt Wh h
  have:=hst a b c d tm hp nx l tm' hp' nx' Wt Wh h
  refine ⟨this.l,this.le,this.wt,this.hw,fun B E0 n0 Q E act hfr hQ hR=>?_⟩
  unfold wpList
  have hw:Region.wanted o (yielded all.toArray act.tmps)=true:=by unfold Region.wanted;rw [hg]
  rw [hw]
  simp only [if_true]
  exact .inl (this.wp B E0 n0 Q E act hfr hQ hR)
 | some q=>
  intro a b c d tm hp nx l tm' hp' nx' Wt Wh h
  have h:Cds.run (Option.rec (motive:=fun _=>Cds) P0 (fun dj=>gdC K e dj q.2 (dkS K o.dst) nxt (ym tb N K e o.op (dkS K o.dst) nxt (cmp K e tb o.op))) (G0 all q.1)) a b c d call tm hp nx = .go l tm' hp' nx':=h
  cases hj:G0 all q.1 with
  | none=>
   rw [hj] at h
   cases h
  | some dj=>
   rw [hj] at h
   have run :(∀ {E:Env} {act:Act},TmR K e a b c d tm E act→Region.wanted o (yielded all.toArray act.tmps)=true)→Cds.run (ym tb N K e o.op (dkS K o.dst) nxt (cmp K e tb o.op)) a b c d call tm hp nx = .go l tm' hp' nx'→EndsV N K e a b c d tm hp nx l tm' hp' nx' (fun Q act w=>wpList P all.toArray Q (o::rest) act w):=fun hw h=>by
    have:=hst a b c d tm hp nx l tm' hp' nx' Wt Wh h
    refine ⟨this.l,this.le,this.wt,this.hw,fun B E0 n0 Q E act hfr hQ hR=>?_⟩
    unfold wpList
    rw [hw hR.tm]
    simp only [if_true]
    exact .inl (this.wp B E0 n0 Q E act hfr hQ hR)
   have skip :(∀ {E:Env} {act:Act},TmR K e a b c d tm E act→Region.wanted o (yielded all.toArray act.tmps)=false)→jE (dkS K o.dst) nxt (.tup []) a b c d call tm hp nx = .go l tm' hp' nx'→EndsV N K e a b c d tm hp nx l tm' hp' nx' (fun Q act w=>wpList P all.toArray Q (o::rest) act w):=fun hw h=>by
    have:=mq hn hd Wt (show (U.tup []).wf from fun w hw=>by cases hw) Wh h
    refine ⟨this.l,this.le,this.wt,this.hw,fun B E0 n0 Q E act hfr hQ hR=>?_⟩
    unfold wpList
    rw [hw hR.tm]
    simp only [Bool.false_eq_true,if_false]
    exact this.wp B E0 n0 Q E act hp nx E undef hfr hQ hR (Nat.le_refl _) hR.rel (Ext.refl E) hR.h (fun n hn=> .inl hn) (by simp [U.toV,aa,undef,ab])
   have h:Cds.run (gdC K e dj q.2 (dkS K o.dst) nxt (ym tb N K e o.op (dkS K o.dst) nxt (cmp K e tb o.op))) a b c d call tm hp nx = .go l tm' hp' nx':=h
   unfold gdC at h
   rw [G8] at h
   have gw :∀ r:Bool,(match (cZ K e dj a b c d tm).toV with | .kb b=>some (b==q.2) | .tup []=>some false|_=>none:Option Bool)=some r→∀ {E:Env} {act:Act},TmR K e a b c d tm E act→Region.wanted o (yielded all.toArray act.tmps)=r:=fun r h {E act} hR=>Qi hR hg hj h
   cases hq:q.2 with
   | true=>
    rw [hq] at h gw
    have h:Q4 (cZ K e dj a b c d tm) (Cds.run (ym tb N K e o.op (dkS K o.dst) nxt (cmp K e tb o.op)) a b c d call tm hp nx) (jE (dkS K o.dst) nxt (.tup []) a b c d call tm hp nx) (.no [105]) = .go l tm' hp' nx':=h
    cases hu:cZ K e dj a b c d tm with
    | kb p=>
     rw [hu] at h gw
     cases p with
     | true=>exact run (gw true rfl) h
     | false=>exact skip (gw false rfl) h
    | tup ws=>
     rw [hu] at h gw
     cases ws with
     | nil=>exact skip (gw false rfl) h
     | cons _ _=>cases h
    | _=>rw [hu] at h;cases h
   | false=>
    rw [hq] at h gw
    have h:Q3 (cZ K e dj a b c d tm) (Cds.run (ym tb N K e o.op (dkS K o.dst) nxt (cmp K e tb o.op)) a b c d call tm hp nx) (jE (dkS K o.dst) nxt (.tup []) a b c d call tm hp nx) (.no [105]) = .go l tm' hp' nx':=h
    cases hu:cZ K e dj a b c d tm with
    | kb p=>
     rw [hu] at h gw
     cases p with
     | true=>exact skip (gw false rfl) h
     | false=>exact run (gw true rfl) h
    | tup ws=>
     rw [hu] at h gw
     cases ws with
     | nil=>exact skip (gw false rfl) h
     | cons _ _=>cases h
    | _=>rw [hu] at h;cases h
theorem Aq (hT:aZ P tb) (hcall:CallVOK P call) :∀ (rest:List Oper) (e:En),(∀ o∈rest,dstIn N o.dst=true)→pI N K call (QG tb N K all rest e) e (fun Q act w=>wpList P all.toArray Q rest act w)
 | [],e,_=>by
  intro a b c d tm hp nx l tm' hp' nx' Wt Wh h
  have h:Rv.go .nrm tm hp nx = .go l tm' hp' nx':=h
  cases h
  exact ⟨rfl,Nat.le_refl _,Wt.out,Wh,fun B E0 n0 Q E act hfr hQ hR=>wpList_nil (hQ E act hR.out)⟩
 | o::rest,e,hd=>IC hT hcall (Aq hT hcall rest (enS e o.dst) (fun o ho=>hd o (List.mem_cons_of_mem _ ho))) (hd o List.mem_cons_self)
end
end Go.Mir
namespace Go.Mir
open Go.RowKit
variable {P:Program} {tb:Tbl} {N K:Nat}
theorem nn :∀ (l:List Nat) (k:List Nat→Rv),iC l k=k l
 | [],_=>rfl
 | n::r,k=>by simp only [iC,cJ,nn r]
noncomputable def tmL (K:Nat) (tm:TM):Nat→List (Nat×V)
 | 0=> []
 | n+1=>bif isK K n then (n,((cr n).get tm).toV)::tmL K tm n else tmL K tm n
theorem rF (tm:TM) (s:Nat) :∀ n,find (tmL K tm n) s=if s<n∧isK K s=true then some ((cr s).get tm).toV else none
 | 0=>by rw [if_neg (by omega)];rfl
 | n+1=>by
  simp only [tmL]
  cases hk:isK K n with
  | false=>
   rw [cond_false,rF tm s n]
   by_cases h:s<n∧isK K s=true
   ·rw [if_pos h,if_pos ⟨by omega,h.2⟩]
   ·rw [if_neg h,if_neg (fun e=>by
     by_cases e1:s=n
     ·rw [e1,hk] at e;cases e.2
     ·exact h ⟨by omega,e.2⟩)]
  | true=>
   simp only [cond_true,find]
   cases hb:Nat.beq n s with
   | true=>
    have e1:=ax hb
    subst e1
    rw [cond_true,if_pos ⟨by omega,hk⟩]
   | false=>
    have hne:n≠s:=fun e=>by subst e;rw [Nat.beq_refl] at hb;cases hb
    rw [cond_false,rF tm s n]
    by_cases h:s<n∧isK K s=true
    ·rw [if_pos h,if_pos ⟨by omega,h.2⟩]
    ·rw [if_neg h,if_neg (fun e=>h ⟨by omega,e.2⟩)]
def FL (K:Nat) (tm:TM) (L:List (Nat×V)):Prop:=∀ s,find L s=if isK K s=true then some ((cr s).get tm).toV else none
theorem wC (tm:TM):FL K tm (tmL K tm 512):=fun s=>by
 rw [rF]
 by_cases h:isK K s=true
 ·rw [if_pos ⟨rO h,h⟩,if_pos h]
 ·rw [if_neg (fun e=>h e.2),if_neg h]
theorem FL.look {tm:TM} {L:List (Nat×V)} (h:FL K tm L) (s:Nat):cq L s=vx K tm s:=by
 unfold cq vx
 rw [h s,gM]
 by_cases hk:isK K s=true
 ·rw [if_pos hk,hk];rfl
 ·have:isK K s=false:=by simpa using hk
  rw [if_neg hk,this]
  rfl
theorem jS (tm:TM) (i:Nat) (u:U):tj tm i u =(cr i).put u tm:=rfl
theorem FL.put {tm:TM} {L:List (Nat×V)} (h:FL K tm L) {d:Option Nat} (hd:yW N K d=true) {u:U} {v:V} (hv:u.toV=v):FL K (lN d u tm) (ca d v++L):=by
 cases d with
 | none=>exact h
 | some dd=>
  have hk:isK K dd=true:=by
   unfold yW at hd
   rw [Bool.and_eq_true] at hd
   exact hd.2
  intro s
  simp only [ca,List.singleton_append,find,lN,jS]
  cases hb:Nat.beq dd s with
  | true=>
   have e1:=ax hb
   subst e1
   rw [cond_true,if_pos hk,gv,hv]
  | false=>
   have hne:dd≠s:=fun e=>by subst e;rw [Nat.beq_refl] at hb;cases hb
   rw [cond_false,h s]
   by_cases hs:isK K s=true
   ·rw [if_pos hs,if_pos hs,jo hk hs hne]
   ·rw [if_neg hs,if_neg hs]
def KW (K:Nat) (tm:TM):Prop:=∀ i,isK K i=true→((cr i).get tm).wf
theorem KW.put {tm:TM} (h:KW K tm) {d:Option Nat} (hd:yW N K d=true) {u:U} (hu:u.wf):KW K (lN d u tm):=by
 cases d with
 | none=>exact h
 | some dd=>
  have hk:isK K dd=true:=by
   unfold yW at hd
   rw [Bool.and_eq_true] at hd
   exact hd.2
  intro i hi
  show ((cr i).get (tj tm dd u)).wf
  rw [jS]
  by_cases e1:dd=i
  ·subst e1;rw [gv];exact hu
  ·rw [jo hk hi e1];exact h i hi
theorem KW.wt {tm:TM} (h:KW K tm):WT K tm:=by
 refine ⟨fun i=>?_,h⟩
 rw [gM]
 cases hk:isK K i with
 | true=>exact h i hk
 | false=>exact wq
theorem J0 {d:Option Nat} (h:yW N K d=true):dstIn N d=true:=by
 cases d with
 | none=>rfl
 | some dd=>
  unfold yW at h
  rw [Bool.and_eq_true] at h
  exact h.1
theorem jy {all:List Oper} {L:List (Nat×V)} {tm:TM} (h :∀ s,cq L s=vx K tm s) (o:Oper):fa all L o=BP K all tm o:=by
 unfold fa BP
 cases o.guard with
 | none=>rfl
 | some q=>
  simp only
  cases all[q.1]? with
  | none=>rfl
  | some oj=>
   simp only
   cases oj.dst with
   | none=>rfl
   | some dj=>simp only;rw [h];rfl
theorem HF {rs:List Nat} {L:List (Nat×V)} {tm:TM} (h :∀ s,cq L s=vx K tm s):aX rs L=eE K rs tm:=by
 funext x
 cases x <;> simp only [aX,eE]
 rw [h]
theorem JE {v:V} {w:W} (h:wEx v=some w):w.toV=v∧w.wf:=by
 cases v with
 | agg cs=>
  have h :(Bool.rec (motive:=fun _=>Option W) none (some (.agg (ofL cs) cs.length)) (fS cs):Option W)=some w:=h
  cases ho:fS cs with
  | false=>rw [ho] at h;cases h
  | true=>
   rw [ho] at h
   cases h
   have hc:=CsR.ofL ho
   exact ⟨by show V.agg (toL _ _)=_;rw [hc.toL],⟨_,hc⟩⟩
 | tup vs=>cases h
 | _=>cases h;exact ⟨rfl,trivial⟩
theorem wv :∀ {vs:List V} {l:List W},JF vs=some l→l.map W.toV=vs∧∀ w∈l,w.wf
 | [],l,h=>by cases h;exact ⟨rfl,fun w hw=>by cases hw⟩
 | v::vs,l,h=>by
  simp only [JF] at h
  split at h
  case h_2=>cases h
  rename_i w hw
  split at h
  case h_2=>cases h
  rename_i l' hl
  cases h
  obtain ⟨h1,h2⟩:=JE hw
  obtain ⟨h3,h4⟩:=wv hl
  refine ⟨by rw [List.map_cons,h1,h3],fun x hx=>?_⟩
  rcases List.mem_cons.1 hx with rfl|hx
  ·exact h2
  ·exact h4 x hx
theorem tt {v:V} {u:U} (h:uEx v=some u):u.toV=jl v∧u.wf:=by
 cases v with
 | agg cs=>
  have h :(Bool.rec (motive:=fun _=>Option U) none (some (.agg (ofL cs) cs.length)) (fS cs):Option U)=some u:=h
  cases ho:fS cs with
  | false=>rw [ho] at h;cases h
  | true=>
   rw [ho] at h
   cases h
   have hc:=CsR.ofL ho
   exact ⟨by show V.agg (toL _ _)=_;rw [hc.toL];rfl,⟨_,hc⟩⟩
 | tup vs=>
  have h :(match JF vs with|some l=>some (U.tup l)|none=>none:Option U)=some u:=h
  split at h
  case h_2=>cases h
  rename_i l hl
  cases h
  obtain ⟨h1,h2⟩:=wv hl
  exact ⟨by show V.tup (l.map W.toV)=_;rw [h1];rfl,h2⟩
 | _=>cases h;exact ⟨rfl,trivial⟩
theorem Ey {hp:HP} {h:Nat} (hl :¬ h<262144) (b:Bk):cX hp h b=hp:=by rw [mY,C1 hl]
theorem sF {hp:HP} (j:Nat) :∀ (R:List Nat) (t:HP),a8 (sE hp R t) j=if j∈R then a8 hp j else a8 t j
 | [],t=>by simp [sE]
 | h::R,t=>by
  simp only [sE]
  rw [sF j R]
  by_cases e:j∈R
  ·simp [e]
  ·rw [if_neg e]
   by_cases e2:j=h
   ·subst e2
    rw [if_pos List.mem_cons_self]
    by_cases hl:j<262144
    ·rw [qR hl]
    ·rw [oG hl,oG hl]
   ·rw [if_neg (by simp [e,e2])]
    by_cases hl:h<262144
    ·rw [Bo hl (Ne.symm e2)]
    ·rw [Ey hl]
theorem KM {hp:HP} (R:List Nat):hpH (sE hp R hp0)=restr (hpH hp) R:=by
 funext j
 unfold hpH restr
 rw [sF,xy]
 cases hm:memN R j with
 | true=>rw [if_pos (memN_iff.1 hm)];rfl
 | false=>rw [if_neg (fun e=>by rw [memN_iff.2 e] at hm;cases hm)];rfl
theorem KO {hp:HP} (W:hpW hp) (R:List Nat):hpW (sE hp R hp0):=fun j=>by
 rw [sF,xy]
 split
 ·exact W j
 ·trivial
theorem vB {hp':HP} (W':hpW hp') :∀ {keys:List Nat} {hp hp2:HP} {dh:List (Nat×Blk)},hpW hp→Fm hp' keys hp=some (hp2,dh)→hpH hp2=ak (hpH hp) dh∧hpW hp2∧∀ h b,find dh h=some b→hpH hp' h=some b
 | [],hp,hp2,dh,W,h=>by cases h;exact ⟨rfl,W,fun h b hb=>by cases hb⟩
 | q::r,hp,hp2,dh,W,h=>by
  unfold Fm at h
  split at h
  case h_2=>cases h
  rename_i b hb
  split at h
  case h_2=>cases h
  rename_i hp1 dh1 h1
  cases h
  obtain ⟨e1,W1,e2⟩:=vB W' W h1
  have hq:q<262144:=Bn (fun e=>by rw [e] at hb;cases hb)
  refine ⟨?_,fK W1 hq (W' q),fun j b' hj=>?_⟩
  ·rw [fJ hq hb,e1]
   funext k
   simp only [ak,find]
   cases Nat.beq q k <;> rfl
  ·simp only [find] at hj
   cases hx:Nat.beq q j with
   | true=>
    rw [hx,cond_true] at hj
    cases hj
    rw [←ax hx]
    exact hb
   | false=>rw [hx] at hj;exact e2 j b' hj
theorem vA {hp':HP} :∀ {keys:List Nat} {hp hp2:HP} {dh:List (Nat×Blk)},Fm hp' keys hp=some (hp2,dh)→dh.map (·.1)=keys
 | [],hp,hp2,dh,h=>by cases h;rfl
 | q::r,hp,hp2,dh,h=>by
  unfold Fm at h
  split at h
  case h_2=>cases h
  split at h
  case h_2=>cases h
  rename_i h1
  cases h
  rw [List.map_cons,vA h1]
theorem NL (c:C) (r:List Nat):NK c r=c.toV.hs++r:=by cases c <;> rfl
theorem BS (t:CT) :∀ n i,hsT t n i=hss (tq t n i)
 | 0,_=>rfl
 | n+1,i=>by
  show NK (b9 t i) (hsT t n (i+1))=_
  rw [NL,BS t n (i+1)]
  rfl
theorem qv {b:Bk} {B:Blk} (h:b.toB=some B):xz b=B.hs:=by
 cases b with
 | none=>cases h
 | cells t n=>cases h;exact BS t n 0
 | grow v e t n=>cases h;exact BS t n 0
 | mp es=>cases h;rfl
theorem Fh {b:Bk} (h:b.toB=none):xz b=[]:=by cases b <;> first|rfl|cases h
theorem vX (hp:HP) :∀ n new acc,pB hp n new acc=mK (hpH hp) n new acc
 | 0,_,_=>rfl
 | n+1,new,acc=>by
  simp only [pB,mK]
  have :(fun h=>xz (a8 hp h))=fun h=>(match hpH hp h with|some b=>b.hs|none=> []:List Nat):=by
   funext h
   unfold hpH
   cases hb :(a8 hp h).toB with
   | none=>exact Fh hb
   | some B=>exact qv hb
  rw [this]
  generalize new.filter (fun h=>!memN acc h)=add
  cases add with
  | nil=>rfl
  | cons a l=>exact vX hp n _ _
theorem E9 (hp:HP) (R:List Nat) (m K:Nat) (v:V) (dh:List (Nat×Blk)):xq hp R m K v dh=gn (hpH hp) R m K v dh:=by
 unfold xq gn
 have :(fun h=>bif Qu (a8 hp h) then mD R m K (xz (a8 hp h)) else false)=fun h=>(match hpH hp h with|some b=>mD R m K b.hs|none=>false:Bool):=by
  funext h
  unfold hpH
  cases hb:a8 hp h with
  | none=>rfl
  | cells t n=>show mD R m K (xz (.cells t n))=_;rw [qv (B:= .cells (toL t n)) rfl];rfl
  | grow v e t n=>show mD R m K (xz (.grow v e t n))=_;rw [qv (B:= .grow v e (toL t n)) rfl];rfl
  | mp es=>show mD R m K (xz (.mp es))=_;rw [qv (B:= .mp es) rfl];rfl
 rw [this]
 rfl
theorem Nx {a b:Int} (h:eqS a b=true):a=b:=by
 rw [BF] at h
 simpa using h
theorem js {p q:Bool} (h :(Bool.rec (motive:=fun _=>Bool) false q p:Bool)=true):p=true∧q=true:=by
 cases p <;> cases q <;> first|exact ⟨rfl,rfl⟩|cases h
theorem Nw {c d:C} (h:eqC c d=true):c.toV=d.toV:=by
 cases c <;> cases d <;> first|cases h|skip
 ·obtain ⟨h1,h2⟩:=js h
  rw [Dr h1,Nx h2]
 ·rename_i b b'
  cases b <;> cases b' <;> first|rfl|cases h
 ·obtain ⟨h1,h2⟩:=js h
  rw [ax h1,ax h2]
 ·obtain ⟨h1,h2⟩:=js h
  obtain ⟨h2,h3⟩:=js h2
  rw [ax h1,ax h2,ax h3]
 ·obtain ⟨h1,h2⟩:=js h
  obtain ⟨h2,h3⟩:=js h2
  obtain ⟨h3,h4⟩:=js h3
  obtain ⟨h4,h5⟩:=js h4
  rw [ax h1,ax h2,ax h3,ax h4,ax h5]
 ·exact V.eqb_eq _ _ h
theorem BG {t t':CT} :∀ n i,eqT t t' n i=true→tq t n i=tq t' n i
 | 0,_,_=>rfl
 | n+1,i,h=>by
  obtain ⟨hc,h⟩:=js (show (Bool.rec (motive:=fun _=>Bool) false (eqT t t' n (i+1)) (eqC (b9 t i) (b9 t' i)):Bool)=true from h)
  simp only [tq]
  rw [Nw hc,BG n (i+1) h]
theorem J3 {b d:Bk} (h:E6 b d=true):b.toB=d.toB:=by
 cases b <;> cases d <;> first|cases h|skip
 ·rfl
 ·obtain ⟨h1,h2⟩:=js h
  have e:=ax h1
  subst e
  show some (Blk.cells (toL _ _))=some (Blk.cells (toL _ _))
  unfold toL
  rw [BG _ _ h2]
 ·obtain ⟨h1,k1⟩:=js h
  obtain ⟨h2,k2⟩:=js k1
  obtain ⟨h3,h4⟩:=js k2
  have e1:=ax h1
  have e2:=ax h2
  have e3:=ax h3
  subst e1
  subst e2
  subst e3
  show some (Blk.grow _ _ (toL _ _))=some (Blk.grow _ _ (toL _ _))
  unfold toL
  rw [BG _ _ h4]
 ·show some (Blk.mp _)=some (Blk.mp _)
  rw [Dc _ _ h]
theorem w5 {call:ek} (hcall:CallVOK P call) {g:FuncId} {args:List U} {hp:HP} (W:hpW hp) (Wa :∀ x∈args,x.wf) {R:List Nat} {m:Nat} {k:U→HP→List (Nat×Blk)→Nat→Rv} {l:Lf} {tm':TM} {hp':HP} {nx':Nat} (h:BA call g args hp R m k = .go l tm' hp' nx') :
  ∃ u hp2 dh nx,k u hp2 dh nx = .go l tm' hp' nx'∧u.wf∧hpW hp2∧hpH hp2=ak (hpH hp) dh∧(∃ fn,P.funcs[g]?=some fn∧fn.body.isSome=true∧(fn.name == "runtime.NumGoroutine")=false)∧m≤nx∧
   ∀ (B:Base) (E:Env) (av:List Value),HRel B E→E.H=restr (hpH hp) R→ab E (args.map U.toV) av→(∀ n,m≤n→n<nx→¬ E.U n)→
    Calls P g av.toArray E.w fun e w'=>∃ E' v',e = .returned v'∧GoodK B E m (nx+1 - m) dh w' E'∧aa E' u.toV v':=by
 unfold BA at h
 split at h
 case h_2=>cases h
 case h_3=>cases h
 rename_i u hp1 nx1 hc
 simp only [nn] at h
 generalize hkeys :(pB hp1 64 (u.toV.hs++R.filter fun h=>!E6 (a8 hp h) (a8 hp1 h)) []).filter (fun h=>!(memN R h&&!memN (R.filter fun h=>!E6 (a8 hp h) (a8 hp1 h)) h))=keys at h
 cases hall :(R.filter fun h=>!E6 (a8 hp h) (a8 hp1 h)).all (fun h=>memN keys h) with
 | false=>rw [hall] at h;cases h
 | true=>
  rw [hall] at h
  simp only [cond_true] at h
  split at h
  case h_2=>cases h
  rename_i hp2 dh hm
  have F:=hcall.ok g args _ m u hp1 nx1 Wa (KO W R) hc
  obtain ⟨e1,W2,e2⟩:=vB F.hw W hm
  refine ⟨u,hp2,dh,nx1,h,F.wf,W2,e1,F.fn,F.le,fun B E av hE hH hav hfr=>?_⟩
  refine (F.calls B E av hE (by rw [hH,KM]) hav hfr).mono fun e w' hh=>?_
  obtain ⟨E',v',rfl,C⟩:=hh
  obtain ⟨R1,X1⟩:=C.rel.weak (ak E.H dh) (fun j k' hk=>by
   refine ⟨k',?_,.inl rfl⟩
   rw [C.h]
   unfold ak at hk
   cases hf:find dh j with
   | some b=>rw [hf] at hk;simp only [Option.some.injEq] at hk;subst hk;exact e2 j b hf
   | none=>
    rw [hf] at hk
    simp only at hk
    rw [hH] at hk
    unfold restr at hk
    cases hm1:memN R j with
    | false=>rw [hm1] at hk;cases hk
    | true=>
     rw [hm1] at hk
     simp only [cond_true] at hk
     cases he:E6 (a8 hp j) (a8 hp1 j) with
     | false=>
      have h5:=List.all_eq_true.1 hall j (List.mem_filter.2 ⟨memN_iff.1 hm1,by rw [he];rfl⟩)
      rw [←vA hm] at h5
      exact absurd hf (xi h5)
     | true=>
      have h5:hpH hp j=hpH hp1 j:=J3 he
      rw [←h5];exact hk)
  exact ⟨_,v',rfl,⟨R1,C.ext.trans X1,C.w,rfl,fun n hn=>by
   rcases C.u n hn with h|h
   ·exact .inl h
   ·exact .inr ⟨h.1,by have:=h.2;omega⟩⟩,aK X1 _ _ C.v⟩
theorem oP {ms:List Nat} {i:Nat} {r:Rec} :∀ {ss:List Rec} {j:Nat},GQ ms i r j ss=true→∀ k s,ss[k]?=some s→FB ms i (j+k)=true∨GP r s=true
 | [],j,_,k,s,h=>by simp at h
 | s0::ss,j,h,k,s,hs=>by
  simp only [GQ,Bool.and_eq_true,Bool.or_eq_true] at h
  cases k with
  | zero=>simp only [List.getElem?_cons_zero,Option.some.injEq] at hs;subst hs;exact h.1
  | succ k=>
   have:=oP h.2 k s (by simpa using hs)
   rwa [show j+1+k=j +(k+1) by omega] at this
theorem oO {ms:List Nat} {recs:List Rec} :∀ {rs:List Rec} {i:Nat},EY ms recs i rs=true→∀ k r,rs[k]?=some r→r.dh=[]∨GQ ms (i+k) r 0 recs=true
 | [],i,_,k,r,h=>by simp at h
 | r0::rs,i,h,k,r,hr=>by
  simp only [EY,Bool.and_eq_true] at h
  cases k with
  | zero=>
   simp only [List.getElem?_cons_zero,Option.some.injEq] at hr
   subst hr
   cases hd:r0.dh with
   | nil=>exact .inl rfl
   | cons q l=>have h1:=h.1;rw [hd] at h1;exact .inr h1
  | succ k=>
   have:=oO h.2 k r (by simpa using hr)
   rwa [show i+1+k=i +(k+1) by omega] at this
theorem s7 {ms:List Nat} {all:List Oper} {i:Nat} {o:Oper} :∀ {os:List Oper} {j:Nat},Ei ms all i o j os=true→∀ k o',os[k]?=some o'→((ms[j+k]?).getD 0).testBit i=true∨Eh all o o'=true
 | [],j,_,k,s,h=>by simp at h
 | s0::ss,j,h,k,s,hs=>by
  simp only [Ei,Bool.and_eq_true,Bool.or_eq_true] at h
  cases k with
  | zero=>simp only [List.getElem?_cons_zero,Option.some.injEq] at hs;subst hs;exact h.1
  | succ k=>
   have:=s7 h.2 k s (by simpa using hs)
   rwa [show j+1+k=j +(k+1) by omega] at this
theorem sZ {ms:List Nat} {all:List Oper} :∀ {os:List Oper} {i:Nat},Ef ms all i os=true→∀ k l o o',os[k]?=some o→os[k+1+l]?=some o'→((ms[i +(k+1+l)]?).getD 0).testBit (i+k)=true∨Eh all o o'=true
 | [],i,_,k,l,o,o',h,_=>by simp at h
 | o0::os,i,h,k,l,o,o',ho,ho'=>by
  simp only [Ef,Bool.and_eq_true] at h
  cases k with
  | zero=>
   simp only [List.getElem?_cons_zero,Option.some.injEq] at ho
   subst ho
   have:=s7 h.1 l o' (by rw [show 0+1+l=l+1 by omega] at ho';simpa using ho')
   rwa [show i+1+l=i +(0+1+l) by omega] at this
  | succ k=>
   have:=sZ h.2 k l o o' (by simpa using ho) (by rw [show k+1+1+l =(k+1+l)+1 by omega] at ho';simpa using ho')
   rwa [show i+1 +(k+1+l)=i +(k+1+1+l) by omega,show i+1+k=i +(k+1) by omega] at this
theorem vT {ms:List Nat} {i:Nat} {r:Rec} :∀ {ss:List Rec} {j:Nat},(∀ k s,ss[k]?=some s→((ms[j+k]?).getD 0).testBit i=true∨comm r s=true)→py ms i r j ss=true
 | [],j,_=>rfl
 | s0::ss,j,h=>by
  simp only [py,Bool.and_eq_true,Bool.or_eq_true]
  refine ⟨h 0 s0 (by simp),vT fun k s hs=>?_⟩
  have:=h (k+1) s (by simpa using hs)
  rwa [show j +(k+1)=j+1+k by omega] at this
theorem uE {ms:List Nat} :∀ {rs:List Rec} {i:Nat},(∀ k l r s,rs[k]?=some r→rs[k+1+l]?=some s→((ms[i +(k+1+l)]?).getD 0).testBit (i+k)=true∨comm r s=true)→dJ ms i rs=true
 | [],i,_=>rfl
 | r0::rs,i,h=>by
  simp only [dJ,Bool.and_eq_true]
  refine ⟨vT fun k s hs=>?_,uE fun k l r s hr hs=>?_⟩
  ·have:=h 0 k r0 s (by simp) (by rw [show 0+1+k=k+1 by omega];simpa using hs)
   rwa [show i +(0+1+k)=i+1+k by omega] at this
  ·have:=h (k+1) l r s (by simpa using hr) (by rw [show k+1+1+l =(k+1+l)+1 by omega];simpa using hs)
   rwa [show i +(k+1+1+l)=i+1 +(k+1+l) by omega,show i +(k+1)=i+1+k by omega] at this
theorem Nq {all:List Oper} {recs:List Rec} (hlen:recs.length=all.length) (hrec :∀ (i:Nat) (o:Oper) (r:Rec),all[i]?=some o→recs[i]?=some r→r.dst=o.dst∧r.rs=aj all o) (hs:Eg all=true) (hd:EY (bL all []) recs 0 recs=true):cu 0 all=true∧dJ (bL all []) 0 recs=true:=by
 unfold Eg at hs
 rw [Bool.and_eq_true] at hs
 refine ⟨hs.1,uE fun k l r s hr hs'=>?_⟩
 have hkl:k+1+l<recs.length:=(List.getElem?_eq_some_iff.1 hs').1
 obtain ⟨o,ho⟩ :∃ o,all[k]?=some o:=⟨all[k]'(by omega),List.getElem?_eq_getElem (by omega)⟩
 obtain ⟨o',ho'⟩ :∃ o',all[k+1+l]?=some o':=⟨all[k+1+l]'(by omega),List.getElem?_eq_getElem (by omega)⟩
 have e1:=hrec _ _ _ ho hr
 have e2:=hrec _ _ _ ho' hs'
 rcases sZ hs.2 k l o o' ho ho' with h|h
 ·exact .inl h
 rw [Nat.zero_add,Nat.zero_add]
 have hne:Nat.beq k (k+1+l)=false:=by
  cases hb:Nat.beq k (k+1+l) with
  | false=>rfl
  | true=>have:=ax hb;omega
 have hne':Nat.beq (k+1+l) k=false:=by
  cases hb:Nat.beq (k+1+l) k with
  | false=>rfl
  | true=>have:=ax hb;omega
 have hlt:Nat.blt k (k+1+l)=true:=by rw [Nat.blt_eq];omega
 have hlt':Nat.blt (k+1+l) k=false:=by
  cases hb:Nat.blt (k+1+l) k with
  | false=>rfl
  | true=>rw [Nat.blt_eq] at hb;omega
 have o1:FB (bL all []) k (k+1+l) =(((bL all [])[k+1+l]?).getD 0).testBit k:=by
  unfold FB;rw [hne,hlt];rfl
 have o2:FB (bL all []) (k+1+l) k =(((bL all [])[k+1+l]?).getD 0).testBit k:=by
  unfold FB;rw [hne',hlt'];rfl
 cases hbit :(((bL all [])[k+1+l]?).getD 0).testBit k with
 | true=>exact .inl rfl
 | false=>
  refine .inr ?_
  have d1:r.dh=[]∨GP r s=true:=by
   rcases oO hd k r hr with h1|h1
   ·exact .inl h1
   ·rcases oP h1 (k+1+l) s hs' with h2|h2
    ·rw [Nat.zero_add,Nat.zero_add,o1,hbit] at h2;cases h2
    ·exact .inr h2
  have d2:s.dh=[]∨GP s r=true:=by
   rcases oO hd (k+1+l) s hs' with h1|h1
   ·exact .inl h1
   ·rcases oP h1 k r hr with h2|h2
    ·rw [Nat.zero_add,Nat.zero_add,o2,hbit] at h2;cases h2
    ·exact .inr h2
  unfold Eh at h
  unfold comm
  rw [e1.1,e1.2,e2.1,e2.2]
  simp only [Bool.and_eq_true] at h ⊢
  refine ⟨h,?_⟩
  unfold GP at d1 d2
  simp only [Bool.and_eq_true] at d1 d2
  refine ⟨⟨?_,?_⟩,?_⟩
  ·rcases d1 with h1|h1
   ·rw [h1];rfl
   ·exact h1.1
  ·rcases d1 with h1|h1
   ·rw [h1];rfl
   ·exact h1.2
  ·rcases d2 with h1|h1
   ·rw [h1];rfl
   ·exact h1.2
theorem ur {ms:List Nat} {i h0:Nat} {okB:Blk→Bool} :∀ {ss:List Rec} {j:Nat},Gi ms i h0 okB j ss=true→∀ k s b,ss[k]?=some s→find s.dh h0=some b→j+k≠i→
  (j+k<i→((ms[i]?).getD 0).testBit (j+k)=true)∧(i<j+k→((ms[j+k]?).getD 0).testBit i=true∨okB b=true)
 | [],j,_,k,s,b,h,_,_=>by simp at h
 | s0::ss,j,h,k,s,b,hs,hb,hne=>by
  simp only [Gi,Bool.and_eq_true] at h
  cases k with
  | zero=>
   simp only [List.getElem?_cons_zero,Option.some.injEq] at hs
   subst hs
   have h1:=h.1
   rw [hb] at h1
   simp only [Bool.or_eq_true,Nat.add_zero] at h1 hne ⊢
   rcases h1 with h1|h1
   ·exact absurd (ax h1).symm hne
   ·refine ⟨fun hlt=>?_,fun hgt=>?_⟩
    ·rw [show Nat.blt j i=true by rw [Nat.blt_eq];exact hlt] at h1
     exact h1
    ·rw [show Nat.blt j i=false by cases hx:Nat.blt j i with|false=>rfl|true=>rw [Nat.blt_eq] at hx;omega] at h1
     simpa using h1
  | succ k=>
   have:=ur h.2 k s b (by simpa using hs) hb (by omega)
   rwa [show j+1+k=j +(k+1) by omega] at this
theorem uq {ms:List Nat} {recs:List Rec} :∀ {asz:List Alt} {i:Nat},wG ms recs i asz=true→∀ k h0 okB,asz[k]?=some (some (h0,okB))→Gi ms (i+k) h0 okB 0 recs=true
 | [],i,_,k,h0,okB,h=>by simp at h
 | a0::asz,i,h,k,h0,okB,ha=>by
  cases k with
  | zero=>
   simp only [List.getElem?_cons_zero,Option.some.injEq] at ha
   subst ha
   simp only [wG,Bool.and_eq_true] at h
   exact h.1
  | succ k=>
   have h2:wG ms recs (i+1) asz=true:=by
    cases a0 with
    | none=>exact h
    | some q=>obtain ⟨a,b⟩:=q;simp only [wG,Bool.and_eq_true] at h;exact h.2
   have:=uq h2 k h0 okB (by simpa using ha)
   rwa [show i+1+k=i +(k+1) by omega] at this
theorem M7 {ms:List Nat} {recs:List Rec} {asz:List Alt} (h:wG ms recs 0 asz=true):AltOK (fun n=>(asz[n]?).getD none) ms recs:=fun i h0 okB ha j s b hs hb hne=>by
 have ha:asz[i]?=some (some (h0,okB)):=by
  have ha :(asz[i]?).getD none=some (h0,okB):=ha
  cases hx:asz[i]? with
  | none=>rw [hx] at ha;cases ha
  | some a=>rw [hx] at ha;simp only [Option.getD_some] at ha;rw [ha]
 have:=ur (uq h i h0 okB ha) j s b hs hb (by omega)
 simpa using this
theorem HC {tb:Tbl} {ev:Operand→V} {op:Op} {h0:Nat} {tk te:TD} {k:V} {ok:Bool} (h:lkD tb ev op=some (h0,tk,te,k,ok)) :∃ t x ky q,op = .lookup t x ky ok∧jf tb t=some q∧ev x = .mpv h0∧q.1=tk∧q.2=te∧ev ky=k:=by
 unfold lkD at h
 split at h
 case h_2=>cases h
 rename_i t x ky ok'
 split at h
 case h_2=>cases h
 rename_i q hq
 split at h
 case h_2=>cases h
 rename_i h' hx
 cases h
 exact ⟨t,x,ky,q,rfl,hq,hx,rfl,rfl,rfl⟩
theorem mG {tk te:TD} {H:au} {x k:V} {ok:Bool} {ps:List Ob} {v:V} {dh:List (Nat×Blk)} (h:cc tk te H x k ok = .val ps v dh):ps=[]∧dh=[]:=by
 unfold cc at h
 split at h
 case h_2=>cases h
 split at h
 ·cases h;exact ⟨rfl,rfl⟩
 ·split at h
  ·cases h;exact ⟨rfl,rfl⟩
  ·cases h
 ·cases h
theorem y6 {tk te:TD} {H:au} {h0:Nat} {k:V} {ok:Bool} {b:Blk} (h:H h0=some b):cc tk te H (.mpv h0) k ok=cc tk te (fun _=>some b) (.mpv h0) k ok:=by
 simp only [cc,Ku,h]
section
variable {call:ek} {all:List Oper}
theorem uM (hT:aZ P tb) (hcall:CallVOK P call) {st:St} :∀ (rest:List Oper) (tm:TM) (hp:HP) (nx:Nat) (rr:List (Rec×Alt)) (ra:List (Rec×Alt)) (recs:List Rec) (d:Dl) (l:Lf) (tm':TM) (hp':HP) (nx':Nat),kQ tb N K call all rest tm hp nx rr = .go l tm' hp' nx'→rr.reverse=ra→ra.map (·.1)=recs→
  KW K tm→hpW hp→FL K tm (d.tm++st.tm)→ak st.H d.hp=hpH hp→∀ i,recs.length+rest.length=all.length→(∀ (j:Nat) (o:Oper),rest[j]?=some o→all[recs.length+j]?=some o)→(∀ (j:Nat) (o:Oper) (r:Rec),all[j]?=some o→recs[j]?=some r→r.dst=o.dst∧r.rs=aj all o)→
  l = .nrm∧KW K tm'∧hpW hp'∧∃ (ks:List (Nat×Cfg)) (als:List Alt) (df:Dl) (rf:List Rec),ks.length=rest.length∧Chain nx ks nx'∧(∀ q∈ks,CfgOK P q.2∧q.2.N=N)∧
   (∀ (Cf:Nat→Cfg) (lo:Nat→Nat) (al:Nat→Alt),(∀ j q,ks[j]?=some q→Cf (i+j)=q.2∧lo (i+j)=q.1)→(∀ j x,als[j]?=some x→al (i+j)=x)→RunV Cf lo al all st i rest d recs df rf)∧
   cu 0 all=true∧dJ (bL all []) 0 rf=true∧AltOK (fun n=>((ra.map (·.2)++als)[n]?).getD none) (bL all []) rf∧FL K tm' (df.tm++st.tm)∧ak st.H df.hp=hpH hp'
 | [],tm,hp,nx,rr,ra,recs,d,l,tm',hp',nx',h,hrr,hra,Wt,Wh,h2,h3,i,hln,_,hrc=>by
  simp only [kQ,hrr,hra] at h
  cases hc:Eg all&&(EY (bL all []) recs 0 recs&&wG (bL all []) recs 0 (ra.map (·.2))) with
  | false=>rw [hc] at h;cases h
  | true=>
   rw [hc] at h
   simp only [cond_true,Rv.go.injEq] at h
   obtain ⟨rfl,rfl,rfl,rfl⟩:=h
   simp only [Bool.and_eq_true] at hc
   have hal:=M7 hc.2.2
   have hc:=Nq (by simpa using hln) hrc hc.1 hc.2.1
   exact ⟨rfl,Wt,Wh,[],[],d,recs,rfl,rfl,fun q hq=>by simp at hq,fun _ _ _ _ _=> .nil,hc.1,hc.2,by simpa using hal,h2,h3⟩
 | o::rest,tm,hp,nx,rr,ra,recs,d,l,tm',hp',nx',h,hrr,hra,Wt,Wh,h2,h3,i,hln,hall,hrc=>by
  simp only [kQ] at h
  cases hd0:yW N K o.dst with
  | false=>rw [hd0] at h;cases h
  | true=>
   rw [hd0] at h
   simp only [cond_true] at h
   have hd:=J0 hd0
   have h1:=h2.look
   have glue :∀ (C0:Cfg) (alt:Alt) (r:Rec) (u:U) (hp1:HP) (nx1:Nat),CfgOK P C0→C0.N=N→nx+C0.K≤nx1→DoesV C0 alt all (d.tm++st.tm) (ak st.H d.hp) nx o r→
     u.toV=r.v→r.dst=o.dst→u.wf→hpW hp1→hpH hp1=ak (hpH hp) r.dh→kQ tb N K call all rest (lN o.dst u tm) hp1 nx1 ((r,alt)::rr) = .go l tm' hp' nx'→
     l = .nrm∧KW K tm'∧hpW hp'∧∃ (ks:List (Nat×Cfg)) (als:List Alt) (df:Dl) (rf:List Rec),ks.length =(o::rest).length∧Chain nx ks nx'∧(∀ q∈ks,CfgOK P q.2∧q.2.N=N)∧
      (∀ (Cf:Nat→Cfg) (lo:Nat→Nat) (al:Nat→Alt),(∀ j q,ks[j]?=some q→Cf (i+j)=q.2∧lo (i+j)=q.1)→(∀ j x,als[j]?=some x→al (i+j)=x)→RunV Cf lo al all st i (o::rest) d recs df rf)∧
      cu 0 all=true∧dJ (bL all []) 0 rf=true∧AltOK (fun n=>((ra.map (·.2)++als)[n]?).getD none) (bL all []) rf∧FL K tm' (df.tm++st.tm)∧ak st.H df.hp=hpH hp':=fun C0 alt r u hp1 nx1 hC hCN hle hdo hu hrd huw W1 hhp hrest=>by
    have hf':FL K (lN o.dst u tm) (ca r.dst r.v++d.tm++st.tm):=by
     rw [List.append_assoc,hrd]
     exact h2.put hd0 hu
    obtain ⟨q1,q2,q3,ks,als,df,rf,k1,k2,k3,k4,k5a,k5b,k5c,k5⟩:=uM hT hcall (st:=st) rest (lN o.dst u tm) hp1 nx1 ((r,alt)::rr) (ra++[(r,alt)]) (recs++[r]) ⟨ca r.dst r.v++d.tm,r.dh++d.hp⟩ l tm' hp' nx' hrest (by rw [List.reverse_cons,hrr]) (by rw [List.map_append,hra];rfl) (Wt.put hd0 huw) W1 hf' (by rw [bF,h3,hhp]) (i+1) (by simp at hln ⊢;omega) (fun j o' hj=>by
     have:=hall (j+1) o' (by simpa using hj)
     rw [List.length_append,List.length_singleton,show recs.length+1+j=recs.length +(j+1) by omega]
     exact this) (fun j o' r' ho' hr'=>by
     rcases Nat.lt_or_ge j recs.length with hj|hj
     ·rw [List.getElem?_append_left hj] at hr'
      exact hrc j o' r' ho' hr'
     ·rw [List.getElem?_append_right hj] at hr'
      have hj0:j - recs.length=0:=by
       cases hx:j - recs.length with
       | zero=>rfl
       | succ n=>rw [hx] at hr';simp at hr'
      rw [hj0] at hr'
      simp only [List.getElem?_cons_zero,Option.some.injEq] at hr'
      subst hr'
      have:=hall 0 o (by simp)
      rw [Nat.add_zero,show recs.length=j by omega] at this
      rw [this] at ho'
      cases ho'
      obtain ⟨_,q1,q2⟩:=hdo.dstIn
      exact ⟨q1,q2⟩)
    refine ⟨q1,q2,q3,(nx,C0)::ks,alt::als,df,rf,by simp [k1],⟨rfl,nx1,hle,k2⟩,fun q hq=>?_,fun Cf lo al hCf hal=>?_,k5a,k5b,by simpa using k5c,k5⟩
    ·rcases List.mem_cons.1 hq with rfl|hq
     ·exact ⟨hC,hCN⟩
     ·exact k3 q hq
    ·have h0:=hCf 0 (nx,C0) (by simp)
     have h0a:=hal 0 alt (by simp)
     refine .cons (r:=r) ?_ (k4 Cf lo al (fun j q hq=>?_) fun j x hx=>?_)
     ·rw [show i=i+0 from rfl,h0.1,h0.2,h0a];exact hdo
     ·have:=hCf (j+1) q (by simpa using hq)
      rw [show i+1+j=i +(j+1) by omega]
      exact this
     ·have:=hal (j+1) x (by simpa using hx)
      rw [show i+1+j=i +(j+1) by omega]
      exact this
   have hmask :∀ rs,aX rs (d.tm++st.tm)=eE K rs tm:=fun rs=>HF h1
   have hC1:CfgOK P ⟨tb,fun _=>none,1,N⟩:=⟨hT,Nat.le_refl _,fun _ _ h=>by cases h⟩
   split at h
   ·
    rename_i hg
    rw [cJ] at h
    exact glue ⟨tb,fun _=>none,1,N⟩ none ⟨o.dst,.tup [],[],[],aj all o⟩ (.tup []) hp (nx+1) hC1 rfl (Nat.le_refl _) (.old (.skip hd (by rw [jy h1];exact hg))) rfl rfl (fun w hw=>by cases hw) Wh rfl h
   ·rename_i hg
    simp only [nn,vX,E9] at h
    split at h
    ·
     rename_i h0 tk te ky ok hlk
     obtain ⟨t,x,kx,q,ho,hq,hx,rfl,rfl,rfl⟩:=HC hlk
     split at h
     case h_2=>cases h
     rename_i ps v dh he
     split at h
     case h_2=>cases h
     rename_i u hu
     rw [cJ] at h
     obtain ⟨rfl,rfl⟩:=mG he
     obtain ⟨hu1,hu2⟩:=tt hu
     have ev1 :∀ H2:au,aA ⟨tb,fun _=>none,1,N⟩ nx H2 (eE K (aj all o) tm) o.op=match cc q.1 q.2 H2 (.mpv h0) (eE K (aj all o) tm kx) ok with | .val ps v dh=>some (ps,v,dh)|_=>none:=fun H2=>by
      simp only [aA,ho,bW,bO,hq,hx]
      rfl
     refine glue ⟨tb,fun _=>none,1,N⟩ (some (h0,OI q.1 q.2 h0 (eE K (aj all o) tm kx) ok v)) ⟨o.dst,jl v,[],[],aj all o⟩ u hp (nx+1) hC1 rfl (Nat.le_refl _) (.dir (v:=v) (ps:= []) hd (by rw [jy h1];exact hg) (by rw [hmask,h3,ev1,he]) (fun H2 _ hag=>?_) (fun p hp=>by cases hp) (by cases v <;> simp [jl])) hu1 rfl hu2 Wh rfl h
     rw [hmask,h3,ev1,ev1,he]
     rcases hag h0 _ rfl with e |⟨b,e1,e2⟩
     ·rw [h3] at e
      have:cc q.1 q.2 H2 (.mpv h0) (eE K (aj all o) tm kx) ok=cc q.1 q.2 (hpH hp) (.mpv h0) (eE K (aj all o) tm kx) ok:=by simp only [cc,Ku,e]
      rw [this,he]
     ·rw [y6 e1]
      unfold OI at e2
      split at e2
      ·rename_i ps' v' dh' he'
       obtain ⟨rfl,rfl⟩:=mG he'
       rw [he',V.eqb_eq _ _ e2]
      ·cases e2
    rename_i hlk
    cases hdir:nP (eE K (aj all o) tm) o.op
    case true=>
     rw [hdir] at h
     simp only [cond_true] at h
     split at h
     case h_1=>cases h
     rename_i ps v dh he
     cases hps:ps.all Ob.chk with
     | false=>rw [hps] at h;cases h
     | true=>
      rw [hps] at h
      simp only [cond_true] at h
      split at h
      case h_2=>cases h
      rename_i u hp2 hu hs
      rw [cJ] at h
      obtain ⟨hu1,hu2⟩:=tt hu
      obtain ⟨hs1,hs2⟩:=kH Wh hs
      have hev:=oS tb N nx _ _ o.op he
      refine glue ⟨tb,fun _=>none,1,N⟩ none ⟨o.dst,jl v,dh,_,aj all o⟩ u hp2 (nx+1) hC1 rfl (Nat.le_refl _) (.dir (v:=v) (ps:=ps) hd (by rw [jy h1];exact hg) (by rw [hmask,h3];exact hev) (fun H2 hag=>?_) (fun p hp=>Ob.chk_holds (List.all_eq_true.1 hps p hp)) (by cases v <;> simp [jl])) hu1 rfl hu2 hs2 hs1 h
      rw [hmask]
      rw [h3] at hag ⊢
      exact fun _=>yT hdir (fun x hx k hk=>hag k (List.mem_flatMap.2 ⟨x,hx,hk⟩))
    rw [hdir] at h
    simp only [cond_false] at h
    split at h
    ·
     rename_i g args he
     have hwa :∀ x∈args.map jV,x.wf:=fun x hx=>by
      obtain ⟨v,_,rfl⟩:=List.mem_map.1 hx
      exact kN v
     obtain ⟨u,hp2,dh,nx2,h,huw,W2,hhp,hfn,hle,hcalls⟩:=w5 hcall Wh hwa h
     cases hfr:gn (hpH hp) (mK (hpH hp) 8 (o.op.operands.toList.flatMap fun x=>(eE K (aj all o) tm x).hs) []) nx (nx2+1 - nx) u.toV dh with
     | false=>rw [hfr] at h;cases h
     | true=>
      rw [hfr] at h
      simp only [cond_true,cJ] at h
      obtain ⟨c,f,caps,ho,hf,hg2,hargs,hpl⟩:=GT tb N nx _ _ o.op he
      let ct:Ctr:=fun args' H' m'=>open Classical in if args'=args∧H'=restr (hpH hp) (mK (hpH hp) 8 (o.op.operands.toList.flatMap fun x=>(eE K (aj all o) tm x).hs) [])∧m'=nx then some ([],u.toV,dh) else none
      let C0:Cfg:=⟨tb,fun g'=>if g'=g then some ct else none,nx2+1 - nx,N⟩
      have hK:1≤nx2+1 - nx:=by omega
      have hC:CfgOK P C0:=⟨hT,hK,fun f' c' hf'=>by
       have hf2 :(if f'=g then some ct else none)=some c':=hf'
       split at hf2
       case isFalse=>cases hf2
       rename_i e
       cases hf2
       subst e
       refine ⟨hfn,fun B E hE args' av hav m hm ps' v' dh' hp2 _=>?_⟩
       simp only [ct] at hp2
       split at hp2
       case isFalse=>cases hp2
       rename_i e
       obtain ⟨rfl,e2,rfl⟩:=e
       cases hp2
       refine hcalls B E av hE e2 ?_ (fun n h1 h2=>hm n h1 (by show n<m +(nx2+1 - m);omega))
       rw [List.map_map]
       exact oB (fun v=>v) _ kM args' av (by simpa using hav)⟩
      have hev:aA C0 nx (restr (hpH hp) (mK (hpH hp) 8 (o.op.operands.toList.flatMap fun x=>(eE K (aj all o) tm x).hs) [])) (eE K (aj all o) tm) o.op=some ([],u.toV,dh):=by
       simp only [aA,ho,bW,bO,hf,hg2,C0,if_true,Cj hpl]
       rw [←hargs]
       simp only [xa,ct]
       rw [if_pos ⟨rfl,by rw [ho],rfl⟩]
       rfl
      refine glue C0 none ⟨o.dst,u.toV,dh,_,aj all o⟩ u hp2 (nx2+1) hC rfl (by show nx +(nx2+1 - nx)≤nx2+1;omega) (.old <| .run (v:=u.toV) hd (by rw [jy h1];exact hg) (by
       simp only [lU]
       rw [hmask,h3]
       rw [hev]
       simp only [C0,hfr,cond_true]
       rfl) (fun p hp=>by cases hp) (.inl rfl)) rfl rfl huw W2 hhp h
    ·cases h
    ·
     rename_i ps v dh he
     cases hfr:ps.all Ob.chk&&gn (hpH hp) (mK (hpH hp) 8 (o.op.operands.toList.flatMap fun x=>(eE K (aj all o) tm x).hs) []) nx 1 v dh with
     | false=>rw [hfr] at h;cases h
     | true=>
      rw [hfr] at h
      simp only [cond_true] at h
      simp only [Bool.and_eq_true] at hfr
      split at h
      case h_2=>cases h
      rename_i u hp2 hu hs
      rw [cJ] at h
      obtain ⟨hu1,hu2⟩:=tt hu
      obtain ⟨hs1,hs2⟩:=kH Wh hs
      have hev:=E8 tb N nx _ _ o.op he
      refine glue ⟨tb,fun _=>none,1,N⟩ none ⟨o.dst,jl v,dh,_,aj all o⟩ u hp2 (nx+1) hC1 rfl (Nat.le_refl _) (.old <| .run (v:=v) hd (by rw [jy h1];exact hg) (by
       simp only [lU]
       rw [hmask,h3]
       rw [hev]
       simp only [hfr.2,cond_true]) (fun p hp=>Ob.chk_holds (List.all_eq_true.1 hfr.1 p hp)) (by cases v <;> simp [jl])) hu1 rfl hu2 hs2 hs1 h
   ·cases h
theorem BB (hT:aZ P tb) (hP:P.follows .mixedOrders=true) (hcall:CallVOK P call) {tm:TM} {hp:HP} {nx:Nat} {l:Lf} {tm':TM} {hp':HP} {nx':Nat} (Wt:WT K tm) (Wh:hpW hp) (h:kQ tb N K call all all tm hp nx [] = .go l tm' hp' nx') (id:Nat) :
  EndsV N K en0 u0 u0 u0 u0 tm hp nx l tm' hp' nx' (fun Q act w=>(Code.region id all.toArray true).wp P Q act w):=by
 obtain ⟨q1,q2,q3,ks,als,df,rf,k1,k2,k3,k4,k5,k6,k6a,k7,k8⟩:=uM hT hcall (st:=⟨tmL K tm 512,[],hpH hp,nx⟩) all tm hp nx [] [] [] ⟨[],[]⟩ l tm' hp' nx' h rfl rfl Wt.tm Wh (wC tm) rfl 0 (by simp) (fun j o h=>by simpa using h) (fun j o r _ h=>by simp at h)
 refine ⟨q1,k2.le,q2.wt,q3,fun B E0 n0 Q E act hfr hQ hR=>?_⟩
 have hC0:CfgOK P ⟨tb,fun _=>none,1,N⟩:=⟨hT,Nat.le_refl _,fun _ _ h=>by cases h⟩
 let Cf:Nat→Cfg:=fun j=>match ks[j]? with|some q=>q.2|none=>⟨tb,fun _=>none,1,N⟩
 let lo:Nat→Nat:=fun j=>match ks[j]? with|some q=>q.1|none=>0
 have hCf :∀ j q,ks[j]?=some q→Cf j=q.2∧lo j=q.1:=fun j q hq=>by simp only [Cf,lo,hq];exact ⟨trivial,trivial⟩
 have hget :∀ j,j<all.length→∃ q,ks[j]?=some q:=fun j hj=>⟨ks[j]'(by omega),List.getElem?_eq_getElem (by omega)⟩
 have hle:n0≤nx:=hR.le
 have tmok :∀ {tm:TM} {L:List (Nat×V)} {E:Env} {act:Act},FL K tm L→(∀ i,isK K i=true→aa E ((cr i).get tm).toV (act.tmps.getD i undef))→dt E (find L) act:=fun {tm L E act} hL ht s v hv=>by
  rw [hL s] at hv
  by_cases hk:isK K s=true
  ·rw [if_pos hk] at hv
   cases hv
   exact ht s hk
  ·rw [if_neg hk] at hv
   cases hv
 refine EX (Cf:=Cf) (lo:=lo) (al:=fun n=>(als[n]?).getD none) (N:=N) (fun j=>?_) (fun j=>?_) hP (k4 Cf lo _ (fun j q hq=>by rw [Nat.zero_add];exact hCf j q hq) (fun j x hx=>by rw [Nat.zero_add,hx];rfl)) k5 k6 (by simpa using k6a) hR.rel hR.h (tmok (wC tm) hR.tm.tm) hR.size hR.defers (fun j hj n h1 h2 hu=>?_) (fun i j hij hj=>?_) (fun E' a' r1 x1 h1 u1 t1 s1 d1=>?_) id
 ·show CfgOK P (match ks[j]? with|some q=>q.2|none=>⟨tb,fun _=>none,1,N⟩)
  cases hq:ks[j]? with
  | none=>exact hC0
  | some q=>exact (k3 q (List.mem_of_getElem? hq)).1
 ·show (match ks[j]? with|some q=>q.2|none=>(⟨tb,fun _=>none,1,N⟩:Cfg)).N=N
  cases hq:ks[j]? with
  | none=>rfl
  | some q=>exact (k3 q (List.mem_of_getElem? hq)).2
 ·obtain ⟨q,hq⟩:=hget j hj
  obtain ⟨e1,e2⟩:=hCf j q hq
  rw [e1,e2] at h2
  rw [e2] at h1
  have:=k2.at j q hq
  rcases hR.u n hu with h3|h3
  ·exact hfr n (by omega) (by omega) h3
  ·have:=h3.2;omega
 ·obtain ⟨p,hp⟩:=hget i (by omega)
  obtain ⟨q,hq⟩:=hget j hj
  rw [(hCf i p hp).1,(hCf i p hp).2,(hCf j q hq).2]
  exact k2.lt i j p q hij hp hq
 ·have t2:TmR K en0 u0 u0 u0 u0 tm' E' a':=by
   have h2 :∀ i,isK K i=true→aa E' ((cr i).get tm').toV (a'.tmps.getD i undef):=fun i hi=>t1 i _ (by rw [k7 i,if_pos hi])
   refine ⟨fun i=>?_,h2⟩
   rw [gM]
   cases hk:isK K i with
   | true=>exact h2 i hk
   | false=>exact nK
  refine hQ E' a' ⟨r1,hR.ext.trans x1,by rw [h1];exact k8,fun n hn=>?_,Nat.le_trans hle k2.le,t2,s1,d1⟩
  rcases u1 n hn with h |⟨j,hj,h2,h3⟩
  ·rcases hR.u n h with h|h
   ·exact .inl h
   ·have:=k2.le;exact .inr ⟨h.1,by have:=h.2;omega⟩
  ·obtain ⟨q,hq⟩:=hget j hj
   obtain ⟨e1,e2⟩:=hCf j q hq
   rw [e1,e2] at h3
   rw [e2] at h2
   have:=k2.at j q hq
   exact .inr ⟨by omega,by omega⟩
end
end Go.Mir
namespace Go.Mir
open Go.RowKit
variable {P:Program} {tb:Tbl} {N K:Nat} {call:ek}
structure EndsC (N K:Nat) (tm:TM) (hp:HP) (nx:Nat) (l:Lf) (tm':TM) (hp':HP) (nx':Nat) (W:Wp):Prop where
 le:nx≤nx'
 wt:WT K tm'
 hw:hpW hp'
 wp :∀ (B:Base) (E0:Env) (n0:Nat) (Q:Exit→Act→World→Prop) (E:Env) (act:Act),(∀ n,n0≤n→n<nx'→¬ E0.U n)→(∀ E act,RX B E0 n0 N K tm' hp' nx' E act→Q (dK l) act E.w)→RX B E0 n0 N K tm hp nx E act→W Q act E.w
def Bh (N K:Nat) (f:KR) (W:Wp):Prop:=∀ (tm:TM) (hp:HP) (nx:Nat) (l:Lf) (tm':TM) (hp':HP) (nx':Nat),WT K tm→hpW hp→f tm hp nx = .go l tm' hp' nx'→EndsC N K tm hp nx l tm' hp' nx' W
theorem vy {b:Code} {f:KR} (hf:Bh N K f (fun Q act w=>b.wp P Q act w)) :∀ n,Bh N K (HD f n) (fun Q act w=>Code.rounds P b Q n act w)
 | 0=>fun tm hp nx l tm' hp' nx' Wt Wh h=>by cases h
 | n+1=>fun tm hp nx l tm' hp' nx' Wt Wh h=>by
  have h:dV nx (fun nx=>La (f tm hp nx) (HD f n)) = .go l tm' hp' nx':=h
  rw [cJ] at h
  cases hr:f tm hp nx with
  | no w=>rw [hr] at h;cases h
  | go e1 tm1 hp1 nx1=>
   rw [hr] at h
   have h1:=hf tm hp nx e1 tm1 hp1 nx1 Wt Wh hr
   have hl1:=h1.le
   cases e1 with
   | nrm=>
    have h2:=vy hf n tm1 hp1 nx1 l tm' hp' nx' h1.wt h1.hw h
    have hl2:=h2.le
    refine ⟨by omega,h2.wt,h2.hw,fun B E0 n0 Q E act hfr hQ hR=>?_⟩
    show Code.rounds P b Q (n+1) act E.w
    rw [rounds_succ]
    exact h1.wp B E0 n0 _ E act (fun k h3 h4=>hfr k h3 (by omega)) (fun E act hR1=>h2.wp B E0 n0 Q E act hfr hQ hR1) hR
   | ext id=>
    cases h
    refine ⟨hl1,h1.wt,h1.hw,fun B E0 n0 Q E act hfr hQ hR=>?_⟩
    show Code.rounds P b Q (n+1) act E.w
    rw [rounds_succ]
    exact h1.wp B E0 n0 _ E act hfr (fun E act hR1=>hQ E act hR1) hR
   | ret=>
    cases h
    refine ⟨hl1,h1.wt,h1.hw,fun B E0 n0 Q E act hfr hQ hR=>?_⟩
    show Code.rounds P b Q (n+1) act E.w
    rw [rounds_succ]
    exact h1.wp B E0 n0 _ E act hfr (fun E act hR1=>hQ E act hR1) hR
theorem G9 {e:En} {i:Nat} {k:Gt→Cd}:Dj K e i k=k (cZ K e i):=by
 unfold Dj cZ
 cases Nat.beq e.e0 (Nat.succ i)
 case true=>rfl
 cases Nat.beq e.e1 (Nat.succ i)
 case true=>rfl
 cases Nat.beq e.e2 (Nat.succ i)
 case true=>rfl
 cases Nat.beq e.e3 (Nat.succ i)
 case true=>rfl
 cases isK K i
 case true=>rfl
 rfl
attribute [local irreducible] iV in
theorem fj (hT:aZ P tb) (hP:P.follows .mixedOrders=true) (hcall:CallVOK P call) :∀ (c:Code),Bh N K ((fg tb N K c).run call) (fun Q act w=>c.wp P Q act w)
 | .skip=>fun tm hp nx l tm' hp' nx' Wt Wh h=>by
  cases h
  exact ⟨Nat.le_refl _,Wt,Wh,fun B E0 n0 Q E act hfr hQ hR=>wp_skip (hQ E act hR)⟩
 | .ret=>fun tm hp nx l tm' hp' nx' Wt Wh h=>by
  cases h
  exact ⟨Nat.le_refl _,Wt,Wh,fun B E0 n0 Q E act hfr hQ hR=>wp_ret (hQ E act hR)⟩
 | .exit id=>fun tm hp nx l tm' hp' nx' Wt Wh h=>by
  cases h
  exact ⟨Nat.le_refl _,Wt,Wh,fun B E0 n0 Q E act hfr hQ hR=>wp_exit (hQ E act hR)⟩
 | .region id ops false=>fun tm hp nx l tm' hp' nx' Wt Wh h=>by
  have h:Cd.run (OX tb N K ops.toList) call tm hp nx = .go l tm' hp' nx':=h
  unfold OX at h
  cases hd:GO N ops.toList with
  | false=>rw [hd] at h;cases h
  | true=>
   rw [hd] at h
   have h1:=Aq (P:=P) (N:=N) (K:=K) (all:=ops.toList) hT hcall ops.toList en0 (fun o ho=>List.all_eq_true.1 hd o ho) u0 u0 u0 u0 tm hp nx l tm' hp' nx' Wt Wh h
   obtain rfl:=h1.l
   refine ⟨h1.le,h1.wt,h1.hw,fun B E0 n0 Q E act hfr hQ hR=>wp_region_list ?_⟩
   have:=h1.wp B E0 n0 Q E act hfr hQ hR
   simpa using this
 | .region id ops true=>fun tm hp nx l tm' hp' nx' Wt Wh h=>by
  have h:kQ tb N K call ops.toList ops.toList tm hp nx [] = .go l tm' hp' nx':=h
  have h1:=BB (P:=P) hT hP hcall Wt Wh h id
  obtain rfl:=h1.l
  refine ⟨h1.le,h1.wt,h1.hw,fun B E0 n0 Q E act hfr hQ hR=>?_⟩
  have:=h1.wp B E0 n0 Q E act hfr hQ hR
  simpa using this
 | .seq x y=>fun tm hp nx l tm' hp' nx' Wt Wh h=>by
  have h:La (Cd.run (fg tb N K x) call tm hp nx) (Cd.run (fg tb N K y) call) = .go l tm' hp' nx':=h
  cases hr:Cd.run (fg tb N K x) call tm hp nx with
  | no w=>rw [hr] at h;cases h
  | go e1 tm1 hp1 nx1=>
   rw [hr] at h
   have h1:=fj hT hP hcall x tm hp nx e1 tm1 hp1 nx1 Wt Wh hr
   have hl1:=h1.le
   cases e1 with
   | nrm=>
    have h2:=fj hT hP hcall y tm1 hp1 nx1 l tm' hp' nx' h1.wt h1.hw h
    have hl2:=h2.le
    exact ⟨by omega,h2.wt,h2.hw,fun B E0 n0 Q E act hfr hQ hR=>wp_seq (h1.wp B E0 n0 _ E act (fun k h3 h4=>hfr k h3 (by omega)) (fun E act hR1=>h2.wp B E0 n0 Q E act hfr hQ hR1) hR)⟩
   | ext id=>
    cases h
    exact ⟨hl1,h1.wt,h1.hw,fun B E0 n0 Q E act hfr hQ hR=>wp_seq (h1.wp B E0 n0 _ E act hfr (fun E act hR1=>hQ E act hR1) hR)⟩
   | ret=>
    cases h
    exact ⟨hl1,h1.wt,h1.hw,fun B E0 n0 Q E act hfr hQ hR=>wp_seq (h1.wp B E0 n0 _ E act hfr (fun E act hR1=>hQ E act hR1) hR)⟩
 | .cond c x y=>fun tm hp nx l tm' hp' nx' Wt Wh h=>by
  have key :∀ (u:U),(∀ E act,TmR K en0 u0 u0 u0 u0 tm E act→aa E u.toV (act.eval c))→uKb u (fun b=>Bool.rec (motive:=fun _=>Rv) (Cd.run (fg tb N K y) call tm hp nx) (Cd.run (fg tb N K x) call tm hp nx) b) (.no [4]) = .go l tm' hp' nx'→EndsC N K tm hp nx l tm' hp' nx' (fun Q act w=>(Code.cond c x y).wp P Q act w):=fun u hu h=>by
   cases u with
   | kb b=>
    cases b with
    | true=>
     have h1:=fj hT hP hcall x tm hp nx l tm' hp' nx' Wt Wh h
     exact ⟨h1.le,h1.wt,h1.hw,fun B E0 n0 Q E act hfr hQ hR=>wp_cond_true (by have:=hu E act hR.tm;simpa [U.toV,aa] using this) (h1.wp B E0 n0 Q E act hfr hQ hR)⟩
    | false=>
     have h1:=fj hT hP hcall y tm hp nx l tm' hp' nx' Wt Wh h
     exact ⟨h1.le,h1.wt,h1.hw,fun B E0 n0 Q E act hfr hQ hR=>wp_cond_false (by have:=hu E act hR.tm;simpa [U.toV,aa] using this) (h1.wp B E0 n0 Q E act hfr hQ hR)⟩
   | _=>cases h
  cases c with
  | tmp i=>
   have h:Cd.run (Dj K en0 i fun g=>⟨fun call tm hp nx=>uKb (g u0 u0 u0 u0 tm) (fun b=>Bool.rec (motive:=fun _=>Rv) (Cd.run (fg tb N K y) call tm hp nx) (Cd.run (fg tb N K x) call tm hp nx) b) (.no [4])⟩) call tm hp nx = .go l tm' hp' nx':=h
   rw [G9] at h
   exact key (cZ K en0 i u0 u0 u0 u0 tm) (fun E act hR=>hR.win i) h
  | const v=>exact key (jV (cv v)) (fun E act hR=>kM _ _ _ (fO v)) h
  | global i=>cases h
  | func f=>cases h
 | .block id b=>fun tm hp nx l tm' hp' nx' Wt Wh h=>by
  have h:Gm id (Cd.run (fg tb N K b) call tm hp nx) = .go l tm' hp' nx':=h
  cases hr:Cd.run (fg tb N K b) call tm hp nx with
  | no w=>rw [hr] at h;cases h
  | go e1 tm1 hp1 nx1=>
   rw [hr] at h
   have h1:=fj hT hP hcall b tm hp nx e1 tm1 hp1 nx1 Wt Wh hr
   cases e1 with
   | nrm=>
    cases h
    exact ⟨h1.le,h1.wt,h1.hw,fun B E0 n0 Q E act hfr hQ hR=>wp_block (h1.wp B E0 n0 _ E act hfr (fun E act hR1=>hQ E act hR1) hR)⟩
   | ret=>
    cases h
    exact ⟨h1.le,h1.wt,h1.hw,fun B E0 n0 Q E act hfr hQ hR=>wp_block (h1.wp B E0 n0 _ E act hfr (fun E act hR1=>hQ E act hR1) hR)⟩
   | ext i=>
    have h :(Bool.rec (motive:=fun _=>Rv) (.go (.ext i) tm1 hp1 nx1) (.go .nrm tm1 hp1 nx1) (Nat.beq i id):Rv) = .go l tm' hp' nx':=h
    cases hb:Nat.beq i id with
    | true=>
     rw [hb] at h
     cases h
     refine ⟨h1.le,h1.wt,h1.hw,fun B E0 n0 Q E act hfr hQ hR=>wp_block (h1.wp B E0 n0 _ E act hfr (fun E act hR1=>?_) hR)⟩
     simp only [dK,Exit.inBlock]
     rw [if_pos (ax hb)]
     exact hQ E act hR1
    | false=>
     rw [hb] at h
     cases h
     refine ⟨h1.le,h1.wt,h1.hw,fun B E0 n0 Q E act hfr hQ hR=>wp_block (h1.wp B E0 n0 _ E act hfr (fun E act hR1=>?_) hR)⟩
     simp only [dK,Exit.inBlock]
     rw [if_neg (fun e=>by subst e;rw [Nat.beq_refl] at hb;cases hb)]
     exact hQ E act hR1
 | .loop b=>fun tm hp nx l tm' hp' nx' Wt Wh h=>by
  have h1:=vy (fj hT hP hcall b) iV tm hp nx l tm' hp' nx' Wt Wh h
  exact ⟨h1.le,h1.wt,h1.hw,fun B E0 n0 Q E act hfr hQ hR=>wp_loop_rounds iV (h1.wp B E0 n0 Q E act hfr hQ hR)⟩
 | .rangeFunc _ _ _ _=>fun tm hp nx l tm' hp' nx' Wt Wh h=>by cases h
 | .scope _=>fun tm hp nx l tm' hp' nx' Wt Wh h=>by cases h
 | .label _=>fun tm hp nx l tm' hp' nx' Wt Wh h=>by cases h
 | .goto _=>fun tm hp nx l tm' hp' nx' Wt Wh h=>by cases h
 | .refuse _=>fun tm hp nx l tm' hp' nx' Wt Wh h=>by cases h
theorem uv :∀ {l:List U} {i:Nat} {tm:TM} {s:Nat},i+l.length≤512→s<512→(cr s).get (iB l i tm)=if i≤s∧s<i+l.length then (l[s - i]?).getD u0 else (cr s).get tm
 | [],i,tm,s,_,_=>by rw [if_neg (by simp)];rfl
 | u::l,i,tm,s,h,hs=>by
  simp only [List.length_cons] at h
  show (cr s).get (iB l (i+1) (tj tm i u))=_
  rw [uv (by omega) hs]
  by_cases e:s=i
  ·subst e
   rw [if_neg (by omega),if_pos (by simp),jS,gv]
   simp
  ·by_cases e2:i+1≤s∧s<i+1+l.length
   ·rw [if_pos e2,if_pos (by simp;omega)]
    obtain ⟨d,rfl⟩ :∃ d,s=i+1+d:=⟨s - (i+1),by omega⟩
    rw [show i+1+d - (i+1)=d by omega,show i+1+d - i=d+1 by omega]
    simp
   ·rw [if_neg e2,if_neg (by simp;omega),jS,CZ (by omega) hs (Ne.symm e)]
theorem Li (s:Nat) :(cr s).get tm0=u0:=Ge _ _
theorem D5 {G:Rv→Prop} {sl:Rv} (h0:G sl) {tm:TM} (Wt:WT K tm) {hp:HP} (Wh:hpW hp) {r:ResultVar} {k:U→Rv} (h :∀ u v,x7 tb (tmL K tm 512) (hpH hp) r=some v→v=u.toV→u.wf→G (k u)):G (D7 tb K r tm hp k sl):=by
 have hl :∀ s,cq (tmL K tm 512) s =(cZ K en0 s u0 u0 u0 u0 tm).toV:=(wC tm).look
 cases r with
 | tmp t=>exact h _ _ (by simp only [x7,hl]) rfl (Wt.win t)
 | cell a t=>
  show G (TI.rec (motive:=fun _=>TM→HP→(U→Rv)→Rv→Rv) (fun _ _ _ sl=>sl) (fun tm hp=>ldP zL (cZ K en0 a u0 u0 u0 u0 tm) hp) (fun n tm hp=>ldP (zK n) (cZ K en0 a u0 u0 u0 u0 tm) hp) (tyI tb t) tm hp k sl)
  have main :∀ f:LdF,PT tb t f→G (ldP f (cZ K en0 a u0 u0 u0 u0 tm) hp k sl):=fun f hf=>by
   obtain ⟨td,ht,hf⟩:=hf
   refine oY h0 (fun q o hx=>G1 h0 fun ct n hg=>?_) (fun q v o hx=>h0)
   obtain ⟨cs,hc,hH,_⟩:=oZ Wh hg
   refine hf G ct n cs o k sl hc h0 fun u v hl1 hv hw=>h u v ?_ hv hw
   simp only [x7,ht,hl,tvp hx,kf,hH,hl1]
  cases hi:tyI tb t with
  | no=>exact h0
  | one=>
   refine main zL ?_
   obtain ⟨td,ht,ha,hs⟩:=yu hi
   refine ⟨td,ht,fun G ct n cs o k sl hc h0 hk=>bX h0 fun hb=>?_⟩
   have hlt:o<n:=bd hb
   refine hk _ (b9 ct o).toV ?_ (Bv _).symm (GA _)
   unfold ld
   rw [ha,hc.get o hlt]
   rfl
  | agg m=>
   refine main (zK m) ?_
   obtain ⟨td,ht,ha,hs⟩:=yt hi
   refine ⟨td,ht,fun G ct n cs o k sl hc h0 hk=>bX h0 fun hb=>?_⟩
   have hle:o+m≤n:=bd hb
   have hld:ld td cs o = .val [] (.agg ((cs.drop o).take m)) []:=by
    unfold ld
    rw [ha,hs,if_pos rfl,if_pos (by rw [hc.len];exact hle)]
   cases hm:Nat.beq m n with
   | false=>
    have:=hc.sub hle
    exact hk _ _ hld (by show _=V.agg (toL _ _);rw [this.toL]) ⟨_,this⟩
   | true=>
    have e1:=ax hm
    have e0:o=0:=by omega
    subst e0
    subst e1
    refine hk _ _ hld ?_ ⟨_,hc⟩
    show _=V.agg (toL ct m)
    rw [hc.toL,List.drop_zero,List.take_of_length_le (by rw [hc.len];exact Nat.le_refl _)]
theorem PQ {G:Rv→Prop} {sl:Rv} (h0:G sl) {u:U} (hu:u.wf) {k:W→Rv} (h :∀ w,w.toV=u.toV→w.wf→G (k w)):G (wOf u k sl):=by
 refine G2 h0 (fun c hc _=>h (.c c) hc trivial) (fun t n e=>?_)
 subst e
 exact h (.agg t n) rfl hu
theorem D6 {G:Rv→Prop} {sl:Rv} (h0:G sl) {tm:TM} (Wt:WT K tm) {hp:HP} (Wh:hpW hp) :∀ {rs:List ResultVar} {k:List W→Rv},(∀ ws,nF tb (tmL K tm 512) (hpH hp) rs=some (ws.map W.toV)→(∀ w∈ws,w.wf)→G (k ws))→G (IZ tb K rs tm hp k sl)
 | [],k,h=>h [] rfl (fun w hw=>by cases hw)
 | r::rs,k,h=>by
  show G (D7 tb K r tm hp (fun u=>wOf u (fun w=>IZ tb K rs tm hp (fun l=>k (w::l)) sl) sl) sl)
  refine D5 h0 Wt Wh fun u v hr hv hu=>PQ h0 hu fun w hw hww=>D6 h0 Wt Wh fun ws hws hwf=>h (w::ws) ?_ (fun x hx=>?_)
  ·simp only [nF,hr,hws,List.map_cons,hw,hv]
  ·rcases List.mem_cons.1 hx with rfl|hx
   ·exact hww
   ·exact hwf x hx
theorem K6 {G:Rv→Prop} {sl:Rv} (h0:G sl) {tm:TM} (Wt:WT K tm) {hp:HP} (Wh:hpW hp) {rs:List ResultVar} {k:U→Rv} (h :∀ u,ot tb (tmL K tm 512) (hpH hp) rs=some u.toV→u.wf→G (k u)):G (QK tb K rs tm hp k sl):=by
 match rs with
 | []=>exact h (.tup []) rfl (fun w hw=>by cases hw)
 | [r]=>exact D5 h0 Wt Wh fun u v hr hv hu=>h u (by simp only [ot,nF,hr,hv]) hu
 | r::r2::rs=>
  refine D6 (rs:=r::r2::rs) h0 Wt Wh fun ws hws hwf=>h (.tup ws) ?_ hwf
  have h2:2≤ws.length:=by
   have key :∀ (rs:List ResultVar) (l:List V),nF tb (tmL K tm 512) (hpH hp) rs=some l→l.length=rs.length:=by
    intro rs
    induction rs with
    | nil=>intro l h;simp only [nF,Option.some.injEq] at h;rw [←h];rfl
    | cons r rs ih=>
     intro l h
     simp only [nF] at h
     split at h
     ·split at h
      ·rename_i l' hl'
       cases h
       simp [ih _ hl']
      ·cases h
     ·cases h
   have:=key _ _ hws
   simp at this
   omega
  unfold ot
  rw [hws]
  match ws,h2 with
  | a::b::ws,_=>rfl
theorem zj (hT:aZ P tb) (hP:P.follows .mixedOrders=true) (hname :∀ (f:FuncId) (fn:Func),P.funcs[f]?=some fn→(fn.name == "runtime.NumGoroutine")=false) (hcall:CallVOK P call) {f:FuncId} {fn:Func} (hf:P.funcs[f]?=some fn) {args:List U} {hp:HP} {nx:Nat} (Wa :∀ x∈args,x.wf) (Wh:hpW hp) {u:U} {hp':HP} {nx':Nat}
  (h :(xr tb K fn).run call args hp nx = .ok u hp' nx'):FnV P f args hp nx u hp' nx':=by
 unfold xr at h
 cases hc:fn.body with
 | none=>rw [hc] at h;cases h
 | some c=>
  rw [hc] at h
  cases hn:Nat.ble fn.ntmps 512 with
  | false=>rw [hn] at h;cases h
  | true=>
   rw [hn] at h
   cases hl:Nat.ble args.length fn.ntmps with
   | false=>
    have h :(Bool.rec (motive:=fun _=>Rf) (.no [9]) (EZ tb K fn.results.toList (dV nx fun nx=>Cd.run (fg tb fn.ntmps K c) call (iB args 0 tm0) hp nx)) (Nat.ble args.length fn.ntmps):Rf) = .ok u hp' nx':=h
    rw [hl] at h;cases h
   | true=>
    have h :(Bool.rec (motive:=fun _=>Rf) (.no [9]) (EZ tb K fn.results.toList (dV nx fun nx=>Cd.run (fg tb fn.ntmps K c) call (iB args 0 tm0) hp nx)) (Nat.ble args.length fn.ntmps):Rf) = .ok u hp' nx':=h
    rw [hl] at h
    have h:EZ tb K fn.results.toList (dV nx fun nx=>Cd.run (fg tb fn.ntmps K c) call (iB args 0 tm0) hp nx) = .ok u hp' nx':=h
    rw [cJ] at h
    have hn:=bd hn
    have hl:=bd hl
    have hget :∀ s,s<512→(cr s).get (iB args 0 tm0) =(args[s]?).getD u0:=fun s hs=>by
     rw [uv (by omega) hs]
     by_cases e:0≤s∧s<0+args.length
     ·rw [if_pos e,Nat.sub_zero]
     ·rw [if_neg e,Li,List.getElem?_eq_none (by omega)]
      rfl
    have hwf :∀ s:Nat,((args[s]?).getD u0).wf:=fun s=>by
     cases hx:args[s]? with
     | none=>exact wq
     | some x=>exact Wa x (List.mem_of_getElem? hx)
    have Wt:WT K (iB args 0 tm0):=by
     have h2 :∀ i,isK K i=true→((cr i).get (iB args 0 tm0)).wf:=fun i hi=>by rw [hget i (rO hi)];exact hwf i
     refine ⟨fun i=>?_,h2⟩
     rw [gM]
     cases hk:isK K i with
     | true=>exact h2 i hk
     | false=>exact wq
    cases hr:Cd.run (fg tb fn.ntmps K c) call (iB args 0 tm0) hp nx with
    | no w=>rw [hr] at h;cases h
    | go e1 tm1 hp1 nx1=>
     rw [hr] at h
     have h1:=fj (N:=fn.ntmps) (K:=K) hT hP hcall c _ hp nx e1 tm1 hp1 nx1 Wt Wh hr
     have hret :(∀ id,e1≠ .ext id)∧I1 (K7 tb K fn.results.toList tm1 hp1 nx1) = .ok u hp' nx':=by
      cases e1 with
      | nrm=>exact ⟨fun id h=>(by cases h),h⟩
      | ret=>exact ⟨fun id h=>(by cases h),h⟩
      | ext id=>cases h
     obtain ⟨hne,h⟩:=hret
     have h2:ot tb (tmL K tm1 512) (hpH hp1) fn.results.toList=some u.toV∧u.wf∧hp'=hp1∧nx'=nx1:=by
      revert h
      unfold K7
      refine K6 (G:=fun r=>I1 r = .ok u hp' nx'→_) (fun h=>by cases h) h1.wt h1.hw fun u1 hu1 hw1 h=>?_
      have h:Rf.ok ((cr 0).get (tj tm0 0 u1)) hp1 nx1 = .ok u hp' nx':=h
      rw [jS,gv] at h
      cases h
      exact ⟨hu1,hw1,rfl,rfl⟩
     obtain ⟨hres,huw,rfl,rfl⟩:=h2
     refine ⟨⟨fn,hf,by rw [hc];rfl,hname f fn hf⟩,h1.le,huw,h1.hw,fun B E av hE hH hav hfr=>calls_of_wp hf hc ?_⟩
     have hav_len:=aB hav
     rw [List.length_map] at hav_len
     refine h1.wp B E nx _ E _ hfr (fun E' a hR=>?_) ?_
     ·have hEH:E'.H=hpH hp':=hR.h
      rw [←hEH] at hres
      have htm:dt E' (find (tmL K tm1 512)) a:=fun s v hv=>by
       rw [wC tm1 s] at hv
       by_cases hk:isK K s=true
       ·rw [if_pos hk] at hv;cases hv;exact hR.tm.tm s hk
       ·rw [if_neg hk] at hv;cases hv
      obtain ⟨v',k1,k2⟩:=nG hR.rel hT htm hres
      have fin :∃ v',(results fn a.tmps).run P E'.w = .ok v' E'.w∧∃ E2 v2,(Ending.returned v') = .returned v2∧Came B E (hpH hp') nx nx' u.toV v2 E'.w E2:=
       ⟨v',k1,E',v',rfl,⟨hR.rel,rfl,hEH,hR.ext,hR.u,k2⟩⟩
      cases e1 with
      | ext id=>exact (hne id rfl).elim
      | nrm=>exact ⟨hR.defers,fin⟩
      | ret=>exact ⟨hR.defers,fin⟩
     ·have hrel :∀ i,isK K i=true→aa E ((cr i).get (iB args 0 tm0)).toV ((av.toArray++Array.replicate (fn.ntmps - av.toArray.size) undef).getD i undef):=fun i hi=>by
       rw [hget i (rO hi)]
       cases hx:args[i]? with
       | none=>exact nK
       | some x=>
        obtain ⟨v',q1,q2⟩:=cW hav i x.toV (by rw [List.getElem?_map,hx];rfl)
        have :(av.toArray++Array.replicate (fn.ntmps - av.toArray.size) undef).getD i undef=v':=by
         rw [Array.getD_eq_getD_getElem?]
         have hl:i<av.toArray.size:=by
          rcases Nat.lt_or_ge i av.length with h3|h3
          ·simpa using h3
          ·rw [List.getElem?_eq_none h3] at q1;cases q1
         rw [Array.getElem?_append_left hl]
         simp [q1]
        rw [this]
        exact q2
      refine ⟨hE,Ext.refl E,hH,fun n hn=> .inl hn,Nat.le_refl _,⟨fun i=>?_,hrel⟩,?_,rfl⟩
      ·rw [gM]
       cases hk:isK K i with
       | true=>exact hrel i hk
       | false=>exact nK
      ·simp only [Array.size_append,Array.size_replicate,List.size_toArray];omega
def XOK (P:Program) (X:wB):Prop:=∀ g x,X g=some x→∀ args u,(∀ a∈args,U.wf a)→x args=some u→u.wf∧wA P g args u
theorem Df {fn:Func} {args:List U} {hp:HP} {nx:Nat} {u:U} {hp':HP} {nx':Nat} (h :(xr tb K fn).run call args hp nx = .ex u hp' nx'):False:=by
 have key :∀ r:Rv,I1 r = .ex u hp' nx'→False:=fun r h=>by cases r <;> cases h
 unfold xr at h
 cases hc:fn.body with
 | none=>rw [hc] at h;cases h
 | some c=>
  rw [hc] at h
  cases hn:Nat.ble fn.ntmps 512 with
  | false=>rw [hn] at h;cases h
  | true=>
   rw [hn] at h
   have h :(Bool.rec (motive:=fun _=>Rf) (.no [9]) (EZ tb K fn.results.toList (dV nx fun nx=>Cd.run (fg tb fn.ntmps K c) call (iB args 0 tm0) hp nx)) (Nat.ble args.length fn.ntmps):Rf) = .ex u hp' nx':=h
   cases hl:Nat.ble args.length fn.ntmps with
   | false=>rw [hl] at h;cases h
   | true=>
    rw [hl] at h
    have h:EZ tb K fn.results.toList (dV nx fun nx=>Cd.run (fg tb fn.ntmps K c) call (iB args 0 tm0) hp nx) = .ex u hp' nx':=h
    generalize (dV nx fun nx=>Cd.run (fg tb fn.ntmps K c) call (iB args 0 tm0) hp nx)=r at h
    cases r with
    | no w=>cases h
    | go e tm hp1 nx1=>
     cases e with
     | ext id=>cases h
     | nrm=>exact key _ h
     | ret=>exact key _ h
theorem yL (hT:aZ P tb) (hP:P.follows .mixedOrders=true) (hname :∀ (f:FuncId) (fn:Func),P.funcs[f]?=some fn→(fn.name == "runtime.NumGoroutine")=false) {Pf:FuncId→Option Func} (hPf :∀ (f:FuncId) (fn:Func),Pf f=some fn→P.funcs[f]?=some fn) {X:wB} (hX:XOK P X) (KK:FuncId→Nat) :∀ d,CallVOK P (uy tb Pf X KK d)
 | 0=>⟨fun g args hp nx u hp' nx' _ _ h=>(by cases h),fun g args hp nx u hp' nx' _ h=>(by cases h)⟩
 | d+1=>by
  have ih:=yL hT hP hname hPf hX KK d
  refine ⟨fun g args hp nx u hp' nx' Wa Wh h=>?_,fun g args hp nx u hp' nx' Wa h=>?_⟩
  ·have h:Fc.run (qk tb Pf X KK g) (uy tb Pf X KK d) args hp nx = .ok u hp' nx':=h
   unfold qk at h
   cases hx:X g with
   | some x=>
    rw [hx] at h
    have h:GV (x args) hp nx = .ok u hp' nx':=h
    cases hxa:x args with
    | none=>rw [hxa] at h;cases h
    | some u1=>rw [hxa] at h;cases h
   | none=>
    rw [hx] at h
    have h:Fc.run (Option.rec (motive:=fun _=>Fc) ⟨fun _ _ _ _=> .no [12]⟩ (xr tb (KK g)) (Pf g)) (uy tb Pf X KK d) args hp nx = .ok u hp' nx':=h
    cases hp1:Pf g with
    | none=>rw [hp1] at h;cases h
    | some fn=>
     rw [hp1] at h
     exact zj hT hP hname ih (hPf _ _ hp1) Wa Wh h
  ·have h:Fc.run (qk tb Pf X KK g) (uy tb Pf X KK d) args hp nx = .ex u hp' nx':=h
   unfold qk at h
   cases hx:X g with
   | some x=>
    rw [hx] at h
    have h:GV (x args) hp nx = .ex u hp' nx':=h
    cases hxa:x args with
    | none=>rw [hxa] at h;cases h
    | some u1=>
     rw [hxa] at h
     cases h
     obtain ⟨h1,h2⟩:=hX g x hx args u Wa hxa
     exact ⟨rfl,rfl,h1,h2⟩
   | none=>
    rw [hx] at h
    have h:Fc.run (Option.rec (motive:=fun _=>Fc) ⟨fun _ _ _ _=> .no [12]⟩ (xr tb (KK g)) (Pf g)) (uy tb Pf X KK d) args hp nx = .ex u hp' nx':=h
    cases hp1:Pf g with
    | none=>rw [hp1] at h;cases h
    | some fn=>rw [hp1] at h;exact (Df h).elim
noncomputable section
def Qt (b:Bool) (r:Rf):Bool:=Rf.rec (motive:=fun _=>Bool) (fun u _ _=>U.rec (motive:=fun _=>Bool) (fun _ _=>false) (fun c=>Bool.rec (motive:=fun _=>Bool) (Ft c) c b) (fun _ _=>false) (fun _ _ _=>false) (fun _ _ _ _ _=>false) (fun _=>false) (fun _ _=>false) (fun _=>false) u) (fun _ _ _=>false) (fun _=>false) r
end
theorem Bz (hcall:CallVOK P call) {f:FuncId} {Kc:Nat} {b:Bool} (h:Qt b (call f [] hp0 0)=true):CtrOK P Kc f (aO Kc .unit fun _=>⟨[],.bool b,[]⟩):=by
 cases hr:call f [] hp0 0 with
 | no w=>rw [hr] at h;cases h
 | ex u hp' nx'=>rw [hr] at h;cases h
 | ok u hp' nx'=>
  rw [hr] at h
  have hu:u = .kb b:=by
   cases u with
   | kb c=>cases b <;> cases c <;> first|rfl|cases h
   | _=>cases h
  subst hu
  have F:=hcall.ok f [] hp0 0 _ hp' nx' (fun x hx=>by cases hx) Hf hr
  refine ⟨F.fn,fun B E hE args av hav m hm ps' v0 dh hct hps=>?_⟩
  unfold aO at hct
  simp only at hct
  cases args with
  | cons x xs=>simp [cy] at hct
  | nil=>
   have h0:Nat.ble 0 Kc=true:=by cases Kc <;> rfl
   simp only [cy,List.length_nil,h0,cond_true,Option.some.injEq,Prod.mk.injEq] at hct
   obtain ⟨rfl,rfl,rfl⟩:=hct
   cases av with
   | cons x xs=>simp [ab] at hav
   | nil=>
    let E1:Env:=⟨fun _=>False,fun _=>none,E.S,E.w,fun _=>none⟩
    have hE1:HRel (yH E.w (fun _=>False) E.S hE.glob0) E1:=by
     refine ⟨fun h b hx=>?_,fun b hb=>hE.stab b hb,fun h k b hx=>?_,fun h h' k k' b hx=>?_,fun h k hx=>?_,Keeps.refl _ _,fun h k b hx=>?_,fun _ h=>h,fun _ h=> .inl h⟩ <;> cases hx
    refine (F.calls _ E1 [] hE1 (by rw [LN]) (by simp [ab]) (fun n _ _ h=>h)).mono fun e w' hh=>?_
    obtain ⟨E',v',rfl,C⟩:=hh
    have hw:=C.w
    subst hw
    obtain ⟨E2,G,_,_⟩:=Gg hE hm (S1:=E.S) (fun b hb=>hb) C.rel (acc:= []) ⟨by simp,fun h r hr=>by simp at hr⟩ (Nat.zero_le _) (.inl fun b hb=>hb)
    refine ⟨E2,v',rfl,by simpa [gh,PRes.flat,V.noF] using G,?_⟩
    have hv:=C.v
    simp only [V.shift,aa]
    simpa [U.toV,aa] using hv
end Go.Mir
namespace Go.Mir
open Go.RowKit
variable {P:Program}
theorem J4 {g:FuncId} {fn:Func} {e:Array Value→Sem Value} (hf:P.funcs[g]?=some fn) (hname :(fn.name == "runtime.NumGoroutine")=false) (hb:fn.body.isNone=true) (hn:Extern.findNext fn=none) (he:Extern.find fn=some e) {args:List U} {u:U}
  (h :∀ (E:Env) (av:List Value),ab E (args.map U.toV) av→∃ v',aa E u.toV v'∧(e av.toArray).run P E.w = .ok v' E.w):wA P g args u:=fun E av hav=>by
 obtain ⟨v',hv,hr⟩:=h E av hav
 refine ⟨v',hv,fun o c f l a next Q ho hcf hfe hav2 hnx=>?_⟩
 have hrun :(execOp a.eval o).run P E.w = .ok (.value v') E.w:=by
  have e1 :(c.args.toList.map a.eval++l.toList).toArray=#[]++c.args.map a.eval++l:=by
   apply Array.ext'
   simp
  have :(execOp a.eval o).run P E.w =(callFunc g (#[]++c.args.map a.eval++l)).run P E.w:=by
   simp [execOp,ho,resolve,hcf,Deferred.ofValue,hfe,invoke]
  rw [this,run_callFunc_extern hf hname hb hn he,←e1,←hav2,hr]
  rfl
 unfold Oper.wp
 rw [hrun]
 simp only [Oper.upon]
 exact hnx
theorem Qw :∀ (l:List UInt8) (c:UInt8),Lib.indexByte l c≤l.length
 | [],c=>by unfold Lib.indexByte;simp
 | b::l,c=>by
  have:=Qw l c
  unfold Lib.indexByte
  simp only [List.length_cons]
  split
  ·omega
  ·split <;> omega
theorem Dw :∀ (l:List UInt8) (c i:Nat),c<256→Hn l c i=if Lib.indexByte l c.toUInt8 = -1 then -1 else Lib.indexByte l c.toUInt8 +(i:Int)
 | [],c,i,_=>rfl
 | b::l,c,i,hc=>by
  show Bool.rec (motive:=fun _=>Int) (Hn l c (i+1)) (.ofNat i) (Nat.beq b.toNat c)=_
  rw [Dw l c (i+1) hc]
  have hge:=Lib.indexByte_ge l c.toUInt8
  have hcn:c.toUInt8.toNat=c:=by simp [Nat.toUInt8];omega
  have step:Lib.indexByte (b::l) c.toUInt8=if b==c.toUInt8 then 0 else if Lib.indexByte l c.toUInt8 == -1 then -1 else Lib.indexByte l c.toUInt8+1:=rfl
  rw [step]
  cases hb:Nat.beq b.toNat c with
  | true=>
   have e:b=c.toUInt8:=UInt8.toNat.inj (by rw [hcn];exact ax hb)
   have e2 :(b==c.toUInt8)=true:=by rw [e];simp
   rw [e2]
   simp
  | false=>
   have e :¬(b==c.toUInt8)=true:=fun h=>by
    have:b=c.toUInt8:=by simpa using h
    rw [this,hcn,Nat.beq_refl] at hb
    cases hb
   have e2 :(b==c.toUInt8)=false:=by simpa using e
   rw [e2]
   simp only [Bool.false_eq_true,if_false]
   by_cases h1:Lib.indexByte l c.toUInt8 = -1
   ·rw [if_pos h1,h1];rfl
   ·rw [if_neg h1]
    have h2 :¬(Lib.indexByte l c.toUInt8 == -1)=true:=by simpa using h1
    rw [if_neg h2,if_neg (by omega)]
    push_cast
    omega
theorem NQ {g:FuncId} {fn:Func} (hf:P.funcs[g]?=some fn) (hname :(fn.name == "runtime.NumGoroutine")=false) (hb:fn.body.isNone=true) (hn:Extern.findNext fn=none) (he:Extern.find fn=some Extern.BytealgIndexByte.indexByte) {args:List U} {u:U} (h:ixB args=some u):u.wf∧wA P g args u:=by
 unfold ixB at h
 split at h
 case h_2=>cases h
 rename_i s c
 cases h
 refine ⟨trivial,J4 hf hname hb hn he fun E av hav=>?_⟩
 obtain ⟨a,r,rfl,h1,h2⟩:=bu hav
 obtain ⟨b,r2,rfl,h3,h4⟩:=bu h2
 have h5:r2=[]:=by cases r2 with|nil=>rfl|cons=>simp [ab] at h4
 subst h5
 simp only [U.toV,aa] at h1 h3
 obtain ⟨rfl,hs⟩:=h1
 obtain ⟨rfl,hc⟩:=h3
 have hc2:c<256:=by
  have:=hc.2
  simp [IntKind.max,IntKind.bits,IntKind.signed] at this
  omega
 refine ⟨_,?_,Lib.run_indexByteString s (Int.ofNat c) E.w⟩
 have e:Hn s.data.toList c 0=Lib.indexByte s.data.toList c.toUInt8:=by
  rw [Dw _ _ _ hc2]
  split
  ·rename_i h;rw [h]
  ·simp
 show aa E (.int .i64 (Hn s.data.toList c 0)) _
 rw [e]
 refine gr ?_
 have hge:=Lib.indexByte_ge s.data.toList c.toUInt8
 have hle:=Qw s.data.toList c.toUInt8
 have hl:s.data.toList.length≤aw:=by simpa using hs
 unfold aw at hl
 have e1:IntKind.i64.min = -9223372036854775808:=by decide
 have e2:IntKind.i64.max=9223372036854775807:=by decide
 unfold ok
 rw [e1,e2]
 omega
end Go.Mir
namespace Go.Mir
open Go.RowKit
variable {P:Program} {tb:Tbl} {call:ek}
noncomputable section
def DZ {t:Ty} (p:List V→Option (Den t×List V)):Nat→List V→Option (List (Den t))
 | 0,_=>some []
 | n+1,vs=>match p vs with
  | some (x,r)=>match DZ p n r with
   | some xs=>some (x::xs)
   | none=>none
  | none=>none
def Cg (H:au) (t:Ty) (p:List V→Option (Den t×List V)):List V→Option (List (Den t)×List V)
 | .fsl t' xs::r=>if h:t'=t then some ((h▸xs:List (Den t)),r) else none
 | .nilsl::r=>some ([],r)
 | .esl::r=>some ([],r)
 | .gsl h ver esz off len::r=>match H h with
  | some (.grow ver' esz' cs)=>if ver=ver'∧esz=esz'∧esz=sz t∧(off+len)*esz≤cs.length∧len≤aw then match DZ p len (cs.drop (off*esz)) with
   | some xs=>some (xs,r)
   | none=>none
   else none
  | _=>none
 | _=>none
def jD (H:au):Nat→(t:Ty)→List V→Option (Den t×List V)
 | 0,_,_=>none
 | _+1,.int k,vs=>DY k vs
 | _+1,.bool,vs=>DX vs
 | _+1,.str,vs=>D0 vs
 | _+1,.unit,r=>some ((),r)
 | f+1,.prod a b,r=>match jD H f a r with
  | some (x,r')=>match jD H f b r' with
   | some (y,r'')=>some ((x,y),r'')
   | none=>none
  | none=>none
 | f+1,.slice t,vs=>Cg H t (jD H f t) vs
 | f+1,.nm n,r=>match jD H f n.flds r with
  | some (x,r')=>some (n.of x,r')
  | none=>none
def D1 (H:au) (t:Ty) (v:V):Option (Den t):=bif jr t==fc v then (match cellsOf v with
 | some cs=>match jD H eM t cs with
  | some (x,[])=>some x
  | _=>none
 | none=>none) else none
def Qj (E:Env) (b:Nat):Prop:=∃ h ver esz cs,E.H h=some (.grow ver esz cs)∧E.ρ h=some b
def rG (E:Env):Env:=⟨E.U,E.ρ,fun b=>E.S b∨Qj E b,E.w,fun _=>none⟩
theorem Fa {B:Base} {E:Env} (hE:HRel B E):HRel B (rG E)∧Ext E (rG E):=by
 refine ⟨⟨fun h b hx=>?_,fun b hb=>?_,fun h k b hx=>?_,fun h h' k k' b hx=>?_,fun h k hx=>?_,hE.keeps,fun h k b hx=>?_,fun b hb=> .inl (hE.s0 b hb),fun b hb=>?_⟩,
  ⟨fun _ h=>h,fun _ h=> .inl h,fun _ _=>rfl,fun _ _ _ hx=>?_,fun _ _ _ _ _ _ _ hx=>?_,fun _ _ _ _ _ _ hx=>?_,fun _ _ _ hx=>?_,fun _ _ _ _ _ hx=>?_⟩⟩ <;> try (cases hx)
 ·rcases hb with hb |⟨h,ver,esz,cs,h1,h2⟩
  ·exact hE.stab b hb
  ·exact hE.lt _ _ _ h1 h2
 ·rcases hb with hb |⟨h,ver,esz,cs,h1,h2⟩
  ·exact hE.sb b hb
  ·exact .inr (hE.own _ _ _ h1 h2)
theorem p9 {E:Env} {S:Nat→Prop} {t:Ty} {p:List V→Option (Den t×List V)} (hp :∀ vs x r cs,p vs=some (x,r)→ab E vs cs→∃ c1 c2,cs=c1++c2∧Rd S E.w t x c1∧ab E r c2) :
  ∀ (n:Nat) (vs:List V) (xs:List (Den t)) (cs:List Value),DZ p n vs=some xs→ab E vs cs→xs.length=n∧∀ (i:Nat) (h:i<xs.length),Rd S E.w t xs[i] ((cs.drop (i*sz t)).take (sz t))
 | 0,vs,xs,cs,h,_=>by
  cases h
  exact ⟨rfl,fun i hi=>by simp at hi⟩
 | n+1,vs,xs,cs,h,hv=>by
  simp only [DZ] at h
  split at h
  case h_2=>cases h
  rename_i x r hx
  split at h
  case h_2=>cases h
  rename_i xs' hxs
  cases h
  obtain ⟨c1,c2,rfl,h1,h2⟩:=hp _ _ _ _ hx hv
  obtain ⟨h3,h4⟩:=p9 hp n r xs' c2 hxs h2
  refine ⟨by simp [h3],fun i hi=>?_⟩
  have hl:=h1.len
  cases i with
  | zero=>
   rw [Nat.zero_mul,List.drop_zero,←hl,List.take_left]
   exact h1
  | succ i=>
   have e :(c1++c2).drop ((i+1)*sz t)=c2.drop (i*sz t):=by
    rw [Nat.succ_mul,Nat.add_comm,←List.drop_drop,←hl,List.drop_left]
   rw [e]
   exact h4 i (by simpa using hi)
theorem xT {B:Base} {E:Env} (hE:HRel B E) {t:Ty} {p:List V→Option (Den t×List V)} (hp :∀ vs x r cs,p vs=some (x,r)→ab E vs cs→∃ c1 c2,cs=c1++c2∧Rd (rG E).S E.w t x c1∧ab E r c2)
  {vs:List V} {xs:List (Den t)} {rest:List V} {cs:List Value} (h:Cg E.H t p vs=some (xs,rest)) (hv:ab E vs cs) :∃ c1 c2,cs=c1++c2∧Rd (rG E).S E.w (.slice t) xs c1∧ab E rest c2:=by
 unfold Cg at h
 split at h
 ·split at h
  ·rename_i e
   subst e
   cases h
   obtain ⟨c,r',rfl,h1,h2⟩:=aQ hv
   exact ⟨_,_,rfl,Rd.ext (fun _ h=> .inl h) (fun _ _=>rfl) h1,h2⟩
  ·cases h
 ·cases h
  obtain ⟨c,r',rfl,h1,h2⟩:=aQ hv
  simp only [aa] at h1
  subst h1
  exact ⟨_,_,rfl,.nil,h2⟩
 ·cases h
  obtain ⟨c,r',rfl,h1,h2⟩:=aQ hv
  simp only [aa] at h1
  obtain ⟨a,rfl⟩:=h1
  exact ⟨_,_,rfl,.nil,h2⟩
 ·rename_i hh ver esz off len r
  split at h
  case h_2=>cases h
  rename_i ver' esz' csB hH
  split at h
  case isFalse=>cases h
  rename_i hc
  obtain ⟨rfl,rfl,e3,h4,h5⟩:=hc
  split at h
  case h_2=>cases h
  rename_i xs' hxs
  cases h
  obtain ⟨c,r',rfl,h1,h2⟩:=aQ hv
  simp only [aa] at h1
  obtain ⟨_,_,_,h1⟩:=h1
  obtain ⟨b,cap,c,T,fr,k1,rfl,k3,k4,k5,k6⟩:=h1 _ hH
  obtain ⟨_,b',c',T',fr',q1,q2,q3,q4,q5⟩:=hE.blk _ _ hH
  rw [k1] at q1
  cases q1
  rw [k3] at q2
  cases q2
  obtain ⟨g1,g2⟩:=p9 (S:=(rG E).S) hp _ _ _ _ hxs (fE q5 (off*esz))
  subst e3
  refine ⟨_,_,rfl,?_,h2⟩
  rw [←g1] at k5 ⊢
  refine .slice (.inr ⟨_,_,_,_,hH,k1⟩) k3 ?_ k5 (by omega) fun i hi=>?_
  ·rw [Nat.add_mul] at k4
   have:=Nat.mul_le_mul_right (sz t) k5
   omega
  ·have:=g2 i hi
   have e :((c.toList.take csB.length).drop (off*sz t)).drop (i*sz t) =((c.toList.drop (off*sz t+i*sz t))).take (csB.length - (off*sz t+i*sz t)):=by
    rw [List.drop_drop,List.drop_take]
   rw [e,List.take_take] at this
   have hle:sz t≤csB.length - (off*sz t+i*sz t):=by
    have h6 :(off +(i+1))*sz t≤(off+len)*sz t:=Nat.mul_le_mul_right _ (by omega)
    rw [Nat.add_mul,Nat.add_mul,Nat.one_mul] at h6
    omega
   rw [Nat.min_eq_left hle] at this
   exact this
 ·cases h
theorem fW {B:Base} {E:Env} (hE:HRel B E) :∀ (f:Nat) (t:Ty) (vs:List V) (x:Den t) (rest:List V) (cs:List Value),jD E.H f t vs=some (x,rest)→ab E vs cs→
  ∃ c1 c2,cs=c1++c2∧Rd (rG E).S E.w t x c1∧ab E rest c2
 | 0,t,vs,x,rest,cs,h,_=>by simp [jD] at h
 | f+1,.int k,vs,x,rest,cs,h,hv=>by
  simp only [jD] at h
  unfold DY at h
  split at h
  ·split at h
   ·rename_i e
    subst e
    cases h
    obtain ⟨c,r',rfl,h1,h2⟩:=aQ hv
    simp only [aa] at h1
    obtain ⟨rfl,h1⟩:=h1
    exact ⟨_,_,rfl,.int h1,h2⟩
   ·cases h
  ·cases h
 | f+1,.bool,vs,x,rest,cs,h,hv=>by
  simp only [jD] at h
  unfold DX at h
  split at h
  ·cases h
   obtain ⟨c,r',rfl,h1,h2⟩:=aQ hv
   simp only [aa] at h1
   subst h1
   exact ⟨_,_,rfl,.bool,h2⟩
  ·cases h
   obtain ⟨c,r',rfl,h1,h2⟩:=aQ hv
   simp only [aa] at h1
   subst h1
   exact ⟨_,_,rfl,.bool,h2⟩
  ·cases h
 | f+1,.str,vs,x,rest,cs,h,hv=>by
  simp only [jD] at h
  unfold D0 at h
  split at h
  ·cases h
   obtain ⟨c,r',rfl,h1,h2⟩:=aQ hv
   simp only [aa] at h1
   obtain ⟨rfl,h1⟩:=h1
   exact ⟨_,_,rfl,.str h1,h2⟩
  ·cases h
 | f+1,.unit,vs,x,rest,cs,h,hv=>by
  simp only [jD] at h
  cases h
  exact ⟨[],cs,rfl,.unit,hv⟩
 | f+1,.prod a b,vs,x,rest,cs,h,hv=>by
  simp only [jD] at h
  split at h
  ·rename_i x1 r1 h1
   split at h
   ·rename_i y1 r2 h2
    cases h
    obtain ⟨c1,c2,rfl,k1,k2⟩:=fW hE f _ _ _ _ _ h1 hv
    obtain ⟨d1,d2,rfl,k3,k4⟩:=fW hE f _ _ _ _ _ h2 k2
    exact ⟨c1++d1,d2,by simp,.prod k1 k3,k4⟩
   ·cases h
  ·cases h
 | f+1,.slice t,vs,x,rest,cs,h,hv=>xT hE (fun vs x r cs=>fW hE f t vs x r cs) h hv
 | f+1,.nm n,vs,x,rest,cs,h,hv=>by
  simp only [jD] at h
  split at h
  ·rename_i x1 r1 h1
   cases h
   obtain ⟨c1,c2,rfl,k1,k2⟩:=fW hE f _ _ _ _ _ h1 hv
   exact ⟨c1,c2,rfl,.nm (by rw [n.to_of];exact k1),k2⟩
  ·cases h
theorem qb {B:Base} {E:Env} (hE:HRel B E) {t:Ty} {v:V} {x:Den t} (h:D1 E.H t v=some x) {u:Value} (hv:aa E v u):aa (rG E) (ee t x) u:=by
 unfold D1 at h
 cases hg:jr t==fc v with
 | false=>rw [hg] at h;cases h
 | true=>
  rw [hg] at h
  simp only [cond_true] at h
  split at h
  case h_2=>cases h
  rename_i cs hcs
  split at h
  case h_2=>cases h
  rename_i x' hx
  cases h
  obtain ⟨c1,c2,e,hrd,h2⟩:=fW hE _ _ _ _ _ _ hx (bB hv hcs)
  have hc2:c2=[]:=by cases c2 with|nil=>rfl|cons=>simp [ab] at h2
  subst hc2
  rw [List.append_nil] at e
  subst e
  simp only [beq_iff_eq] at hg
  refine qP (E:=rG E) hrd ?_
  cases e:jr t with
  | true=>
   rw [e] at hg
   cases v <;> simp only [fc,Bool.true_eq_false] at hg
   simp only [aa] at hv
   obtain ⟨l,hl,_⟩:=hv
   exact .inl ⟨rfl,l,hl⟩
  | false=>
   rw [e] at hg
   refine .inr ⟨rfl,?_⟩
   have h1:u.oneCell'=true:=by
    cases v <;> simp only [fc,Bool.false_eq_true] at hg <;> simp only [cellsOf,reduceCtorEq] at hcs <;> exact fT rfl hv
   rw [pw h1]
def BE {α:Type} (e:α→α→Bool):List α→List α→Bool
 | [],[]=>true
 | x::xs,y::ys=>bif e x y then BE e xs ys else false
 | _,_=>false
theorem w7 {α:Type} {e:α→α→Bool} (h :∀ x y,e x y=true→x=y) :∀ {xs ys:List α},BE e xs ys=true→xs=ys
 | [],[],_=>rfl
 | [],_::_,h=>by simp [BE] at h
 | _::_,[],h=>by simp [BE] at h
 | x::xs,y::ys,hh=>by
  simp only [BE] at hh
  cases he:e x y with
  | false=>rw [he] at hh;cases hh
  | true=>rw [he] at hh;rw [h _ _ he,w7 h hh]
def eqD:Nat→(t:Ty)→Den t→Den t→Bool
 | 0,_,_,_=>false
 | _+1,.int _,x,y=>@decide ((x:Int)=y) (Int.instDecidableEq x y)
 | _+1,.bool,x,y=>@decide ((x:Bool)=y) (instDecidableEqBool x y)
 | _+1,.str,x,y=>decide ((x:ByteArray).data.toList =(y:ByteArray).data.toList)
 | _+1,.unit,_,_=>true
 | f+1,.prod a b,x,y=>bif eqD f a x.1 y.1 then eqD f b x.2 y.2 else false
 | f+1,.slice t,xs,ys=>BE (eqD f t) xs ys
 | f+1,.nm n,x,y=>eqD f n.flds (n.to x) (n.to y)
theorem oQ :∀ (f:Nat) (t:Ty) (x y:Den t),eqD f t x y=true→x=y
 | 0,_,_,_,h=>by simp [eqD] at h
 | _+1,.int _,x,y,h=>@of_decide_eq_true ((x:Int)=y) (Int.instDecidableEq x y) h
 | _+1,.bool,x,y,h=>@of_decide_eq_true ((x:Bool)=y) (instDecidableEqBool x y) h
 | _+1,.str,x,y,h=>ByteArray.ext (Array.toList_inj.1 (of_decide_eq_true (p:=(x:ByteArray).data.toList =(y:ByteArray).data.toList) h))
 | _+1,.unit,_,_,_=>rfl
 | f+1,.prod a b,x,y,h=>by
  simp only [eqD] at h
  cases he:eqD f a x.1 y.1 with
  | false=>rw [he] at h;cases h
  | true=>rw [he] at h;exact Prod.ext (oQ f a _ _ he) (oQ f b _ _ h)
 | f+1,.slice t,xs,ys,h=>w7 (oQ f t) (by simpa only [eqD] using h)
 | f+1,.nm n,x,y,h=>by
  simp only [eqD] at h
  have:=oQ f n.flds _ _ h
  rw [←n.of_to x,←n.of_to y,this]
def vR (H:au):List Ty→List V→Option (List V)
 | [],[]=>some []
 | t::ts,v::vs=>match D1 H t v with
  | some x=>match vR H ts vs with
   | some r=>some (ee t x::r)
   | none=>none
  | none=>none
 | _,_=>none
def vQ (H:au) (ts:List Ty) (v:V):Option V:=match ts with
 | [t]=>match D1 H t v with
  | some x=>some (ee t x)
  | none=>none
 | ts=>match v with
  | .tup vs=>match vR H ts vs with
   | some l=>some (.tup l)
   | none=>none
  | _=>none
theorem qa {B:Base} {E:Env} (hE:HRel B E) :∀ {ts:List Ty} {vs l:List V} {us:List Value},vR E.H ts vs=some l→ab E vs us→ab (rG E) l us∧l.length=ts.length
 | [],[],l,us,h,hv=>by
  cases h
  cases us with
  | nil=>exact ⟨by simp [ab],rfl⟩
  | cons=>simp [ab] at hv
 | t::ts,v::vs,l,us,h,hv=>by
  simp only [vR] at h
  split at h
  case h_2=>cases h
  rename_i x hx
  split at h
  case h_2=>cases h
  rename_i r hr
  cases h
  cases us with
  | nil=>simp [ab] at hv
  | cons u us=>
   simp only [ab] at hv ⊢
   obtain ⟨h1,h2⟩:=qa hE hr hv.2
   exact ⟨⟨qb hE hx hv.1,h1⟩,by simp [h2]⟩
 | [],_::_,_,_,h,_=>by cases h
 | _::_,[],_,_,h,_=>by cases h
theorem Aw {B:Base} {E:Env} (hE:HRel B E) {ts:List Ty} {v v0:V} {u:Value} (h:vQ E.H ts v=some v0) (hv:aa E v u):aa (rG E) v0 u∧(ts.length≠1→∃ l,v0 = .tup l∧l.length=ts.length):=by
 unfold vQ at h
 split at h
 ·split at h
  case h_2=>cases h
  rename_i x hx
  cases h
  exact ⟨qb hE hx hv,fun hn=>absurd rfl hn⟩
 ·split at h
  case h_2=>cases h
  rename_i vs
  split at h
  case h_2=>cases h
  rename_i l hl
  cases h
  simp only [aa] at hv ⊢
  obtain ⟨us,rfl,hus⟩:=hv
  obtain ⟨h1,h2⟩:=qa hE hl hus
  exact ⟨⟨us,rfl,h1⟩,fun _=>⟨l,rfl,h2⟩⟩
theorem KP {f:FuncId} (hfn :∃ fn,P.funcs[f]?=some fn∧fn.body.isSome=true∧(fn.name == "runtime.NumGoroutine")=false) {n:Nat}
  {K:Nat} {q q':Pat} {spec:Den (tyP q)→List Prop×Den (tyP q')} (hpair:jh q q'=true) (hres:q'.tm.length=n)
  (h :∀ x:Den (tyP q),wfD (tyP q) x→(∀ p∈(spec x).1,p)→∃ (v0:V) (d:List (Nat×Blk)) (nx:Nat),(n≠1→∃ l,v0 = .tup l∧l.length=n)∧cM q.nx q' ⟨jO n v0,d,fun _=>none,nx⟩=some (spec x).2∧
   ∀ (B:Base) (E:Env) (av:List Value),HRel B E→E.H=ak (fun _=>none) (q.hpOf x)→ab E ((q.tmOf x).map (·.2)) av→(∀ n,E.U n→n<q.nx)→
    Calls P f av.toArray E.w fun e w'=>∃ Ec v',e = .returned v'∧HRel B Ec∧Ec.w=w'∧Ec.H=ak (fun _=>none) d∧Ext E Ec∧(∀ n,Ec.U n→n<nx)∧aa Ec v0 v'):CtrOK P K f (ah K q q' spec):=by
 refine ⟨hfn,fun B E hE args av hav m hm ps' v dh hct hps=>?_⟩
 unfold ah at hct
 simp only at hct
 split at hct
 case h_2=>cases hct
 rename_i x hx
 cases hle:Aj q q' (iA q ⟨cb 0 args,[],E.H,m⟩)&&(Nat.beq args.length q.tm.length&&Nat.ble q'.nx K) with
 | false=>rw [hle] at hct;cases hct
 | true=>
 rw [hle] at hct
 simp only [cond_true,Option.some.injEq,Prod.mk.injEq] at hct
 obtain ⟨rfl,rfl,rfl⟩:=hct
 simp only [Bool.and_eq_true,Nat.beq_eq] at hle
 obtain ⟨hok,hlen,hKK⟩:=hle
 have hKK:q'.nx≤K:=Nat.le_of_ble_eq_true hKK
 have havl:=aB hav
 have hstH:E.H =(⟨cb 0 args,[],E.H,m⟩:St).H:=by funext h;simp [St.H,ak,find]
 let a0:Act:=⟨av.toArray,[]⟩
 have hT0:dt E (find (cb 0 args)) a0:=fun s v hv=>by
  simp only [ep,Nat.zero_le,if_true,Nat.sub_zero] at hv
  obtain ⟨v',h1,h2⟩:=cW hav s v hv
  have:av.toArray.getD s undef=v':=by
   rw [Array.getD_eq_getD_getElem?]
   simp [h1]
  show aa E v (av.toArray.getD s undef)
  rw [this]
  exact h2
 have hna :(q.hp.all fun x=>ny x.2)=true:=vJ hpair
 obtain ⟨hsub,hnd,htm,hwf⟩:=zp hna hx hE hstH hT0
 obtain ⟨hE1,_⟩:=bI hE (hsP q ⟨cb 0 args,[],E.H,m⟩)
 have hMnx :(iA q ⟨cb 0 args,[],E.H,m⟩).nx=q.nx:=rfl
 generalize hM:iA q ⟨cb 0 args,[],E.H,m⟩=M at *
 generalize hL:hsP q ⟨cb 0 args,[],E.H,m⟩=L at *
 have hE2:=lV hE1 hsub hnd
 let B':Base:=⟨E.w,oH (aV M (aY E L) (q.hpOf x)) (q.hpOf x),(aY E L).S,fun E'=>Ext (aV M (aY E L) (q.hpOf x)) E',fun _ _ h k=>h.trans k,hE2.glob (E:=aV M (aY E L) (q.hpOf x)) fun _ ⟨n,k,hf,hb⟩=>⟨n,k,by show ak (fun _=>none) (q.hpOf x) n=_;unfold ak;rw [hf],hb⟩,[]⟩
 have hpins:B'.pins q.nx:=by rw [←hMnx];exact AA
 have hE2':HRel B' (aV M (aY E L) (q.hpOf x)):=
  ⟨hE2.used,hE2.stab,hE2.lt',hE2.inj',hE2.blk,Keeps.refl _ _,fun h k b hx hb=> .inl ⟨h,k,ag hx,hb⟩,fun _ h=>h,fun _ h=> .inl h⟩
 have hkeysq :(q.tmOf x).map (·.1)=q.tm.map (·.1):=mu _
 have hlenq :(q.tmOf x).length=q.tm.length:=by have:=congrArg List.length hkeysq;simpa using this
 have hpair0:=hpair
 simp only [jh,Bool.and_eq_true] at hpair0
 have hseqq:sP 0 (q.tmOf x)=true:=(mr (l:=q.tmOf x) (l':=q.tm) hkeysq).trans hpair0.2.2.2.2.2.2.2
 have hav2:ab (aV M (aY E L) (q.hpOf x)) ((q.tmOf x).map (·.2)) av:=oC (by rw [List.length_map,hlenq,←hlen,havl]) fun i z u hz hu=>by
  have h1:=jQ hseqq i z hz
  have h2:=htm (0+i) z (ae h1)
  have:a0.tmps.getD (0+i) undef=u:=by
   show av.toArray.getD (0+i) undef=u
   rw [Nat.zero_add,Array.getD_eq_getD_getElem?]
   simp [hu]
  rw [this] at h2
  exact h2
 obtain ⟨v0,d,nx,htup,h2,hcalls⟩:=h x hwf hps
 refine (hcalls B' (aV M (aY E L) (q.hpOf x)) av hE2' rfl hav2 (fun n hn=>by have:n<M.nx:=hn;rw [hMnx] at this;exact this)).mono fun e w hh=>?_
 obtain ⟨Ec,v',rfl,hEc,rfl,hHc,hXc,hUc,k2⟩:=hh
 obtain ⟨hp0,hg0⟩:=fA h2
 revert hg0
 generalize hy :(spec x).2=y at *
 intro hg0
 obtain ⟨a',ha'⟩ :∃ a':Act,a'.defers=[]∧dt Ec (find (jO n v0)) a'∧(n=1→a'.tmps=#[v'])∧(n≠1→v' = .tuple a'.tmps∧a'.tmps.size=n):=by
  by_cases hn:n=1
  ·refine ⟨⟨#[v'],[]⟩,rfl,fun s v hv=>?_,fun _=>rfl,fun h=>absurd hn h⟩
   rw [hn] at hv
   have hv:find [(0,v0)] s=some v:=hv
   cases s with
   | zero=>
    have hv:some v0=some v:=hv
    cases hv
    simpa using k2
   | succ s=>
    have hv :(none:Option V)=some v:=hv
    cases hv
  ·obtain ⟨l,rfl,hl⟩:=htup hn
   simp only [aa] at k2
   obtain ⟨us,rfl,hus⟩:=k2
   have hul:=aB hus
   refine ⟨⟨us,[]⟩,rfl,fun s v hv=>?_,fun h=>absurd h hn,fun _=>⟨rfl,by rw [←hl,hul];simp⟩⟩
   have hb:Nat.beq n 1=false:=by
    cases hb:Nat.beq n 1 with
    | false=>rfl
    | true=>exact absurd (Nat.eq_of_beq_eq_true hb) hn
   unfold jO at hv
   rw [hb] at hv
   simp only [cond_false,ep,Nat.zero_le,if_true,Nat.sub_zero] at hv
   obtain ⟨u,g1,g2⟩:=cW hus s v hv
   have:us.getD s undef=u:=by
    rw [Array.getD_eq_getD_getElem?,←Array.getElem?_toList,g1]
    rfl
   rw [this];exact g2
 obtain ⟨hd',hT',hone,hmany⟩:=ha'
 have hst:dL B' a'.tmps.size ⟨jO n v0,d,fun _=>none,nx⟩ a' Ec.w:=⟨⟨Ec,hEc,rfl,hHc,⟨hXc,hUc⟩,hT'⟩,rfl,hd'⟩
 obtain ⟨⟨Ed,hEd,hdw,hHd,⟨hXd,hUd⟩,hTd⟩,_,_⟩:=gD hpins hg0 hp0 hst
 simp only [jh,Bool.and_eq_true,List.all_eq_true] at hpair
 obtain ⟨o8,o1,o2,o3,o4,o5,o6,o7⟩:=hpair
 simp only [Aj,Bool.and_eq_true,List.all_eq_true] at hok
 obtain ⟨n1,n2⟩:=hok
 have hkeys1 :(q'.hpOf y).map (·.1)=q'.hp.map (·.1):=kn _
 have hkeys0 :(q.hpOf x).map (·.1)=q.hp.map (·.1):=kn _
 have hfl:bP q'=false∨((q'.tm.all fun x=>zh x.2)=true∧(q'.hp.all fun x=>xm x.2)=true):=by
  cases hf:bP q' with
  | false=>exact .inl rfl
  | true=>simp only [bP,Bool.and_eq_true] at hf;exact .inr hf
 have hhp:=BR (fl:=bP q') (hl:=q'.hp.map (·.1)) (vl:=fY q'.hp) (l:=q'.hp) (r:= .unit) (gk q'.tm (dH q'.hp .unit) y).2 (List.all_eq_true.2 o2) (hfl.imp id (·.2))
 have htmv:=CS (fl:=bP q') (hl:=q'.hp.map (·.1)) (vl:=fY q'.hp) (l:=q'.tm) (r:=dH q'.hp .unit) y (List.all_eq_true.2 o1) (hfl.imp id (·.1))
 have vers :∀ (l:List (Nat×PB)) (z:Den (dH l .unit)) (v:Nat),v∈fY l→∃ n t xs,(n,Blk.row v true t xs)∈(bM l .unit z).1:=by
  intro l
  induction l with
  | nil=>intro z v hv;simp [fY] at hv
  | cons q0 l ih=>
   obtain ⟨n0,b0⟩:=q0
   intro z v hv
   have tl:v∈fY l→∃ n t xs,(n,Blk.row v true t xs)∈(bM ((n0,b0)::l) .unit z).1:=fun h=>by
    obtain ⟨n,t,xs,hm⟩:=ih (gU b0 (dH l .unit) z).2 v h
    exact ⟨n,t,xs,by simp only [bM];exact List.mem_cons_of_mem _ hm⟩
   cases b0 with
   | cells=>exact tl hv
   | dat=>exact tl hv
   | abs=>exact tl hv
   | row v0 t0=>
    simp only [fY,List.mem_cons] at hv
    rcases hv with rfl|hv
    ·exact ⟨n0,t0,_,by simp only [bM,gU];exact List.mem_cons_self⟩
    ·exact tl hv
 have rowsP :∀ (l:List (Nat×PB)) (z:Den (dH l .unit)) (n v:Nat) (rw:Bool) (t:Ty) (xs:List (Den t)),(n,Blk.row v rw t xs)∈(bM l .unit z).1→(n,PB.row v t)∈l:=by
  intro l
  induction l with
  | nil=>intro z n v rw t xs hm;simp [bM] at hm
  | cons q0 l ih=>
   obtain ⟨n0,b0⟩:=q0
   intro z n v rw t xs hm
   simp only [bM,List.mem_cons,Prod.mk.injEq] at hm
   rcases hm with ⟨rfl,hm⟩|hm
   ·cases b0 with
    | cells=>simp [gU] at hm
    | dat=>simp [gU] at hm
    | abs=>simp [gU] at hm
    | row v0 t0=>
     simp only [gU,Blk.row.injEq] at hm
     obtain ⟨rfl,rfl,rfl,_⟩:=hm
     exact List.mem_cons_self
   ·exact List.mem_cons_of_mem _ (ih _ _ _ _ _ _ hm)
 have hHd':Ed.H=ak (fun _=>none) (q'.hpOf y):=hHd
 have hvl :∀ v,v∈fY q'.hp→∃ n t xs,find (q'.hpOf y) n=some (.row v true t xs):=fun v hv=>by
  obtain ⟨n,t,xs,hm⟩:=vers q'.hp _ v hv
  have hnd1 :((q'.hpOf y).map (·.1)).Nodup:=by
   rw [hkeys1]
   exact nodupN_iff.1 o8
  exact ⟨n,t,xs,kg hnd1 hm⟩
 obtain ⟨E',G,hv⟩:=ux (B:=B) (fl:=bP q') hE hm hsub hnd hEd hHd' hXd (nx1:=q'.nx) hUd hKK (vl:=fY q'.hp)
  (fun n k hm'=>by
   have:=hhp n k hm'
   rw [hkeys1]
   exact this) hvl
  (fun n hn=>by
   rw [hkeys1] at hn
   rw [hkeys0]
   have:=o5 n hn
   simp only [Bool.or_eq_true] at this
   rcases this with h1|h1
   ·left;rw [hMnx];exact Nat.le_of_ble_eq_true h1
   ·right;exact memN_iff.1 h1)
  (fun n hn=>by
   rw [hkeys0] at hn
   rw [hkeys1]
   obtain ⟨z,hz1,rfl⟩:=List.mem_map.1 hn
   exact memN_iff.1 (o6 z hz1).1)
  (fun n v rw t xs hf=>by
   have:=o4 _ (rowsP q'.hp _ _ _ _ _ _ (ae hf))
   simp only [Bool.or_eq_true,Nat.blt_eq] at this
   rw [hMnx]
   exact this.imp Nat.le_of_ble_eq_true id)
  (fun n hn hz=>by
   rw [hkeys0] at hn
   obtain ⟨z,hz1,rfl⟩:=List.mem_map.1 hn
   have:=n1 z hz1
   rw [hz] at this
   exact this)
  (fun n v rw t xs hf hz=>by
   have:=n1 _ (rowsP q.hp _ _ _ _ _ _ (ae hf))
   simp only [hz] at this
   cases hh:find M.σ v with
   | none=>rfl
   | some j=>rw [hh] at this;cases this)
  (fun v v' hv hv' l1 l2 z1 z2 s1 s2 e=>by
   refine dU (nodupN_iff.1 n2) (List.mem_filter.2 ⟨hv,?_⟩) (List.mem_filter.2 ⟨hv',?_⟩) e
   ·simp [l1,z1,s1]
   ·simp [l2,z2,s2])
 rw [hdw] at G
 refine ⟨E',v',rfl,G,hv _ _ ?_ ?_⟩
 ·rw [hkeys1]
  unfold Ar
  split
  ·rfl
  ·rename_i y0 r hy0
   split
   ·exact htmv y0.1 y0.2 (by show (y0.1,y0.2)∈q'.tmOf y;rw [hy0];exact List.mem_cons_self)
   ·show dz _ _ _ ((q'.tmOf y).map (·.2))=true
    have :∀ l:List (Nat×V),(∀ s v,(s,v)∈l→okV (bP q') (q'.hp.map (·.1)) (fY q'.hp) v=true)→dz (bP q') (q'.hp.map (·.1)) (fY q'.hp) (l.map (·.2))=true:=by
     intro l
     induction l with
     | nil=>intro _;rfl
     | cons z l ih=>intro hz;simp only [List.map_cons,dz,Bool.and_eq_true];exact ⟨hz z.1 z.2 List.mem_cons_self,ih fun s v hm=>hz s v (List.mem_cons_of_mem _ hm)⟩
    exact this _ htmv
 ·have hlen :(q'.tmOf y).length=n:=by
   have :((q'.tmOf y).map (·.1)).length =(q'.tm.map (·.1)).length:=by rw [show (q'.tmOf y).map (·.1)=q'.tm.map (·.1) from mu _]
   simpa [hres] using this
  have hseq:sP 0 (q'.tmOf y)=true:=(mr (l:=q'.tmOf y) (l':=q'.tm) (mu _)).trans o3
  unfold Ar
  split
  ·rename_i hy0
   rw [hy0] at hlen
   obtain ⟨h5,h6⟩:=hmany (by rw [←hlen];simp)
   rw [h5]
   simp only [aa]
   refine ⟨_,rfl,?_⟩
   have:a'.tmps.toList=[]:=by
    apply List.eq_nil_of_length_eq_zero
    simp [h6,←hlen]
   rw [this];simp [ab]
  ·rename_i y0 r hy0
   split
   ·rw [hy0] at hlen
    have h5:=hone (by rw [←hlen];rfl)
    have h6:=jQ hseq 0 y0.2 (by rw [hy0];rfl)
    have:=hTd (0+0) y0.2 h6
    rw [h5] at this
    simpa using this
   ·rename_i y1 r'
    rw [hy0] at hlen
    obtain ⟨h5,h6⟩:=hmany (by rw [←hlen];simp)
    rw [h5]
    simp only [aa]
    refine ⟨_,rfl,oC ?_ fun i z u hz hu=>?_⟩
    ·rw [hy0];simp only [List.length_map,Array.length_toList,h6,←hlen]
    ·have h7:=jQ hseq i z hz
     have:=hTd (0+i) z h7
     rw [Nat.zero_add,Array.getD_eq_getD_getElem?,←Array.getElem?_toList,hu] at this
     exact this
def yG (q:Pat) (x:Den (tyP q)):List U:=(q.tmOf x).map fun z=>jV (kbV z.2)
def Ro (q':Pat) (ts:List Ty) (p:Nat) (r:Rf):Option (Den (tyP q')):=Rf.rec (motive:=fun _=>Option (Den (tyP q'))) (fun u hp nx=>match vQ (hpH hp) ts u.toV with
 | some v0=>cM p q' ⟨jO ts.length v0,[],fun _=>none,nx⟩
 | none=>none) (fun _ _ _=>none) (fun _=>none) r
def isD {q':Pat} (y0:Den (tyP q')) (r:Option (Den (tyP q'))):Bool:=match r with
 | some y=>eqD eM (tyP q') y y0
 | none=>false
theorem wu {E:Env} :∀ {vs:List V} {us:List Value},ab E vs us→ab E (vs.map fun v=>(jV (kbV v)).toV) us
 | [],[],_=>by simp [ab]
 | [],_::_,h=>by simp [ab] at h
 | _::_,[],h=>by simp [ab] at h
 | _::_,_::_,h=>by simp only [List.map_cons,ab] at h ⊢;exact ⟨(BW _).trans (kM _) _ _ h.1,wu h.2⟩
theorem qX (hcall:CallVOK P call) {f:FuncId} {Kc:Nat} {q q':Pat} (x0:Den (tyP q)) (y0:Den (tyP q')) {ts:List Ty} (hpair:jh q q'=true) (hq:q.hp=[]) (hres:q'.tm.length=ts.length)
  (hrun:isD y0 (Ro q' ts q.nx (call f (yG q x0) hp0 q.nx))=true):CtrOK P Kc f (ah Kc q q' fun x=>([x=x0],y0)):=by
 cases hr:call f (yG q x0) hp0 q.nx with
 | no w=>rw [hr] at hrun;cases hrun
 | ex u hp' nx'=>rw [hr] at hrun;cases hrun
 | ok u hp' nx'=>
  rw [hr] at hrun
  have F:=hcall.ok f (yG q x0) hp0 q.nx u hp' nx' (fun x hx=>by
   unfold yG at hx
   obtain ⟨z,_,rfl⟩:=List.mem_map.1 hx
   exact kN _) Hf hr
  have hrun:isD y0 (match vQ (hpH hp') ts u.toV with
   | some v0=>cM q.nx q' ⟨jO ts.length v0,[],fun _=>none,nx'⟩
   | none=>none)=true:=hrun
  cases hpk:vQ (hpH hp') ts u.toV with
  | none=>rw [hpk] at hrun;cases hrun
  | some v0=>
   rw [hpk] at hrun
   simp only at hrun
   cases hrd:cM q.nx q' ⟨jO ts.length v0,[],fun _=>none,nx'⟩ with
   | none=>rw [hrd] at hrun;cases hrun
   | some y=>
    rw [hrd] at hrun
    have hy:y=y0:=oQ eM _ y y0 hrun
    subst hy
    refine KP F.fn hpair hres fun x _ hx=>?_
    obtain rfl:x=x0:=hx _ (List.mem_singleton.2 rfl)
    have hpn:q.hpOf x=[]:=by
     have hk :(q.hpOf x).map (·.1)=q.hp.map (·.1):=kn _
     rw [hq] at hk
     exact List.map_eq_nil_iff.1 hk
    have htup:ts.length≠1→∃ l,v0 = .tup l∧l.length=ts.length:=fun hn=>by
     unfold vQ at hpk
     split at hpk
     ·exact absurd rfl hn
     ·split at hpk
      case h_2=>cases hpk
      rename_i vs _
      split at hpk
      case h_2=>cases hpk
      rename_i l hl
      cases hpk
      refine ⟨l,rfl,?_⟩
      have :∀ {ts:List Ty} {vs l:List V},vR (hpH hp') ts vs=some l→l.length=ts.length:=by
       intro ts
       induction ts with
       | nil=>intro vs l h;cases vs <;> cases h;rfl
       | cons t ts ih=>
        intro vs l h
        cases vs with
        | nil=>cases h
        | cons v vs=>
         simp only [vR] at h
         split at h
         case h_2=>cases h
         split at h
         case h_2=>cases h
         rename_i r hr
         cases h
         simp [ih hr]
      exact this hl
    refine ⟨v0,[],nx',htup,hrd,fun B E av hE hH hav hU=>?_⟩
    refine (F.calls B E av hE (by rw [hH,hpn,LN];rfl) ?_ (fun n h1 _ hu=>absurd (hU n hu) (by omega))).mono fun e w' hh=>?_
    ·unfold yG
     have:=wu hav
     rw [List.map_map] at this
     rw [List.map_map]
     exact this
    ·obtain ⟨E',v',rfl,C⟩:=hh
     obtain ⟨R2,X2⟩:=Fa C.rel
     refine ⟨rG E',v',rfl,R2,C.w,rfl,C.ext.trans X2,fun n hn=>?_,?_⟩
     ·have hle:=F.le
      rcases C.u n hn with h|h
      ·have:=hU n h;omega
      ·exact h.2
     ·rw [←C.h] at hpk
      exact (Aw C.rel hpk C.v).1
theorem Dq {g Kc:Nat} {ct:Ctr} (hc:CtrOK P Kc g ct) {us:List U} {v:V} {u:U} (hct :∀ H m,∃ ps,ct (us.map U.toV) H m=some (ps,v,[])∧∀ p∈ps,p) (hu:VLe v u.toV) (hw:u.wf) {hp:HP} {nx:Nat} (W:hpW hp):FnV P g us hp nx u hp (nx+Kc):=
 ⟨hc.fn,Nat.le_add_right _ _,hw,W,fun B E av hE hH hav hfr=>by
  obtain ⟨ps,h1,h2⟩:=hct E.H nx
  refine (hc.calls B E hE _ av hav nx hfr ps v [] h1 h2).mono fun e w' hh=>?_
  obtain ⟨E',v',rfl,G,hv⟩:=hh
  exact ⟨E',v',rfl,⟨G.rel,G.w,by rw [G.h,lD,hH],G.ext,G.u,hu _ _ hv⟩⟩⟩
abbrev yA:=FuncId→Option (List U→Option (U×Nat))
def ql (n:Nat) :(Nat→Rf)→Rf:=Nat.rec (motive:=fun _=>(Nat→Rf)→Rf) (fun k=>k 0) (fun n _ k=>k (Nat.succ n)) n
theorem DQ (n:Nat) (k:Nat→Rf):ql n k=k n:=by cases n <;> rfl
def He (Kf:Nat→Rf) (r:Rf):Option (U×Nat)→HP→Nat→Rf:=fun o hp nx=>Option.rec (motive:=fun _=>Rf) r (fun q=>Prod.rec (motive:=fun _=>Rf) (fun u k=>ql (Nat.add nx k) fun nx=> .ok u hp nx) q) o
def GW (tb:Tbl) (P:FuncId→Option Func) (X:wB) (KK:FuncId→Nat) (Hk:yA) (f:FuncId):Fc:=Option.rec (motive:=fun _=>Fc) (qk tb P X KK f) (fun hk=>⟨fun call args hp nx=>He (fun _=> .no []) (Fc.run (qk tb P X KK f) call args hp nx) (hk args) hp nx⟩) (Hk f)
def qT (tb:Tbl) (P:FuncId→Option Func) (X:wB) (KK:FuncId→Nat) (Hk:yA) (d:Nat):ek:=Nat.rec (motive:=fun _=>ek) (fun _ _ _ _=> .no [11]) (fun _ ih f args hp nx=>Fc.run (GW tb P X KK Hk f) ih args hp nx) d
def PS (P:Program) (Hk:yA):Prop:=∀ g hk,Hk g=some hk→∀ args q hp nx,(∀ x∈args,U.wf x)→hpW hp→hk args=some q→FnV P g args hp nx q.1 hp (nx+q.2)
theorem J5 (hT:aZ P tb) (hP:P.follows .mixedOrders=true) (hname :∀ (f:FuncId) (fn:Func),P.funcs[f]?=some fn→(fn.name == "runtime.NumGoroutine")=false) {Pf:FuncId→Option Func} (hPf :∀ (f:FuncId) (fn:Func),Pf f=some fn→P.funcs[f]?=some fn) {X:wB} (hX:XOK P X) (KK:FuncId→Nat) (ih:CallVOK P call) :
  CallVOK P fun g args hp nx=>Fc.run (qk tb Pf X KK g) call args hp nx:=by
 refine ⟨fun g args hp nx u hp' nx' Wa Wh h=>?_,fun g args hp nx u hp' nx' Wa h=>?_⟩
 ·unfold qk at h
  cases hx:X g with
  | some x=>
   rw [hx] at h
   have h:GV (x args) hp nx = .ok u hp' nx':=h
   cases hxa:x args with
   | none=>rw [hxa] at h;cases h
   | some u1=>rw [hxa] at h;cases h
  | none=>
   rw [hx] at h
   have h:Fc.run (Option.rec (motive:=fun _=>Fc) ⟨fun _ _ _ _=> .no [12]⟩ (xr tb (KK g)) (Pf g)) call args hp nx = .ok u hp' nx':=h
   cases hp1:Pf g with
   | none=>rw [hp1] at h;cases h
   | some fn=>
    rw [hp1] at h
    exact zj hT hP hname ih (hPf _ _ hp1) Wa Wh h
 ·unfold qk at h
  cases hx:X g with
  | some x=>
   rw [hx] at h
   have h:GV (x args) hp nx = .ex u hp' nx':=h
   cases hxa:x args with
   | none=>rw [hxa] at h;cases h
   | some u1=>
    rw [hxa] at h
    cases h
    obtain ⟨h1,h2⟩:=hX g x hx args u Wa hxa
    exact ⟨rfl,rfl,h1,h2⟩
  | none=>
   rw [hx] at h
   have h:Fc.run (Option.rec (motive:=fun _=>Fc) ⟨fun _ _ _ _=> .no [12]⟩ (xr tb (KK g)) (Pf g)) call args hp nx = .ex u hp' nx':=h
   cases hp1:Pf g with
   | none=>rw [hp1] at h;cases h
   | some fn=>rw [hp1] at h;exact (Df h).elim
theorem yK (hT:aZ P tb) (hP:P.follows .mixedOrders=true) (hname :∀ (f:FuncId) (fn:Func),P.funcs[f]?=some fn→(fn.name == "runtime.NumGoroutine")=false) {Pf:FuncId→Option Func} (hPf :∀ (f:FuncId) (fn:Func),Pf f=some fn→P.funcs[f]?=some fn) {X:wB} (hX:XOK P X) (KK:FuncId→Nat) {Hk:yA} (hH:PS P Hk) :∀ d,CallVOK P (qT tb Pf X KK Hk d)
 | 0=>⟨fun g args hp nx u hp' nx' _ _ h=>(by cases h),fun g args hp nx u hp' nx' _ h=>(by cases h)⟩
 | d+1=>by
  have ih:=yK hT hP hname hPf hX KK hH d
  have ic:=J5 hT hP hname hPf hX KK ih
  refine ⟨fun g args hp nx u hp' nx' Wa Wh h=>?_,fun g args hp nx u hp' nx' Wa h=>?_⟩
  ·have h:Fc.run (GW tb Pf X KK Hk g) (qT tb Pf X KK Hk d) args hp nx = .ok u hp' nx':=h
   unfold GW at h
   cases hx:Hk g with
   | none=>rw [hx] at h;exact ic.ok g args hp nx u hp' nx' Wa Wh h
   | some hk=>
    rw [hx] at h
    have h:He (fun _=> .no []) (Fc.run (qk tb Pf X KK g) (qT tb Pf X KK Hk d) args hp nx) (hk args) hp nx = .ok u hp' nx':=h
    cases hq:hk args with
    | none=>rw [hq] at h;exact ic.ok g args hp nx u hp' nx' Wa Wh h
    | some q=>
     rw [hq] at h
     have h:ql (nx+q.2) (fun nx=> .ok q.1 hp nx) = .ok u hp' nx':=h
     rw [DQ] at h
     cases h
     exact hH g hk hx args q _ nx Wa Wh hq
  ·have h:Fc.run (GW tb Pf X KK Hk g) (qT tb Pf X KK Hk d) args hp nx = .ex u hp' nx':=h
   unfold GW at h
   cases hx:Hk g with
   | none=>rw [hx] at h;exact ic.ex g args hp nx u hp' nx' Wa h
   | some hk=>
    rw [hx] at h
    have h:He (fun _=> .no []) (Fc.run (qk tb Pf X KK g) (qT tb Pf X KK Hk d) args hp nx) (hk args) hp nx = .ex u hp' nx':=h
    cases hq:hk args with
    | none=>rw [hq] at h;exact ic.ex g args hp nx u hp' nx' Wa h
    | some q=>
     rw [hq] at h
     have h:ql (nx+q.2) (fun nx=> .ok q.1 hp nx) = .ex u hp' nx':=h
     rw [DQ] at h
     cases h
end
end Go.Mir
namespace Go.Proofs.YtffdpnmioidloaaGreatDoor
open Go Go.Mir Go.RowKit
noncomputable def Na:List Nat:= [
 0,0,0,5368710655,36028522149442547,5368710653,4415226381821,1527,1527,18014398580791287,54975854010319,140720310845503,1032940127599,
 9223264285382124223,47301970752111457256778715619071745507284655,268435677,2207680827519,342961754377944325198902640958314186751,
 1569419104573232187173592783605487638321880253905708777469,69206271,146477,1106874459013247391197,442722209871163882461,
 151115727451828646850589,33518643,633980042618954450908787834813,5,618970010428591257176961527,316853431581361610345484644855,1074250695,
 480381044530407671,120093090446862583,33624375,2787604209658536138125601562096699283598344183,4202461,33518643,15927415,1,31039,2175,80941,
 160053247034850358852287,62151,43663,5,5,66037,37463,21,1005,554067624221,7,2787591820912781336787614706022950608412659,19,19,132127,
 33518643,16909343,1074250695,1074250695,33518643,101191923,4210141,33789,19,504373101,5,288239182042702077,307,147,16381,5,1048701,
 536875975,2478602523605874885703778247,17205069072303483745460431797280757845121363959,432600376175263735,135333885,590293562956938354615,
 21299455823972908768697484916704673631,15647962890497478761257512869494775,154653373227835051981125359370231,135858109,270003,
 147569453388095438327,18031149959998317,2537796727798967729357673716799,56705726091603258377343,33624247,
 524050826953046096848959272722126231045247,584132333839,100215,75,41619509458458402374926480527327247,2308112542947344287,
 157734642905710068991,7,7,262719,575408255,206561870351,5,277033812445,138351151751817639347,16885,19,1,17823899,19,1074668531,21,
 33773,1141361790201615,403,68531,65875,787475,2361651,4311876109,141837033562243,524481,50467315,28994152961910681312403245,65805,
 393671,567637910811613,34871,17247504839,287,751,1125899906781167,543,68531,15,68531,31,2111,67791,1267766971744237,537982711,7,
 550831686637,17247504839,33271,287,18154794255615,1157496576784466559,36296793806975,2111,67791,2436141435116378390535,181815,5,
 583228246103949343,730729220306227659762194183914400919200083747103,2436141435116378390535,264499,93,5,2203355973565,7,18013866068819231,
 549823021095,5,623371976811471490270839,21,5,4193923,255,17188391667,19,8804716774131,285246067,19,3091,67635213,0,275,1030960988221,
 13229874735489527,19,17714647155,594912002450663878599,17247509535,41461,7,1074266623,41461,554189343,537427959,7,30767,
 10680565413657634966791598749211705311,1748372298083039162489419473994526981374079,613909102082408237765055,23,4611685889574277119,
 9690297247829818509099023,29,7,21,71,17661509535773,71,71,71,19,34359873459,69868716031,2097139,21,141,
 3288334866514706593133645328825960668421405409267,20426029832823244530989399071,0,85,1037,0,702345484717335833347805173187876055236595,147,
 8467,65811,66109,4243,33171,262771,201458291,749019592093908130998168547243858079179057434181575,2035,2035,711,711,21,
 5574585500266620241506278819022995797836279,45798598826349314118952776107391,30767,1166414994787599451,30468223768147948836066781331485,7,
 35184338929599,313835791421,189,71,5,72110370594031615,10625322633999130018815,270007,2658455675924155280183567316963852351,71,17314119695,
 68531,526359,5,0,5,540949,13,5,5,167646794486930362006707544072189,0,5,152001198347852507514867,1043,19,19,281518060864637,5,
 3259340307738458011409318461,77,5,5,39696297806334883182330020991,147511,545799231,189,71,16403,8388487,5,37742254529999670338043,
 4718529,18330886059069691,270007,166153420561695367707252321293500543,7,101442647862428755572662893270609959105484889768075967,147511,16527,
 30791694323487,72268425669383167,7,21,21,1107366397,15663183425078192791428758033914457634011265410594242675,5,5,71,
 9942831655231632527697442807,17041395,89478431,8191,21,21,21,281473366116127,8380695,4726978173286391744511,39,1125899890069523,71,
 1137188723,290623467576168319,9175,145025710296123410904321674198368924715718399,18272502847,1037,19,5,7,5233021378056568784808409033611007,
 18272502847,15,67650767,66015,669319516925162926939791635824639,8311,8396919,577588028814460111,134199,17318199,2276601635023,33882175,
 176160575,153157571569583935,39,526271,68531,19,5,4393886845391,132063,2502854235920920419110911,16631,16793847,20268951531555279,
 268407,34636407,18212808952271,67764351,264703,4327551,2449471999,19221507316027580516863,39,526271,151,180457415182559,1069614111,
 5465788277392579832897814308109687003511,4434693189791,18281528828543,72057680004915423,7,8406071,151,16535,31,68531,8388487,7,151,
 8388487,739154422722068959,9663669631,148638630510879231,72057680004907231,4047,8406071,65795,8388487,151,279,31,151,34357774559,34771,
 34082647,61,538972275,5,5,151,34357772511,4278323263,4434693189791,34082647,0,0,0,0,0,0,0,0,0,0,0,0,0,0,0,0,0,0,0,0,0,
 0,0,0,0,0,0,0,0,8]
noncomputable def awK (f:FuncId):Nat:=(Na[f]?).getD 0
noncomputable def awX:wB:=fun f=>Bool.rec (motive:=fun _=>Option (List U→Option U)) none (some ixB) (Nat.beq f 214)
noncomputable def awP (f:FuncId):Option Func:=Tryz.prog.funcs[f]?
theorem C3:DM Tryz.prog=true:=by kernel_rfl
theorem PZ:aZ Tryz.prog (F3 tbl):=Lh CR
theorem Lv:XOK Tryz.prog awX:=fun g x hx args u _ h=>by
 have hx :(Bool.rec (motive:=fun _=>Option (List U→Option U)) none (some ixB) (Nat.beq g 214):Option (List U→Option U))=some x:=hx
 cases hb:Nat.beq g 214 with
 | false=>rw [hb] at hx;cases hx
 | true=>
  rw [hb] at hx
  cases hx
  obtain rfl:=ax hb
  exact NQ Tryz.func214 (by kernel_rfl) (by kernel_rfl) (by kernel_rfl) (by kernel_rfl) h
theorem Gl (d:Nat):CallVOK Tryz.prog (uy (F3 tbl) awP awX awK d):=yL PZ mixed (zW C3) (fun _ _ h=>h) Lv awK d
end Go.Proofs.YtffdpnmioidloaaGreatDoor
namespace Go.Proofs.YtffdpnmioidloaaGreatDoor
open Go Go.Mir Go.RowKit
abbrev tEx:Ty:= .slice (.nm .Event)
abbrev tPx:Ty:= .slice (.nm .Delivered)
abbrev tI6:Ty:= .int .i64
def exR:Rules:={ Rules.zero with Name:=⟨#[84,69,83,84]⟩,Side:=2,Innings:=1,Overs:=1,Balls:=4,Wide:=1,NoBall:=1,Outside:=11 }
def exL:List Mir.Event:= [⟨1,1,0,0,true,0,0,⟨0,0,0,0,0,false,0,0,0,0,false,0⟩⟩,⟨2,0,1,2,false,0,0,⟨0,0,0,0,0,false,0,0,0,0,false,0⟩⟩,⟨8,0,2,0,false,0,0,⟨0,0,0,0,0,false,0,0,0,0,false,0⟩⟩,⟨3,0,1,0,false,0,0,⟨0,0,0,0,0,false,0,0,0,0,false,0⟩⟩,⟨4,0,0,0,false,0,0,⟨1,1,1,0,0,false,0,0,0,0,false,0⟩⟩,⟨4,0,0,0,false,0,0,⟨1,0,0,0,0,false,1,1,0,0,false,0⟩⟩,⟨2,0,2,1,false,0,0,⟨0,0,0,0,0,false,0,0,0,0,false,0⟩⟩,⟨8,0,1,0,false,0,0,⟨0,0,0,0,0,false,0,0,0,0,false,0⟩⟩,⟨3,0,2,0,false,0,0,⟨0,0,0,0,0,false,0,0,0,0,false,0⟩⟩,⟨4,0,0,0,false,0,0,⟨2,0,0,0,0,false,0,0,0,0,false,0⟩⟩,⟨4,0,0,0,false,0,0,⟨1,1,0,0,4,false,0,0,0,0,false,0⟩⟩]
abbrev OT:Pat:=eQ []
abbrev IP:Pat:=eQ [tEx]
abbrev Rk:List PC0:= [.h .str,.h tI6,.h tI6,.h tI6,.h tI6,.h tI6,.h tI6,.h tI6,.h .bool,.h tI6,.h tI6,.h tI6,.h tI6,.c .nilsl]
abbrev xX:Pat:=⟨[(0,.a Rk),(1,.h tEx)],[],0⟩
def pH:Den (tyP xX):=(exR.Name,exR.Side,exR.Innings,exR.Overs,exR.Balls,exR.Quota,exR.Wide,exR.NoBall,exR.FreeHit,exR.NewBall,exR.FollowOn,exR.Reviews,exR.Outside,exL,())
abbrev q2Play0:Pat:=eQ [tPx,.nm .Match,tI6,tI6]
theorem OJ:CtrOK Tryz.prog KE 38 (ah KE OT IP fun x=>([x =()],(exL,()))):=
 qX (q:=OT) (q':=IP) (Gl 10) () (exL,()) (ts:= [tEx]) rfl rfl rfl (by kernel_rfl)
def exP:List Delivered:= [⟨4,0,0,0,1,1,2,false,⟨1,1,1,0,0,false,0,0,0,0,false,0⟩,⟨1,0,0,0,0,1,true,true,false,true⟩,1,0⟩,⟨5,0,0,1,1,2,1,false,⟨1,0,0,0,0,false,1,1,0,0,false,0⟩,⟨0,0,0,0,0,0,true,true,true,false⟩,1,1⟩,⟨9,1,0,0,2,2,1,false,⟨2,0,0,0,0,false,0,0,0,0,false,0⟩,⟨0,1,0,0,0,1,false,false,false,false⟩,1,0⟩,⟨10,1,0,0,2,2,1,false,⟨1,1,0,0,4,false,0,0,0,0,false,0⟩,⟨4,0,0,0,0,4,true,true,false,false⟩,5,0⟩]
def exM:Match:=⟨exR,5,1,false,[⟨1,0,1,1,1,⟨0,0,0,0,0⟩,0,2,0,1,[1,2],1,[1],[],true,[2,0],false,2,2,0,[false,false],(0,0,()),1⟩,⟨2,2,1,5,0,⟨1,0,0,0,0⟩,0,1,2,1,[1,1],2,[2],[],true,[0,1],false,1,1,0,[false,false],(0,0,()),3⟩],(0,0,()),⟨2,2,1⟩⟩
def tx:Den (tyP q2Play0):=(exP,exM,(-1:Int),(0:Int),())
theorem KG:CtrOK Tryz.prog KE 76 (ah KE xX q2Play0 fun x=>([x=pH],tx)):=
 qX (Gl 40) pH tx (ts:= [tPx,.nm .Match,tI6,tI6]) rfl rfl rfl (by kernel_rfl)
end Go.Proofs.YtffdpnmioidloaaGreatDoor
