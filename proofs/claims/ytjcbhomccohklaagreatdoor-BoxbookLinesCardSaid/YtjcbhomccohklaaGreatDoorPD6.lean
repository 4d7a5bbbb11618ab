/- Texts of the mirror and contracts, put together. -/
import Derived.Test.YtjcbhomccohklaaGreatDoorPD5
import Derived.LoopN
import Derived.Laws.Externs
import Derived.Lib.Bytealg
import Derived.Test.YtjcbhomccohklaaGreatDoorPD2
import Derived.Test.YtjcbhomccohklaaGreatDoorPD4
namespace Go.aa
section
open Go.RowKit
variable {tb:bG} {N K:Nat} {e:En}
structure ValOK (tb:bG) (N:Nat) (ev:Operand->V) (op:Op) (hp:HP) (nx:Nat) (u:U) (hp':HP):Prop where
 ex :∃ ps v dh,bn ⟨tb,fun _=>none,1,N⟩ nx (fi hp) ev op=some (ps,v,dh)/\(∀ p∈ps,p.holds)/\fg v u.bK/\fi hp'=aQ (fi hp) dh
 wf:u.wf
 hw:mX hp'
structure CalOK (ev:Operand->V) (op:Op) (g:FuncId) (args:List U):Prop where
 ex :∃ c f caps,op = .call c/\c.callee = .value f/\ev f = .fn g caps/\c8 caps=true/\∀ E l,ai E (c.args.toList.map ev++caps) l->ai E (args.map U.bK) l
 wf :∀ u∈args,u.wf
def cc (tb:bG) (N K:Nat) (e:En) (op:Op):Stp->Prop
 | .slow=>True
 | .val f=>∀ (a b c d:U) (tm:TM) (hp:HP) (nx:Nat) (G:Rv->Prop) (k:U->Rv) (sl:Rv),(∀ i,(eZ K e i a b c d tm).wf)->mX hp->G sl->
   (∀ u,ValOK tb N (fun x=>(nv K e x a b c d tm).bK) op hp nx u hp->G (k u))->G (f a b c d tm hp nx k sl)
 | .mem f=>∀ (a b c d:U) (tm:TM) (hp:HP) (nx:Nat) (G:Rv->Prop) (k:U->HP->Rv) (sl:Rv),(∀ i,(eZ K e i a b c d tm).wf)->mX hp->G sl->
   (∀ u hp',ValOK tb N (fun x=>(nv K e x a b c d tm).bK) op hp nx u hp'->G (k u hp'))->G (f a b c d tm hp nx k sl)
 | .cal f=>∀ (a b c d:U) (tm:TM) (G:Rv->Prop) (k:FuncId->List U->Rv) (sl:Rv),(∀ i,(eZ K e i a b c d tm).wf)->G sl->
   (∀ g args,CalOK (fun x=>(nv K e x a b c d tm).bK) op g args->G (k g args))->G (f a b c d tm k sl)
theorem gA :∀ p∈([]:List Ob),p.holds:=fun p hp=>by cases hp
theorem sB {p:Ob} (h:p.holds) :∀ q∈ [p],q.holds:=by intro q hq;rw [List.mem_singleton.1 hq];exact h
theorem sP {ev:Operand->V} {op:Op} {hp:HP} {nx:Nat} {u:U} {ps:List Ob} {v:V} (W:mX hp) (h:bn ⟨tb,fun _=>none,1,N⟩ nx (fi hp) ev op=some (ps,v,[])) (hps :∀ p∈ps,p.holds) (hv:fg v u.bK) (hw:u.wf):ValOK tb N ev op hp nx u hp:=
 ⟨⟨ps,v,[],h,hps,hv,rfl⟩,hw,W⟩
theorem mu {a b c d:U} {tm:TM} (h :∀ i,(eZ K e i a b c d tm).wf) (x:Operand) :(nv K e x a b c d tm).wf:=by
 cases x with
 | tmp i=>exact h i
 | const v=>exact nJ (cv v)
 | _=>trivial
theorem tvp {u:U} {a o:Nat} (h:u = .ptr a o):u.bK = .ptr a o:=by rw [h];rfl
theorem tvg {u:U} {a v o:Nat} (h:u = .gp a v o):u.bK = .gp a v o:=by rw [h];rfl
theorem tvs {u:U} {a v e o l:Nat} (h:u = .gsl a v e o l):u.bK = .gsl a v e o l:=by rw [h];rfl
theorem V1 {u:U} {k:IntKind} {n:Int} (h:u = .int k n):u.bK = .int k n:=by rw [h];rfl
theorem tvb {u:U} {b:Bool} (h:u = .kb b):u.bK = .kb b:=by rw [h];rfl
theorem tvo {u:U} {v:V} (h:u = .oth v):u.bK=v:=by rw [h];rfl
theorem tva {u:U} {t:CT} {n:Nat} {cs:List V} (hc:gW t n cs) (h:u = .agg t n):u.bK = .agg cs:=by rw [h];show V.agg (ga t n)=_;rw [hc.ga]
theorem tvt {u:U} {l:List W} (h:u = .tup l):u.bK = .tup (l.map W.bK):=by rw [h];rfl
theorem Oe {S:Stp->Prop} {i:Nat} {k:Gt->Stp} (h :∀ g,g=eZ K e i->S (k g)):S (Od K e i k):=by
 unfold Od;unfold eZ at h;cases h0:Nat.beq e.e0 (Nat.succ i)
 case true=>exact h _ (by rw [h0])
 rw [h0] at h;cases h1:Nat.beq e.e1 (Nat.succ i)
 case true=>exact h _ (by rw [h1])
 rw [h1] at h;cases h2:Nat.beq e.e2 (Nat.succ i)
 case true=>exact h _ (by rw [h2])
 rw [h2] at h;cases h3:Nat.beq e.e3 (Nat.succ i)
 case true=>exact h _ (by rw [h3])
 rw [h3] at h;cases h4:jD K i
 case true=>exact h _ (by rw [h4];rfl)
 exact h _ (by rw [h4])
theorem bM {S:Stp->Prop} {x:Operand} {k:Gt->Stp} (h :∀ g,g=nv K e x->S (k g)):S (fe K e x k):=by
 cases x with
 | tmp i=>exact Oe (S:=S) (fun g hg=>h g hg)
 | const v=>
  show S (U.rec (motive:=fun _=>Stp) _ _ _ _ _ _ _ _ (mG (cv v)));have h :∀ g,g =(fun _ _ _ _ _=>mG (cv v))->S (k g):=h;cases hu:mG (cv v) <;>(rw [hu] at h;exact h _ rfl)
 | global i=>exact h _ rfl
 | func f=>exact h _ rfl
theorem Ge {S:Stp->Prop} :∀ {l:List Operand} {k:List Gt->Stp},(∀ gs,gs=l.map (nv K e)->S (k gs))->S (UQ K e l k)
 | [],k,h=>h _ rfl
 | x::l,k,h=>bM (S:=S) fun g hg=>Ge (S:=S) (l:=l) fun gs hgs=>h _ (by rw [hg,hgs];rfl)
def Yl (K:Nat) (e:En) (pi:Nat->PI):List (Nat×Operand)->List PG->Prop
 | [],[]=>True
 | q::l,.at o s g::gs=>pi q.1 = .at o s/\g=nv K e q.2/\Yl K e pi l gs
 | _,_=>False
theorem uj {S:Stp->Prop} (h0:S .slow) {pi:Nat->PI} :∀ {l:List (Nat×Operand)} {k:List PG->Stp},(∀ gs,Yl K e pi l gs->S (k gs))->S (Dn K e pi l k)
 | [],k,h=>h _ trivial
 | q::l,k,h=>by
  show S (PI.rec (motive:=fun _=>Stp) .slow (fun o s=>fe K e q.2 fun g=>Dn K e pi l fun gs=>k (.at o s g::gs)) (pi q.1))
  cases hp:pi q.1 with
  | no=>exact h0
  | «at» o s=>exact bM (S:=S) fun g hg=>uj (S:=S) h0 (l:=l) fun gs hgs=>h _ ⟨hp,hg,hgs⟩
theorem tF {hp:HP} (W:mX hp) {h:Nat} {t:CT} {n:Nat} (hg:bZ hp h = .cells t n) :∃ cs,gW t n cs/\fi hp h=some (.cells cs)/\h<262144:=by have hw:=W h;rw [hg] at hw;obtain ⟨cs,hc⟩:=hw;exact ⟨cs,hc,by unfold fi;rw [hg];show some (bd.cells (ga t n))=_;rw [hc.ga],Hm (by rw [hg];exact fun h=>by cases h)⟩
theorem jc {hp:HP} (W:mX hp) {h v ez:Nat} {t:CT} {n:Nat} (hg:bZ hp h = .grow v ez t n) :∃ cs,gW t n cs/\fi hp h=some (.grow v ez cs)/\h<262144:=by have hw:=W h;rw [hg] at hw;obtain ⟨cs,hc⟩:=hw;exact ⟨cs,hc,by unfold fi;rw [hg];show some (bd.grow v ez (ga t n))=_;rw [hc.ga],Hm (by rw [hg];exact fun h=>by cases h)⟩
theorem D5 {t:TypeId} (h:Jb tb t = .one) :∃ td,tb t=some td/\td.kind.agg=false/\td.size=1:=by
 unfold Jb at h;split at h
 ·rename_i td ht;refine ⟨td,ht,?_⟩;split at h
  ·cases h
  ·rename_i ha;split at h
   ·rename_i hs;exact ⟨by simpa using ha,hs⟩
   ·cases h
 ·cases h
theorem D4 {t:TypeId} {n:Nat} (h:Jb tb t = .agg n) :∃ td,tb t=some td/\td.kind.agg=true/\td.size=n:=by
 unfold Jb at h;split at h
 ·rename_i td ht;refine ⟨td,ht,?_⟩;split at h
  ·rename_i ha;cases h;exact ⟨ha,rfl⟩
  ·split at h <;> cases h
 ·cases h
theorem Hs (c:C) :(cU c).bK=c.bK:=by cases c <;> rfl
theorem Nx (c:C) :(cU c).wf:=by cases c <;> trivial
def aao (tb:bG) (t:TypeId) (f:M4):Prop:=∃ td,tb t=some td/\∀ (G:Rv->Prop) (ct:CT) (n:Nat) (cs:List V) (o:Nat) (k:U->Rv) (sl:Rv),gW ct n cs->G sl->(∀ u v,ld td cs o = .val [] v []->v=u.bK->u.wf->G (k u))->G (f ct n o k sl)
theorem H4 {S:Stp->Prop} (h0:S .slow) {t:TypeId} {k:M4->Stp} (h :∀ f,aao tb t f->S (k f)):S (ldS (Jb tb t) k):=by
 cases hi:Jb tb t with
 | no=>exact h0
 | one=>obtain ⟨td,ht,ha,hs⟩:=D5 hi;refine h Fz ⟨td,ht,fun G ct n cs o k sl hc h0 hk=>dq h0 fun hb=>?_⟩;have hlt:o<n:=cp hb;refine hk _ (dv ct o).bK ?_ (Hs _).symm (Nx _);unfold ld;rw [ha,hc.get o hlt];rfl
 | agg m=>
  obtain ⟨td,ht,ha,hs⟩:=D4 hi;refine h (Fy m) ⟨td,ht,fun G ct n cs o k sl hc h0 hk=>dq h0 fun hb=>?_⟩;have hle:o+m<=n:=cp hb
  have hld:ld td cs o = .val [] (.agg ((cs.drop o).take m)) []:=by unfold ld;rw [ha,hs,if_pos rfl,if_pos (by rw [hc.len];exact hle)]
  cases hm:Nat.beq m n with
  | false=>
   have:=hc.sub hle
   exact hk _ _ hld (by show _=V.agg (ga _ _);rw [this.ga]) ⟨_,this⟩
  | true=>
   have e1:=bf hm;have e0:o=0:=by omega
   subst e0;subst e1;refine hk _ _ hld ?_ ⟨_,hc⟩;show _=V.agg (ga ct m);rw [hc.ga,List.drop_zero,List.take_of_length_le (by rw [hc.len];exact Nat.le_refl _)]
theorem D6 {v:V} (h:v.one=true):cellsOf v=some [v]:=by cases v <;> first|rfl|cases h
def adk (tb:bG) (t:TypeId) (f:V5):Prop:=∃ td,tb t=some td/\∀ (G:Rv->Prop) (x:U) (ct:CT) (n:Nat) (cs:List V) (o:Nat) (k:CT->Rv) (sl:Rv),x.wf->gW ct n cs->G sl->
 (∀ xs ct',cellsOf x.bK=some xs->xs.length=td.size->xs.all V.one=true->o+td.size<=cs.length->gW ct' n (cJ cs o xs)->G (k ct'))->G (f x ct n o k sl)
theorem YY {S:Stp->Prop} (h0:S .slow) {t:TypeId} {k:V5->Stp} (h :∀ f,adk tb t f->S (k f)):S (stS (Jb tb t) k):=by
 cases hi:Jb tb t with
 | no=>exact h0
 | one=>obtain ⟨td,ht,ha,hs⟩:=D5 hi;refine h Vt ⟨td,ht,fun G x ct n cs o k sl hx hc h0 hk=>dq h0 fun hb=>aej h0 fun c hcv h1=>?_⟩;have hlt:o<n:=cp hb;rw [hcv] at h1;refine hk [x.bK] _ (D6 h1) (by rw [hs];rfl) (by simp [h1]) (by rw [hs,hc.len];exact hlt) ?_;rw [<-xS (by rw [hc.len];exact hlt),<-hcv];exact hc.put hlt (by rw [hcv];exact h1)
 | agg m=>
  obtain ⟨td,ht,ha,hs⟩:=D4 hi;refine h (Vs m) ⟨td,ht,fun G x ct n cs o k sl hx hc h0 hk=>HM h0 fun xt m' hxe=>dq h0 fun hb=>dq h0 fun hle=>?_⟩;have e1:m=m':=bf hb;subst e1;subst hxe;obtain ⟨xs,hxs⟩:=hx;have hle:o+m<=n:=cp hle;have hall:xs.all V.one=true:=List.all_eq_true.2 hxs.one;have hcl:cellsOf (U.agg xt m).bK=some xs:=by show some (ga xt m)=_;rw [hxs.ga]
  cases hm:Nat.beq m n with
  | false=>exact hk xs _ hcl (by rw [hs,hxs.len]) hall (by rw [hs,hc.len];exact hle) (hc.cJ hxs hle rfl)
  | true=>
   have e1:=bf hm;subst e1;have e0:o=0:=by omega
   subst e0;refine hk xs _ hcl (by rw [hs,hxs.len]) hall (by rw [hs,hc.len];exact hle) ?_
   have:cJ cs 0 xs=xs:=by unfold cJ;rw [List.take_zero,List.nil_append,List.drop_eq_nil_of_le (by rw [hc.len,hxs.len];omega),List.append_nil]
   rw [this];exact hxs
theorem Nu {t:TypeId} {x:Operand}:cc tb N K e (.load t x) (Uw t x K e tb):=by
 refine H4 (S:=cc tb N K e (.load t x)) trivial fun f hf=>bM (S:=cc tb N K e (.load t x)) fun gx hgx=>?_;subst hgx;intro a b c d tm hp nx G k sl Wg W h0 h;obtain ⟨td,ht,hf⟩:=hf;refine tE h0 (fun q o hx=>N2 h0 fun ct n hg=>?_) (fun q v o hx=>uH h0 fun v' ez ct n hg=>dq h0 fun hb=>?_)
 ·obtain ⟨cs,hc,hH,_⟩:=tF W hg;refine hf G ct n cs o k sl hc h0 fun u v hl hv hw=>h u (sP W (ps:= []) (v:=v) ?_ gA (fg.of_eq hv) hw);simp only [bn,du,c7,ht,tvp hx,gY,oz,hH,hl]
 ·obtain ⟨cs,hc,hH,_⟩:=jc W hg;have e1:=bf hb;subst e1;refine hf G ct n cs o k sl hc h0 fun u v' hl hv hw=>h u (sP W (ps:= []) (v:=v') ?_ gA (fg.of_eq hv) hw);simp only [bn,du,c7,ht,tvg hx,gY,hH,hl,if_true]
theorem K6 {t:TypeId} {x y:Operand}:cc tb N K e (.store t x y) (Nw t x y K e tb):=by
 refine YY (S:=cc tb N K e (.store t x y)) trivial fun f hf=>bM (S:=cc tb N K e (.store t x y)) fun gx hgx=>bM (S:=cc tb N K e (.store t x y)) fun gy hgy=>?_;subst hgx;subst hgy;intro a b c d tm hp nx G k sl Wg W h0 h;obtain ⟨td,ht,hf⟩:=hf;refine tE h0 (fun q o hx=>N2 h0 fun ct n hg=>?_) (fun q v o hx=>uH h0 fun v' ez ct n hg=>dq h0 fun hb=>?_)
 ·obtain ⟨cs,hc,hH,hl⟩:=tF W hg;refine hf G _ ct n cs o _ sl (mu Wg y) hc h0 fun xs ct' hcl hlen hall hle hct=>h _ _ ⟨⟨[],.tup [],[(q,.cells (cJ cs o xs))],?_,gA,fg.refl _,?_⟩,fun w hw=>(by cases hw),iV W hl ⟨_,hct⟩⟩
  ·simp only [bn,du,ht,tvp hx,hJ,eJ,rO,hcl,hlen,hall,hH,if_true,and_self,hle]
  ·rw [iU hl (B:= .cells (cJ cs o xs))];show some (bd.cells (ga ct' n))=_;rw [hct.ga]
 ·obtain ⟨cs,hc,hH,hl⟩:=jc W hg;have e1:=bf hb;subst e1;refine hf G _ ct n cs o _ sl (mu Wg y) hc h0 fun xs ct' hcl hlen hall hle hct=>h _ _ ⟨⟨[],.tup [],[(q,.grow v ez (cJ cs o xs))],?_,gA,fg.refl _,?_⟩,fun w hw=>(by cases hw),iV W hl ⟨_,hct⟩⟩
  ·simp only [bn,du,ht,tvg hx,hJ,eJ,hcl,hlen,hall,hH,if_true,and_self,hle]
  ·rw [iU hl (B:= .grow v ez (cJ cs o xs))];show some (bd.grow v ez (ga ct' n))=_;rw [hct.ga]
theorem Ex {x:Operand}:cc tb N K e (.move x) (Jk x K e tb)/\cc tb N K e (.assign x) (Jk x K e tb):=by
 constructor
 ·refine bM (S:=cc tb N K e (.move x)) fun gx hgx=>?_;subst hgx;intro a b c d tm hp nx G k sl Wg W h0 h;exact h _ (sP W (ps:= []) (v:=(nv K e x a b c d tm).bK) (by simp only [bn,du,c7]) gA (fg.refl _) (mu Wg x))
 ·refine bM (S:=cc tb N K e (.assign x)) fun gx hgx=>?_;subst hgx;intro a b c d tm hp nx G k sl Wg W h0 h;exact h _ (sP W (ps:= []) (v:=(nv K e x a b c d tm).bK) (by simp only [bn,du,c7]) gA (fg.refl _) (mu Wg x))
theorem Nv {p x y:Operand}:cc tb N K e (.pick p x y) (Ux p x y K e tb):=by
 refine bM (S:=cc tb N K e (.pick p x y)) fun gp hgp=>bM (S:=cc tb N K e (.pick p x y)) fun gx hgx=>bM (S:=cc tb N K e (.pick p x y)) fun gy hgy=>?_;subst hgp;subst hgx;subst hgy;intro a b c d tm hp nx G k sl Wg W h0 h;refine UD h0 fun q hq=>?_
 cases q with
 | true=>exact h _ (sP W (ps:= []) (v:=(nv K e x a b c d tm).bK) (by simp only [bn,du,c7,tvb hq,tv]) gA (fg.refl _) (mu Wg x))
 | false=>exact h _ (sP W (ps:= []) (v:=(nv K e y a b c d tm).bK) (by simp only [bn,du,c7,tvb hq,tv]) gA (fg.refl _) (mu Wg y))
theorem Hb {t:TypeId} {z:CT} {n:Nat} (h:BQ tb t = .at z n) :∃ td,tb t=some td/\gW z n td.zero:=by
 unfold BQ at h;split at h
 ·rename_i td ht
  cases ho:je td.zero with
  | false=>rw [ho] at h;cases h
  | true=>rw [ho] at h;cases h;exact ⟨td,ht,gW.su ho⟩
 ·cases h
theorem wM {G:Rv->Prop} {m:Nat} {hp:HP} {b:Bk} {u:U} {k:U->HP->Rv} {sl:Rv} (h0:G sl) (h:m<262144->G (k u (eV hp m b))):G (Mk m hp b u k sl):=dq h0 fun hb=>h (cp hb)
theorem K2 {t:TypeId}:cc tb N K e (.alloc t) (Hp t K e tb):=by
 unfold Hp
 cases hz:BQ tb t with
 | no=>trivial
 | «at» z n=>obtain ⟨td,ht,hc⟩:=Hb hz;intro a b c d tm hp nx G k sl Wg W h0 h;show G (gB nx _);rw [fj];refine wM h0 fun hm=>h _ _ ⟨⟨[],.ptr nx 0,[(nx,.cells td.zero)],by simp only [bn,du,c7,ht,vz],gA,fg.refl _,iU hm ?_⟩,trivial,iV W hm ⟨_,hc⟩⟩;show some (bd.cells (ga z n))=_;rw [hc.ga]
theorem RE {t:TypeId} {x:Operand}:cc tb N K e (.box t x) (aaA t x K e tb):=by
 refine bM (S:=cc tb N K e (.box t x)) fun gx hgx=>?_;subst hgx;intro a b c d tm hp nx G k sl Wg W h0 h;show G (gB nx _);rw [fj];have hw:=mu Wg x;refine N3 h0 (fun c1 hc1 h1=>wM h0 fun hm=>?_) fun t' n hx=>wM h0 fun hm=>?_
 ·have hc:gW (fK Jp 0 c1) 1 ([]++[c1.bK]):=(gW.nil Jp).push (by omega) h1;rw [List.nil_append,hc1] at hc;rw [hc1] at h1;refine h _ _ ⟨⟨[],.ptr nx 0,[(nx,.cells [(nv K e x a b c d tm).bK])],by simp only [bn,du,c7,D6 h1],gA,fg.refl _,iU hm ?_⟩,trivial,iV W hm ⟨_,hc⟩⟩;show some (bd.cells (ga _ 1))=_;rw [hc.ga]
 ·rw [hx] at hw;obtain ⟨cs,hc⟩:=hw;refine h _ _ ⟨⟨[],.ptr nx 0,[(nx,.cells cs)],by simp only [bn,du,c7,tva hc hx,cellsOf],gA,fg.refl _,iU hm ?_⟩,trivial,iV W hm ⟨_,hc⟩⟩;show some (bd.cells (ga t' n))=_;rw [hc.ga]
theorem R3 {t:TypeId} {f d:Nat} (h:RZ tb t f=some d) :∃ td fs ft tf,tb t=some td/\td.kind = .struct fs/\fs[f]?=some (d,ft)/\tb ft=some tf/\¬ tf.size=0:=by
 unfold RZ at h;split at h
 case h_2=>cases h
 rename_i td ht;split at h
 case h_2=>cases h
 rename_i fs hk;split at h
 case h_2=>cases h
 rename_i o ft hf;split at h
 case h_2=>cases h
 rename_i tf htf;split at h
 ·cases h
 ·rename_i hs;cases h;exact ⟨td,fs,ft,tf,ht,hk,hf,htf,hs⟩
theorem Wz {t:TypeId} {x:Operand} {f:Nat}:cc tb N K e (.fieldAddr t x f) (cFA t x f K e tb):=by
 unfold cFA
 cases hd:RZ tb t f with
 | none=>trivial
 | some o1=>
  obtain ⟨td,fs,ft,tf,ht,hk,hf,htf,hs⟩:=R3 hd;refine bM (S:=cc tb N K e (.fieldAddr t x f)) fun gx hgx=>?_;subst hgx;intro a b c d tm hp nx G k sl Wg W h0 h;refine tE h0 (fun q o hx=>?_) (fun q v o hx=>?_)
  ·exact h _ (sP W (ps:= []) (v:= .ptr q (o+o1)) (by simp only [bn,du,c7,ht,tvp hx,ma,vB,hk,hf,htf,hs,if_false]) gA (fg.refl _) trivial)
  ·exact h _ (sP W (ps:= []) (v:= .gp q v (o+o1)) (by simp only [bn,du,c7,ht,tvg hx,ma,hk,hf,htf,hs,if_false]) gA (fg.refl _) trivial)
theorem WA {t:TypeId} {x:Operand} {f:Nat}:cc tb N K e (.field t x f) (cFV t x f K e tb):=by
 unfold cFV
 cases hv:WV tb t f with
 | no=>trivial
 | «at» o i=>
  unfold WV at hv;split at hv
  case h_2=>cases hv
  rename_i td ht;split at hv
  case h_2=>cases hv
  rename_i fs hk;split at hv
  case h_2=>cases hv
  rename_i o' ft hf;cases hv;refine H4 (S:=cc tb N K e (.field t x f)) trivial fun f1 hf1=>bM (S:=cc tb N K e (.field t x f)) fun gx hgx=>?_;subst hgx;intro a b c d tm hp nx G k sl Wg W h0 h;obtain ⟨tf,htf,hf1⟩:=hf1;have hw:=mu Wg x;refine HM h0 fun ct n hx=>?_;have hx0:=hx;rw [hx] at hw;obtain ⟨cs,hc⟩:=hw;refine hf1 G ct n cs _ k sl hc h0 fun u v hl hv hw=>h u (sP W (ps:= []) (v:=v) ?_ gA (fg.of_eq hv) hw);simp only [bn,du,c7,ht,tva hc hx0,jY,hk,hf,htf,hl]
theorem WB {t:TypeId} {x i:Operand}:cc tb N K e (.indexAddr t x i) (cIA t x i K e tb):=by
 unfold cIA
 cases hx:Sc tb t with
 | no=>trivial
 | sl esz=>
  unfold Sc at hx;split at hx
  case h_2=>cases hx
  rename_i td ht;split at hx
  case h_2=>split at hx <;> cases hx
  case h_3=>cases hx
  rename_i et hk;split at hx
  case h_2=>cases hx
  rename_i te hte;cases hx;refine bM (S:=cc tb N K e (.indexAddr t x i)) fun gx hgx=>bM (S:=cc tb N K e (.indexAddr t x i)) fun gi hgi=>?_;subst hgx;subst hgi;intro a b c d tm hp nx G k sl Wg W h0 h;refine qU h0 fun ik n hi=>Jz h0 fun m hn=>N4 h0 fun q v e' o l hu=>dq h0 fun hb=>uH h0 fun v' e2 ct n2 hg=>dq h0 fun h1=>dq h0 fun h2=>dq h0 fun h3=>?_;subst hn;obtain ⟨cs,hc,hH,_⟩:=jc W hg;have hlt:m<l:=cp hb;have e1:=bf h1;have e3:=bf h2;have e4:=bf h3;subst e1;subst e3;subst e4;exact h _ (sP W (ps:= [.rng (.ofNat m) l]) (v:= .gp q v ((o+m)*te.size)) (by simp only [bn,du,c7,ht,tvs hu,V1 hi,fw,hk,hte,hH,and_self,if_true];rfl) (sB ⟨by show (0:Int)<=(m:Int);omega,by show (m:Int)<l;omega⟩) (fg.refl _) trivial)
 | ar l esz=>
  unfold Sc at hx;split at hx
  case h_2=>cases hx
  rename_i td ht;split at hx
  case h_1=>split at hx <;> cases hx
  case h_3=>cases hx
  rename_i l' et hk;split at hx
  case h_2=>cases hx
  rename_i te hte;cases hx;refine bM (S:=cc tb N K e (.indexAddr t x i)) fun gx hgx=>bM (S:=cc tb N K e (.indexAddr t x i)) fun gi hgi=>?_;subst hgx;subst hgi;intro a b c d tm hp nx G k sl Wg W h0 h;refine qU h0 fun ik n hi=>Jz h0 fun m hn=>dq h0 fun hb=>tE h0 (fun q o hu=>?_) (fun q v o hu=>?_)
  ·have hlt:m<l:=cp hb;subst hn;exact h _ (sP W (ps:= [.rng (.ofNat m) l]) (v:= .ptr q (o+m*te.size)) (by simp only [bn,du,c7,ht,tvp hu,V1 hi,fw,rL,hk,hte];rfl) (sB ⟨by show (0:Int)<=(m:Int);omega,by show (m:Int)<l;omega⟩) (fg.refl _) trivial)
  ·have hlt:m<l:=cp hb;subst hn;exact h _ (sP W (ps:= [.rng (.ofNat m) l]) (v:= .gp q v (o+m*te.size)) (by simp only [bn,du,c7,ht,tvg hu,V1 hi,fw,hk,hte];rfl) (sB ⟨by show (0:Int)<=(m:Int);omega,by show (m:Int)<l;omega⟩) (fg.refl _) trivial)
theorem RG {t:TypeId} {x i:Operand}:cc tb N K e (.index t x i) (WC t x i K e tb):=by
 unfold WC
 cases hx:Xc tb t with
 | no=>trivial
 | «at» l esz ti=>
  unfold Xc at hx;split at hx
  case h_2=>cases hx
  rename_i td ht;split at hx
  case h_2=>cases hx
  rename_i l' et hk;split at hx
  case h_2=>cases hx
  rename_i te hte;cases hx;refine H4 (S:=cc tb N K e (.index t x i)) trivial fun f1 hf1=>bM (S:=cc tb N K e (.index t x i)) fun gx hgx=>bM (S:=cc tb N K e (.index t x i)) fun gi hgi=>?_;subst hgx;subst hgi;intro a b c d tm hp nx G k sl Wg W h0 h;obtain ⟨tf,htf,hf1⟩:=hf1;rw [hte] at htf;cases htf;have hw:=mu Wg x;refine qU h0 fun ik n hi=>Jz h0 fun m hn=>dq h0 fun hb=>HM h0 fun ct n1 hx=>?_;subst hn;have hx0:=hx;rw [hx] at hw;obtain ⟨cs,hc⟩:=hw;have hlt:m<l:=cp hb;refine hf1 G ct n1 cs _ k sl hc h0 fun u v hl hv hw=>h u (sP W (ps:= [.rng (.ofNat m) l]) (v:=v) ?_ (sB ⟨by show (0:Int)<=(m:Int);omega,by show (m:Int)<l;omega⟩) (fg.of_eq hv) hw);have hl:ld te cs ((Int.ofNat m).toNat*te.size) = .val [] v []:=hl;simp only [bn,du,c7,ht,tva hc hx0,V1 hi,oy,hk,hte,hl]
theorem RD {op:BinOp} {t t2:TypeId} {x y:Operand}:cc tb N K e (.binOp op t x y t2) (Wy op t x y t2 K e tb):=by
 unfold Wy
 cases hty:ZW tb t with
 | false=>trivial
 | true=>
  obtain ⟨td,ht⟩ :∃ td,tb t=some td:=by
   unfold ZW at hty;split at hty
   ·exact ⟨_,by assumption⟩
   ·cases hty
  have main :∀ f:KO,(∀ (ik:IntKind) (p q:Int) (G:Rv->Prop) (k:U->Rv) (sl:Rv),G sl->(∀ u ps v,im td op (.int ik p) (.int ik q) = .val ps v []->(∀ p∈ps,p.holds)->fg v u.bK->u.wf->G (k u))->G (f ik p q k sl))->
    cc tb N K e (.binOp op t x y t2) (fe K e x fun gx=>fe K e y fun gy=> .val fun a b c d tm _ _=>Rz f (gx a b c d tm) (gy a b c d tm)):=fun f hf=>by
   refine bM (S:=cc tb N K e (.binOp op t x y t2)) fun gx hgx=>bM (S:=cc tb N K e (.binOp op t x y t2)) fun gy hgy=>?_;subst hgx;subst hgy;intro a b c d tm hp nx G k sl Wg W h0 h;refine qU h0 fun ik p hx=>qU h0 fun ik' q hy=>dq h0 fun hk=>?_;have e1:=JH hk;subst e1;refine hf ik p q G k sl h0 fun u ps v hr hps hv hw=>h u (sP W (ps:=ps) (v:=v) ?_ hps hv hw);simp only [bn,du,c7,ht,V1 hx,V1 hy,hr]
  have bo :∀ (f:KO) (r s:IntKind->Int->Int->Bool),(∀ ik p q k sl,f ik p q k sl=k (.kb (r ik p q)))->(∀ ik p q,r ik p q=s ik p q)->(∀ ik p q,im td op (.int ik p) (.int ik q) = .val [] (.bool (s ik p q)) [])->
    cc tb N K e (.binOp op t x y t2) (fe K e x fun gx=>fe K e y fun gy=> .val fun a b c d tm _ _=>Rz f (gx a b c d tm) (gy a b c d tm)):=fun f r s h1 h2 h3=>main f fun ik p q G k sl h0 h=>by
   rw [h1];exact h _ [] _ (h3 ik p q) gA (by rw [h2];exact Oy _) trivial
  have nu :∀ (f:KO) (r s:IntKind->Int->Int->Int),(∀ ik p q k sl,f ik p q k sl=k (.int ik (r ik p q)))->(∀ ik p q,r ik p q=s ik p q)->(∀ ik p q,im td op (.int ik p) (.int ik q) = .val [] (.int ik (s ik p q)) [])->
    cc tb N K e (.binOp op t x y t2) (fe K e x fun gx=>fe K e y fun gy=> .val fun a b c d tm _ _=>Rz f (gx a b c d tm) (gy a b c d tm)):=fun f r s h1 h2 h3=>main f fun ik p q G k sl h0 h=>by
   rw [h1];exact h _ [] _ (h3 ik p q) gA (by rw [h2];exact fg.refl _) trivial
  cases op with
  | add=>exact nu aaN (fun ik p q=>Wj ik p q) (fun ik p q=>ik.wrap (p+q)) (fun _ _ _ _ _=>rfl) Ru (fun ik p q=>by simp only [im,if_true])
  | sub=>exact nu aaR (fun ik p q=>ZG ik p q) (fun ik p q=>ik.wrap (p - q)) (fun _ _ _ _ _=>rfl) T9 (fun ik p q=>by simp only [im,if_true])
  | mul=>exact nu aaO (fun ik p q=>X4 ik p q) (fun ik p q=>ik.wrap (p*q)) (fun _ _ _ _ _=>rfl) SM (fun ik p q=>by simp only [im,if_true])
  | quo=>
   refine main aaP fun ik p q G k sl h0 h=>UB h0 fun m n ha hb=>dq h0 fun h1=>?_;have h1:1<=n:=cp h1;subst ha;subst hb;refine h _ [.ne0 (.ofNat n)] (.int ik (ik.wrap ((Int.ofNat m).tdiv (.ofNat n)))) (by simp only [im,if_true]) (sB (by show ¬(n:Int)=0;omega)) ?_ trivial
   have:CI ik (Nat.div m n) (ik.wrap ((Int.ofNat m).tdiv (.ofNat n)))=ik.wrap ((Int.ofNat m).tdiv (.ofNat n)):=rR (by rfl)
   show fg _ (V.int ik (CI ik (Nat.div m n) _));rw [this];exact fg.refl _
  | rem=>refine main aaQ fun ik p q G k sl h0 h=>UB h0 fun m n ha hb=>dq h0 fun h1=>?_;have h1:1<=n:=cp h1;subst ha;subst hb;exact h _ [.ne0 (.ofNat n)] (.int ik ((Int.ofNat m).tmod (.ofNat n))) (by simp only [im,if_true]) (sB (by show ¬(n:Int)=0;omega)) (fg.refl _) trivial
  | and=>trivial
  | or=>trivial
  | xor=>trivial
  | shl=>trivial
  | shr=>trivial
  | andNot=>trivial
  | eql=>exact bo fEq (fun _ p q=>WN p q) (fun _ p q=>p==q) (fun _ _ _ _ _=>rfl) (fun _=>HB) (fun ik p q=>by simp only [im,if_true])
  | neq=>exact bo fNe (fun _ p q=>kp (WN p q)) (fun _ p q=>p != q) (fun _ _ _ _ _=>rfl) (fun _ p q=>by rw [J1,HB];rfl) (fun ik p q=>by simp only [im,if_true])
  | lss=>exact bo fLt (fun _ p q=>ltS p q) (fun _ p q=>decide (p<q)) (fun _ _ _ _ _=>rfl) (fun _=>OJ) (fun ik p q=>by simp only [im,if_true])
  | leq=>exact bo fLe (fun _ p q=>leS p q) (fun _ p q=>decide (p<=q)) (fun _ _ _ _ _=>rfl) (fun _=>OE) (fun ik p q=>by simp only [im,if_true])
  | gtr=>exact bo fGt (fun _ p q=>ltS q p) (fun _ p q=>decide (p>q)) (fun _ _ _ _ _=>rfl) (fun _ p q=>OJ q p) (fun ik p q=>by simp only [im,if_true])
  | geq=>exact bo fGe (fun _ p q=>leS q p) (fun _ p q=>decide (p>=q)) (fun _ _ _ _ _=>rfl) (fun _ p q=>OE q p) (fun ik p q=>by simp only [im,if_true])
theorem WG {op:UnOp} {t:TypeId} {x:Operand}:cc tb N K e (.unOp op t x) (cUn op t x K e tb):=by
 cases op with
 | not=>refine bM (S:=cc tb N K e (.unOp .not t x)) fun gx hgx=>?_;subst hgx;intro a b c d tm hp nx G k sl Wg W h0 h;refine UD h0 fun q hx=>h _ (sP W (ps:= []) (v:= .kb (!q)) (by simp only [bn,du,c7,NT,tvb hx]) gA (by rw [<-J1];exact fg.refl _) trivial)
 | _=>trivial
theorem Nt {s t:TypeId} {x:Operand}:cc tb N K e (.convert s t x) (Ns s t x K e tb):=by
 unfold Ns
 cases hk:cvI tb s t with
 | none=>trivial
 | some ik=>
  unfold cvI at hk;split at hk
  case h_2=>cases hk
  rename_i ts td hs hd;split at hk
  case h_2=>cases hk
  rename_i k1 k2 hks hkd;cases hk;refine bM (S:=cc tb N K e (.convert s t x)) fun gx hgx=>?_;subst hgx;intro a b c d tm hp nx G k sl Wg W h0 h;refine qU h0 fun ik' n hx=>h _ (sP W (ps:= []) (v:= .int ik (ik.wrap n)) (by simp only [bn,du,c7,hs,hd,vA,CA,hks,hkd,V1 hx]) gA (by rw [<-WJ];exact fg.refl _) trivial)
theorem v7 (ev:Operand->U) :∀ l:List Operand,Jl l ev=l.map fun x=>(ev x).bK
 | []=>rfl
 | x::l=>by show (ev x).bK::Jl l ev=_;rw [v7 ev l];rfl
theorem WE {fn:Fn} {first caps:Array Operand}:cc tb N K e (.makeFunc fn first caps) (cMF fn first caps K e tb):=by
 unfold cMF
 cases fn with
 | func f=>
  show cc tb N K e _ (Bool.rec (motive:=fun _=>Stp) .slow _ (Nat.beq first.size 0))
  cases hb:Nat.beq first.size 0 with
  | false=>trivial
  | true=>
   have hs:=bf hb;intro a b c d tm hp nx G k sl Wg W h0 h;refine dq h0 fun hpl=>?_;rw [v7] at hpl;have hf0:first.toList=[]:=by simpa using hs
   exact h _ (sP W (ps:= []) (v:= .fn f (caps.toList.map fun x=>(nv K e x a b c d tm).bK)) (by simp only [bn,du,c7,hf0,List.map_nil];rw [IA hpl]) gA (by rw [v7];exact fg.refl _) trivial)
 | _=>trivial
theorem Z3 (w:W) :(wU w).bK=w.bK:=by
 cases w with
 | c x=>exact Hs x
 | agg t n=>rfl
theorem ach {w:W} (h:w.wf) :(wU w).wf:=by
 cases w with
 | c x=>exact Nx x
 | agg t n=>exact h
theorem UC {G:Rv->Prop} {sl:Rv} (h0:G sl) {k:U->Rv} :∀ (i:Nat) (l:List W),(∀ w,l[i]?=some w->G (k (wU w)))->G (abp i l k sl)
 | 0,[],_=>h0
 | 0,w::_,h=>h w rfl
 | _+1,[],_=>h0
 | i+1,_::l,h=>UC h0 i l h
theorem RF {x:Operand} {i:Nat}:cc tb N K e (.extract x i) (aaC x i K e tb):=by refine bM (S:=cc tb N K e (.extract x i)) fun gx hgx=>?_;subst hgx;intro a b c d tm hp nx G k sl Wg W h0 h;have hw:=mu Wg x;refine WW h0 fun l hx=>UC h0 i l fun w hl=>?_;have hx0:=hx;rw [hx] at hw;exact h _ (sP W (ps:= []) (v:=w.bK) (by simp only [bn,du,c7,pF,tvt hx0,List.getElem?_map,hl,Option.map_some]) gA (fg.of_eq (Z3 w).symm) (ach (hw w (List.mem_of_getElem? hl))))
theorem RI {x:Operand}:cc tb N K e (.nilCheck x) (aaD x K e tb):=by
 refine bM (S:=cc tb N K e (.nilCheck x)) fun gx hgx=>?_;subst hgx;intro a b c d tm hp nx G k sl Wg W h0 h;refine tE h0 (fun q o hx=>?_) (fun q v o hx=>?_)
 ·exact h _ (sP W (ps:= []) (v:= .ptr q o) (by simp only [bn,du,c7,EV,tvp hx]) gA (fg.refl _) trivial)
 ·exact h _ (sP W (ps:= []) (v:= .gp q v o) (by simp only [bn,du,c7,EV,tvg hx]) gA (fg.refl _) trivial)
theorem wL {G:Rv->Prop} {sl:Rv} (h0:G sl) {a b c d:U} {tm:TM} (Wg :∀ i,(eZ K e i a b c d tm).wf) {pi:Nat->PI} {f:Nat->Option (Nat×Nat)} (hf :∀ i o s,pi i = .at o s->f i=some (o,s)) {n:Nat} :∀ {l:List (Nat×Operand)} {gs:List PG},Yl K e pi l gs->∀ {t:CT} {cs:List V} {k:CT->Rv},gW t n cs->
  (∀ t' cs',gW t' n cs'->ka f cs (l.map fun p=>(p.1,(nv K e p.2 a b c d tm).bK))=some cs'->G (k t'))->G (NY a b c d tm n gs t k sl)
 | [],[],_,t,cs,k,hc,h=>h t cs hc rfl
 | q::l,.at o s g::gs,hp,t,cs,k,hc,h=>by
  obtain ⟨hp1,hp2,hp3⟩:=hp;subst hp2;have hfi:=hf _ _ _ hp1;have hw:=mu Wg q.2;refine dq h0 fun hle=>?_;have hle:o+s<=n:=cp hle;refine N3 h0 (fun x hx h1=>dq h0 fun hs=>?_) fun xt m hx=>dq h0 fun hs=>?_
  ·have e1:s=1:=bf hs;subst e1;rw [hx] at h1;refine wL h0 Wg hf hp3 (hc.put (i:=o) (x:=x) (by omega) (by rw [hx];exact h1)) fun t' cs' hc' hfl=>h t' cs' hc' ?_;simp only [List.map_cons,ka,hfi,D6 h1,List.length_singleton,if_true,hc.len,hle];rw [<-xS (by rw [hc.len];omega),<-hx];exact hfl
  ·have e1:s=m:=bf hs;subst e1;have hx0:=hx;rw [hx] at hw;obtain ⟨xs,hxs⟩:=hw;refine wL h0 Wg hf hp3 (hc.cJ hxs hle rfl) fun t' cs' hc' hfl=>h t' cs' hc' ?_;simp only [List.map_cons,ka,hfi,tva hxs hx0,cellsOf,hxs.len,if_true,hc.len,hle];exact hfl
 | [],.at _ _ _::_,h,_,_,_,_,_=>h.elim
 | _::_,[],h,_,_,_,_,_=>h.elim
theorem K3 {t:TypeId} {parts:Array (Nat×Operand)}:cc tb N K e (.build t parts) (Hq t parts K e tb):=by
 unfold Hq
 cases hb:B3 tb t with
 | false=>trivial
 | true=>
  cases hz:BQ tb t with
  | no=>trivial
  | «at» z n=>
   obtain ⟨td,ht,hc⟩:=Hb hz;refine uj (S:=cc tb N K e (.build t parts)) trivial fun gs hgs=>?_;intro a b c d tm hp nx G k sl Wg W h0 h;unfold B3 at hb;rw [ht] at hb;simp only at hb;split at hb
   ·rename_i fs hk;refine wL h0 Wg (f:=fun i=>(fs[i]?).map fun q=>(q.1,((tb q.2).map TD.size).getD 0)) (fun i o s hi=>?_) hgs hc fun t' cs' hc' hfl=>?_
    ·unfold PA at hi;rw [ht] at hi;simp only [hk] at hi;split at hi
     ·rename_i o' ft hft;split at hi
      ·rename_i tf htf;cases hi;simp [hft,htf]
      ·cases hi
     ·cases hi
    ·exact h _ (sP W (ps:= []) (v:= .agg cs') (by simp only [bn,du,c7,ht,pE,hk,hb,if_true,hfl]) gA (by show fg _ (V.agg (ga t' n));rw [hc'.ga];exact fg.refl _) ⟨_,hc'⟩)
   ·rename_i l et hk;obtain ⟨te,hte⟩:=Option.isSome_iff_exists.1 hb;refine wL h0 Wg (f:=fun i=>some (i*te.size,te.size)) (fun i o s hi=>?_) hgs hc fun t' cs' hc' hfl=>?_
    ·unfold PA at hi;rw [ht] at hi;simp only [hk,hte] at hi;cases hi;rfl
    ·exact h _ (sP W (ps:= []) (v:= .agg cs') (by simp only [bn,du,c7,ht,pE,hk,hte,hfl]) gA (by show fg _ (V.agg (ga t' n));rw [hc'.ga];exact fg.refl _) ⟨_,hc'⟩)
   ·cases hb
theorem aaM {td te:TD} {et:TypeId} (hk:td.kind = .slice et) (hte:tb et=some te) (hty:te.ty=none) (H:a6) (m n:Nat) (parts:List (Nat×V)):eM tb td H m n parts=if n<=1000/\te.size<=1000/\te.zero.length=te.size then
     match ka (fun i=>some (i*te.size,te.size)) (qd te.zero n) parts with
     | some cs=> .val [] (.gsl m m te.size 0 n) [(m,.grow m te.size cs)]
     | none=> .bad
    else .bad:=by
 have h1 :∀ H,eD tb td H m n parts = .bad:=fun H=>by simp only [eD,hk,hte,hty]
 have h2:gh tb td H m n parts = .bad:=by unfold gh;rw [h1];simp only;unfold ox;rw [h1];cases WL tb td <;> rfl
 unfold eM;rw [h2];simp only [hk,hte];rfl
theorem RC {t:TypeId} {n:Nat} {parts:Array (Nat×Operand)}:cc tb N K e (.buildSlice t n parts) (Wx t n parts K e tb):=by
 unfold Wx
 cases hb:Wu tb t n with
 | no=>trivial
 | «at» esz z len=>
  unfold Wu at hb;split at hb
  case h_2=>cases hb
  rename_i td ht;split at hb
  case h_2=>cases hb
  rename_i et hk;split at hb
  case h_2=>cases hb
  rename_i te hte;split at hb
  case isFalse=>cases hb
  rename_i hcond;obtain ⟨h1,h2,h3,h4,h5⟩:=hcond;cases hb;have hty:te.ty=none:=by cases hq:te.ty with|none=>rfl|some _=>rw [hq] at h1;cases h1
  have hc:=gW.su h5;rw [GC,h4] at hc;refine uj (S:=cc tb N K e (.buildSlice t n parts)) trivial fun gs hgs=>?_;intro a b c d tm hp nx G k sl Wg W h0 h;refine wL h0 Wg (f:=fun i=>some (i*te.size,te.size)) (fun i o s hi=>(by cases hi;rfl)) hgs hc fun t' cs' hc' hfl=>?_;show G (gB nx _);rw [fj];refine wM h0 fun hm=>h _ _ ⟨⟨[],.gsl nx nx te.size 0 n,[(nx,.grow nx te.size cs')],by simp only [bn,du,c7,ht,aaM hk hte hty,h2,h3,h4,and_self,if_true,hfl],gA,fg.refl _,iU hm ?_⟩,trivial,iV W hm ⟨_,hc'⟩⟩;show some (bd.grow nx te.size (ga t' _))=_;rw [hc'.ga]
theorem UA {G:Rv->Prop} {sl:Rv} (h0:G sl) {x:Option Operand} {dn:Nat} {ev:Operand->U} {k:Nat->Rv} (h :∀ m:Nat,Ew (dn:Int) (x.map fun x=>(ev x).bK)=some (m:Int)->G (k m)):G (Ws x dn ev k sl):=by
 cases x with
 | none=>exact h dn rfl
 | some x=>refine qU h0 fun ik n hx=>Jz h0 fun m hn=>h m ?_;subst hn;simp only [Option.map_some,V1 hx,Ew];rfl
theorem K5 {t:TypeId} {x:Operand} {lo hi mx:Option Operand}:cc tb N K e (.slice t x lo hi mx) (Hr t x lo hi mx K e tb):=by
 unfold Hr
 cases mx with
 | some _=>trivial
 | none=>
  cases hs:YX tb t with
  | none=>trivial
  | some esz=>
   unfold YX at hs;split at hs
   case h_2=>cases hs
   rename_i td ht;refine bM (S:=cc tb N K e (.slice t x lo hi none)) fun gx hgx=>?_;subst hgx;intro a b c d tm hp nx G k sl Wg W h0 h;refine N4 h0 fun q v e' o l hu=>uH h0 fun v' e2 ct n2 hg=>dq h0 fun h1=>dq h0 fun h2=>dq h0 fun h3=>UA h0 fun i hi=>UA h0 fun j hj=>dq h0 fun h4=>dq h0 fun h5=>?_;obtain ⟨cs,hc,hH,_⟩:=jc W hg;have e1:=bf h1;have e3:=bf h2;have e4:=bf h3;have h4:j<=l:=cp h4;have h5:i<j:=cp h5;subst e1;subst e3;subst e4
   have hcond :(Nat.beq i 0||Nat.blt i j)=true:=by rw [Bool.or_eq_true];exact .inr (by rw [Nat.blt_eq];exact h5)
   refine h _ (sP W (ps:= [.sub i j l]) (v:= .gsl q v esz (o+i) (j - i)) ?_ (sB ⟨by omega,by omega,by omega⟩) (fg.refl _) trivial);have hi:Ew 0 (lo.map fun x=>(nv K e x a b c d tm).bK)=some (i:Int):=hi;simp only [bn,du,c7,ht,tvs hu,gZ,Option.map_none,hs,hi,hj,hH,and_self,if_true,Int.toNat_natCast,hcond,cond_true]
theorem Ms {S:Stp->Prop} (h0:S .slow) {l:List Operand} {k:Operand->Stp} (h :∀ x,l=[x]->S (k x)):S (Iv l k):=by
 match l with
 | []=>exact h0
 | [x]=>exact h x rfl
 | _::_::_=>exact h0
theorem MQ {S:Stp->Prop} (h0:S .slow) {l:List Operand} {k:Operand->Operand->Stp} (h :∀ x y,l=[x,y]->S (k x y)):S (Q3 l k):=by
 match l with
 | []=>exact h0
 | [x]=>exact h0
 | [x,y]=>exact h x y rfl
 | _::_::_::_=>exact h0
theorem RH {q:Call} (hq:q.callee = .builtin .len):cc tb N K e (.call q) (WD q K e tb):=by
 unfold WD
 cases hs:Ot tb q with
 | false=>trivial
 | true=>
  unfold Ot at hs;split at hs
  case h_2=>cases hs
  rename_i t hat;split at hs
  case h_2=>cases hs
  rename_i td ht
  obtain ⟨et,hk⟩ :∃ et,td.kind = .slice et:=by
   unfold Oq at hs;split at hs
   ·exact ⟨_,by assumption⟩
   ·cases hs
  refine Ms (S:=cc tb N K e (.call q)) trivial fun x hx=>bM (S:=cc tb N K e (.call q)) fun gx hgx=>?_;subst hgx;intro a b c d tm hp nx G k sl Wg W h0 h;refine JA h0 (fun hu=>?_) (fun hu=>?_) fun r v e' o l hu=>uH h0 fun v' e2 ct n2 hg=>dq h0 fun h1=>dq h0 fun h2=>dq h0 fun h3=>?_
  ·exact h _ (sP W (ps:= []) (v:= .int .i64 0) (by simp only [bn,du,c7,hq,hat,hx,ht,tvo hu,lC,zH,hk]) gA (fg.refl _) trivial)
  ·exact h _ (sP W (ps:= []) (v:= .int .i64 0) (by simp only [bn,du,c7,hq,hat,hx,ht,tvo hu,lC,zH,hk]) gA (fg.refl _) trivial)
  ·obtain ⟨cs,hc,hH,_⟩:=jc W hg;have e1:=bf h1;have e3:=bf h2;have h3:l<=aW:=cp h3;subst e1;subst e3;exact h _ (sP W (ps:= []) (v:= .int .i64 l) (by simp only [bn,du,c7,hq,hat,hx,ht,tvs hu,lC,hk,hH,h3,and_self,if_true]) gA (fg.refl _) trivial)
theorem aei {G:Rv->Prop} {sl:Rv} (h0:G sl) {hp:HP} (W:mX hp) {esz:Nat} {u:U} {k:Nat->CT->Nat->Rv} (h :∀ cnt t xo n cs,gW t n cs->xo+cnt*esz<=n->lF (fi hp) esz u.bK=some (cnt,(cs.drop xo).take (cnt*esz))->G (k cnt t xo)):G (gcG hp esz u k sl):=by
 refine JA h0 (fun hu=>?_) (fun hu=>?_) fun r v e' o l hu=>uH h0 fun v' e2 ct n2 hg=>dq h0 fun h1=>dq h0 fun h2=>dq h0 fun h3=>dq h0 fun h4=>?_
 ·exact h 0 Jp 0 0 [] (.nil _) (by omega) (by simp [tvo hu,lF])
 ·exact h 0 Jp 0 0 [] (.nil _) (by omega) (by simp [tvo hu,lF])
 ·obtain ⟨cs,hc,hH,_⟩:=jc W hg;have e1:=bf h1;have e3:=bf h2;have e4:=bf h3;have h4 :(o+l)*esz<=n2:=cp h4;refine h l ct (o*esz) n2 cs hc (by rw [<-Nat.add_mul];exact h4) ?_;simp only [tvs hu,lF,hH,e1,e3,e4,and_self,if_true]
theorem RB {q:Call} (hq:q.callee = .builtin .append):cc tb N K e (.call q) (Ww q K e tb):=by
 unfold Ww
 cases ha:Wn tb q with
 | no=>trivial
 | «at» esz bytes=>
  unfold Wn at ha;split at ha
  case h_2=>cases ha
  rename_i t t2 hat;split at ha
  case h_2=>cases ha
  rename_i td td2 ht ht2;split at ha
  case h_2=>cases ha
  rename_i et hk;split at ha
  case h_2=>cases ha
  rename_i te hte;split at ha
  case isFalse=>cases ha
  rename_i hcond;obtain ⟨hel,hty,hb1,hb2,hz⟩:=hcond;cases ha;refine MQ (S:=cc tb N K e (.call q)) trivial fun s x hsx=>bM (S:=cc tb N K e (.call q)) fun gs hgs=>bM (S:=cc tb N K e (.call q)) fun gx hgx=>?_;subst hgs;subst hgx;intro a b c d tm hp nx G k sl Wg W h0 h;refine aei h0 W fun cnt xt xo xn xs hxc hxo hgc=>?_;show G (gB nx _);rw [fj];have hall :((xs.drop xo).take (cnt*te.size)).all V.one=true:=List.all_eq_true.2 fun v hv=>hxc.one v (List.mem_of_mem_drop (List.mem_of_mem_take hv))
  have main:bn ⟨tb,fun _=>none,1,N⟩ nx (fi hp) (fun x=>(nv K e x a b c d tm).bK) (.call q)=match fN tb td (fi hp) nx (nv K e s a b c d tm).bK (nv K e x a b c d tm).bK with | .val ps v dh=>some (ps,v,dh)|_=>none:=by simp only [bn,du,c7,hq,hat,hsx,ht,ht2,Wo,hel,Bool.true_or,if_true];rfl
  have hev :∀ r,(match cnt with
       | 0=>(match (nv K e s a b c d tm).bK with
        | .nilsl=> .val [] .nilsl []
        | .esl=> .val [] .esl []
        | .gsl h ver esz off len=>match fi hp h with
         | some (.grow ver' esz' _)=>if ver=ver'/\esz=esz' then .val [] (.gsl h ver esz off len) [] else .bad
         | _=> .bad
        | _=> .bad)
       | k+1=>match (nv K e s a b c d tm).bK with
        | .nilsl=> .val [.leN ((k+1)*te.bytes) 70368744177664] (.gsl nx nx te.size 0 (k+1)) [(nx,.grow nx te.size ((xs.drop xo).take (cnt*te.size)))]
        | .esl=> .val [.leN ((k+1)*te.bytes) 70368744177664] (.gsl nx nx te.size 0 (k+1)) [(nx,.grow nx te.size ((xs.drop xo).take (cnt*te.size)))]
        | .gsl h ver esz off len=>match fi hp h with
         | some (.grow ver' esz' cs)=>if ver=ver'/\esz=te.size/\esz'=te.size/\off=0/\len*te.size=cs.length then
           .val [.leN ((len +(k+1))*te.bytes) 70368744177664] (.gsl h nx te.size 0 (len +(k+1))) [(h,.grow nx te.size (cs ++((xs.drop xo).take (cnt*te.size))))] else .bad
         | _=> .bad
        | _=> .bad:Res)=r->fN tb td (fi hp) nx (nv K e s a b c d tm).bK (nv K e x a b c d tm).bK=r:=fun r hr=>by
   have hor:isG (nv K e s a b c d tm).bK=true\/isG (nv K e x a b c d tm).bK=true\/te.ty.isNone=true:= .inr (.inr hty);simp only [fN,hk,hte];rw [if_pos hor,if_pos ⟨hb1,hb2,hz⟩,hgc];simp only [hall,if_true];exact hr
  cases cnt with
  | zero=>
   have hw:=mu Wg s;refine JA h0 (fun hu=>?_) (fun hu=>?_) fun r v e' o l hu=>uH h0 fun v' e2 ct n2 hg=>dq h0 fun h1=>dq h0 fun h2=>?_
   ·exact h _ _ (sP W (ps:= []) (v:= .nilsl) (by rw [main,hev _ (by simp only [tvo hu];rfl)]) gA (by rw [hu];exact fg.refl _) hw)
   ·exact h _ _ (sP W (ps:= []) (v:= .esl) (by rw [main,hev _ (by simp only [tvo hu];rfl)]) gA (by rw [hu];exact fg.refl _) hw)
   ·obtain ⟨cs,hc,hH,_⟩:=jc W hg;have e1:=bf h1;have e3:=bf h2;subst e1;subst e3;exact h _ _ (sP W (ps:= []) (v:= .gsl r v e' o l) (by rw [main,hev (.val [] (.gsl r v e' o l) []) (by simp only [tvs hu,hH,and_self,if_true])]) gA (by rw [hu];exact fg.refl _) hw)
  | succ cnt=>
   have hnew :(nv K e s a b c d tm).bK = .nilsl\/(nv K e s a b c d tm).bK = .esl->G (Nf te.size te.bytes hp nx (Nat.succ cnt) xt xo k sl):=fun hs=>by
    refine dq h0 fun h1=>dq h0 fun h2=>wM h0 fun hm=>?_;have h1 :(cnt+1)*te.bytes<=70368744177664:=cp h1;have hc:=hxc.sub hxo;refine h _ _ ⟨⟨[.leN ((cnt+1)*te.bytes) 70368744177664],.gsl nx nx te.size 0 (cnt+1),[(nx,.grow nx te.size ((xs.drop xo).take ((cnt+1)*te.size)))],?_,sB h1,fg.refl _,iU hm ?_⟩,trivial,iV W hm ⟨_,hc⟩⟩
    ·rw [main];rcases hs with hs|hs
     ·rw [hev _ (by simp only [hs];rfl)]
     ·rw [hev _ (by simp only [hs];rfl)]
    ·show some (bd.grow nx te.size (ga (tc Jp 0 xt xo ((cnt+1)*te.size)) ((cnt+1)*te.size)))=_;rw [hc.ga]
   refine JA h0 (fun hu=>hnew (.inl (by rw [hu];rfl))) (fun hu=>hnew (.inr (by rw [hu];rfl))) fun r v e' o l hu=>uH h0 fun v' e2 ct n2 hg=>dq h0 fun h1=>dq h0 fun h2=>dq h0 fun h3=>dq h0 fun h4=>dq h0 fun h5=>dq h0 fun h6=>dq h0 fun h7=>?_;obtain ⟨cs,hc,hH,hm⟩:=jc W hg;have e1:=bf h1;have e3:=bf h2;have e4:=bf h3;have e5:=bf h4;have e6:l*te.size=n2:=bf h5;have h6 :(l +(cnt+1))*te.bytes<=70368744177664:=cp h6;have h7:n2 +(cnt+1)*te.size<=4096:=cp h7;subst e1;subst e3;subst e5;have e4:e2=te.size:=e4;have hl:=hc.len;have hap:=hc.app hxc hxo h7;refine h _ _ ⟨⟨[.leN ((l +(cnt+1))*te.bytes) 70368744177664],.gsl r nx te.size 0 (l +(cnt+1)),[(r,.grow nx te.size (cs ++(xs.drop xo).take ((cnt+1)*te.size)))],?_,sB h6,fg.refl _,iU hm ?_⟩,trivial,iV W hm ⟨_,hap⟩⟩
   ·rw [main,hev _ (by simp only [tvs hu,hH,e4,e6,hl,and_self,if_true];rfl)]
   ·show some (bd.grow nx te.size (ga (tc ct n2 xt xo ((cnt+1)*te.size)) (n2 +(cnt+1)*te.size)))=_;rw [hap.ga]
theorem Er (a b c d:U) (tm:TM) (cs:List V) :∀ l:List Operand,Nh (l.map (nv K e)) a b c d tm cs =(l.map fun x=>nv K e x a b c d tm)++cs.map mG
 | []=>rfl
 | x::l=>by show nv K e x a b c d tm::Nh (l.map (nv K e)) a b c d tm cs=_;rw [Er a b c d tm cs l];rfl
theorem Nr {q:Call}:cc tb N K e (.call q) (Nq q K e tb):=by
 unfold Nq
 cases hq:q.callee with
 | value f=>
  refine bM (S:=cc tb N K e (.call q)) fun gf hgf=>Ge (S:=cc tb N K e (.call q)) fun gs hgs=>?_;subst hgf;subst hgs;intro a b c d tm G k sl Wg h0 h;refine aaU h0 fun g cs hf=>dq h0 fun hpl=>?_;rw [Er];refine h g _ ⟨⟨q,f,cs,rfl,hq,by show (nv K e f a b c d tm).bK=_;rw [hf];rfl,hpl,fun E l hl=>?_⟩,fun u hu=>?_⟩
  ·rw [List.map_append,List.map_map,List.map_map]
   have :∀ (xs:List V) (l:List Value),ai E (xs++cs) l->ai E (xs++cs.map (U.bK ∘ mG)) l:=by
    intro xs
    induction xs with
    | nil=>intro l hl;exact sQ (fun v=>v) _ nI cs l (by simpa using hl)
    | cons x xs ih=>
     intro l hl
     cases l with
     | nil=>simp [ai] at hl
     | cons y l=>simp only [List.cons_append,ai] at hl ⊢;exact ⟨hl.1,ih l hl.2⟩
   exact this _ l hl
  ·rcases List.mem_append.1 hu with h1|h1
   ·obtain ⟨x,_,rfl⟩:=List.mem_map.1 h1;exact mu Wg x
   ·obtain ⟨v,_,rfl⟩:=List.mem_map.1 h1;exact nJ v
 | builtin b=>
  show cc tb N K e (.call q) (aaB b q K e tb)
  cases b with
  | append=>exact RB hq
  | len=>exact RH hq
  | _=>exact trivial
 | _=>exact trivial
theorem WI (op:Op):cc tb N K e op (cmp K e tb op):=by
 cases op with
 | move x=>exact Ex.1
 | assign x=>exact Ex.2
 | pick=>exact Nv
 | alloc=>exact K2
 | box=>exact RE
 | build=>exact K3
 | buildSlice=>exact RC
 | load=>exact Nu
 | store=>exact K6
 | nilCheck=>exact RI
 | binOp=>exact RD
 | unOp=>exact WG
 | convert=>exact Nt
 | makeFunc=>exact WE
 | slice=>exact K5
 | fieldAddr=>exact Wz
 | field=>exact WA
 | indexAddr=>exact WB
 | index=>exact RG
 | extract=>exact RF
 | call=>exact Nr
 | _=>exact trivial
end
section
open Go.RowKit
variable {P:Program} {tb:bG} {N K:Nat}
structure Rr (K:Nat) (e:En) (a b c d:U) (tm:TM):Prop where
 win :∀ i,(eZ K e i a b c d tm).wf
 tm :∀ i,jD K i=true->((dN i).get tm).wf
structure yB (K:Nat) (e:En) (a b c d:U) (tm:TM) (E:Env) (act:Act):Prop where
 win :∀ i,ae E (eZ K e i a b c d tm).bK (act.tmps.getD i undef)
 tm :∀ i,jD K i=true->ae E ((dN i).get tm).bK (act.tmps.getD i undef)
structure RV (B:aK) (E0:Env) (n0 N K:Nat) (e:En) (a b c d:U) (tm:TM) (hp:HP) (nx:Nat) (E:Env) (act:Act):Prop where
 rel:aM B E
 ext:Ext E0 E
 h:E.H=fi hp
 u :∀ n,E.U n->E0.U n\/(n0<=n/\n<nx)
 le:n0<=nx
 tm:yB K e a b c d tm E act
 size:act.tmps.size=N
 defers:act.defers=[]
abbrev WT (K:Nat) (tm:TM):Prop:=Rr K yE u0 u0 u0 u0 tm
abbrev RX (B:aK) (E0:Env) (n0 N K:Nat) (tm:TM) (hp:HP) (nx:Nat) (E:Env) (act:Act):Prop:=RV B E0 n0 N K yE u0 u0 u0 u0 tm hp nx E act
theorem wT {K i:Nat} (h:jD K i=true):i<512:=by
 unfold jD at h
 cases hb:Nat.ble (Nat.succ i) 512 with
 | true=>exact cp hb
 | false=>rw [hb] at h;cases h
theorem kf (i:Nat) (tm:TM):eZ K yE i u0 u0 u0 u0 tm=bif jD K i then (dN i).get tm else u0:=by
 unfold eZ
 have:Nat.beq yE.e0 (Nat.succ i)=false:=rfl
 cases hk:jD K i <;> rfl
theorem mW {p:U->Prop} {e:En} {i dd:Nat} {u a b c d:U} {tm tm':TM} (h0:p u0) (hu:i=dd->p u) (hw:i≠dd->p (eZ K e i a b c d tm)) (ht:i≠dd->jD K i=true->p ((dN i).get tm')):p (eZ K ⟨Nat.succ dd,e.e0,e.e1,e.e2⟩ i u a b c tm'):=by
 by_cases e1:i=dd
 ·have:eZ K ⟨Nat.succ dd,e.e0,e.e1,e.e2⟩ i u a b c tm'=u:=by
   unfold eZ
   have:Nat.beq (Nat.succ dd) (Nat.succ i)=true:=by rw [e1];exact Nat.beq_refl _
   simp only [this]
  rw [this];exact hu e1
 ·have hw:=hw e1;have ht:=ht e1;unfold eZ at hw ⊢
  have hb:Nat.beq (Nat.succ dd) (Nat.succ i)=false:=by
   cases hb:Nat.beq (Nat.succ dd) (Nat.succ i) with
   | false=>rfl
   | true=>exact absurd (Nat.succ.inj (bf hb)).symm e1
  simp only [hb];cases h1:Nat.beq e.e0 (Nat.succ i)
  case true=>rw [h1] at hw;exact hw
  rw [h1] at hw;cases h2:Nat.beq e.e1 (Nat.succ i)
  case true=>rw [h2] at hw;exact hw
  rw [h2] at hw;cases h3:Nat.beq e.e2 (Nat.succ i)
  case true=>rw [h3] at hw;exact hw
  cases h4:jD K i
  case true=>exact ht h4
  exact h0
theorem BL:u0.wf:=trivial
theorem rv {E:Env} {v:Value}:ae E u0.bK v:=by simp [u0,U.bK,ae]
theorem lO {K i j:Nat} (hi:jD K i=true) (hj:jD K j=true) (h:i≠j) (u:U) (tm:TM) :(dN j).get ((dN i).put u tm) =(dN j).get tm:=Je (wT hi) (wT hj) h u tm
theorem lG {a:Act} {dd:Nat} (h:dd<a.tmps.size) (v:Value) :(a.put (some dd) v).tmps.getD dd undef=v:=by simp [Act.put,Array.getD_eq_getD_getElem?,h]
theorem gL {a:Act} {dd i:Nat} (h:i≠dd) (v:Value) :(a.put (some dd) v).tmps.getD i undef=a.tmps.getD i undef:=by simp [Act.put,Array.getD_eq_getD_getElem?,Array.getElem?_setIfInBounds_ne (Ne.symm h)]
theorem Q0 {e:En} {dd:Nat} {u a b c d:U} {tm:TM} (h:Rr K e a b c d tm) (hu:u.wf):Rr K ⟨Nat.succ dd,e.e0,e.e1,e.e2⟩ u a b c tm:=
 ⟨fun i=>mW (p:=U.wf) (d:=d) (tm:=tm) BL (fun _=>hu) (fun _=>h.win i) (fun _ hk=>h.tm i hk),h.tm⟩
theorem Q1 {e:En} {dd:Nat} (hd:jD K dd=true) {u a b c d:U} {tm:TM} (h:Rr K e a b c d tm) (hu:u.wf):Rr K ⟨Nat.succ dd,e.e0,e.e1,e.e2⟩ u a b c ((dN dd).put u tm):=by
 refine ⟨fun i=>mW (p:=U.wf) (d:=d) (tm:=tm) BL (fun _=>hu) (fun _=>h.win i) (fun hne hk=>?_),fun i hk=>?_⟩
 ·rw [lO hd hk (Ne.symm hne)];exact h.tm i hk
 ·by_cases e1:dd=i
  ·subst e1;rw [jQ];exact hu
  ·rw [lO hd hk e1];exact h.tm i hk
theorem D3 {e:En} {a b c d:U} {tm:TM} {E E':Env} {act:Act} (X:Ext E E') (h:yB K e a b c d tm E act):yB K e a b c d tm E' act:=
 ⟨fun i=>ca X _ _ (h.win i),fun i hk=>ca X _ _ (h.tm i hk)⟩
theorem QZ {e:En} {a b c d:U} {tm:TM} {E:Env} {act:Act} {v:Value} (h:yB K e a b c d tm E act):yB K e a b c d tm E (act.put none v):=h
theorem QX {e:En} {dd:Nat} (hk0:jD K dd=false) {u a b c d:U} {tm:TM} {E:Env} {act:Act} (hd:dd<act.tmps.size) {v:Value} (h:yB K e a b c d tm E act) (hu:ae E u.bK v):yB K ⟨Nat.succ dd,e.e0,e.e1,e.e2⟩ u a b c tm E (act.put (some dd) v):=by
 refine ⟨fun i=>mW (p:=fun u=>ae E u.bK ((act.put (some dd) v).tmps.getD i undef)) (d:=d) (tm:=tm) rv (fun e1=>?_) (fun hne=>?_) (fun hne hk=>?_),fun i hk=>?_⟩
 ·rw [e1,lG hd];exact hu
 ·rw [gL hne];exact h.win i
 ·rw [gL hne];exact h.tm i hk
 ·have hne:i≠dd:=fun e1=>by rw [e1,hk0] at hk;cases hk
  rw [gL hne];exact h.tm i hk
theorem QY {e:En} {dd:Nat} (hk0:jD K dd=true) {u a b c d:U} {tm:TM} {E:Env} {act:Act} (hd:dd<act.tmps.size) {v:Value} (h:yB K e a b c d tm E act) (hu:ae E u.bK v):yB K ⟨Nat.succ dd,e.e0,e.e1,e.e2⟩ u a b c ((dN dd).put u tm) E (act.put (some dd) v):=by
 refine ⟨fun i=>mW (p:=fun u=>ae E u.bK ((act.put (some dd) v).tmps.getD i undef)) (d:=d) (tm:=tm) rv (fun e1=>?_) (fun hne=>?_) (fun hne hk=>?_),fun i hk=>?_⟩
 ·rw [e1,lG hd];exact hu
 ·rw [gL hne];exact h.win i
 ·rw [gL hne,lO hk0 hk (Ne.symm hne)];exact h.tm i hk
 ·by_cases e1:dd=i
  ·subst e1;rw [jQ,lG hd];exact hu
  ·rw [gL (Ne.symm e1),lO hk0 hk e1];exact h.tm i hk
theorem IP {e:En} {a b c d:U} {tm:TM} {E:Env} {act:Act} (h:yB K e a b c d tm E act) (x:Operand):ae E (nv K e x a b c d tm).bK (act.eval x):=by
 cases x with
 | tmp i=>exact h.win i
 | const v=>exact nI _ _ _ (ja v)
 | func f=>simp only [nv,U.bK,ae,Act.eval];exact ⟨#[],rfl,by simp [ai]⟩
 | global i=>exact rv
theorem Rr.out {e:En} {a b c d:U} {tm:TM} (h:Rr K e a b c d tm):WT K tm:=by
 refine ⟨fun i=>?_,h.tm⟩;rw [kf]
 cases hk:jD K i with
 | true=>exact h.tm i hk
 | false=>exact BL
theorem yB.out {e:En} {a b c d:U} {tm:TM} {E:Env} {act:Act} (h:yB K e a b c d tm E act):yB K yE u0 u0 u0 u0 tm E act:=by
 refine ⟨fun i=>?_,h.tm⟩;rw [kf]
 cases hk:jD K i with
 | true=>exact h.tm i hk
 | false=>exact rv
theorem RV.out {B:aK} {E0:Env} {n0:Nat} {e:En} {a b c d:U} {tm:TM} {hp:HP} {nx:Nat} {E:Env} {act:Act} (h:RV B E0 n0 N K e a b c d tm hp nx E act):RX B E0 n0 N K tm hp nx E act:=
 ⟨h.rel,h.ext,h.h,h.u,h.le,h.tm.out,h.size,h.defers⟩
def BS (P:Program) (g:FuncId) (args:List U) (u:U):Prop:=∀ (E:Env) (av:List Value),ai E (args.map U.bK) av->∃ v',ae E u.bK v'/\
 ∀ (o:Oper) (c:Call) (f:Operand) (l:Array Value) (a:Act) (next:Act->World->Prop) (Q:Exit->Act->World->Prop),o.op = .call c->c.callee = .value f->a.eval f = .func (.func g) #[] l->av=c.args.toList.map a.eval++l.toList->
  next (a.put o.dst v') E.w->o.wp P a E.w next Q
structure FnV (P:Program) (g:FuncId) (args:List U) (hp:HP) (nx:Nat) (u:U) (hp':HP) (nx':Nat):Prop where
 fn :∃ fn,P.funcs[g]?=some fn/\fn.body.isSome=true/\(fn.name == "runtime.NumGoroutine")=false
 le:nx<=nx'
 wf:u.wf
 hw:mX hp'
 calls :∀ (B:aK) (E:Env) (av:List Value),aM B E->E.H=fi hp->ai E (args.map U.bK) av->(∀ n,nx<=n->n<nx'->¬ E.U n)->
  Calls P g av.toArray E.w fun e w'=>∃ E' v',e = .returned v'/\Came B E (fi hp') nx nx' u.bK v' w' E'
structure CallVOK (P:Program) (call:gE):Prop where
 ok :∀ g args hp nx u hp' nx',(∀ x∈args,x.wf)->mX hp->call g args hp nx = .ok u hp' nx'->FnV P g args hp nx u hp' nx'
 ex :∀ g args hp nx u hp' nx',(∀ x∈args,x.wf)->call g args hp nx = .ex u hp' nx'->hp'=hp/\nx'=nx/\u.wf/\BS P g args u
theorem Uj (v:V):fg v (oa v):=fun _ _ h=>nH h
theorem Ha {E:Env} :∀ {cs:List V} {l:List Value},ai E cs l->ai E (cs.map oa) l
 | [],[],_=>by simp [ai]
 | [],_::_,h=>by simp [ai] at h
 | _::_,[],h=>by simp [ai] at h
 | _::_,_::_,h=>by simp only [List.map_cons,ai] at h ⊢;exact ⟨nH h.1,Ha h.2⟩
theorem Eo (cs:List V):fg (.agg cs) (.agg (cs.map oa)):=fun _ _ h=>by simp only [ae] at h ⊢;obtain ⟨l,h1,h2⟩:=h;exact ⟨l,h1,Ha h2⟩
theorem HW (v:V):fg v (Xe v):=by
 cases v with
 | agg cs=>exact Eo cs
 | tup vs=>
  intro E x h;simp only [Xe,ae] at h ⊢;obtain ⟨l,h1,h2⟩:=h;refine ⟨l,h1,?_⟩;revert h2;generalize l.toList=us
  induction vs generalizing us with
  | nil=>exact id
  | cons v vs ih=>
   cases us with
   | nil=>intro h;simp [ai] at h
   | cons u us=>intro h;simp only [List.map_cons,ai] at h ⊢;refine ⟨?_,ih us h.2⟩;have h:=h.1;cases v <;> first|exact Eo _ _ _ h|exact nH h
 | _=>exact Uj _
abbrev Wp:=(Exit->Act->World->Prop)->Act->World->Prop
structure EndsV (N K:Nat) (e:En) (a b c d:U) (tm:TM) (hp:HP) (nx:Nat) (l:Lf) (tm':TM) (hp':HP) (nx':Nat) (W:Wp):Prop where
 l:l = .nrm
 le:nx<=nx'
 wt:WT K tm'
 hw:mX hp'
 wp :∀ (B:aK) (E0:Env) (n0:Nat) (Q:Exit->Act->World->Prop) (E:Env) (act:Act),(∀ n,n0<=n->n<nx'->¬ E0.U n)->(∀ E act,RX B E0 n0 N K tm' hp' nx' E act->Q .normal act E.w)->RV B E0 n0 N K e a b c d tm hp nx E act->W Q act E.w
def uv (N K:Nat) (call:gE) (X:Cds) (e:En) (W:Wp):Prop:=∀ (a b c d:U) (tm:TM) (hp:HP) (nx:Nat) (l:Lf) (tm':TM) (hp':HP) (nx':Nat),Rr K e a b c d tm->mX hp->X.run a b c d call tm hp nx = .go l tm' hp' nx'->EndsV N K e a b c d tm hp nx l tm' hp' nx' W
structure PostV (N K:Nat) (e:En) (a b c d:U) (tm:TM) (dst:Option Nat) (u:U) (hp1:HP) (nx1:Nat) (l:Lf) (tm':TM) (hp':HP) (nx':Nat) (W:Wp):Prop where
 l:l = .nrm
 le:nx1<=nx'
 wt:WT K tm'
 hw:mX hp'
 wp :∀ (B:aK) (E0:Env) (n0:Nat) (Q:Exit->Act->World->Prop) (E:Env) (act:Act) (hp:HP) (nx:Nat) (E':Env) (v':Value),(∀ n,n0<=n->n<nx'->¬ E0.U n)->(∀ E act,RX B E0 n0 N K tm' hp' nx' E act->Q .normal act E.w)->RV B E0 n0 N K e a b c d tm hp nx E act->
  nx<=nx1->aM B E'->Ext E E'->E'.H=fi hp1->(∀ n,E'.U n->E.U n\/(nx<=n/\n<nx1))->ae E' u.bK v'->W Q (act.put dst v') E'.w
theorem pS {call:gE} {nxt:Cds} {e:En} {dst:Option Nat} {W:Wp} (hn:uv N K call nxt (Z4 e dst) W) (hd:dW N dst=true) {a b c d:U} {tm:TM} {u:U} {hp1:HP} {nx1:Nat} {l:Lf} {tm':TM} {hp':HP} {nx':Nat} (Wt:Rr K e a b c d tm) (hu:u.wf) (Wh:mX hp1)
  (h:mo (we K dst) nxt u a b c d call tm hp1 nx1 = .go l tm' hp' nx'):PostV N K e a b c d tm dst u hp1 nx1 l tm' hp' nx' W:=by
 have mk :∀ {B:aK} {E0:Env} {n0:Nat} {E:Env} {act:Act} {hp:HP} {nx:Nat} {E':Env} {v':Value} {e2:En} {a2 b2 c2 d2:U} {tm2:TM},RV B E0 n0 N K e a b c d tm hp nx E act->nx<=nx1->aM B E'->Ext E E'->E'.H=fi hp1->(∀ n,E'.U n->E.U n\/(nx<=n/\n<nx1))->
   yB K e2 a2 b2 c2 d2 tm2 E' (act.put dst v')->RV B E0 n0 N K e2 a2 b2 c2 d2 tm2 hp1 nx1 E' (act.put dst v'):=fun {B E0 n0 E act hp nx E' v' e2 a2 b2 c2 d2 tm2} hR hle hE hX hH hU hT=>by
  have hle0:=hR.le;refine ⟨hE,hR.ext.trans hX,hH,fun n hn=>?_,Nat.le_trans hle0 hle,hT,by rw [oZ];exact hR.size,by rw [ky];exact hR.defers⟩;rcases hU n hn with h|h
  ·rcases hR.u n h with h|h
   ·exact .inl h
   ·exact .inr ⟨h.1,by have:=h.2;omega⟩
  ·exact .inr ⟨by omega,h.2⟩
 cases dst with
 | none=>
  have:=hn a b c d tm hp1 nx1 l tm' hp' nx' Wt Wh h
  exact ⟨this.l,this.le,this.wt,this.hw,fun B E0 n0 Q E act hp nx E' v' hfr hQ hR hle hE hX hH hU hv=>this.wp B E0 n0 Q E' _ hfr hQ (mk hR hle hE hX hH hU (QZ (D3 hX hR.tm)))⟩
 | some dd=>
  have hdn:dd<N:=by have h:Nat.blt dd N=true:=hd;rw [Nat.blt_eq] at h;exact h
  cases hk:jD K dd with
  | false=>
   have h1:Cds.run nxt u a b c call tm hp1 nx1 = .go l tm' hp' nx':=by
    have:we K (some dd) = .drop:=by show Bool.rec (motive:=fun _=>DK) _ _ (jD K dd)=_;rw [hk]
    rw [this] at h;exact h
   have:=hn u a b c tm hp1 nx1 l tm' hp' nx' (Q0 Wt hu) Wh h1
   exact ⟨this.l,this.le,this.wt,this.hw,fun B E0 n0 Q E act hp nx E' v' hfr hQ hR hle hE hX hH hU hv=>this.wp B E0 n0 Q E' _ hfr hQ (mk hR hle hE hX hH hU (QX hk (by rw [hR.size];exact hdn) (D3 hX hR.tm) hv))⟩
  | true=>
   have h1:Cds.run nxt u a b c call ((dN dd).put u tm) hp1 nx1 = .go l tm' hp' nx':=by
    have:we K (some dd) = .keep (dN dd).put:=by show Bool.rec (motive:=fun _=>DK) _ _ (jD K dd)=_;rw [hk]
    rw [this] at h;exact h
   have:=hn u a b c ((dN dd).put u tm) hp1 nx1 l tm' hp' nx' (Q1 hk Wt hu) Wh h1
   exact ⟨this.l,this.le,this.wt,this.hw,fun B E0 n0 Q E act hp nx E' v' hfr hQ hR hle hE hX hH hU hv=>this.wp B E0 n0 Q E' _ hfr hQ (mk hR hle hE hX hH hU (QY hk (by rw [hR.size];exact hdn) (D3 hX hR.tm) hv))⟩
theorem nC :∀ {dh:List (Nat×bd)} {hp hp':HP},mX hp->xT dh hp=some hp'->fi hp'=aQ (fi hp) dh/\mX hp'
 | [],hp,hp',W,h=>by cases h;exact ⟨rfl,W⟩
 |(q,b)::r,hp,hp',W,h=>by
  unfold xT at h;split at h
  case h_2=>cases h
  rename_i hp1 h1;obtain ⟨e1,W1⟩:=nC W h1
  cases hq:Nat.ble (Nat.succ q) SI with
  | false=>rw [hq] at h;cases h
  | true=>
   have hq:q<262144:=cp hq
   have key :∀ (b':Bk) (b:bd),b'.vd=some b->b'.wf->fi (eV hp1 q b')=aQ (fi hp) ((q,b)::r)/\mX (eV hp1 q b'):=fun b' b hb hw=>by refine ⟨?_,iV W1 hq hw⟩;rw [iU hq hb,e1];funext k;simp only [aQ,find];cases Nat.beq q k <;> rfl
   rw [‹Nat.ble (Nat.succ q) SI=true›] at h;simp only [cond_true] at h;split at h
   ·rename_i cs
    cases ho:je cs with
    | false=>rw [ho] at h;cases h
    | true=>rw [ho] at h;cases h;have hc:=gW.su ho;exact key _ _ (by show some (bd.cells (ga _ _))=_;rw [hc.ga]) ⟨_,hc⟩
   ·rename_i v e cs
    cases ho:je cs with
    | false=>rw [ho] at h;cases h
    | true=>rw [ho] at h;cases h;have hc:=gW.su ho;exact key _ _ (by show some (bd.grow _ _ (ga _ _))=_;rw [hc.ga]) ⟨_,hc⟩
   ·cases h;exact key _ _ rfl trivial
   ·cases h
   ·cases h
section
variable {call:gE} {all:List Oper}
abbrev opW (P:Program) (o:Oper) (W:Wp):Wp:=fun Q act w=>o.wp P act w (fun act w=>W Q act w) Q
theorem yt (hT:cn P tb) {o:Oper} {e:En} {a b c d:U} {tm:TM} {hp:HP} {nx:Nat} {u:U} {hp1:HP} {l:Lf} {tm':TM} {hp':HP} {nx':Nat} {W:Wp} (hv:ValOK tb N (fun x=>(nv K e x a b c d tm).bK) o.op hp nx u hp1)
  (hq:PostV N K e a b c d tm o.dst u hp1 (Nat.succ nx) l tm' hp' nx' W):EndsV N K e a b c d tm hp nx l tm' hp' nx' (opW P o W):=by
 obtain ⟨ps,v,dh,h1,h2,h3,h4⟩:=hv.ex;have hle:=hq.le;refine ⟨hq.l,by omega,hq.wt,hq.hw,fun B E0 n0 Q E act hfr hQ hR=>?_⟩;have hle0:=hR.le;have hH:=hR.h;rw [<-hH] at h1;refine fv (C:=⟨tb,fun _=>none,1,N⟩) hR.rel hT (Nat.le_refl _) (fun _ _ h=>by cases h) (fun n k1 k2 hu=>?_) (IP hR.tm) h1 h2 (fun v' E' G hv'=>?_)
 ·have k2:n<nx+1:=k2;rcases hR.u n hu with h|h
  ·exact hfr n (by omega) (by omega) h
  ·have:=h.2;omega
 ·exact hq.wp B E0 n0 Q E act _ nx E' v' hfr hQ hR (Nat.le_succ nx) G.rel G.ext (by rw [G.h,hH,h4]) (fun n hn=>by
   rcases G.u n hn with h|h
   ·exact .inl h
   ·exact .inr h) (h3 E' v' hv')
theorem MF (hT:cn P tb) {o:Oper} {e:En} {nxt:Cds} {W:Wp} (hn:uv N K call nxt (Z4 e o.dst) W) (hd:dW N o.dst=true):uv N K call ⟨sN tb N K e o.op (we K o.dst) nxt⟩ e (opW P o W):=by
 intro a b c d tm hp nx l tm' hp' nx' Wt Wh h
 have h:gB nx (fun nx=>match wq tb N nx (fi hp) (fun x=>(nv K e x a b c d tm).bK) o.op with
 | some (ps,v,dh)=>match UO ps with
  | true=>match xT dh hp with
   | some hp=>mo (we K o.dst) nxt (mG (Xe v)) a b c d call tm hp (Nat.succ nx)
   | none=> .no [104]
  | false=> .no [100]
 | none=> .no [101]) = .go l tm' hp' nx':=by simp only [sN,Vr,fj] at h ⊢;exact h
 rw [fj] at h;split at h
 case h_2=>cases h
 rename_i ps v dh hev;split at h
 case h_2=>cases h
 rename_i hobs;split at h
 case h_2=>cases h
 rename_i hp1 hs;obtain ⟨e1,W1⟩:=nC Wh hs
 have hps :∀ p∈ps,p.holds:=fun p hp=>by
  cases ps with
  | nil=>cases hp
  | cons q qs=>
   have :(q::qs).all Ob.B7=true:=hobs;exact Ob.s9 (List.all_eq_true.1 this p hp)
 exact yt hT ⟨⟨ps,v,dh,tq _ _ _ _ _ _ hev,hps,(HW v).trans (nI _),e1⟩,nJ _,W1⟩ (pS hn hd Wt (nJ _) W1 h)
theorem QC (hT:cn P tb) (hcall:CallVOK P call) {o:Oper} {e:En} {nxt:Cds} {W:Wp} (hn:uv N K call nxt (Z4 e o.dst) W) (hd:dW N o.dst=true):uv N K call (DZ tb N K e o.op (we K o.dst) nxt (cmp K e tb o.op)) e (opW P o W):=by
 have hst:=WI (tb:=tb) (N:=N) (K:=K) (e:=e) o.op;have hsl:=MF (P:=P) (call:=call) (e:=e) hT hn hd;generalize cmp K e tb o.op=s at hst
 cases s with
 | slow=>exact hsl
 | val f=>
  intro a b c d tm hp nx l tm' hp' nx' Wt Wh h
  have h:f a b c d tm hp nx (fun u=>mo (we K o.dst) nxt u a b c d call tm hp (Nat.succ nx)) (sN tb N K e o.op (we K o.dst) nxt a b c d call tm hp nx) = .go l tm' hp' nx':=by unfold DZ at h;cases hdk:we K o.dst <;>(rw [hdk] at h;exact h)
  revert h;refine hst a b c d tm hp nx (fun r=>r = .go l tm' hp' nx'->EndsV N K e a b c d tm hp nx l tm' hp' nx' (opW P o W)) _ _ Wt.win Wh (hsl a b c d tm hp nx l tm' hp' nx' Wt Wh) (fun u hv h=>?_);exact yt hT hv (pS hn hd Wt hv.wf hv.hw h)
 | mem f=>intro a b c d tm hp nx l tm' hp' nx' Wt Wh h;revert h;refine hst a b c d tm hp nx (fun r=>r = .go l tm' hp' nx'->EndsV N K e a b c d tm hp nx l tm' hp' nx' (opW P o W)) _ _ Wt.win Wh (hsl a b c d tm hp nx l tm' hp' nx' Wt Wh) (fun u hp1 hv h=>?_);exact yt hT hv (pS hn hd Wt hv.wf hv.hw h)
 | cal f=>
  intro a b c d tm hp nx l tm' hp' nx' Wt Wh h;revert h;refine hst a b c d tm (fun r=>r = .go l tm' hp' nx'->EndsV N K e a b c d tm hp nx l tm' hp' nx' (opW P o W)) _ _ Wt.win (hsl a b c d tm hp nx l tm' hp' nx' Wt Wh) (fun g args hv h=>?_);obtain ⟨q,f,caps,ho,hf,hg,hpl,hargs⟩:=hv.ex
  have av :∀ {E:Env} {act:Act},yB K e a b c d tm E act->∃ l:Array Value,act.eval f = .func (.func g) #[] l/\ai E (args.map U.bK) (q.args.toList.map act.eval++l.toList):=fun {E act} hR=>by have hfv:=IP hR f;rw [hg] at hfv;simp only [ae] at hfv;obtain ⟨l,hfe,hl⟩:=hfv;rw [PE hpl hl] at hfe;exact ⟨l,hfe,hargs E _ (cj (gT _ _ (IP hR) _) hl)⟩
  cases hc:call g args hp nx with
  | no w=>rw [hc] at h;cases h
  | ok u hp1 nx1=>
   rw [hc] at h;have F:=hcall.ok g args hp nx u hp1 nx1 hv.wf Wh hc;have hp2:=pS hn hd Wt F.wf F.hw (show mo (we K o.dst) nxt u a b c d call tm hp1 nx1 = .go l tm' hp' nx' from h);have hle1:=F.le;have hle2:=hp2.le;refine ⟨hp2.l,by omega,hp2.wt,hp2.hw,fun B E0 n0 Q E act hfr hQ hR=>?_⟩;obtain ⟨l,hfe,hav⟩:=av hR.tm;have hle0:=hR.le;refine RJ ho hf hfe F.fn (F.calls B E _ hR.rel hR.h hav (fun n h3 h4 hu=>?_)) (fun e w' hh=>?_)
   ·rcases hR.u n hu with h|h
    ·exact hfr n (by omega) (by omega) h
    ·have:=h.2;omega
   ·obtain ⟨E',v',rfl,C⟩:=hh;refine ⟨v',rfl,?_⟩
    have:=hp2.wp B E0 n0 Q E act hp nx E' v' hfr hQ hR (by omega) C.rel C.ext C.h (fun n hn=>by
     rcases C.u n hn with h|h
     ·exact .inl h
     ·exact .inr ⟨h.1,by have:=h.2;omega⟩) C.v
    rw [C.w] at this;exact this
  | ex u hp1 nx1=>rw [hc] at h;obtain ⟨rfl,rfl,hu,hx⟩:=hcall.ex g args hp nx u hp1 nx1 hv.wf hc;have hp2:=pS hn hd Wt hu Wh (show mo (we K o.dst) nxt u a b c d call tm hp1 nx1 = .go l tm' hp' nx' from h);have hle2:=hp2.le;refine ⟨hp2.l,by omega,hp2.wt,hp2.hw,fun B E0 n0 Q E act hfr hQ hR=>?_⟩;obtain ⟨l,hfe,hav⟩:=av hR.tm;obtain ⟨v',hv',hcan⟩:=hx E _ hav;exact hcan o q f l act _ Q ho hf hfe rfl (hp2.wp B E0 n0 Q E act hp1 nx1 E v' hfr hQ hR (Nat.le_refl _) hR.rel (Ext.refl E) hR.h (fun n hn=> .inl hn) hv')
theorem Oa {e:En} {i:Nat} {k:Gt->Cds}:N9 K e i k=k (eZ K e i):=by
 unfold N9 eZ;cases Nat.beq e.e0 (Nat.succ i)
 case true=>rfl
 cases Nat.beq e.e1 (Nat.succ i)
 case true=>rfl
 cases Nat.beq e.e2 (Nat.succ i)
 case true=>rfl
 cases Nat.beq e.e3 (Nat.succ i)
 case true=>rfl
 cases jD K i
 case true=>rfl
 rfl
theorem aaV {e:En} {a b c d:U} {tm:TM} {E:Env} {act:Act} (hR:yB K e a b c d tm E act) {o:Oper} {q:Nat×Bool} (hg:o.guard=some q) {dj:Nat} (hj:N1 all q.1=some dj) {r:Bool} (h :(match (eZ K e dj a b c d tm).bK with | .kb b=>some (b==q.2) | .tup []=>some false|_=>none:Option Bool)=some r):Region.wanted o (yielded all.toArray act.tmps)=r:=by
 refine oJ (E:=E) (T:=fun s=>(eZ K e s a b c d tm).bK) hR.win ?_;unfold N1 at hj;obtain ⟨j,want⟩:=q;rw [hg];simp only at hj ⊢
 cases hx:all[j]? with
 | none=>rw [hx] at hj;cases hj
 | some oj=>rw [hx] at hj;simp only at hj ⊢;rw [hj];exact h
theorem Pu (hT:cn P tb) (hcall:CallVOK P call) {o:Oper} {rest:List Oper} {e:En} {nxt:Cds} (hn:uv N K call nxt (Z4 e o.dst) (fun Q act w=>wpList P all.toArray Q rest act w)) (hd:dW N o.dst=true):uv N K call (Yi tb N K all e o (we K o.dst) nxt) e (fun Q act w=>wpList P all.toArray Q (o::rest) act w):=by
 have hst:=QC (P:=P) (e:=e) hT hcall hn hd;unfold Yi
 cases hg:o.guard with
 | none=>
  intro a b c d tm hp nx l tm' hp' nx' Wt Wh h
  have:=hst a b c d tm hp nx l tm' hp' nx' Wt Wh h
  refine ⟨this.l,this.le,this.wt,this.hw,fun B E0 n0 Q E act hfr hQ hR=>?_⟩;unfold wpList;have hw:Region.wanted o (yielded all.toArray act.tmps)=true:=by unfold Region.wanted;rw [hg]
  rw [hw];simp only [if_true];exact .inl (this.wp B E0 n0 Q E act hfr hQ hR)
 | some q=>
  intro a b c d tm hp nx l tm' hp' nx' Wt Wh h;have h:Cds.run (Option.rec (motive:=fun _=>Cds) aaz (fun dj=>gdC K e dj q.2 (we K o.dst) nxt (DZ tb N K e o.op (we K o.dst) nxt (cmp K e tb o.op))) (N1 all q.1)) a b c d call tm hp nx = .go l tm' hp' nx':=h
  cases hj:N1 all q.1 with
  | none=>rw [hj] at h;cases h
  | some dj=>
   rw [hj] at h
   have run :(∀ {E:Env} {act:Act},yB K e a b c d tm E act->Region.wanted o (yielded all.toArray act.tmps)=true)->Cds.run (DZ tb N K e o.op (we K o.dst) nxt (cmp K e tb o.op)) a b c d call tm hp nx = .go l tm' hp' nx'->EndsV N K e a b c d tm hp nx l tm' hp' nx' (fun Q act w=>wpList P all.toArray Q (o::rest) act w):=fun hw h=>by
    have:=hst a b c d tm hp nx l tm' hp' nx' Wt Wh h
    refine ⟨this.l,this.le,this.wt,this.hw,fun B E0 n0 Q E act hfr hQ hR=>?_⟩;unfold wpList;rw [hw hR.tm];simp only [if_true];exact .inl (this.wp B E0 n0 Q E act hfr hQ hR)
   have skip :(∀ {E:Env} {act:Act},yB K e a b c d tm E act->Region.wanted o (yielded all.toArray act.tmps)=false)->mo (we K o.dst) nxt (.tup []) a b c d call tm hp nx = .go l tm' hp' nx'->EndsV N K e a b c d tm hp nx l tm' hp' nx' (fun Q act w=>wpList P all.toArray Q (o::rest) act w):=fun hw h=>by
    have:=pS hn hd Wt (show (U.tup []).wf from fun w hw=>by cases hw) Wh h
    refine ⟨this.l,this.le,this.wt,this.hw,fun B E0 n0 Q E act hfr hQ hR=>?_⟩;unfold wpList;rw [hw hR.tm];simp only [Bool.false_eq_true,if_false];exact this.wp B E0 n0 Q E act hp nx E undef hfr hQ hR (Nat.le_refl _) hR.rel (Ext.refl E) hR.h (fun n hn=> .inl hn) (by simp [U.bK,ae,undef,ai])
   have h:Cds.run (gdC K e dj q.2 (we K o.dst) nxt (DZ tb N K e o.op (we K o.dst) nxt (cmp K e tb o.op))) a b c d call tm hp nx = .go l tm' hp' nx':=h;unfold gdC at h;rw [Oa] at h;have gw :∀ r:Bool,(match (eZ K e dj a b c d tm).bK with | .kb b=>some (b==q.2) | .tup []=>some false|_=>none:Option Bool)=some r->∀ {E:Env} {act:Act},yB K e a b c d tm E act->Region.wanted o (yielded all.toArray act.tmps)=r:=fun r h {E act} hR=>aaV hR hg hj h
   cases hq:q.2 with
   | true=>
    rw [hq] at h gw;have h:acb (eZ K e dj a b c d tm) (Cds.run (DZ tb N K e o.op (we K o.dst) nxt (cmp K e tb o.op)) a b c d call tm hp nx) (mo (we K o.dst) nxt (.tup []) a b c d call tm hp nx) (.no [105]) = .go l tm' hp' nx':=h
    cases hu:eZ K e dj a b c d tm with
    | kb p=>
     rw [hu] at h gw
     cases p with
     | true=>exact run (gw true rfl) h
     | false=>exact skip (gw false rfl) h
    | tup ws=>
     rw [hu] at h gw
     cases ws with
     | nil=>exact skip (gw false rfl) h
     | cons _ _=>cases h
    | _=>rw [hu] at h;cases h
   | false=>
    rw [hq] at h gw;have h:aca (eZ K e dj a b c d tm) (Cds.run (DZ tb N K e o.op (we K o.dst) nxt (cmp K e tb o.op)) a b c d call tm hp nx) (mo (we K o.dst) nxt (.tup []) a b c d call tm hp nx) (.no [105]) = .go l tm' hp' nx':=h
    cases hu:eZ K e dj a b c d tm with
    | kb p=>
     rw [hu] at h gw
     cases p with
     | true=>exact skip (gw false rfl) h
     | false=>exact run (gw true rfl) h
    | tup ws=>
     rw [hu] at h gw
     cases ws with
     | nil=>exact skip (gw false rfl) h
     | cons _ _=>cases h
    | _=>rw [hu] at h;cases h
theorem Gg (hT:cn P tb) (hcall:CallVOK P call) :∀ (rest:List Oper) (e:En),(∀ o∈rest,dW N o.dst=true)->uv N K call (abu tb N K all rest e) e (fun Q act w=>wpList P all.toArray Q rest act w)
 | [],e,_=>by intro a b c d tm hp nx l tm' hp' nx' Wt Wh h;have h:Rv.go .nrm tm hp nx = .go l tm' hp' nx':=h;cases h;exact ⟨rfl,Nat.le_refl _,Wt.out,Wh,fun B E0 n0 Q E act hfr hQ hR=>wpList_nil (hQ E act hR.out)⟩
 | o::rest,e,hd=>Pu hT hcall (Gg hT hcall rest (Z4 e o.dst) (fun o ho=>hd o (List.mem_cons_of_mem _ ho))) (hd o List.mem_cons_self)
end
end
section
open Go.RowKit
variable {P:Program} {tb:bG} {N K:Nat}
theorem qT :∀ (l:List Nat) (k:List Nat->Rv),kU l k=k l
 | [],_=>rfl
 | n::r,k=>by simp only [kU,fj,qT r]
noncomputable def GZ (K:Nat) (tm:TM):Nat->List (Nat×V)
 | 0=> []
 | n+1=>bif jD K n then (n,((dN n).get tm).bK)::GZ K tm n else GZ K tm n
theorem wJ (tm:TM) (s:Nat) :∀ n,find (GZ K tm n) s=if s<n/\jD K s=true then some ((dN s).get tm).bK else none
 | 0=>by rw [if_neg (by omega)];rfl
 | n+1=>by
  simp only [GZ]
  cases hk:jD K n with
  | false=>
   rw [cond_false,wJ tm s n];by_cases h:s<n/\jD K s=true
   ·rw [if_pos h,if_pos ⟨by omega,h.2⟩]
   ·rw [if_neg h,if_neg (fun e=>by
     by_cases e1:s=n
     ·rw [e1,hk] at e;cases e.2
     ·exact h ⟨by omega,e.2⟩)]
  | true=>
   simp only [cond_true,find]
   cases hb:Nat.beq n s with
   | true=>
    have e1:=bf hb;subst e1;rw [cond_true,if_pos ⟨by omega,hk⟩]
   | false=>
    have hne:n≠s:=fun e=>by subst e;rw [Nat.beq_refl] at hb;cases hb
    rw [cond_false,wJ tm s n];by_cases h:s<n/\jD K s=true
    ·rw [if_pos h,if_pos ⟨by omega,h.2⟩]
    ·rw [if_neg h,if_neg (fun e=>h ⟨by omega,e.2⟩)]
def FL (K:Nat) (tm:TM) (L:List (Nat×V)):Prop:=∀ s,find L s=if jD K s=true then some ((dN s).get tm).bK else none
theorem BU (tm:TM):FL K tm (GZ K tm 512):=fun s=>by
 rw [wJ];by_cases h:jD K s=true
 ·rw [if_pos ⟨wT h,h⟩,if_pos h]
 ·rw [if_neg (fun e=>h e.2),if_neg h]
theorem FL.look {tm:TM} {L:List (Nat×V)} (h:FL K tm L) (s:Nat):dL L s=AL K tm s:=by
 unfold dL AL;rw [h s,kf];by_cases hk:jD K s=true
 ·rw [if_pos hk,hk];rfl
 ·have:jD K s=false:=by simpa using hk
  rw [if_neg hk,this];rfl
theorem mE (tm:TM) (i:Nat) (u:U):ym tm i u =(dN i).put u tm:=rfl
theorem FL.put {tm:TM} {L:List (Nat×V)} (h:FL K tm L) {d:Option Nat} (hd:EJ N K d=true) {u:U} {v:V} (hv:u.bK=v):FL K (qt d u tm) (dw d v++L):=by
 cases d with
 | none=>exact h
 | some dd=>
  have hk:jD K dd=true:=by unfold EJ at hd;rw [Bool.and_eq_true] at hd;exact hd.2
  intro s;simp only [dw,List.singleton_append,find,qt,mE]
  cases hb:Nat.beq dd s with
  | true=>
   have e1:=bf hb;subst e1;rw [cond_true,if_pos hk,jQ,hv]
  | false=>
   have hne:dd≠s:=fun e=>by subst e;rw [Nat.beq_refl] at hb;cases hb
   rw [cond_false,h s];by_cases hs:jD K s=true
   ·rw [if_pos hs,if_pos hs,lO hk hs hne]
   ·rw [if_neg hs,if_neg hs]
def KW (K:Nat) (tm:TM):Prop:=∀ i,jD K i=true->((dN i).get tm).wf
theorem KW.put {tm:TM} (h:KW K tm) {d:Option Nat} (hd:EJ N K d=true) {u:U} (hu:u.wf):KW K (qt d u tm):=by
 cases d with
 | none=>exact h
 | some dd=>
  have hk:jD K dd=true:=by unfold EJ at hd;rw [Bool.and_eq_true] at hd;exact hd.2
  intro i hi;show ((dN i).get (ym tm dd u)).wf;rw [mE];by_cases e1:dd=i
  ·subst e1;rw [jQ];exact hu
  ·rw [lO hk hi e1];exact h i hi
theorem KW.wt {tm:TM} (h:KW K tm):WT K tm:=by
 refine ⟨fun i=>?_,h⟩;rw [kf]
 cases hk:jD K i with
 | true=>exact h i hk
 | false=>exact BL
theorem RL {d:Option Nat} (h:EJ N K d=true):dW N d=true:=by
 cases d with
 | none=>rfl
 | some dd=>unfold EJ at h;rw [Bool.and_eq_true] at h;exact h.1
theorem pJ {all:List Oper} {L:List (Nat×V)} {tm:TM} (h :∀ s,dL L s=AL K tm s) (o:Oper):hO all L o=HO K all tm o:=by
 unfold hO HO
 cases o.guard with
 | none=>rfl
 | some q=>
  simp only
  cases all[q.1]? with
  | none=>rfl
  | some oj=>
   simp only
   cases oj.dst with
   | none=>rfl
   | some dj=>simp only;rw [h];rfl
theorem OL {rs:List Nat} {L:List (Nat×V)} {tm:TM} (h :∀ s,dL L s=AL K tm s):bV rs L=la K rs tm:=by funext x;cases x <;> simp only [bV,la];rw [h]
theorem Q8 {v:V} {w:W} (h:wEx v=some w):w.bK=v/\w.wf:=by
 cases v with
 | agg cs=>
  have h :(Bool.rec (motive:=fun _=>Option W) none (some (.agg (su cs) cs.length)) (je cs):Option W)=some w:=h
  cases ho:je cs with
  | false=>rw [ho] at h;cases h
  | true=>rw [ho] at h;cases h;have hc:=gW.su ho;exact ⟨by show V.agg (ga _ _)=_;rw [hc.ga],⟨_,hc⟩⟩
 | tup vs=>cases h
 | _=>cases h;exact ⟨rfl,trivial⟩
theorem BO :∀ {vs:List V} {l:List W},Q9 vs=some l->l.map W.bK=vs/\∀ w∈l,w.wf
 | [],l,h=>by cases h;exact ⟨rfl,fun w hw=>by cases hw⟩
 | v::vs,l,h=>by
  simp only [Q9] at h;split at h
  case h_2=>cases h
  rename_i w hw;split at h
  case h_2=>cases h
  rename_i l' hl;cases h;obtain ⟨h1,h2⟩:=Q8 hw;obtain ⟨h3,h4⟩:=BO hl;refine ⟨by rw [List.map_cons,h1,h3],fun x hx=>?_⟩;rcases List.mem_cons.1 hx with rfl|hx
  ·exact h2
  ·exact h4 x hx
theorem G4 {v:V} {u:U} (h:uEx v=some u):u.bK=oa v/\u.wf:=by
 cases v with
 | agg cs=>
  have h :(Bool.rec (motive:=fun _=>Option U) none (some (.agg (su cs) cs.length)) (je cs):Option U)=some u:=h
  cases ho:je cs with
  | false=>rw [ho] at h;cases h
  | true=>rw [ho] at h;cases h;have hc:=gW.su ho;exact ⟨by show V.agg (ga _ _)=_;rw [hc.ga];rfl,⟨_,hc⟩⟩
 | tup vs=>
  have h :(match Q9 vs with|some l=>some (U.tup l)|none=>none:Option U)=some u:=h;split at h
  case h_2=>cases h
  rename_i l hl;cases h;obtain ⟨h1,h2⟩:=BO hl;exact ⟨by show V.tup (l.map W.bK)=_;rw [h1];rfl,h2⟩
 | _=>cases h;exact ⟨rfl,trivial⟩
theorem KV {hp:HP} {h:Nat} (hl :¬ h<262144) (b:Bk):eV hp h b=hp:=by rw [qI,Jf hl]
theorem xD {hp:HP} (j:Nat) :∀ (R:List Nat) (t:HP),bZ (xC hp R t) j=if j∈R then bZ hp j else bZ t j
 | [],t=>by simp [xC]
 | h::R,t=>by
  simp only [xC];rw [xD j R];by_cases e:j∈R
  ·simp [e]
  ·rw [if_neg e];by_cases e2:j=h
   ·subst e2;rw [if_pos List.mem_cons_self];by_cases hl:j<262144
    ·rw [vT hl]
    ·rw [sX hl,sX hl]
   ·rw [if_neg (by simp [e,e2])];by_cases hl:h<262144
    ·rw [Hn hl (Ne.symm e2)]
    ·rw [KV hl]
theorem S4 {hp:HP} (R:List Nat):fi (xC hp R jN)=cg (fi hp) R:=by
 funext j;unfold fi cg;rw [xD,CS]
 cases hm:aX R j with
 | true=>rw [if_pos (bp.1 hm)];rfl
 | false=>rw [if_neg (fun e=>by rw [bp.2 e] at hm;cases hm)];rfl
theorem S5 {hp:HP} (W:mX hp) (R:List Nat):mX (xC hp R jN):=fun j=>by
 rw [xD,CS];split
 ·exact W j
 ·trivial
theorem Bc {hp':HP} (W':mX hp') :∀ {keys:List Nat} {hp hp2:HP} {dh:List (Nat×bd)},mX hp->Mh hp' keys hp=some (hp2,dh)->fi hp2=aQ (fi hp) dh/\mX hp2/\∀ h b,find dh h=some b->fi hp' h=some b
 | [],hp,hp2,dh,W,h=>by cases h;exact ⟨rfl,W,fun h b hb=>by cases hb⟩
 | q::r,hp,hp2,dh,W,h=>by
  unfold Mh at h;split at h
  case h_2=>cases h
  rename_i b hb;split at h
  case h_2=>cases h
  rename_i hp1 dh1 h1;cases h;obtain ⟨e1,W1,e2⟩:=Bc W' W h1;have hq:q<262144:=Hm (fun e=>by rw [e] at hb;cases hb);refine ⟨?_,iV W1 hq (W' q),fun j b' hj=>?_⟩
  ·rw [iU hq hb,e1];funext k;simp only [aQ,find];cases Nat.beq q k <;> rfl
  ·simp only [find] at hj
   cases hx:Nat.beq q j with
   | true=>rw [hx,cond_true] at hj;cases hj;rw [<-bf hx];exact hb
   | false=>rw [hx] at hj;exact e2 j b' hj
theorem Bb {hp':HP} :∀ {keys:List Nat} {hp hp2:HP} {dh:List (Nat×bd)},Mh hp' keys hp=some (hp2,dh)->dh.map (·.1)=keys
 | [],hp,hp2,dh,h=>by cases h;rfl
 | q::r,hp,hp2,dh,h=>by
  unfold Mh at h;split at h
  case h_2=>cases h
  split at h
  case h_2=>cases h
  rename_i h1;cases h;rw [List.map_cons,Bb h1]
theorem W3 (c:C) (r:List Nat):W0 c r=c.bK.hs++r:=by cases c <;> rfl
theorem HT (t:CT) :∀ n i,hsT t n i=tG (yn t n i)
 | 0,_=>rfl
 | n+1,i=>by show W0 (dv t i) (hsT t n (i+1))=_;rw [W3,HT t n (i+1)];rfl
theorem vD {b:Bk} {B:bd} (h:b.vd=some B):CU b=B.hs:=by
 cases b with
 | none=>cases h
 | cells t n=>cases h;exact HT t n 0
 | grow v e t n=>cases h;exact HT t n 0
 | mp es=>cases h;rfl
theorem LA {b:Bk} (h:b.vd=none):CU b=[]:=by cases b <;> first|rfl|cases h
theorem Bw (hp:HP) :∀ n new acc,uq hp n new acc=qu (fi hp) n new acc
 | 0,_,_=>rfl
 | n+1,new,acc=>by
  simp only [uq,qu]
  have :(fun h=>CU (bZ hp h))=fun h=>(match fi hp h with|some b=>b.hs|none=> []:List Nat):=by
   funext h;unfold fi
   cases hb :(bZ hp h).vd with
   | none=>exact LA hb
   | some B=>exact vD hb
  rw [this];generalize new.filter (fun h=>!aX acc h)=add
  cases add with
  | nil=>rfl
  | cons a l=>exact Bw hp n _ _
theorem Lw (hp:HP) (R:List Nat) (m K:Nat) (v:V) (dh:List (Nat×bd)):CM hp R m K v dh=jK (fi hp) R m K v dh:=by
 unfold CM jK
 have :(fun h=>bif abc (bZ hp h) then qa R m K (CU (bZ hp h)) else false)=fun h=>(match fi hp h with|some b=>qa R m K b.hs|none=>false:Bool):=by
  funext h;unfold fi
  cases hb:bZ hp h with
  | none=>rfl
  | cells t n=>show qa R m K (CU (.cells t n))=_;rw [vD (B:= .cells (ga t n)) rfl];rfl
  | grow v e t n=>show qa R m K (CU (.grow v e t n))=_;rw [vD (B:= .grow v e (ga t n)) rfl];rfl
  | mp es=>show qa R m K (CU (.mp es))=_;rw [vD (B:= .mp es) rfl];rfl
 rw [this];rfl
theorem WO {a b:Int} (h:WN a b=true):a=b:=by rw [HB] at h;simpa using h
theorem lS {p q:Bool} (h :(Bool.rec (motive:=fun _=>Bool) false q p:Bool)=true):p=true/\q=true:=by cases p <;> cases q <;> first|exact ⟨rfl,rfl⟩|cases h
theorem WM {c d:C} (h:eqC c d=true):c.bK=d.bK:=by
 cases c <;> cases d <;> first|cases h|skip
 ·obtain ⟨h1,h2⟩:=lS h;rw [JH h1,WO h2]
 ·rename_i b b';cases b <;> cases b' <;> first|rfl|cases h
 ·obtain ⟨h1,h2⟩:=lS h;rw [bf h1,bf h2]
 ·obtain ⟨h1,h2⟩:=lS h;obtain ⟨h2,h3⟩:=lS h2;rw [bf h1,bf h2,bf h3]
 ·obtain ⟨h1,h2⟩:=lS h;obtain ⟨h2,h3⟩:=lS h2;obtain ⟨h3,h4⟩:=lS h3;obtain ⟨h4,h5⟩:=lS h4;rw [bf h1,bf h2,bf h3,bf h4,bf h5]
 ·exact V.wi _ _ h
theorem HC {t t':CT} :∀ n i,eqT t t' n i=true->yn t n i=yn t' n i
 | 0,_,_=>rfl
 | n+1,i,h=>by obtain ⟨hc,h⟩:=lS (show (Bool.rec (motive:=fun _=>Bool) false (eqT t t' n (i+1)) (eqC (dv t i) (dv t' i)):Bool)=true from h);simp only [yn];rw [WM hc,HC n (i+1) h]
theorem RP {b d:Bk} (h:Lr b d=true):b.vd=d.vd:=by
 cases b <;> cases d <;> first|cases h|skip
 ·rfl
 ·obtain ⟨h1,h2⟩:=lS h;have e:=bf h1;subst e;show some (bd.cells (ga _ _))=some (bd.cells (ga _ _));unfold ga;rw [HC _ _ h2]
 ·obtain ⟨h1,k1⟩:=lS h;obtain ⟨h2,k2⟩:=lS k1;obtain ⟨h3,h4⟩:=lS k2;have e1:=bf h1;have e2:=bf h2;have e3:=bf h3;subst e1;subst e2;subst e3;show some (bd.grow _ _ (ga _ _))=some (bd.grow _ _ (ga _ _));unfold ga;rw [HC _ _ h4]
 ·show some (bd.mp _)=some (bd.mp _);rw [Ju _ _ h]
theorem Cr {call:gE} (hcall:CallVOK P call) {g:FuncId} {args:List U} {hp:HP} (W:mX hp) (Wa :∀ x∈args,x.wf) {R:List Nat} {m:Nat} {k:U->HP->List (Nat×bd)->Nat->Rv} {l:Lf} {tm':TM} {hp':HP} {nx':Nat} (h:Hx call g args hp R m k = .go l tm' hp' nx') :
  ∃ u hp2 dh nx,k u hp2 dh nx = .go l tm' hp' nx'/\u.wf/\mX hp2/\fi hp2=aQ (fi hp) dh/\(∃ fn,P.funcs[g]?=some fn/\fn.body.isSome=true/\(fn.name == "runtime.NumGoroutine")=false)/\m<=nx/\
   ∀ (B:aK) (E:Env) (av:List Value),aM B E->E.H=cg (fi hp) R->ai E (args.map U.bK) av->(∀ n,m<=n->n<nx->¬ E.U n)->
    Calls P g av.toArray E.w fun e w'=>∃ E' v',e = .returned v'/\GoodK B E m (nx+1 - m) dh w' E'/\ae E' u.bK v':=by
 unfold Hx at h;split at h
 case h_2=>cases h
 case h_3=>cases h
 rename_i u hp1 nx1 hc;simp only [qT] at h;generalize hkeys :(uq hp1 64 (u.bK.hs++R.filter fun h=>!Lr (bZ hp h) (bZ hp1 h)) []).filter (fun h=>!(aX R h&&!aX (R.filter fun h=>!Lr (bZ hp h) (bZ hp1 h)) h))=keys at h
 cases hall :(R.filter fun h=>!Lr (bZ hp h) (bZ hp1 h)).all (fun h=>aX keys h) with
 | false=>rw [hall] at h;cases h
 | true=>
  rw [hall] at h;simp only [cond_true] at h;split at h
  case h_2=>cases h
  rename_i hp2 dh hm;have F:=hcall.ok g args _ m u hp1 nx1 Wa (S5 W R) hc;obtain ⟨e1,W2,e2⟩:=Bc F.hw W hm;refine ⟨u,hp2,dh,nx1,h,F.wf,W2,e1,F.fn,F.le,fun B E av hE hH hav hfr=>?_⟩;refine (F.calls B E av hE (by rw [hH,S4]) hav hfr).mono fun e w' hh=>?_;obtain ⟨E',v',rfl,C⟩:=hh
  obtain ⟨R1,X1⟩:=C.rel.Ra (aQ E.H dh) (fun j k' hk=>by
   refine ⟨k',?_,.inl rfl⟩;rw [C.h];unfold aQ at hk
   cases hf:find dh j with
   | some b=>rw [hf] at hk;simp only [Option.some.injEq] at hk;subst hk;exact e2 j b hf
   | none=>
    rw [hf] at hk;simp only at hk;rw [hH] at hk;unfold cg at hk
    cases hm1:aX R j with
    | false=>rw [hm1] at hk;cases hk
    | true=>
     rw [hm1] at hk;simp only [cond_true] at hk
     cases he:Lr (bZ hp j) (bZ hp1 j) with
     | false=>
      have h5:=List.all_eq_true.1 hall j (List.mem_filter.2 ⟨bp.1 hm1,by rw [he];rfl⟩);rw [<-Bb hm] at h5;exact absurd hf (CG h5)
     | true=>
      have h5:fi hp j=fi hp1 j:=RP he
      rw [<-h5];exact hk)
  exact ⟨_,v',rfl,⟨R1,C.ext.trans X1,C.w,rfl,fun n hn=>by
   rcases C.u n hn with h|h
   ·exact .inl h
   ·exact .inr ⟨h.1,by have:=h.2;omega⟩⟩,ca X1 _ _ C.v⟩
theorem tj {ms:List Nat} {i:Nat} {r:Rec} :∀ {ss:List Rec} {j:Nat},NN ms i r j ss=true->∀ k s,ss[k]?=some s->Mu ms i (j+k)=true\/NM r s=true
 | [],j,_,k,s,h=>by simp at h
 | s0::ss,j,h,k,s,hs=>by
  simp only [NN,Bool.and_eq_true,Bool.or_eq_true] at h
  cases k with
  | zero=>simp only [List.getElem?_cons_zero,Option.some.injEq] at hs;subst hs;exact h.1
  | succ k=>
   have:=tj h.2 k s (by simpa using hs)
   rwa [show j+1+k=j +(k+1) by omega] at this
theorem th {ms:List Nat} {recs:List Rec} :∀ {rs:List Rec} {i:Nat},Lo ms recs i rs=true->∀ k r,rs[k]?=some r->r.dh=[]\/NN ms (i+k) r 0 recs=true
 | [],i,_,k,r,h=>by simp at h
 | r0::rs,i,h,k,r,hr=>by
  simp only [Lo,Bool.and_eq_true] at h
  cases k with
  | zero=>
   simp only [List.getElem?_cons_zero,Option.some.injEq] at hr;subst hr
   cases hd:r0.dh with
   | nil=>exact .inl rfl
   | cons q l=>have h1:=h.1;rw [hd] at h1;exact .inr h1
  | succ k=>
   have:=th h.2 k r (by simpa using hr)
   rwa [show i+1+k=i +(k+1) by omega] at this
theorem yc {ms:List Nat} {all:List Oper} {i:Nat} {o:Oper} :∀ {os:List Oper} {j:Nat},Kw ms all i o j os=true->∀ k o',os[k]?=some o'->((ms[j+k]?).getD 0).testBit i=true\/Kv all o o'=true
 | [],j,_,k,s,h=>by simp at h
 | s0::ss,j,h,k,s,hs=>by
  simp only [Kw,Bool.and_eq_true,Bool.or_eq_true] at h
  cases k with
  | zero=>simp only [List.getElem?_cons_zero,Option.some.injEq] at hs;subst hs;exact h.1
  | succ k=>
   have:=yc h.2 k s (by simpa using hs)
   rwa [show j+1+k=j +(k+1) by omega] at this
theorem yb {ms:List Nat} {all:List Oper} :∀ {os:List Oper} {i:Nat},Kt ms all i os=true->∀ k l o o',os[k]?=some o->os[k+1+l]?=some o'->((ms[i +(k+1+l)]?).getD 0).testBit (i+k)=true\/Kv all o o'=true
 | [],i,_,k,l,o,o',h,_=>by simp at h
 | o0::os,i,h,k,l,o,o',ho,ho'=>by
  simp only [Kt,Bool.and_eq_true] at h
  cases k with
  | zero=>
   simp only [List.getElem?_cons_zero,Option.some.injEq] at ho;subst ho
   have:=yc h.1 l o' (by rw [show 0+1+l=l+1 by omega] at ho';simpa using ho')
   rwa [show i+1+l=i +(0+1+l) by omega] at this
  | succ k=>
   have:=yb h.2 k l o o' (by simpa using ho) (by rw [show k+1+1+l =(k+1+l)+1 by omega] at ho';simpa using ho')
   rwa [show i+1 +(k+1+l)=i +(k+1+1+l) by omega,show i+1+k=i +(k+1) by omega] at this
theorem Bt {ms:List Nat} {i:Nat} {r:Rec} :∀ {ss:List Rec} {j:Nat},(∀ k s,ss[k]?=some s->((ms[j+k]?).getD 0).testBit i=true\/comm r s=true)->uh ms i r j ss=true
 | [],j,_=>rfl
 | s0::ss,j,h=>by
  simp only [uh,Bool.and_eq_true,Bool.or_eq_true];refine ⟨h 0 s0 (by simp),Bt fun k s hs=>?_⟩
  have:=h (k+1) s (by simpa using hs)
  rwa [show j +(k+1)=j+1+k by omega] at this
theorem zC {ms:List Nat} :∀ {rs:List Rec} {i:Nat},(∀ k l r s,rs[k]?=some r->rs[k+1+l]?=some s->((ms[i +(k+1+l)]?).getD 0).testBit (i+k)=true\/comm r s=true)->fV ms i rs=true
 | [],i,_=>rfl
 | r0::rs,i,h=>by
  simp only [fV,Bool.and_eq_true];refine ⟨Bt fun k s hs=>?_,zC fun k l r s hr hs=>?_⟩
  ·have:=h 0 k r0 s (by simp) (by rw [show 0+1+k=k+1 by omega];simpa using hs)
   rwa [show i +(0+1+k)=i+1+k by omega] at this
  ·have:=h (k+1) l r s (by simpa using hr) (by rw [show k+1+1+l =(k+1+l)+1 by omega];simpa using hs)
   rwa [show i +(k+1+1+l)=i+1 +(k+1+l) by omega,show i +(k+1)=i+1+k by omega] at this
theorem WH {all:List Oper} {recs:List Rec} (hlen:recs.length=all.length) (hrec :∀ (i:Nat) (o:Oper) (r:Rec),all[i]?=some o->recs[i]?=some r->r.dst=o.dst/\r.rs=aV all o) (hs:Ku all=true) (hd:Lo (cM all []) recs 0 recs=true):dT 0 all=true/\fV (cM all []) 0 recs=true:=by
 unfold Ku at hs;rw [Bool.and_eq_true] at hs;refine ⟨hs.1,zC fun k l r s hr hs'=>?_⟩;have hkl:k+1+l<recs.length:=(List.getElem?_eq_some_iff.1 hs').1;obtain ⟨o,ho⟩ :∃ o,all[k]?=some o:=⟨all[k]'(by omega),List.getElem?_eq_getElem (by omega)⟩;obtain ⟨o',ho'⟩ :∃ o',all[k+1+l]?=some o':=⟨all[k+1+l]'(by omega),List.getElem?_eq_getElem (by omega)⟩;have e1:=hrec _ _ _ ho hr;have e2:=hrec _ _ _ ho' hs';rcases yb hs.2 k l o o' ho ho' with h|h
 ·exact .inl h
 rw [Nat.zero_add,Nat.zero_add]
 have hne:Nat.beq k (k+1+l)=false:=by
  cases hb:Nat.beq k (k+1+l) with
  | false=>rfl
  | true=>have:=bf hb;omega
 have hne':Nat.beq (k+1+l) k=false:=by
  cases hb:Nat.beq (k+1+l) k with
  | false=>rfl
  | true=>have:=bf hb;omega
 have hlt:Nat.blt k (k+1+l)=true:=by rw [Nat.blt_eq];omega
 have hlt':Nat.blt (k+1+l) k=false:=by
  cases hb:Nat.blt (k+1+l) k with
  | false=>rfl
  | true=>rw [Nat.blt_eq] at hb;omega
 have o1:Mu (cM all []) k (k+1+l) =(((cM all [])[k+1+l]?).getD 0).testBit k:=by unfold Mu;rw [hne,hlt];rfl
 have o2:Mu (cM all []) (k+1+l) k =(((cM all [])[k+1+l]?).getD 0).testBit k:=by unfold Mu;rw [hne',hlt'];rfl
 cases hbit :(((cM all [])[k+1+l]?).getD 0).testBit k with
 | true=>exact .inl rfl
 | false=>
  refine .inr ?_
  have d1:r.dh=[]\/NM r s=true:=by
   rcases th hd k r hr with h1|h1
   ·exact .inl h1
   ·rcases tj h1 (k+1+l) s hs' with h2|h2
    ·rw [Nat.zero_add,Nat.zero_add,o1,hbit] at h2;cases h2
    ·exact .inr h2
  have d2:s.dh=[]\/NM s r=true:=by
   rcases th hd (k+1+l) s hs' with h1|h1
   ·exact .inl h1
   ·rcases tj h1 k r hr with h2|h2
    ·rw [Nat.zero_add,Nat.zero_add,o2,hbit] at h2;cases h2
    ·exact .inr h2
  unfold Kv at h;unfold comm;rw [e1.1,e1.2,e2.1,e2.2];simp only [Bool.and_eq_true] at h ⊢;refine ⟨h,?_⟩;unfold NM at d1 d2;simp only [Bool.and_eq_true] at d1 d2;refine ⟨⟨?_,?_⟩,?_⟩
  ·rcases d1 with h1|h1
   ·rw [h1];rfl
   ·exact h1.1
  ·rcases d1 with h1|h1
   ·rw [h1];rfl
   ·exact h1.2
  ·rcases d2 with h1|h1
   ·rw [h1];rfl
   ·exact h1.2
theorem zm {ms:List Nat} {i h0:Nat} {okB:bd->Bool} :∀ {ss:List Rec} {j:Nat},Nd ms i h0 okB j ss=true->∀ k s b,ss[k]?=some s->find s.dh h0=some b->j+k≠i->
  (j+k<i->((ms[i]?).getD 0).testBit (j+k)=true)/\(i<j+k->((ms[j+k]?).getD 0).testBit i=true\/okB b=true)
 | [],j,_,k,s,b,h,_,_=>by simp at h
 | s0::ss,j,h,k,s,b,hs,hb,hne=>by
  simp only [Nd,Bool.and_eq_true] at h
  cases k with
  | zero=>
   simp only [List.getElem?_cons_zero,Option.some.injEq] at hs;subst hs;have h1:=h.1;rw [hb] at h1;simp only [Bool.or_eq_true,Nat.add_zero] at h1 hne ⊢;rcases h1 with h1|h1
   ·exact absurd (bf h1).symm hne
   ·refine ⟨fun hlt=>?_,fun hgt=>?_⟩
    ·rw [show Nat.blt j i=true by rw [Nat.blt_eq];exact hlt] at h1;exact h1
    ·rw [show Nat.blt j i=false by cases hx:Nat.blt j i with|false=>rfl|true=>rw [Nat.blt_eq] at hx;omega] at h1;simpa using h1
  | succ k=>
   have:=zm h.2 k s b (by simpa using hs) hb (by omega)
   rwa [show j+1+k=j +(k+1) by omega] at this
theorem zj {ms:List Nat} {recs:List Rec} :∀ {asz:List Alt} {i:Nat},B1 ms recs i asz=true->∀ k h0 okB,asz[k]?=some (some (h0,okB))->Nd ms (i+k) h0 okB 0 recs=true
 | [],i,_,k,h0,okB,h=>by simp at h
 | a0::asz,i,h,k,h0,okB,ha=>by
  cases k with
  | zero=>simp only [List.getElem?_cons_zero,Option.some.injEq] at ha;subst ha;simp only [B1,Bool.and_eq_true] at h;exact h.1
  | succ k=>
   have h2:B1 ms recs (i+1) asz=true:=by
    cases a0 with
    | none=>exact h
    | some q=>obtain ⟨a,b⟩:=q;simp only [B1,Bool.and_eq_true] at h;exact h.2
   have:=zj h2 k h0 okB (by simpa using ha)
   rwa [show i+1+k=i +(k+1) by omega] at this
theorem Wm {ms:List Nat} {recs:List Rec} {asz:List Alt} (h:B1 ms recs 0 asz=true):vM (fun n=>(asz[n]?).getD none) ms recs:=fun i h0 okB ha j s b hs hb hne=>by
 have ha:asz[i]?=some (some (h0,okB)):=by
  have ha :(asz[i]?).getD none=some (h0,okB):=ha
  cases hx:asz[i]? with
  | none=>rw [hx] at ha;cases ha
  | some a=>rw [hx] at ha;simp only [Option.getD_some] at ha;rw [ha]
 have:=zm (zj h i h0 okB ha) j s b hs hb (by omega)
 simpa using this
section
variable {call:gE} {all:List Oper}
theorem zF (hT:cn P tb) (hcall:CallVOK P call) {st:St} :∀ (rest:List Oper) (tm:TM) (hp:HP) (nx:Nat) (rr:List (Rec×Alt)) (ra:List (Rec×Alt)) (recs:List Rec) (d:Dl) (l:Lf) (tm':TM) (hp':HP) (nx':Nat),oq tb N K call all rest tm hp nx rr = .go l tm' hp' nx'->rr.reverse=ra->ra.map (·.1)=recs->
  KW K tm->mX hp->FL K tm (d.tm++st.tm)->aQ st.H d.hp=fi hp->∀ i,recs.length+rest.length=all.length->(∀ (j:Nat) (o:Oper),rest[j]?=some o->all[recs.length+j]?=some o)->(∀ (j:Nat) (o:Oper) (r:Rec),all[j]?=some o->recs[j]?=some r->r.dst=o.dst/\r.rs=aV all o)->
  l = .nrm/\KW K tm'/\mX hp'/\∃ (ks:List (Nat×Cfg)) (als:List Alt) (df:Dl) (rf:List Rec),ks.length=rest.length/\rA nx ks nx'/\(∀ q∈ks,CfgOK P q.2/\q.2.N=N)/\
   (∀ (Cf:Nat->Cfg) (lo:Nat->Nat) (al:Nat->Alt),(∀ j q,ks[j]?=some q->Cf (i+j)=q.2/\lo (i+j)=q.1)->(∀ j x,als[j]?=some x->al (i+j)=x)->RunV Cf lo al all st i rest d recs df rf)/\
   dT 0 all=true/\fV (cM all []) 0 rf=true/\vM (fun n=>((ra.map (·.2)++als)[n]?).getD none) (cM all []) rf/\FL K tm' (df.tm++st.tm)/\aQ st.H df.hp=fi hp'
 | [],tm,hp,nx,rr,ra,recs,d,l,tm',hp',nx',h,hrr,hra,Wt,Wh,h2,h3,i,hln,_,hrc=>by
  simp only [oq,hrr,hra] at h
  cases hc:Ku all&&(Lo (cM all []) recs 0 recs&&B1 (cM all []) recs 0 (ra.map (·.2))) with
  | false=>rw [hc] at h;cases h
  | true=>rw [hc] at h;simp only [cond_true,Rv.go.injEq] at h;obtain ⟨rfl,rfl,rfl,rfl⟩:=h;simp only [Bool.and_eq_true] at hc;have hal:=Wm hc.2.2;have hc:=WH (by simpa using hln) hrc hc.1 hc.2.1;exact ⟨rfl,Wt,Wh,[],[],d,recs,rfl,rfl,fun q hq=>by simp at hq,fun _ _ _ _ _=> .nil,hc.1,hc.2,by simpa using hal,h2,h3⟩
 | o::rest,tm,hp,nx,rr,ra,recs,d,l,tm',hp',nx',h,hrr,hra,Wt,Wh,h2,h3,i,hln,hall,hrc=>by
  simp only [oq] at h
  cases hd0:EJ N K o.dst with
  | false=>rw [hd0] at h;cases h
  | true=>
   rw [hd0] at h;simp only [cond_true] at h;have hd:=RL hd0;have h1:=h2.look
   have glue :∀ (C0:Cfg) (alt:Alt) (r:Rec) (u:U) (hp1:HP) (nx1:Nat),CfgOK P C0->C0.N=N->nx+C0.K<=nx1->uw C0 alt all (d.tm++st.tm) (aQ st.H d.hp) nx o r->
     u.bK=r.v->r.dst=o.dst->u.wf->mX hp1->fi hp1=aQ (fi hp) r.dh->oq tb N K call all rest (qt o.dst u tm) hp1 nx1 ((r,alt)::rr) = .go l tm' hp' nx'->
     l = .nrm/\KW K tm'/\mX hp'/\∃ (ks:List (Nat×Cfg)) (als:List Alt) (df:Dl) (rf:List Rec),ks.length =(o::rest).length/\rA nx ks nx'/\(∀ q∈ks,CfgOK P q.2/\q.2.N=N)/\
      (∀ (Cf:Nat->Cfg) (lo:Nat->Nat) (al:Nat->Alt),(∀ j q,ks[j]?=some q->Cf (i+j)=q.2/\lo (i+j)=q.1)->(∀ j x,als[j]?=some x->al (i+j)=x)->RunV Cf lo al all st i (o::rest) d recs df rf)/\
      dT 0 all=true/\fV (cM all []) 0 rf=true/\vM (fun n=>((ra.map (·.2)++als)[n]?).getD none) (cM all []) rf/\FL K tm' (df.tm++st.tm)/\aQ st.H df.hp=fi hp':=fun C0 alt r u hp1 nx1 hC hCN hle hdo hu hrd huw W1 hhp hrest=>by
    have hf':FL K (qt o.dst u tm) (dw r.dst r.v++d.tm++st.tm):=by rw [List.append_assoc,hrd];exact h2.put hd0 hu
    obtain ⟨q1,q2,q3,ks,als,df,rf,k1,k2,k3,k4,k5a,k5b,k5c,k5⟩:=zF hT hcall (st:=st) rest (qt o.dst u tm) hp1 nx1 ((r,alt)::rr) (ra++[(r,alt)]) (recs++[r]) ⟨dw r.dst r.v++d.tm,r.dh++d.hp⟩ l tm' hp' nx' hrest (by rw [List.reverse_cons,hrr]) (by rw [List.map_append,hra];rfl) (Wt.put hd0 huw) W1 hf' (by rw [cY,h3,hhp]) (i+1) (by simp at hln ⊢;omega) (fun j o' hj=>by
     have:=hall (j+1) o' (by simpa using hj)
     rw [List.length_append,List.length_singleton,show recs.length+1+j=recs.length +(j+1) by omega];exact this) (fun j o' r' ho' hr'=>by
     rcases Nat.lt_or_ge j recs.length with hj|hj
     ·rw [List.getElem?_append_left hj] at hr';exact hrc j o' r' ho' hr'
     ·rw [List.getElem?_append_right hj] at hr'
      have hj0:j - recs.length=0:=by
       cases hx:j - recs.length with
       | zero=>rfl
       | succ n=>rw [hx] at hr';simp at hr'
      rw [hj0] at hr';simp only [List.getElem?_cons_zero,Option.some.injEq] at hr';subst hr'
      have:=hall 0 o (by simp)
      rw [Nat.add_zero,show recs.length=j by omega] at this;rw [this] at ho';cases ho';obtain ⟨_,q1,q2⟩:=hdo.dW
      exact ⟨q1,q2⟩)
    refine ⟨q1,q2,q3,(nx,C0)::ks,alt::als,df,rf,by simp [k1],⟨rfl,nx1,hle,k2⟩,fun q hq=>?_,fun Cf lo al hCf hal=>?_,k5a,k5b,by simpa using k5c,k5⟩
    ·rcases List.mem_cons.1 hq with rfl|hq
     ·exact ⟨hC,hCN⟩
     ·exact k3 q hq
    ·have h0:=hCf 0 (nx,C0) (by simp);have h0a:=hal 0 alt (by simp);refine .cons (r:=r) ?_ (k4 Cf lo al (fun j q hq=>?_) fun j x hx=>?_)
     ·rw [show i=i+0 from rfl,h0.1,h0.2,h0a];exact hdo
     ·have:=hCf (j+1) q (by simpa using hq)
      rw [show i+1+j=i +(j+1) by omega];exact this
     ·have:=hal (j+1) x (by simpa using hx)
      rw [show i+1+j=i +(j+1) by omega];exact this
   have hmask :∀ rs,bV rs (d.tm++st.tm)=la K rs tm:=fun rs=>OL h1;have hC1:CfgOK P ⟨tb,fun _=>none,1,N⟩:=⟨hT,Nat.le_refl _,fun _ _ h=>by cases h⟩;split at h
   ·rename_i hg;rw [fj] at h;exact glue ⟨tb,fun _=>none,1,N⟩ none ⟨o.dst,.tup [],[],[],aV all o⟩ (.tup []) hp (nx+1) hC1 rfl (Nat.le_refl _) (.old (.skip hd (by rw [pJ h1];exact hg))) rfl rfl (fun w hw=>by cases hw) Wh rfl h
   ·rename_i hg;simp only [qT,Bw,Lw] at h;cases hdir:rH (la K (aV all o) tm) o.op
    case true=>
     rw [hdir] at h;simp only [cond_true] at h;split at h
     case h_1=>cases h
     rename_i ps v dh he
     cases hps:ps.all Ob.B7 with
     | false=>rw [hps] at h;cases h
     | true=>
      rw [hps] at h;simp only [cond_true] at h;split at h
      case h_2=>cases h
      rename_i u hp2 hu hs;rw [fj] at h;obtain ⟨hu1,hu2⟩:=G4 hu;obtain ⟨hs1,hs2⟩:=nC Wh hs;have hev:=tq tb N nx _ _ o.op he;refine glue ⟨tb,fun _=>none,1,N⟩ none ⟨o.dst,oa v,dh,_,aV all o⟩ u hp2 (nx+1) hC1 rfl (Nat.le_refl _) (.dir (v:=v) (ps:=ps) hd (by rw [pJ h1];exact hg) (by rw [hmask,h3];exact hev) (fun H2 hag=>?_) (fun p hp=>Ob.s9 (List.all_eq_true.1 hps p hp)) (by cases v <;> simp [oa])) hu1 rfl hu2 hs2 hs1 h;rw [hmask];rw [h3] at hag ⊢;exact fun _=>EH hdir (fun x hx k hk=>hag k (List.mem_flatMap.2 ⟨x,hx,hk⟩))
    rw [hdir] at h;simp only [cond_false] at h;split at h
    ·rename_i g args he
     have hwa :∀ x∈args.map mG,x.wf:=fun x hx=>by obtain ⟨v,_,rfl⟩:=List.mem_map.1 hx;exact nJ v
     obtain ⟨u,hp2,dh,nx2,h,huw,W2,hhp,hfn,hle,hcalls⟩:=Cr hcall Wh hwa h
     cases hfr:jK (fi hp) (qu (fi hp) 8 (o.op.operands.toList.flatMap fun x=>(la K (aV all o) tm x).hs) []) nx (nx2+1 - nx) u.bK dh with
     | false=>rw [hfr] at h;cases h
     | true=>
      rw [hfr] at h;simp only [cond_true,fj] at h;obtain ⟨c,f,caps,ho,hf,hg2,hargs,hpl⟩:=NS tb N nx _ _ o.op he
      let ct:dR:=fun args' H' m'=>open Classical in if args'=args/\H'=cg (fi hp) (qu (fi hp) 8 (o.op.operands.toList.flatMap fun x=>(la K (aV all o) tm x).hs) [])/\m'=nx then some ([],u.bK,dh) else none
      let C0:Cfg:=⟨tb,fun g'=>if g'=g then some ct else none,nx2+1 - nx,N⟩
      have hK:1<=nx2+1 - nx:=by omega
      have hC:CfgOK P C0:=⟨hT,hK,fun f' c' hf'=>by
       have hf2 :(if f'=g then some ct else none)=some c':=hf';split at hf2
       case isFalse=>cases hf2
       rename_i e;cases hf2;subst e;refine ⟨hfn,fun B E hE args' av hav m hm ps' v' dh' hp2 _=>?_⟩;simp only [ct] at hp2;split at hp2
       case isFalse=>cases hp2
       rename_i e;obtain ⟨rfl,e2,rfl⟩:=e;cases hp2;refine hcalls B E av hE e2 ?_ (fun n h1 h2=>hm n h1 (by show n<m +(nx2+1 - m);omega));rw [List.map_map]
       exact sQ (fun v=>v) _ nI args' av (by simpa using hav)⟩
      have hev:bn C0 nx (cg (fi hp) (qu (fi hp) 8 (o.op.operands.toList.flatMap fun x=>(la K (aV all o) tm x).hs) [])) (la K (aV all o) tm) o.op=some ([],u.bK,dh):=by simp only [bn,ho,du,c7,hf,hg2,C0,if_true,Iz hpl];rw [<-hargs];simp only [Cy,ct];rw [if_pos ⟨rfl,by rw [ho],rfl⟩];rfl
      refine glue C0 none ⟨o.dst,u.bK,dh,_,aV all o⟩ u hp2 (nx2+1) hC rfl (by show nx +(nx2+1 - nx)<=nx2+1;omega) (.old <| .run (v:=u.bK) hd (by rw [pJ h1];exact hg) (by
       simp only [py];rw [hmask,h3];rw [hev];simp only [C0,hfr,cond_true]
       rfl) (fun p hp=>by cases hp) (.inl rfl)) rfl rfl huw W2 hhp h
    ·cases h
    ·rename_i ps v dh he
     cases hfr:ps.all Ob.B7&&jK (fi hp) (qu (fi hp) 8 (o.op.operands.toList.flatMap fun x=>(la K (aV all o) tm x).hs) []) nx 1 v dh with
     | false=>rw [hfr] at h;cases h
     | true=>
      rw [hfr] at h;simp only [cond_true] at h;simp only [Bool.and_eq_true] at hfr;split at h
      case h_2=>cases h
      rename_i u hp2 hu hs;rw [fj] at h;obtain ⟨hu1,hu2⟩:=G4 hu;obtain ⟨hs1,hs2⟩:=nC Wh hs;have hev:=Lu tb N nx _ _ o.op he
      refine glue ⟨tb,fun _=>none,1,N⟩ none ⟨o.dst,oa v,dh,_,aV all o⟩ u hp2 (nx+1) hC1 rfl (Nat.le_refl _) (.old <| .run (v:=v) hd (by rw [pJ h1];exact hg) (by
       simp only [py];rw [hmask,h3];rw [hev]
       simp only [hfr.2,cond_true]) (fun p hp=>Ob.s9 (List.all_eq_true.1 hfr.1 p hp)) (by cases v <;> simp [oa])) hu1 rfl hu2 hs2 hs1 h
   ·cases h
theorem Hy (hT:cn P tb) (hP:P.follows .mixedOrders=true) (hcall:CallVOK P call) {tm:TM} {hp:HP} {nx:Nat} {l:Lf} {tm':TM} {hp':HP} {nx':Nat} (Wt:WT K tm) (Wh:mX hp) (h:oq tb N K call all all tm hp nx [] = .go l tm' hp' nx') (id:Nat) :
  EndsV N K yE u0 u0 u0 u0 tm hp nx l tm' hp' nx' (fun Q act w=>(Code.region id all.toArray true).wp P Q act w):=by
 obtain ⟨q1,q2,q3,ks,als,df,rf,k1,k2,k3,k4,k5,k6,k6a,k7,k8⟩:=zF hT hcall (st:=⟨GZ K tm 512,[],fi hp,nx⟩) all tm hp nx [] [] [] ⟨[],[]⟩ l tm' hp' nx' h rfl rfl Wt.tm Wh (BU tm) rfl 0 (by simp) (fun j o h=>by simpa using h) (fun j o r _ h=>by simp at h);refine ⟨q1,k2.le,q2.wt,q3,fun B E0 n0 Q E act hfr hQ hR=>?_⟩;have hC0:CfgOK P ⟨tb,fun _=>none,1,N⟩:=⟨hT,Nat.le_refl _,fun _ _ h=>by cases h⟩
 let Cf:Nat->Cfg:=fun j=>match ks[j]? with|some q=>q.2|none=>⟨tb,fun _=>none,1,N⟩
 let lo:Nat->Nat:=fun j=>match ks[j]? with|some q=>q.1|none=>0
 have hCf :∀ j q,ks[j]?=some q->Cf j=q.2/\lo j=q.1:=fun j q hq=>by simp only [Cf,lo,hq];exact ⟨trivial,trivial⟩
 have hget :∀ j,j<all.length->∃ q,ks[j]?=some q:=fun j hj=>⟨ks[j]'(by omega),List.getElem?_eq_getElem (by omega)⟩;have hle:n0<=nx:=hR.le
 have tmok :∀ {tm:TM} {L:List (Nat×V)} {E:Env} {act:Act},FL K tm L->(∀ i,jD K i=true->ae E ((dN i).get tm).bK (act.tmps.getD i undef))->gC E (find L) act:=fun {tm L E act} hL ht s v hv=>by
  rw [hL s] at hv;by_cases hk:jD K s=true
  ·rw [if_pos hk] at hv;cases hv;exact ht s hk
  ·rw [if_neg hk] at hv;cases hv
 refine Ln (Cf:=Cf) (lo:=lo) (al:=fun n=>(als[n]?).getD none) (N:=N) (fun j=>?_) (fun j=>?_) hP (k4 Cf lo _ (fun j q hq=>by rw [Nat.zero_add];exact hCf j q hq) (fun j x hx=>by rw [Nat.zero_add,hx];rfl)) k5 k6 (by simpa using k6a) hR.rel hR.h (tmok (BU tm) hR.tm.tm) hR.size hR.defers (fun j hj n h1 h2 hu=>?_) (fun i j hij hj=>?_) (fun E' a' r1 x1 h1 u1 t1 s1 d1=>?_) id
 ·show CfgOK P (match ks[j]? with|some q=>q.2|none=>⟨tb,fun _=>none,1,N⟩)
  cases hq:ks[j]? with
  | none=>exact hC0
  | some q=>exact (k3 q (List.mem_of_getElem? hq)).1
 ·show (match ks[j]? with|some q=>q.2|none=>(⟨tb,fun _=>none,1,N⟩:Cfg)).N=N
  cases hq:ks[j]? with
  | none=>rfl
  | some q=>exact (k3 q (List.mem_of_getElem? hq)).2
 ·obtain ⟨q,hq⟩:=hget j hj;obtain ⟨e1,e2⟩:=hCf j q hq;rw [e1,e2] at h2;rw [e2] at h1
  have:=k2.at j q hq
  rcases hR.u n hu with h3|h3
  ·exact hfr n (by omega) (by omega) h3
  ·have:=h3.2;omega
 ·obtain ⟨p,hp⟩:=hget i (by omega);obtain ⟨q,hq⟩:=hget j hj;rw [(hCf i p hp).1,(hCf i p hp).2,(hCf j q hq).2];exact k2.lt i j p q hij hp hq
 ·have t2:yB K yE u0 u0 u0 u0 tm' E' a':=by
   have h2 :∀ i,jD K i=true->ae E' ((dN i).get tm').bK (a'.tmps.getD i undef):=fun i hi=>t1 i _ (by rw [k7 i,if_pos hi]);refine ⟨fun i=>?_,h2⟩;rw [kf]
   cases hk:jD K i with
   | true=>exact h2 i hk
   | false=>exact rv
  refine hQ E' a' ⟨r1,hR.ext.trans x1,by rw [h1];exact k8,fun n hn=>?_,Nat.le_trans hle k2.le,t2,s1,d1⟩;rcases u1 n hn with h |⟨j,hj,h2,h3⟩
  ·rcases hR.u n h with h|h
   ·exact .inl h
   ·have:=k2.le;exact .inr ⟨h.1,by have:=h.2;omega⟩
  ·obtain ⟨q,hq⟩:=hget j hj;obtain ⟨e1,e2⟩:=hCf j q hq;rw [e1,e2] at h3;rw [e2] at h2
   have:=k2.at j q hq
   exact .inr ⟨by omega,by omega⟩
end
end
section
open Go.RowKit
variable {P:Program} {tb:bG} {N K:Nat} {call:gE}
structure EndsC (N K:Nat) (tm:TM) (hp:HP) (nx:Nat) (l:Lf) (tm':TM) (hp':HP) (nx':Nat) (W:Wp):Prop where
 le:nx<=nx'
 wt:WT K tm'
 hw:mX hp'
 wp :∀ (B:aK) (E0:Env) (n0:Nat) (Q:Exit->Act->World->Prop) (E:Env) (act:Act),(∀ n,n0<=n->n<nx'->¬ E0.U n)->(∀ E act,RX B E0 n0 N K tm' hp' nx' E act->Q (iw l) act E.w)->RX B E0 n0 N K tm hp nx E act->W Q act E.w
def Hh (N K:Nat) (f:KR) (W:Wp):Prop:=∀ (tm:TM) (hp:HP) (nx:Nat) (l:Lf) (tm':TM) (hp':HP) (nx':Nat),WT K tm->mX hp->f tm hp nx = .go l tm' hp' nx'->EndsC N K tm hp nx l tm' hp' nx' W
theorem AM {b:Code} {f:KR} (hf:Hh N K f (fun Q act w=>b.wp P Q act w)) :∀ n,Hh N K (OI f n) (fun Q act w=>Code.rounds P b Q n act w)
 | 0=>fun tm hp nx l tm' hp' nx' Wt Wh h=>by cases h
 | n+1=>fun tm hp nx l tm' hp' nx' Wt Wh h=>by
  have h:gB nx (fun nx=>TG (f tm hp nx) (OI f n)) = .go l tm' hp' nx':=h;rw [fj] at h
  cases hr:f tm hp nx with
  | no w=>rw [hr] at h;cases h
  | go e1 tm1 hp1 nx1=>
   rw [hr] at h;have h1:=hf tm hp nx e1 tm1 hp1 nx1 Wt Wh hr;have hl1:=h1.le
   cases e1 with
   | nrm=>
    have h2:=AM hf n tm1 hp1 nx1 l tm' hp' nx' h1.wt h1.hw h;have hl2:=h2.le;refine ⟨by omega,h2.wt,h2.hw,fun B E0 n0 Q E act hfr hQ hR=>?_⟩;show Code.rounds P b Q (n+1) act E.w;rw [rounds_succ];exact h1.wp B E0 n0 _ E act (fun k h3 h4=>hfr k h3 (by omega)) (fun E act hR1=>h2.wp B E0 n0 Q E act hfr hQ hR1) hR
   | ext id=>cases h;refine ⟨hl1,h1.wt,h1.hw,fun B E0 n0 Q E act hfr hQ hR=>?_⟩;show Code.rounds P b Q (n+1) act E.w;rw [rounds_succ];exact h1.wp B E0 n0 _ E act hfr (fun E act hR1=>hQ E act hR1) hR
   | ret=>cases h;refine ⟨hl1,h1.wt,h1.hw,fun B E0 n0 Q E act hfr hQ hR=>?_⟩;show Code.rounds P b Q (n+1) act E.w;rw [rounds_succ];exact h1.wp B E0 n0 _ E act hfr (fun E act hR1=>hQ E act hR1) hR
theorem Oc {e:En} {i:Nat} {k:Gt->Cd}:JC K e i k=k (eZ K e i):=by
 unfold JC eZ;cases Nat.beq e.e0 (Nat.succ i)
 case true=>rfl
 cases Nat.beq e.e1 (Nat.succ i)
 case true=>rfl
 cases Nat.beq e.e2 (Nat.succ i)
 case true=>rfl
 cases Nat.beq e.e3 (Nat.succ i)
 case true=>rfl
 cases jD K i
 case true=>rfl
 rfl
attribute [local irreducible] ly in
theorem iu (hT:cn P tb) (hP:P.follows .mixedOrders=true) (hcall:CallVOK P call) :∀ (c:Code),Hh N K ((il tb N K c).run call) (fun Q act w=>c.wp P Q act w)
 | .skip=>fun tm hp nx l tm' hp' nx' Wt Wh h=>by cases h;exact ⟨Nat.le_refl _,Wt,Wh,fun B E0 n0 Q E act hfr hQ hR=>wp_skip (hQ E act hR)⟩
 | .ret=>fun tm hp nx l tm' hp' nx' Wt Wh h=>by cases h;exact ⟨Nat.le_refl _,Wt,Wh,fun B E0 n0 Q E act hfr hQ hR=>wp_ret (hQ E act hR)⟩
 | .exit id=>fun tm hp nx l tm' hp' nx' Wt Wh h=>by cases h;exact ⟨Nat.le_refl _,Wt,Wh,fun B E0 n0 Q E act hfr hQ hR=>wp_exit (hQ E act hR)⟩
 | .region id ops false=>fun tm hp nx l tm' hp' nx' Wt Wh h=>by
  have h:Cd.run (Yu tb N K ops.toList) call tm hp nx = .go l tm' hp' nx':=h;unfold Yu at h
  cases hd:NL N ops.toList with
  | false=>rw [hd] at h;cases h
  | true=>
   rw [hd] at h;have h1:=Gg (P:=P) (N:=N) (K:=K) (all:=ops.toList) hT hcall ops.toList yE (fun o ho=>List.all_eq_true.1 hd o ho) u0 u0 u0 u0 tm hp nx l tm' hp' nx' Wt Wh h;obtain rfl:=h1.l;refine ⟨h1.le,h1.wt,h1.hw,fun B E0 n0 Q E act hfr hQ hR=>wp_region_list ?_⟩
   have:=h1.wp B E0 n0 Q E act hfr hQ hR
   simpa using this
 | .region id ops true=>fun tm hp nx l tm' hp' nx' Wt Wh h=>by
  have h:oq tb N K call ops.toList ops.toList tm hp nx [] = .go l tm' hp' nx':=h;have h1:=Hy (P:=P) hT hP hcall Wt Wh h id;obtain rfl:=h1.l;refine ⟨h1.le,h1.wt,h1.hw,fun B E0 n0 Q E act hfr hQ hR=>?_⟩
  have:=h1.wp B E0 n0 Q E act hfr hQ hR
  simpa using this
 | .seq x y=>fun tm hp nx l tm' hp' nx' Wt Wh h=>by
  have h:TG (Cd.run (il tb N K x) call tm hp nx) (Cd.run (il tb N K y) call) = .go l tm' hp' nx':=h
  cases hr:Cd.run (il tb N K x) call tm hp nx with
  | no w=>rw [hr] at h;cases h
  | go e1 tm1 hp1 nx1=>
   rw [hr] at h;have h1:=iu hT hP hcall x tm hp nx e1 tm1 hp1 nx1 Wt Wh hr;have hl1:=h1.le
   cases e1 with
   | nrm=>
    have h2:=iu hT hP hcall y tm1 hp1 nx1 l tm' hp' nx' h1.wt h1.hw h;have hl2:=h2.le;exact ⟨by omega,h2.wt,h2.hw,fun B E0 n0 Q E act hfr hQ hR=>wp_seq (h1.wp B E0 n0 _ E act (fun k h3 h4=>hfr k h3 (by omega)) (fun E act hR1=>h2.wp B E0 n0 Q E act hfr hQ hR1) hR)⟩
   | ext id=>cases h;exact ⟨hl1,h1.wt,h1.hw,fun B E0 n0 Q E act hfr hQ hR=>wp_seq (h1.wp B E0 n0 _ E act hfr (fun E act hR1=>hQ E act hR1) hR)⟩
   | ret=>cases h;exact ⟨hl1,h1.wt,h1.hw,fun B E0 n0 Q E act hfr hQ hR=>wp_seq (h1.wp B E0 n0 _ E act hfr (fun E act hR1=>hQ E act hR1) hR)⟩
 | .cond c x y=>fun tm hp nx l tm' hp' nx' Wt Wh h=>by
  have key :∀ (u:U),(∀ E act,yB K yE u0 u0 u0 u0 tm E act->ae E u.bK (act.eval c))->ZZ u (fun b=>Bool.rec (motive:=fun _=>Rv) (Cd.run (il tb N K y) call tm hp nx) (Cd.run (il tb N K x) call tm hp nx) b) (.no [4]) = .go l tm' hp' nx'->EndsC N K tm hp nx l tm' hp' nx' (fun Q act w=>(Code.cond c x y).wp P Q act w):=fun u hu h=>by
   cases u with
   | kb b=>
    cases b with
    | true=>
     have h1:=iu hT hP hcall x tm hp nx l tm' hp' nx' Wt Wh h;exact ⟨h1.le,h1.wt,h1.hw,fun B E0 n0 Q E act hfr hQ hR=>wp_cond_true (by have:=hu E act hR.tm;simpa [U.bK,ae] using this) (h1.wp B E0 n0 Q E act hfr hQ hR)⟩
    | false=>
     have h1:=iu hT hP hcall y tm hp nx l tm' hp' nx' Wt Wh h;exact ⟨h1.le,h1.wt,h1.hw,fun B E0 n0 Q E act hfr hQ hR=>wp_cond_false (by have:=hu E act hR.tm;simpa [U.bK,ae] using this) (h1.wp B E0 n0 Q E act hfr hQ hR)⟩
   | _=>cases h
  cases c with
  | tmp i=>
   have h:Cd.run (JC K yE i fun g=>⟨fun call tm hp nx=>ZZ (g u0 u0 u0 u0 tm) (fun b=>Bool.rec (motive:=fun _=>Rv) (Cd.run (il tb N K y) call tm hp nx) (Cd.run (il tb N K x) call tm hp nx) b) (.no [4])⟩) call tm hp nx = .go l tm' hp' nx':=h;rw [Oc] at h;exact key (eZ K yE i u0 u0 u0 u0 tm) (fun E act hR=>hR.win i) h
  | const v=>exact key (mG (cv v)) (fun E act hR=>nI _ _ _ (ja v)) h
  | global i=>cases h
  | func f=>cases h
 | .block id b=>fun tm hp nx l tm' hp' nx' Wt Wh h=>by
  have h:Nn id (Cd.run (il tb N K b) call tm hp nx) = .go l tm' hp' nx':=h
  cases hr:Cd.run (il tb N K b) call tm hp nx with
  | no w=>rw [hr] at h;cases h
  | go e1 tm1 hp1 nx1=>
   rw [hr] at h;have h1:=iu hT hP hcall b tm hp nx e1 tm1 hp1 nx1 Wt Wh hr
   cases e1 with
   | nrm=>cases h;exact ⟨h1.le,h1.wt,h1.hw,fun B E0 n0 Q E act hfr hQ hR=>wp_block (h1.wp B E0 n0 _ E act hfr (fun E act hR1=>hQ E act hR1) hR)⟩
   | ret=>cases h;exact ⟨h1.le,h1.wt,h1.hw,fun B E0 n0 Q E act hfr hQ hR=>wp_block (h1.wp B E0 n0 _ E act hfr (fun E act hR1=>hQ E act hR1) hR)⟩
   | ext i=>
    have h :(Bool.rec (motive:=fun _=>Rv) (.go (.ext i) tm1 hp1 nx1) (.go .nrm tm1 hp1 nx1) (Nat.beq i id):Rv) = .go l tm' hp' nx':=h
    cases hb:Nat.beq i id with
    | true=>rw [hb] at h;cases h;refine ⟨h1.le,h1.wt,h1.hw,fun B E0 n0 Q E act hfr hQ hR=>wp_block (h1.wp B E0 n0 _ E act hfr (fun E act hR1=>?_) hR)⟩;simp only [iw,Exit.inBlock];rw [if_pos (bf hb)];exact hQ E act hR1
    | false=>rw [hb] at h;cases h;refine ⟨h1.le,h1.wt,h1.hw,fun B E0 n0 Q E act hfr hQ hR=>wp_block (h1.wp B E0 n0 _ E act hfr (fun E act hR1=>?_) hR)⟩;simp only [iw,Exit.inBlock];rw [if_neg (fun e=>by subst e;rw [Nat.beq_refl] at hb;cases hb)];exact hQ E act hR1
 | .loop b=>fun tm hp nx l tm' hp' nx' Wt Wh h=>by have h1:=AM (iu hT hP hcall b) ly tm hp nx l tm' hp' nx' Wt Wh h;exact ⟨h1.le,h1.wt,h1.hw,fun B E0 n0 Q E act hfr hQ hR=>wp_loop_rounds ly (h1.wp B E0 n0 Q E act hfr hQ hR)⟩
 | .rangeFunc _ _ _ _=>fun tm hp nx l tm' hp' nx' Wt Wh h=>by cases h
 | .scope _=>fun tm hp nx l tm' hp' nx' Wt Wh h=>by cases h
 | .label _=>fun tm hp nx l tm' hp' nx' Wt Wh h=>by cases h
 | .goto _=>fun tm hp nx l tm' hp' nx' Wt Wh h=>by cases h
 | .refuse _=>fun tm hp nx l tm' hp' nx' Wt Wh h=>by cases h
theorem zo :∀ {l:List U} {i:Nat} {tm:TM} {s:Nat},i+l.length<=512->s<512->(dN s).get (kQ l i tm)=if i<=s/\s<i+l.length then (l[s - i]?).getD u0 else (dN s).get tm
 | [],i,tm,s,_,_=>by rw [if_neg (by simp)];rfl
 | u::l,i,tm,s,h,hs=>by
  simp only [List.length_cons] at h;show (dN s).get (kQ l (i+1) (ym tm i u))=_;rw [zo (by omega) hs];by_cases e:s=i
  ·subst e;rw [if_neg (by omega),if_pos (by simp),mE,jQ];simp
  ·by_cases e2:i+1<=s/\s<i+1+l.length
   ·rw [if_pos e2,if_pos (by simp;omega)];obtain ⟨d,rfl⟩ :∃ d,s=i+1+d:=⟨s - (i+1),by omega⟩;rw [show i+1+d - (i+1)=d by omega,show i+1+d - i=d+1 by omega];simp
   ·rw [if_neg e2,if_neg (by simp;omega),mE,Je (by omega) hs (Ne.symm e)]
theorem Ue (s:Nat) :(dN s).get I8=u0:=M9 _ _
theorem Kl {G:Rv->Prop} {sl:Rv} (h0:G sl) {tm:TM} (Wt:WT K tm) {hp:HP} (Wh:mX hp) {r:ResultVar} {k:U->Rv} (h :∀ u v,Dx tb (GZ K tm 512) (fi hp) r=some v->v=u.bK->u.wf->G (k u)):G (Kn tb K r tm hp k sl):=by
 have hl :∀ s,dL (GZ K tm 512) s =(eZ K yE s u0 u0 u0 u0 tm).bK:=(BU tm).look
 cases r with
 | tmp t=>exact h _ _ (by simp only [Dx,hl]) rfl (Wt.win t)
 | cell a t=>
  show G (TI.rec (motive:=fun _=>TM->HP->(U->Rv)->Rv->Rv) (fun _ _ _ sl=>sl) (fun tm hp=>ldP Fz (eZ K yE a u0 u0 u0 u0 tm) hp) (fun n tm hp=>ldP (Fy n) (eZ K yE a u0 u0 u0 u0 tm) hp) (Jb tb t) tm hp k sl)
  have main :∀ f:M4,aao tb t f->G (ldP f (eZ K yE a u0 u0 u0 u0 tm) hp k sl):=fun f hf=>by obtain ⟨td,ht,hf⟩:=hf;refine tE h0 (fun q o hx=>N2 h0 fun ct n hg=>?_) (fun q v o hx=>h0);obtain ⟨cs,hc,hH,_⟩:=tF Wh hg;refine hf G ct n cs o k sl hc h0 fun u v hl1 hv hw=>h u v ?_ hv hw;simp only [Dx,ht,hl,tvp hx,oz,hH,hl1]
  cases hi:Jb tb t with
  | no=>exact h0
  | one=>refine main Fz ?_;obtain ⟨td,ht,ha,hs⟩:=D5 hi;refine ⟨td,ht,fun G ct n cs o k sl hc h0 hk=>dq h0 fun hb=>?_⟩;have hlt:o<n:=cp hb;refine hk _ (dv ct o).bK ?_ (Hs _).symm (Nx _);unfold ld;rw [ha,hc.get o hlt];rfl
  | agg m=>
   refine main (Fy m) ?_;obtain ⟨td,ht,ha,hs⟩:=D4 hi;refine ⟨td,ht,fun G ct n cs o k sl hc h0 hk=>dq h0 fun hb=>?_⟩;have hle:o+m<=n:=cp hb
   have hld:ld td cs o = .val [] (.agg ((cs.drop o).take m)) []:=by unfold ld;rw [ha,hs,if_pos rfl,if_pos (by rw [hc.len];exact hle)]
   cases hm:Nat.beq m n with
   | false=>
    have:=hc.sub hle
    exact hk _ _ hld (by show _=V.agg (ga _ _);rw [this.ga]) ⟨_,this⟩
   | true=>
    have e1:=bf hm;have e0:o=0:=by omega
    subst e0;subst e1;refine hk _ _ hld ?_ ⟨_,hc⟩;show _=V.agg (ga ct m);rw [hc.ga,List.drop_zero,List.take_of_length_le (by rw [hc.len];exact Nat.le_refl _)]
theorem Z2 {G:Rv->Prop} {sl:Rv} (h0:G sl) {u:U} (hu:u.wf) {k:W->Rv} (h :∀ w,w.bK=u.bK->w.wf->G (k w)):G (wOf u k sl):=by refine N3 h0 (fun c hc _=>h (.c c) hc trivial) (fun t n e=>?_);subst e;exact h (.agg t n) rfl hu
theorem Km {G:Rv->Prop} {sl:Rv} (h0:G sl) {tm:TM} (Wt:WT K tm) {hp:HP} (Wh:mX hp) :∀ {rs:List ResultVar} {k:List W->Rv},(∀ ws,rm tb (GZ K tm 512) (fi hp) rs=some (ws.map W.bK)->(∀ w∈ws,w.wf)->G (k ws))->G (PV tb K rs tm hp k sl)
 | [],k,h=>h [] rfl (fun w hw=>by cases hw)
 | r::rs,k,h=>by
  show G (Kn tb K r tm hp (fun u=>wOf u (fun w=>PV tb K rs tm hp (fun l=>k (w::l)) sl) sl) sl);refine Kl h0 Wt Wh fun u v hr hv hu=>Z2 h0 hu fun w hw hww=>Km h0 Wt Wh fun ws hws hwf=>h (w::ws) ?_ (fun x hx=>?_)
  ·simp only [rm,hr,hws,List.map_cons,hw,hv]
  ·rcases List.mem_cons.1 hx with rfl|hx
   ·exact hww
   ·exact hwf x hx
theorem Tz {G:Rv->Prop} {sl:Rv} (h0:G sl) {tm:TM} (Wt:WT K tm) {hp:HP} (Wh:mX hp) {rs:List ResultVar} {k:U->Rv} (h :∀ u,sI tb (GZ K tm 512) (fi hp) rs=some u.bK->u.wf->G (k u)):G (abx tb K rs tm hp k sl):=by
 match rs with
 | []=>exact h (.tup []) rfl (fun w hw=>by cases hw)
 | [r]=>exact Kl h0 Wt Wh fun u v hr hv hu=>h u (by simp only [sI,rm,hr,hv]) hu
 | r::r2::rs=>
  refine Km (rs:=r::r2::rs) h0 Wt Wh fun ws hws hwf=>h (.tup ws) ?_ hwf
  have h2:2<=ws.length:=by
   have key :∀ (rs:List ResultVar) (l:List V),rm tb (GZ K tm 512) (fi hp) rs=some l->l.length=rs.length:=by
    intro rs
    induction rs with
    | nil=>intro l h;simp only [rm,Option.some.injEq] at h;rw [<-h];rfl
    | cons r rs ih=>
     intro l h;simp only [rm] at h;split at h
     ·split at h
      ·rename_i l' hl';cases h;simp [ih _ hl']
      ·cases h
     ·cases h
   have:=key _ _ hws
   simp at this;omega
  unfold sI;rw [hws]
  match ws,h2 with
  | a::b::ws,_=>rfl
theorem E7 (hT:cn P tb) (hP:P.follows .mixedOrders=true) (hname :∀ (f:FuncId) (fn:Func),P.funcs[f]?=some fn->(fn.name == "runtime.NumGoroutine")=false) (hcall:CallVOK P call) {f:FuncId} {fn:Func} (hf:P.funcs[f]?=some fn) {args:List U} {hp:HP} {nx:Nat} (Wa :∀ x∈args,x.wf) (Wh:mX hp) {u:U} {hp':HP} {nx':Nat}
  (h :(CN tb K fn).run call args hp nx = .ok u hp' nx'):FnV P f args hp nx u hp' nx':=by
 unfold CN at h
 cases hc:fn.body with
 | none=>rw [hc] at h;cases h
 | some c=>
  rw [hc] at h
  cases hn:Nat.ble fn.ntmps 512 with
  | false=>rw [hn] at h;cases h
  | true=>
   rw [hn] at h
   cases hl:Nat.ble args.length fn.ntmps with
   | false=>
    have h :(Bool.rec (motive:=fun _=>Rf) (.no [9]) (Lq tb K fn.results.toList (gB nx fun nx=>Cd.run (il tb fn.ntmps K c) call (kQ args 0 I8) hp nx)) (Nat.ble args.length fn.ntmps):Rf) = .ok u hp' nx':=h;rw [hl] at h;cases h
   | true=>
    have h :(Bool.rec (motive:=fun _=>Rf) (.no [9]) (Lq tb K fn.results.toList (gB nx fun nx=>Cd.run (il tb fn.ntmps K c) call (kQ args 0 I8) hp nx)) (Nat.ble args.length fn.ntmps):Rf) = .ok u hp' nx':=h;rw [hl] at h;have h:Lq tb K fn.results.toList (gB nx fun nx=>Cd.run (il tb fn.ntmps K c) call (kQ args 0 I8) hp nx) = .ok u hp' nx':=h;rw [fj] at h;have hn:=cp hn;have hl:=cp hl
    have hget :∀ s,s<512->(dN s).get (kQ args 0 I8) =(args[s]?).getD u0:=fun s hs=>by
     rw [zo (by omega) hs];by_cases e:0<=s/\s<0+args.length
     ·rw [if_pos e,Nat.sub_zero]
     ·rw [if_neg e,Ue,List.getElem?_eq_none (by omega)];rfl
    have hwf :∀ s:Nat,((args[s]?).getD u0).wf:=fun s=>by
     cases hx:args[s]? with
     | none=>exact BL
     | some x=>exact Wa x (List.mem_of_getElem? hx)
    have Wt:WT K (kQ args 0 I8):=by
     have h2 :∀ i,jD K i=true->((dN i).get (kQ args 0 I8)).wf:=fun i hi=>by rw [hget i (wT hi)];exact hwf i
     refine ⟨fun i=>?_,h2⟩;rw [kf]
     cases hk:jD K i with
     | true=>exact h2 i hk
     | false=>exact BL
    cases hr:Cd.run (il tb fn.ntmps K c) call (kQ args 0 I8) hp nx with
    | no w=>rw [hr] at h;cases h
    | go e1 tm1 hp1 nx1=>
     rw [hr] at h;have h1:=iu (N:=fn.ntmps) (K:=K) hT hP hcall c _ hp nx e1 tm1 hp1 nx1 Wt Wh hr
     have hret :(∀ id,e1≠ .ext id)/\PX (TA tb K fn.results.toList tm1 hp1 nx1) = .ok u hp' nx':=by
      cases e1 with
      | nrm=>exact ⟨fun id h=>(by cases h),h⟩
      | ret=>exact ⟨fun id h=>(by cases h),h⟩
      | ext id=>cases h
     obtain ⟨hne,h⟩:=hret
     have h2:sI tb (GZ K tm1 512) (fi hp1) fn.results.toList=some u.bK/\u.wf/\hp'=hp1/\nx'=nx1:=by revert h;unfold TA;refine Tz (G:=fun r=>PX r = .ok u hp' nx'->_) (fun h=>by cases h) h1.wt h1.hw fun u1 hu1 hw1 h=>?_;have h:Rf.ok ((dN 0).get (ym I8 0 u1)) hp1 nx1 = .ok u hp' nx':=h;rw [mE,jQ] at h;cases h;exact ⟨hu1,hw1,rfl,rfl⟩
     obtain ⟨hres,huw,rfl,rfl⟩:=h2;refine ⟨⟨fn,hf,by rw [hc];rfl,hname f fn hf⟩,h1.le,huw,h1.hw,fun B E av hE hH hav hfr=>calls_of_wp hf hc ?_⟩;have hav_len:=bk hav;rw [List.length_map] at hav_len;refine h1.wp B E nx _ E _ hfr (fun E' a hR=>?_) ?_
     ·have hEH:E'.H=fi hp':=hR.h;rw [<-hEH] at hres
      have htm:gC E' (find (GZ K tm1 512)) a:=fun s v hv=>by
       rw [BU tm1 s] at hv;by_cases hk:jD K s=true
       ·rw [if_pos hk] at hv;cases hv;exact hR.tm.tm s hk
       ·rw [if_neg hk] at hv;cases hv
      obtain ⟨v',k1,k2⟩:=rn hR.rel hT htm hres
      have fin :∃ v',(results fn a.tmps).run P E'.w = .ok v' E'.w/\∃ E2 v2,(Ending.returned v') = .returned v2/\Came B E (fi hp') nx nx' u.bK v2 E'.w E2:=
       ⟨v',k1,E',v',rfl,⟨hR.rel,rfl,hEH,hR.ext,hR.u,k2⟩⟩
      cases e1 with
      | ext id=>exact (hne id rfl).elim
      | nrm=>exact ⟨hR.defers,fin⟩
      | ret=>exact ⟨hR.defers,fin⟩
     ·have hrel :∀ i,jD K i=true->ae E ((dN i).get (kQ args 0 I8)).bK ((av.toArray++Array.replicate (fn.ntmps - av.toArray.size) undef).getD i undef):=fun i hi=>by
       rw [hget i (wT hi)]
       cases hx:args[i]? with
       | none=>exact rv
       | some x=>
        obtain ⟨v',q1,q2⟩:=eQ hav i x.bK (by rw [List.getElem?_map,hx];rfl)
        have :(av.toArray++Array.replicate (fn.ntmps - av.toArray.size) undef).getD i undef=v':=by
         rw [Array.getD_eq_getD_getElem?]
         have hl:i<av.toArray.size:=by
          rcases Nat.lt_or_ge i av.length with h3|h3
          ·simpa using h3
          ·rw [List.getElem?_eq_none h3] at q1;cases q1
         rw [Array.getElem?_append_left hl];simp [q1]
        rw [this];exact q2
      refine ⟨hE,Ext.refl E,hH,fun n hn=> .inl hn,Nat.le_refl _,⟨fun i=>?_,hrel⟩,?_,rfl⟩
      ·rw [kf]
       cases hk:jD K i with
       | true=>exact hrel i hk
       | false=>exact rv
      ·simp only [Array.size_append,Array.size_replicate,List.size_toArray];omega
def XOK (P:Program) (X:BT):Prop:=∀ g x,X g=some x->∀ args u,(∀ a∈args,U.wf a)->x args=some u->u.wf/\BS P g args u
theorem Jy {fn:Func} {args:List U} {hp:HP} {nx:Nat} {u:U} {hp':HP} {nx':Nat} (h :(CN tb K fn).run call args hp nx = .ex u hp' nx'):False:=by
 have key :∀ r:Rv,PX r = .ex u hp' nx'->False:=fun r h=>by cases r <;> cases h
 unfold CN at h
 cases hc:fn.body with
 | none=>rw [hc] at h;cases h
 | some c=>
  rw [hc] at h
  cases hn:Nat.ble fn.ntmps 512 with
  | false=>rw [hn] at h;cases h
  | true=>
   rw [hn] at h;have h :(Bool.rec (motive:=fun _=>Rf) (.no [9]) (Lq tb K fn.results.toList (gB nx fun nx=>Cd.run (il tb fn.ntmps K c) call (kQ args 0 I8) hp nx)) (Nat.ble args.length fn.ntmps):Rf) = .ex u hp' nx':=h
   cases hl:Nat.ble args.length fn.ntmps with
   | false=>rw [hl] at h;cases h
   | true=>
    rw [hl] at h;have h:Lq tb K fn.results.toList (gB nx fun nx=>Cd.run (il tb fn.ntmps K c) call (kQ args 0 I8) hp nx) = .ex u hp' nx':=h;generalize (gB nx fun nx=>Cd.run (il tb fn.ntmps K c) call (kQ args 0 I8) hp nx)=r at h
    cases r with
    | no w=>cases h
    | go e tm hp1 nx1=>
     cases e with
     | ext id=>cases h
     | nrm=>exact key _ h
     | ret=>exact key _ h
theorem EA (hT:cn P tb) (hP:P.follows .mixedOrders=true) (hname :∀ (f:FuncId) (fn:Func),P.funcs[f]?=some fn->(fn.name == "runtime.NumGoroutine")=false) {Pf:FuncId->Option Func} (hPf :∀ (f:FuncId) (fn:Func),Pf f=some fn->P.funcs[f]?=some fn) {X:BT} (hX:XOK P X) (KK:FuncId->Nat) :∀ d,CallVOK P (zx tb Pf X KK d)
 | 0=>⟨fun g args hp nx u hp' nx' _ _ h=>(by cases h),fun g args hp nx u hp' nx' _ h=>(by cases h)⟩
 | d+1=>by
  have ih:=EA hT hP hname hPf hX KK d;refine ⟨fun g args hp nx u hp' nx' Wa Wh h=>?_,fun g args hp nx u hp' nx' Wa h=>?_⟩
  ·have h:Fc.run (vk tb Pf X KK g) (zx tb Pf X KK d) args hp nx = .ok u hp' nx':=h;unfold vk at h
   cases hx:X g with
   | some x=>
    rw [hx] at h;have h:NU (x args) hp nx = .ok u hp' nx':=h
    cases hxa:x args with
    | none=>rw [hxa] at h;cases h
    | some u1=>rw [hxa] at h;cases h
   | none=>
    rw [hx] at h;have h:Fc.run (Option.rec (motive:=fun _=>Fc) ⟨fun _ _ _ _=> .no [12]⟩ (CN tb (KK g)) (Pf g)) (zx tb Pf X KK d) args hp nx = .ok u hp' nx':=h
    cases hp1:Pf g with
    | none=>rw [hp1] at h;cases h
    | some fn=>rw [hp1] at h;exact E7 hT hP hname ih (hPf _ _ hp1) Wa Wh h
  ·have h:Fc.run (vk tb Pf X KK g) (zx tb Pf X KK d) args hp nx = .ex u hp' nx':=h;unfold vk at h
   cases hx:X g with
   | some x=>
    rw [hx] at h;have h:NU (x args) hp nx = .ex u hp' nx':=h
    cases hxa:x args with
    | none=>rw [hxa] at h;cases h
    | some u1=>rw [hxa] at h;cases h;obtain ⟨h1,h2⟩:=hX g x hx args u Wa hxa;exact ⟨rfl,rfl,h1,h2⟩
   | none=>
    rw [hx] at h;have h:Fc.run (Option.rec (motive:=fun _=>Fc) ⟨fun _ _ _ _=> .no [12]⟩ (CN tb (KK g)) (Pf g)) (zx tb Pf X KK d) args hp nx = .ex u hp' nx':=h
    cases hp1:Pf g with
    | none=>rw [hp1] at h;cases h
    | some fn=>rw [hp1] at h;exact (Jy h).elim
noncomputable section
def abb (b:Bool) (r:Rf):Bool:=Rf.rec (motive:=fun _=>Bool) (fun u _ _=>U.rec (motive:=fun _=>Bool) (fun _ _=>false) (fun c=>Bool.rec (motive:=fun _=>Bool) (kp c) c b) (fun _ _=>false) (fun _ _ _=>false) (fun _ _ _ _ _=>false) (fun _=>false) (fun _ _=>false) (fun _=>false) u) (fun _ _ _=>false) (fun _=>false) r
end
theorem Hv (hcall:CallVOK P call) {f:FuncId} {Kc:Nat} {b:Bool} (h:abb b (call f [] jN 0)=true):aR P Kc f (bq Kc .unit fun _=>⟨[],.bool b,[]⟩):=by
 cases hr:call f [] jN 0 with
 | no w=>rw [hr] at h;cases h
 | ex u hp' nx'=>rw [hr] at h;cases h
 | ok u hp' nx'=>
  rw [hr] at h
  have hu:u = .kb b:=by
   cases u with
   | kb c=>cases b <;> cases c <;> first|rfl|cases h
   | _=>cases h
  subst hu;have F:=hcall.ok f [] jN 0 _ hp' nx' (fun x hx=>by cases hx) Oi hr;refine ⟨F.fn,fun B E hE args av hav m hm ps' v0 dh hct hps=>?_⟩;unfold bq at hct;simp only at hct
  cases args with
  | cons x xs=>simp [dZ] at hct
  | nil=>
   have h0:Nat.ble 0 Kc=true:=by cases Kc <;> rfl
   simp only [dZ,List.length_nil,h0,cond_true,Option.some.injEq,Prod.mk.injEq] at hct;obtain ⟨rfl,rfl,rfl⟩:=hct
   cases av with
   | cons x xs=>simp [ai] at hav
   | nil=>
    let E1:Env:=⟨fun _=>False,fun _=>none,E.S,E.w,fun _=>none⟩
    have hE1:aM (Eu E.w (fun _=>False) E.S hE.JD) E1:=by refine ⟨fun h b hx=>?_,fun b hb=>hE.stab b hb,fun h k b hx=>?_,fun h h' k k' b hx=>?_,fun h k hx=>?_,dA.refl _ _,fun h k b hx=>?_,fun _ h=>h,fun _ h=> .inl h⟩ <;> cases hx
    refine (F.calls _ E1 [] hE1 (by rw [UE]) (by simp [ai]) (fun n _ _ h=>h)).mono fun e w' hh=>?_;obtain ⟨E',v',rfl,C⟩:=hh;have hw:=C.w;subst hw;obtain ⟨E2,G,_,_⟩:=Nb hE hm (S1:=E.S) (fun b hb=>hb) C.rel (acc:= []) ⟨by simp,fun h r hr=>by simp at hr⟩ (Nat.zero_le _) (.inl fun b hb=>hb);refine ⟨E2,v',rfl,by simpa [kD,mL.flat,V.Ml] using G,?_⟩;have hv:=C.v;simp only [V.shift,ae];simpa [U.bK,ae] using hv
end
section
open Go.RowKit
variable {P:Program}
theorem RW {g:FuncId} {fn:Func} {e:Array Value->Sem Value} (hf:P.funcs[g]?=some fn) (hname :(fn.name == "runtime.NumGoroutine")=false) (hb:fn.body.isNone=true) (hn:Extern.findNext fn=none) (he:Extern.find fn=some e) {args:List U} {u:U}
  (h :∀ (E:Env) (av:List Value),ai E (args.map U.bK) av->∃ v',ae E u.bK v'/\(e av.toArray).run P E.w = .ok v' E.w):BS P g args u:=fun E av hav=>by
 obtain ⟨v',hv,hr⟩:=h E av hav;refine ⟨v',hv,fun o c f l a next Q ho hcf hfe hav2 hnx=>?_⟩
 have hrun :(execOp a.eval o).run P E.w = .ok (.value v') E.w:=by
  have e1 :(c.args.toList.map a.eval++l.toList).toArray=#[]++c.args.map a.eval++l:=by apply Array.ext';simp
  have :(execOp a.eval o).run P E.w =(callFunc g (#[]++c.args.map a.eval++l)).run P E.w:=by simp [execOp,ho,resolve,hcf,Deferred.ofValue,hfe,invoke]
  rw [this,run_callFunc_extern hf hname hb hn he,<-e1,<-hav2,hr];rfl
 unfold Oper.wp;rw [hrun];simp only [Oper.upon];exact hnx
theorem abe :∀ (l:List UInt8) (c:UInt8),Lib.indexByte l c<=l.length
 | [],c=>by unfold Lib.indexByte;simp
 | b::l,c=>by
  have:=abe l c
  unfold Lib.indexByte;simp only [List.length_cons];split
  ·omega
  ·split <;> omega
theorem JM :∀ (l:List UInt8) (c i:Nat),c<256->Ou l c i=if Lib.indexByte l c.toUInt8 = -1 then -1 else Lib.indexByte l c.toUInt8 +(i:Int)
 | [],c,i,_=>rfl
 | b::l,c,i,hc=>by
  show Bool.rec (motive:=fun _=>Int) (Ou l c (i+1)) (.ofNat i) (Nat.beq b.toNat c)=_;rw [JM l c (i+1) hc];have hge:=Lib.indexByte_ge l c.toUInt8;have hcn:c.toUInt8.toNat=c:=by simp [Nat.toUInt8];omega
  have step:Lib.indexByte (b::l) c.toUInt8=if b==c.toUInt8 then 0 else if Lib.indexByte l c.toUInt8 == -1 then -1 else Lib.indexByte l c.toUInt8+1:=rfl;rw [step]
  cases hb:Nat.beq b.toNat c with
  | true=>
   have e:b=c.toUInt8:=UInt8.toNat.inj (by rw [hcn];exact bf hb);have e2 :(b==c.toUInt8)=true:=by rw [e];simp
   rw [e2];simp
  | false=>
   have e :¬(b==c.toUInt8)=true:=fun h=>by
    have:b=c.toUInt8:=by simpa using h
    rw [this,hcn,Nat.beq_refl] at hb;cases hb
   have e2 :(b==c.toUInt8)=false:=by simpa using e
   rw [e2];simp only [Bool.false_eq_true,if_false];by_cases h1:Lib.indexByte l c.toUInt8 = -1
   ·rw [if_pos h1,h1];rfl
   ·rw [if_neg h1];have h2 :¬(Lib.indexByte l c.toUInt8 == -1)=true:=by simpa using h1
    rw [if_neg h2,if_neg (by omega)]
    push_cast
    omega
theorem Xb {g:FuncId} {fn:Func} (hf:P.funcs[g]?=some fn) (hname :(fn.name == "runtime.NumGoroutine")=false) (hb:fn.body.isNone=true) (hn:Extern.findNext fn=none) (he:Extern.find fn=some Extern.BytealgIndexByte.indexByte) {args:List U} {u:U} (h:ixB args=some u):u.wf/\BS P g args u:=by
 unfold ixB at h;split at h
 case h_2=>cases h
 rename_i s c;cases h;refine ⟨trivial,RW hf hname hb hn he fun E av hav=>?_⟩;obtain ⟨a,r,rfl,h1,h2⟩:=eE hav;obtain ⟨b,r2,rfl,h3,h4⟩:=eE h2;have h5:r2=[]:=by cases r2 with|nil=>rfl|cons=>simp [ai] at h4
 subst h5;simp only [U.bK,ae] at h1 h3;obtain ⟨rfl,hs⟩:=h1;obtain ⟨rfl,hc⟩:=h3
 have hc2:c<256:=by
  have:=hc.2
  simp [IntKind.max,IntKind.bits,IntKind.signed] at this;omega
 refine ⟨_,?_,Lib.run_indexByteString s (Int.ofNat c) E.w⟩
 have e:Ou s.data.toList c 0=Lib.indexByte s.data.toList c.toUInt8:=by
  rw [JM _ _ _ hc2];split
  ·rename_i h;rw [h]
  ·simp
 show ae E (.int .i64 (Ou s.data.toList c 0)) _;rw [e];refine kJ ?_;have hge:=Lib.indexByte_ge s.data.toList c.toUInt8;have hle:=abe s.data.toList c.toUInt8;have hl:s.data.toList.length<=aW:=by simpa using hs
 unfold aW at hl;have e1:IntKind.i64.min = -9223372036854775808:=by decide
 have e2:IntKind.i64.max=9223372036854775807:=by decide
 unfold ok;rw [e1,e2];omega
end
section
open Go.RowKit
variable {P:Program} {tb:bG} {call:gE}
noncomputable section
def Ka {t:Ty} (p:List V->Option (Den t×List V)):Nat->List V->Option (List (Den t))
 | 0,_=>some []
 | n+1,vs=>match p vs with
  | some (x,r)=>match Ka p n r with
   | some xs=>some (x::xs)
   | none=>none
  | none=>none
def Ix (H:a6) (t:Ty) (p:List V->Option (Den t×List V)):List V->Option (List (Den t)×List V)
 | .fsl t' xs::r=>if h:t'=t then some ((h▸xs:List (Den t)),r) else none
 | .nilsl::r=>some ([],r)
 | .esl::r=>some ([],r)
 | .gsl h ver esz off len::r=>match H h with
  | some (.grow ver' esz' cs)=>if ver=ver'/\esz=esz'/\esz=sz t/\(off+len)*esz<=cs.length/\len<=aW then match Ka p len (cs.drop (off*esz)) with
   | some xs=>some (xs,r)
   | none=>none
   else none
  | _=>none
 | _=>none
def mn (H:a6):Nat->(t:Ty)->List V->Option (Den t×List V)
 | 0,_,_=>none
 | _+1,.int k,vs=>J9 k vs
 | _+1,.bool,vs=>J8 vs
 | _+1,.str,vs=>Kb vs
 | _+1,.unit,r=>some ((),r)
 | f+1,.prod a b,r=>match mn H f a r with
  | some (x,r')=>match mn H f b r' with
   | some (y,r'')=>some ((x,y),r'')
   | none=>none
  | none=>none
 | f+1,.slice t,vs=>Ix H t (mn H f t) vs
 | f+1,.nm n,r=>match mn H f n.n7 r with
  | some (x,r')=>some (n.of x,r')
  | none=>none
def Kd (H:a6) (t:Ty) (v:V):Option (Den t):=bif lQ t==hY v then (match cellsOf v with
 | some cs=>match mn H gb t cs with
  | some (x,[])=>some x
  | _=>none
 | none=>none) else none
def aaW (E:Env) (b:Nat):Prop:=∃ h ver esz cs,E.H h=some (.grow ver esz cs)/\E.ρ h=some b
def wK (E:Env):Env:=⟨E.U,E.ρ,fun b=>E.S b\/aaW E b,E.w,fun _=>none⟩
theorem Lx {B:aK} {E:Env} (hE:aM B E):aM B (wK E)/\Ext E (wK E):=by
 refine ⟨⟨fun h b hx=>?_,fun b hb=>?_,fun h k b hx=>?_,fun h h' k k' b hx=>?_,fun h k hx=>?_,hE.keeps,fun h k b hx=>?_,fun b hb=> .inl (hE.s0 b hb),fun b hb=>?_⟩,
  ⟨fun _ h=>h,fun _ h=> .inl h,fun _ _=>rfl,fun _ _ _ hx=>?_,fun _ _ _ _ _ _ _ hx=>?_,fun _ _ _ _ _ _ hx=>?_,fun _ _ _ hx=>?_,fun _ _ _ _ _ hx=>?_⟩⟩ <;> try (cases hx)
 ·rcases hb with hb |⟨h,ver,esz,cs,h1,h2⟩
  ·exact hE.stab b hb
  ·exact hE.lt _ _ _ h1 h2
 ·rcases hb with hb |⟨h,ver,esz,cs,h1,h2⟩
  ·exact hE.sb b hb
  ·exact .inr (hE.own _ _ _ h1 h2)
theorem uS {E:Env} {S:Nat->Prop} {t:Ty} {p:List V->Option (Den t×List V)} (hp :∀ vs x r cs,p vs=some (x,r)->ai E vs cs->∃ c1 c2,cs=c1++c2/\Rd S E.w t x c1/\ai E r c2) :
  ∀ (n:Nat) (vs:List V) (xs:List (Den t)) (cs:List Value),Ka p n vs=some xs->ai E vs cs->xs.length=n/\∀ (i:Nat) (h:i<xs.length),Rd S E.w t xs[i] ((cs.drop (i*sz t)).take (sz t))
 | 0,vs,xs,cs,h,_=>by cases h;exact ⟨rfl,fun i hi=>by simp at hi⟩
 | n+1,vs,xs,cs,h,hv=>by
  simp only [Ka] at h;split at h
  case h_2=>cases h
  rename_i x r hx;split at h
  case h_2=>cases h
  rename_i xs' hxs;cases h;obtain ⟨c1,c2,rfl,h1,h2⟩:=hp _ _ _ _ hx hv;obtain ⟨h3,h4⟩:=uS hp n r xs' c2 hxs h2;refine ⟨by simp [h3],fun i hi=>?_⟩;have hl:=h1.len
  cases i with
  | zero=>rw [Nat.zero_mul,List.drop_zero,<-hl,List.take_left];exact h1
  | succ i=>
   have e :(c1++c2).drop ((i+1)*sz t)=c2.drop (i*sz t):=by rw [Nat.succ_mul,Nat.add_comm,<-List.drop_drop,<-hl,List.drop_left]
   rw [e];exact h4 i (by simpa using hi)
theorem Dm {B:aK} {E:Env} (hE:aM B E) {t:Ty} {p:List V->Option (Den t×List V)} (hp :∀ vs x r cs,p vs=some (x,r)->ai E vs cs->∃ c1 c2,cs=c1++c2/\Rd (wK E).S E.w t x c1/\ai E r c2)
  {vs:List V} {xs:List (Den t)} {rest:List V} {cs:List Value} (h:Ix E.H t p vs=some (xs,rest)) (hv:ai E vs cs) :∃ c1 c2,cs=c1++c2/\Rd (wK E).S E.w (.slice t) xs c1/\ai E rest c2:=by
 unfold Ix at h;split at h
 ·split at h
  ·rename_i e;subst e;cases h;obtain ⟨c,r',rfl,h1,h2⟩:=bN hv;exact ⟨_,_,rfl,Rd.ext (fun _ h=> .inl h) (fun _ _=>rfl) h1,h2⟩
  ·cases h
 ·cases h;obtain ⟨c,r',rfl,h1,h2⟩:=bN hv;simp only [ae] at h1;subst h1;exact ⟨_,_,rfl,.nil,h2⟩
 ·cases h;obtain ⟨c,r',rfl,h1,h2⟩:=bN hv;simp only [ae] at h1;obtain ⟨a,rfl⟩:=h1;exact ⟨_,_,rfl,.nil,h2⟩
 ·rename_i hh ver esz off len r;split at h
  case h_2=>cases h
  rename_i ver' esz' csB hH;split at h
  case isFalse=>cases h
  rename_i hc;obtain ⟨rfl,rfl,e3,h4,h5⟩:=hc;split at h
  case h_2=>cases h
  rename_i xs' hxs;cases h;obtain ⟨c,r',rfl,h1,h2⟩:=bN hv;simp only [ae] at h1;obtain ⟨_,_,_,h1⟩:=h1;obtain ⟨b,cap,c,T,fr,k1,rfl,k3,k4,k5,k6⟩:=h1 _ hH;obtain ⟨_,b',c',T',fr',q1,q2,q3,q4,q5⟩:=hE.blk _ _ hH;rw [k1] at q1;cases q1;rw [k3] at q2;cases q2;obtain ⟨g1,g2⟩:=uS (S:=(wK E).S) hp _ _ _ _ hxs (iL q5 (off*esz));subst e3;refine ⟨_,_,rfl,?_,h2⟩;rw [<-g1] at k5 ⊢;refine .slice (.inr ⟨_,_,_,_,hH,k1⟩) k3 ?_ k5 (by omega) fun i hi=>?_
  ·rw [Nat.add_mul] at k4
   have:=Nat.mul_le_mul_right (sz t) k5
   omega
  ·have:=g2 i hi
   have e :((c.toList.take csB.length).drop (off*sz t)).drop (i*sz t) =((c.toList.drop (off*sz t+i*sz t))).take (csB.length - (off*sz t+i*sz t)):=by rw [List.drop_drop,List.drop_take]
   rw [e,List.take_take] at this
   have hle:sz t<=csB.length - (off*sz t+i*sz t):=by have h6 :(off +(i+1))*sz t<=(off+len)*sz t:=Nat.mul_le_mul_right _ (by omega);rw [Nat.add_mul,Nat.add_mul,Nat.one_mul] at h6;omega
   rw [Nat.min_eq_left hle] at this;exact this
 ·cases h
theorem ji {B:aK} {E:Env} (hE:aM B E) :∀ (f:Nat) (t:Ty) (vs:List V) (x:Den t) (rest:List V) (cs:List Value),mn E.H f t vs=some (x,rest)->ai E vs cs->
  ∃ c1 c2,cs=c1++c2/\Rd (wK E).S E.w t x c1/\ai E rest c2
 | 0,t,vs,x,rest,cs,h,_=>by simp [mn] at h
 | f+1,.int k,vs,x,rest,cs,h,hv=>by
  simp only [mn] at h;unfold J9 at h;split at h
  ·split at h
   ·rename_i e;subst e;cases h;obtain ⟨c,r',rfl,h1,h2⟩:=bN hv;simp only [ae] at h1;obtain ⟨rfl,h1⟩:=h1;exact ⟨_,_,rfl,.int h1,h2⟩
   ·cases h
  ·cases h
 | f+1,.bool,vs,x,rest,cs,h,hv=>by
  simp only [mn] at h;unfold J8 at h;split at h
  ·cases h;obtain ⟨c,r',rfl,h1,h2⟩:=bN hv;simp only [ae] at h1;subst h1;exact ⟨_,_,rfl,.bool,h2⟩
  ·cases h;obtain ⟨c,r',rfl,h1,h2⟩:=bN hv;simp only [ae] at h1;subst h1;exact ⟨_,_,rfl,.bool,h2⟩
  ·cases h
 | f+1,.str,vs,x,rest,cs,h,hv=>by
  simp only [mn] at h;unfold Kb at h;split at h
  ·cases h;obtain ⟨c,r',rfl,h1,h2⟩:=bN hv;simp only [ae] at h1;obtain ⟨rfl,h1⟩:=h1;exact ⟨_,_,rfl,.str h1,h2⟩
  ·cases h
 | f+1,.unit,vs,x,rest,cs,h,hv=>by simp only [mn] at h;cases h;exact ⟨[],cs,rfl,.unit,hv⟩
 | f+1,.prod a b,vs,x,rest,cs,h,hv=>by
  simp only [mn] at h;split at h
  ·rename_i x1 r1 h1;split at h
   ·rename_i y1 r2 h2;cases h;obtain ⟨c1,c2,rfl,k1,k2⟩:=ji hE f _ _ _ _ _ h1 hv;obtain ⟨d1,d2,rfl,k3,k4⟩:=ji hE f _ _ _ _ _ h2 k2;exact ⟨c1++d1,d2,by simp,.prod k1 k3,k4⟩
   ·cases h
  ·cases h
 | f+1,.slice t,vs,x,rest,cs,h,hv=>Dm hE (fun vs x r cs=>ji hE f t vs x r cs) h hv
 | f+1,.nm n,vs,x,rest,cs,h,hv=>by
  simp only [mn] at h;split at h
  ·rename_i x1 r1 h1;cases h;obtain ⟨c1,c2,rfl,k1,k2⟩:=ji hE f _ _ _ _ _ h1 hv;exact ⟨c1,c2,rfl,.nm (by rw [n.KD];exact k1),k2⟩
  ·cases h
theorem uU {B:aK} {E:Env} (hE:aM B E) {t:Ty} {v:V} {x:Den t} (h:Kd E.H t v=some x) {u:Value} (hv:ae E v u):ae (wK E) (gz t x) u:=by
 unfold Kd at h
 cases hg:lQ t==hY v with
 | false=>rw [hg] at h;cases h
 | true=>
  rw [hg] at h;simp only [cond_true] at h;split at h
  case h_2=>cases h
  rename_i cs hcs;split at h
  case h_2=>cases h
  rename_i x' hx;cases h;obtain ⟨c1,c2,e,hrd,h2⟩:=ji hE _ _ _ _ _ _ hx (cC hv hcs);have hc2:c2=[]:=by cases c2 with|nil=>rfl|cons=>simp [ai] at h2
  subst hc2;rw [List.append_nil] at e;subst e;simp only [beq_iff_eq] at hg;refine vR (E:=wK E) hrd ?_
  cases e:lQ t with
  | true=>rw [e] at hg;cases v <;> simp only [hY,Bool.true_eq_false] at hg;simp only [ae] at hv;obtain ⟨l,hl,_⟩:=hv;exact .inl ⟨rfl,l,hl⟩
  | false=>
   rw [e] at hg;refine .inr ⟨rfl,?_⟩
   have h1:u.oneCell'=true:=by cases v <;> simp only [hY,Bool.false_eq_true] at hg <;> simp only [cellsOf,reduceCtorEq] at hcs <;> exact jf rfl hv
   rw [uf h1]
def HA {α:Type} (e:α->α->Bool):List α->List α->Bool
 | [],[]=>true
 | x::xs,y::ys=>bif e x y then HA e xs ys else false
 | _,_=>false
theorem Cv {α:Type} {e:α->α->Bool} (h :∀ x y,e x y=true->x=y) :∀ {xs ys:List α},HA e xs ys=true->xs=ys
 | [],[],_=>rfl
 | [],_::_,h=>by simp [HA] at h
 | _::_,[],h=>by simp [HA] at h
 | x::xs,y::ys,hh=>by
  simp only [HA] at hh
  cases he:e x y with
  | false=>rw [he] at hh;cases hh
  | true=>rw [he] at hh;rw [h _ _ he,Cv h hh]
def MV:Nat->(t:Ty)->Den t->Den t->Bool
 | 0,_,_,_=>false
 | _+1,.int _,x,y=>@decide ((x:Int)=y) (Int.instDecidableEq x y)
 | _+1,.bool,x,y=>@decide ((x:Bool)=y) (instDecidableEqBool x y)
 | _+1,.str,x,y=>decide ((x:ByteArray).data.toList =(y:ByteArray).data.toList)
 | _+1,.unit,_,_=>true
 | f+1,.prod a b,x,y=>bif MV f a x.1 y.1 then MV f b x.2 y.2 else false
 | f+1,.slice t,xs,ys=>HA (MV f t) xs ys
 | f+1,.nm n,x,y=>MV f n.n7 (n.to x) (n.to y)
theorem tp :∀ (f:Nat) (t:Ty) (x y:Den t),MV f t x y=true->x=y
 | 0,_,_,_,h=>by simp [MV] at h
 | _+1,.int _,x,y,h=>@of_decide_eq_true ((x:Int)=y) (Int.instDecidableEq x y) h
 | _+1,.bool,x,y,h=>@of_decide_eq_true ((x:Bool)=y) (instDecidableEqBool x y) h
 | _+1,.str,x,y,h=>ByteArray.ext (Array.toList_inj.1 (of_decide_eq_true (p:=(x:ByteArray).data.toList =(y:ByteArray).data.toList) h))
 | _+1,.unit,_,_,_=>rfl
 | f+1,.prod a b,x,y,h=>by
  simp only [MV] at h
  cases he:MV f a x.1 y.1 with
  | false=>rw [he] at h;cases h
  | true=>rw [he] at h;exact Prod.ext (tp f a _ _ he) (tp f b _ _ h)
 | f+1,.slice t,xs,ys,h=>Cv (tp f t) (by simpa only [MV] using h)
 | f+1,.nm n,x,y,h=>by
  simp only [MV] at h
  have:=tp f n.n7 _ _ h
  rw [<-n.UP x,<-n.UP y,this]
def Br (H:a6):List Ty->List V->Option (List V)
 | [],[]=>some []
 | t::ts,v::vs=>match Kd H t v with
  | some x=>match Br H ts vs with
   | some r=>some (gz t x::r)
   | none=>none
  | none=>none
 | _,_=>none
def Bq (H:a6) (ts:List Ty) (v:V):Option V:=match ts with
 | [t]=>match Kd H t v with
  | some x=>some (gz t x)
  | none=>none
 | ts=>match v with
  | .tup vs=>match Br H ts vs with
   | some l=>some (.tup l)
   | none=>none
  | _=>none
theorem uT {B:aK} {E:Env} (hE:aM B E) :∀ {ts:List Ty} {vs l:List V} {us:List Value},Br E.H ts vs=some l->ai E vs us->ai (wK E) l us/\l.length=ts.length
 | [],[],l,us,h,hv=>by
  cases h
  cases us with
  | nil=>exact ⟨by simp [ai],rfl⟩
  | cons=>simp [ai] at hv
 | t::ts,v::vs,l,us,h,hv=>by
  simp only [Br] at h;split at h
  case h_2=>cases h
  rename_i x hx;split at h
  case h_2=>cases h
  rename_i r hr;cases h
  cases us with
  | nil=>simp [ai] at hv
  | cons u us=>simp only [ai] at hv ⊢;obtain ⟨h1,h2⟩:=uT hE hr hv.2;exact ⟨⟨uU hE hx hv.1,h1⟩,by simp [h2]⟩
 | [],_::_,_,_,h,_=>by cases h
 | _::_,[],_,_,h,_=>by cases h
theorem Gm {B:aK} {E:Env} (hE:aM B E) {ts:List Ty} {v v0:V} {u:Value} (h:Bq E.H ts v=some v0) (hv:ae E v u):ae (wK E) v0 u/\(ts.length≠1->∃ l,v0 = .tup l/\l.length=ts.length):=by
 unfold Bq at h;split at h
 ·split at h
  case h_2=>cases h
  rename_i x hx;cases h;exact ⟨uU hE hx hv,fun hn=>absurd rfl hn⟩
 ·split at h
  case h_2=>cases h
  rename_i vs;split at h
  case h_2=>cases h
  rename_i l hl;cases h;simp only [ae] at hv ⊢;obtain ⟨us,rfl,hus⟩:=hv;obtain ⟨h1,h2⟩:=uT hE hl hus;exact ⟨⟨us,rfl,h1⟩,fun _=>⟨l,rfl,h2⟩⟩
theorem S6 {f:FuncId} (hfn :∃ fn,P.funcs[f]?=some fn/\fn.body.isSome=true/\(fn.name == "runtime.NumGoroutine")=false) {n:Nat}
  {K:Nat} {q q':bl} {spec:Den (bj q)->List Prop×Den (bj q')} (hpair:lK q q'=true) (hres:q'.tm.length=n)
  (h :∀ x:Den (bj q),zg (bj q) x->(∀ p∈(spec x).1,p)->∃ (v0:V) (d:List (Nat×bd)) (nx:Nat),(n≠1->∃ l,v0 = .tup l/\l.length=n)/\jk q.nx q' ⟨mB n v0,d,fun _=>none,nx⟩=some (spec x).2/\
   ∀ (B:aK) (E:Env) (av:List Value),aM B E->E.H=aQ (fun _=>none) (q.dy x)->ai E ((q.gV x).map (·.2)) av->(∀ n,E.U n->n<q.nx)->
    Calls P f av.toArray E.w fun e w'=>∃ Ec v',e = .returned v'/\aM B Ec/\Ec.w=w'/\Ec.H=aQ (fun _=>none) d/\Ext E Ec/\(∀ n,Ec.U n->n<nx)/\ae Ec v0 v'):aR P K f (ax K q q' spec):=by
 refine ⟨hfn,fun B E hE args av hav m hm ps' v dh hct hps=>?_⟩;unfold ax at hct;simp only at hct;split at hct
 case h_2=>cases hct
 rename_i x hx
 cases hle:F0 q q' (kO q ⟨dz 0 args,[],E.H,m⟩)&&(Nat.beq args.length q.tm.length&&Nat.ble q'.nx K) with
 | false=>rw [hle] at hct;cases hct
 | true=>
 rw [hle] at hct;simp only [cond_true,Option.some.injEq,Prod.mk.injEq] at hct;obtain ⟨rfl,rfl,rfl⟩:=hct;simp only [Bool.and_eq_true,Nat.beq_eq] at hle;obtain ⟨hok,hlen,hKK⟩:=hle;have hKK:q'.nx<=K:=Nat.le_of_ble_eq_true hKK;have havl:=bk hav;have hstH:E.H =(⟨dz 0 args,[],E.H,m⟩:St).H:=by funext h;simp [St.H,aQ,find]
 let a0:Act:=⟨av.toArray,[]⟩
 have hT0:gC E (find (dz 0 args)) a0:=fun s v hv=>by
  simp only [gK,Nat.zero_le,if_true,Nat.sub_zero] at hv;obtain ⟨v',h1,h2⟩:=eQ hav s v hv
  have:av.toArray.getD s undef=v':=by rw [Array.getD_eq_getD_getElem?];simp [h1]
  show ae E v (av.toArray.getD s undef);rw [this];exact h2
 have hna :(q.hp.all fun x=>rb x.2)=true:=Bj hpair;obtain ⟨hsub,hnd,htm,hwf⟩:=Fe hna hx hE hstH hT0;obtain ⟨hE1,_⟩:=dI hE (zQ q ⟨dz 0 args,[],E.H,m⟩);have hMnx :(kO q ⟨dz 0 args,[],E.H,m⟩).nx=q.nx:=rfl;generalize hM:kO q ⟨dz 0 args,[],E.H,m⟩=M at *;generalize hL:zQ q ⟨dz 0 args,[],E.H,m⟩=L at *;have hE2:=pz hE1 hsub hnd
 let B':aK:=⟨E.w,sY (bX M (cb E L) (q.dy x)) (q.dy x),(cb E L).S,fun E'=>Ext (bX M (cb E L) (q.dy x)) E',fun _ _ h k=>h.trans k,hE2.R7 (E:=bX M (cb E L) (q.dy x)) fun _ ⟨n,k,hf,hb⟩=>⟨n,k,by show aQ (fun _=>none) (q.dy x) n=_;unfold aQ;rw [hf],hb⟩,[]⟩
 have hpins:B'.pins q.nx:=by rw [<-hMnx];exact Gq
 have hE2':aM B' (bX M (cb E L) (q.dy x)):=
  ⟨hE2.used,hE2.stab,hE2.lt',hE2.inj',hE2.blk,dA.refl _ _,fun h k b hx hb=> .inl ⟨h,k,bc hx,hb⟩,fun _ h=>h,fun _ h=> .inl h⟩
 have hkeysq :(q.gV x).map (·.1)=q.tm.map (·.1):=pW _;have hlenq :(q.gV x).length=q.tm.length:=by have:=congrArg List.length hkeysq;simpa using this
 have hpair0:=hpair;simp only [lK,Bool.and_eq_true] at hpair0;have hseqq:xQ 0 (q.gV x)=true:=(pU (l:=q.gV x) (l':=q.tm) hkeysq).trans hpair0.2.2.2.2.2.2.2
 have hav2:ai (bX M (cb E L) (q.dy x)) ((q.gV x).map (·.2)) av:=sR (by rw [List.length_map,hlenq,<-hlen,havl]) fun i z u hz hu=>by
  have h1:=mC hseqq i z hz;have h2:=htm (0+i) z (aB h1)
  have:a0.tmps.getD (0+i) undef=u:=by show av.toArray.getD (0+i) undef=u;rw [Nat.zero_add,Array.getD_eq_getD_getElem?];simp [hu]
  rw [this] at h2;exact h2
 obtain ⟨v0,d,nx,htup,h2,hcalls⟩:=h x hwf hps;refine (hcalls B' (bX M (cb E L) (q.dy x)) av hE2' rfl hav2 (fun n hn=>by have:n<M.nx:=hn;rw [hMnx] at this;exact this)).mono fun e w hh=>?_;obtain ⟨Ec,v',rfl,hEc,rfl,hHc,hXc,hUc,k2⟩:=hh;obtain ⟨jN,hg0⟩:=kz h2;revert hg0;generalize hy :(spec x).2=y at *;intro hg0
 obtain ⟨a',ha'⟩ :∃ a':Act,a'.defers=[]/\gC Ec (find (mB n v0)) a'/\(n=1->a'.tmps=#[v'])/\(n≠1->v' = .tuple a'.tmps/\a'.tmps.size=n):=by
  by_cases hn:n=1
  ·refine ⟨⟨#[v'],[]⟩,rfl,fun s v hv=>?_,fun _=>rfl,fun h=>absurd hn h⟩;rw [hn] at hv;have hv:find [(0,v0)] s=some v:=hv
   cases s with
   | zero=>
    have hv:some v0=some v:=hv;cases hv;simpa using k2
   | succ s=>
    have hv :(none:Option V)=some v:=hv;cases hv
  ·obtain ⟨l,rfl,hl⟩:=htup hn;simp only [ae] at k2;obtain ⟨us,rfl,hus⟩:=k2;have hul:=bk hus;refine ⟨⟨us,[]⟩,rfl,fun s v hv=>?_,fun h=>absurd h hn,fun _=>⟨rfl,by rw [<-hl,hul];simp⟩⟩
   have hb:Nat.beq n 1=false:=by
    cases hb:Nat.beq n 1 with
    | false=>rfl
    | true=>exact absurd (Nat.eq_of_beq_eq_true hb) hn
   unfold mB at hv;rw [hb] at hv;simp only [cond_false,gK,Nat.zero_le,if_true,Nat.sub_zero] at hv;obtain ⟨u,g1,g2⟩:=eQ hus s v hv
   have:us.getD s undef=u:=by rw [Array.getD_eq_getD_getElem?,<-Array.getElem?_toList,g1];rfl
   rw [this];exact g2
 obtain ⟨hd',hT',hone,hmany⟩:=ha';have hst:jM B' a'.tmps.size ⟨mB n v0,d,fun _=>none,nx⟩ a' Ec.w:=⟨⟨Ec,hEc,rfl,hHc,⟨hXc,hUc⟩,hT'⟩,rfl,hd'⟩;obtain ⟨⟨Ed,hEd,hdw,hHd,⟨hXd,hUd⟩,hTd⟩,_,_⟩:=me hpins hg0 jN hst;simp only [lK,Bool.and_eq_true,List.all_eq_true] at hpair;obtain ⟨o8,o1,o2,o3,o4,o5,o6,o7⟩:=hpair;simp only [F0,Bool.and_eq_true,List.all_eq_true] at hok;obtain ⟨n1,n2⟩:=hok;have hkeys1 :(q'.dy y).map (·.1)=q'.hp.map (·.1):=mY _;have hkeys0 :(q.dy x).map (·.1)=q.hp.map (·.1):=mY _
 have hfl:cV q'=false\/((q'.tm.all fun x=>E6 x.2)=true/\(q'.hp.all fun x=>CK x.2)=true):=by
  cases hf:cV q' with
  | false=>exact .inl rfl
  | true=>simp only [cV,Bool.and_eq_true] at hf;exact .inr hf
 have hhp:=HS (fl:=cV q') (hl:=q'.hp.map (·.1)) (vl:=jq q'.hp) (l:=q'.hp) (r:= .unit) (jF q'.tm (fS q'.hp .unit) y).2 (List.all_eq_true.2 o2) (hfl.imp id (·.2));have htmv:=I9 (fl:=cV q') (hl:=q'.hp.map (·.1)) (vl:=jq q'.hp) (l:=q'.tm) (r:=fS q'.hp .unit) y (List.all_eq_true.2 o1) (hfl.imp id (·.1))
 have vers :∀ (l:List (Nat×PB)) (z:Den (fS l .unit)) (v:Nat),v∈jq l->∃ n t xs,(n,bd.row v true t xs)∈(cN l .unit z).1:=by
  intro l
  induction l with
  | nil=>intro z v hv;simp [jq] at hv
  | cons q0 l ih=>
   obtain ⟨n0,b0⟩:=q0;intro z v hv
   have tl:v∈jq l->∃ n t xs,(n,bd.row v true t xs)∈(cN ((n0,b0)::l) .unit z).1:=fun h=>by obtain ⟨n,t,xs,hm⟩:=ih (kx b0 (fS l .unit) z).2 v h;exact ⟨n,t,xs,by simp only [cN];exact List.mem_cons_of_mem _ hm⟩
   cases b0 with
   | cells=>exact tl hv
   | dat=>exact tl hv
   | abs=>exact tl hv
   | row v0 t0=>
    simp only [jq,List.mem_cons] at hv;rcases hv with rfl|hv
    ·exact ⟨n0,t0,_,by simp only [cN,kx];exact List.mem_cons_self⟩
    ·exact tl hv
 have rowsP :∀ (l:List (Nat×PB)) (z:Den (fS l .unit)) (n v:Nat) (rw:Bool) (t:Ty) (xs:List (Den t)),(n,bd.row v rw t xs)∈(cN l .unit z).1->(n,PB.row v t)∈l:=by
  intro l
  induction l with
  | nil=>intro z n v rw t xs hm;simp [cN] at hm
  | cons q0 l ih=>
   obtain ⟨n0,b0⟩:=q0;intro z n v rw t xs hm;simp only [cN,List.mem_cons,Prod.mk.injEq] at hm;rcases hm with ⟨rfl,hm⟩|hm
   ·cases b0 with
    | cells=>simp [kx] at hm
    | dat=>simp [kx] at hm
    | abs=>simp [kx] at hm
    | row v0 t0=>simp only [kx] at hm;obtain ⟨rfl,rfl,rfl,_⟩:=hm;exact List.mem_cons_self
   ·exact List.mem_cons_of_mem _ (ih _ _ _ _ _ _ hm)
 have hHd':Ed.H=aQ (fun _=>none) (q'.dy y):=hHd
 have hvl :∀ v,v∈jq q'.hp->∃ n t xs,find (q'.dy y) n=some (.row v true t xs):=fun v hv=>by
  obtain ⟨n,t,xs,hm⟩:=vers q'.hp _ v hv
  have hnd1 :((q'.dy y).map (·.1)).Nodup:=by rw [hkeys1];exact iG.1 o8
  exact ⟨n,t,xs,mT hnd1 hm⟩
 obtain ⟨E',G,hv⟩:=zw (B:=B) (fl:=cV q') hE hm hsub hnd hEd hHd' hXd (nx1:=q'.nx) hUd hKK (vl:=jq q'.hp)
  (fun n k hm'=>by
   have:=hhp n k hm'
   rw [hkeys1]
   exact this) hvl
  (fun n hn=>by
   rw [hkeys1] at hn;rw [hkeys0]
   have:=o5 n hn
   simp only [Bool.or_eq_true] at this;rcases this with h1|h1
   ·left;rw [hMnx];exact Nat.le_of_ble_eq_true h1
   ·right;exact bp.1 h1)
  (fun n hn=>by
   rw [hkeys0] at hn;rw [hkeys1];obtain ⟨z,hz1,rfl⟩:=List.mem_map.1 hn
   exact bp.1 (o6 z hz1).1)
  (fun n v rw t xs hf=>by
   have:=o4 _ (rowsP q'.hp _ _ _ _ _ _ (aB hf))
   simp only [Bool.or_eq_true,Nat.blt_eq] at this;rw [hMnx]
   exact this.imp Nat.le_of_ble_eq_true id)
  (fun n hn hz=>by
   rw [hkeys0] at hn;obtain ⟨z,hz1,rfl⟩:=List.mem_map.1 hn
   have:=n1 z hz1
   rw [hz] at this
   exact this)
  (fun n v rw t xs hf hz=>by
   have:=n1 _ (rowsP q.hp _ _ _ _ _ _ (aB hf))
   simp only [hz] at this
   cases hh:find M.σ v with
   | none=>rfl
   | some j=>rw [hh] at this;cases this)
  (fun v v' hv hv' l1 l2 z1 z2 s1 s2 e=>by
   refine gk (iG.1 n2) (List.mem_filter.2 ⟨hv,?_⟩) (List.mem_filter.2 ⟨hv',?_⟩) e
   ·simp [l1,z1,s1]
   ·simp [l2,z2,s2])
 rw [hdw] at G;refine ⟨E',v',rfl,G,hv _ _ ?_ ?_⟩
 ·rw [hkeys1];unfold Gj;split
  ·rfl
  ·rename_i y0 r hy0;split
   ·exact htmv y0.1 y0.2 (by show (y0.1,y0.2)∈q'.gV y;rw [hy0];exact List.mem_cons_self)
   ·show fD _ _ _ ((q'.gV y).map (·.2))=true
    have :∀ l:List (Nat×V),(∀ s v,(s,v)∈l->okV (cV q') (q'.hp.map (·.1)) (jq q'.hp) v=true)->fD (cV q') (q'.hp.map (·.1)) (jq q'.hp) (l.map (·.2))=true:=by
     intro l
     induction l with
     | nil=>intro _;rfl
     | cons z l ih=>intro hz;simp only [List.map_cons,fD,Bool.and_eq_true];exact ⟨hz z.1 z.2 List.mem_cons_self,ih fun s v hm=>hz s v (List.mem_cons_of_mem _ hm)⟩
    exact this _ htmv
 ·have hlen :(q'.gV y).length=n:=by
   have :((q'.gV y).map (·.1)).length =(q'.tm.map (·.1)).length:=by rw [show (q'.gV y).map (·.1)=q'.tm.map (·.1) from pW _]
   simpa [hres] using this
  have hseq:xQ 0 (q'.gV y)=true:=(pU (l:=q'.gV y) (l':=q'.tm) (pW _)).trans o3;unfold Gj;split
  ·rename_i hy0;rw [hy0] at hlen;obtain ⟨h5,h6⟩:=hmany (by rw [<-hlen];simp);rw [h5];simp only [ae];refine ⟨_,rfl,?_⟩
   have:a'.tmps.toList=[]:=by apply List.eq_nil_of_length_eq_zero;simp [h6,<-hlen]
   rw [this];simp [ai]
  ·rename_i y0 r hy0;split
   ·rw [hy0] at hlen;have h5:=hone (by rw [<-hlen];rfl);have h6:=mC hseq 0 y0.2 (by rw [hy0];rfl)
    have:=hTd (0+0) y0.2 h6
    rw [h5] at this;simpa using this
   ·rename_i y1 r';rw [hy0] at hlen;obtain ⟨h5,h6⟩:=hmany (by rw [<-hlen];simp);rw [h5];simp only [ae];refine ⟨_,rfl,sR ?_ fun i z u hz hu=>?_⟩
    ·rw [hy0];simp only [List.length_map,Array.length_toList,h6,<-hlen]
    ·have h7:=mC hseq i z hz
     have:=hTd (0+i) z h7
     rw [Nat.zero_add,Array.getD_eq_getD_getElem?,<-Array.getElem?_toList,hu] at this;exact this
def Et (q:bl) (x:Den (bj q)):List U:=(q.gV x).map fun z=>mG (Xe z.2)
def aec (q':bl) (ts:List Ty) (p:Nat) (r:Rf):Option (Den (bj q')):=Rf.rec (motive:=fun _=>Option (Den (bj q'))) (fun u hp nx=>match Bq (fi hp) ts u.bK with
 | some v0=>jk p q' ⟨mB ts.length v0,[],fun _=>none,nx⟩
 | none=>none) (fun _ _ _=>none) (fun _=>none) r
def isD {q':bl} (y0:Den (bj q')) (r:Option (Den (bj q'))):Bool:=match r with
 | some y=>MV gb (bj q') y y0
 | none=>false
theorem BN {E:Env} :∀ {vs:List V} {us:List Value},ai E vs us->ai E (vs.map fun v=>(mG (Xe v)).bK) us
 | [],[],_=>by simp [ai]
 | [],_::_,h=>by simp [ai] at h
 | _::_,[],h=>by simp [ai] at h
 | _::_,_::_,h=>by simp only [List.map_cons,ai] at h ⊢;exact ⟨(HW _).trans (nI _) _ _ h.1,BN h.2⟩
theorem v8 (hcall:CallVOK P call) {f:FuncId} {Kc:Nat} {q q':bl} (x0:Den (bj q)) (y0:Den (bj q')) {ts:List Ty} (hpair:lK q q'=true) (hq:q.hp=[]) (hres:q'.tm.length=ts.length)
  (hrun:isD y0 (aec q' ts q.nx (call f (Et q x0) jN q.nx))=true):aR P Kc f (ax Kc q q' fun x=>([x=x0],y0)):=by
 cases hr:call f (Et q x0) jN q.nx with
 | no w=>rw [hr] at hrun;cases hrun
 | ex u hp' nx'=>rw [hr] at hrun;cases hrun
 | ok u hp' nx'=>
  rw [hr] at hrun
  have F:=hcall.ok f (Et q x0) jN q.nx u hp' nx' (fun x hx=>by
   unfold Et at hx;obtain ⟨z,_,rfl⟩:=List.mem_map.1 hx
   exact nJ _) Oi hr
  have hrun:isD y0 (match Bq (fi hp') ts u.bK with
   | some v0=>jk q.nx q' ⟨mB ts.length v0,[],fun _=>none,nx'⟩
   | none=>none)=true:=hrun
  cases hpk:Bq (fi hp') ts u.bK with
  | none=>rw [hpk] at hrun;cases hrun
  | some v0=>
   rw [hpk] at hrun;simp only at hrun
   cases hrd:jk q.nx q' ⟨mB ts.length v0,[],fun _=>none,nx'⟩ with
   | none=>rw [hrd] at hrun;cases hrun
   | some y=>
    rw [hrd] at hrun;have hy:y=y0:=tp gb _ y y0 hrun;subst hy;refine S6 F.fn hpair hres fun x _ hx=>?_;obtain rfl:x=x0:=hx _ (List.mem_singleton.2 rfl)
    have hpn:q.dy x=[]:=by have hk :(q.dy x).map (·.1)=q.hp.map (·.1):=mY _;rw [hq] at hk;exact List.map_eq_nil_iff.1 hk
    have htup:ts.length≠1->∃ l,v0 = .tup l/\l.length=ts.length:=fun hn=>by
     unfold Bq at hpk;split at hpk
     ·exact absurd rfl hn
     ·split at hpk
      case h_2=>cases hpk
      rename_i vs _;split at hpk
      case h_2=>cases hpk
      rename_i l hl;cases hpk;refine ⟨l,rfl,?_⟩
      have :∀ {ts:List Ty} {vs l:List V},Br (fi hp') ts vs=some l->l.length=ts.length:=by
       intro ts
       induction ts with
       | nil=>intro vs l h;cases vs <;> cases h;rfl
       | cons t ts ih=>
        intro vs l h
        cases vs with
        | nil=>cases h
        | cons v vs=>
         simp only [Br] at h;split at h
         case h_2=>cases h
         split at h
         case h_2=>cases h
         rename_i r hr;cases h;simp [ih hr]
      exact this hl
    refine ⟨v0,[],nx',htup,hrd,fun B E av hE hH hav hU=>?_⟩;refine (F.calls B E av hE (by rw [hH,hpn,UE];rfl) ?_ (fun n h1 _ hu=>absurd (hU n hu) (by omega))).mono fun e w' hh=>?_
    ·unfold Et
     have:=BN hav
     rw [List.map_map] at this;rw [List.map_map];exact this
    ·obtain ⟨E',v',rfl,C⟩:=hh;obtain ⟨R2,X2⟩:=Lx C.rel;refine ⟨wK E',v',rfl,R2,C.w,rfl,C.ext.trans X2,fun n hn=>?_,?_⟩
     ·have hle:=F.le;rcases C.u n hn with h|h
      ·have:=hU n h;omega
      ·exact h.2
     ·rw [<-C.h] at hpk;exact (Gm C.rel hpk C.v).1
theorem JF {g Kc:Nat} {ct:dR} (hc:aR P Kc g ct) {us:List U} {v:V} {u:U} (hct :∀ H m,∃ ps,ct (us.map U.bK) H m=some (ps,v,[])/\∀ p∈ps,p) (hu:fg v u.bK) (hw:u.wf) {hp:HP} {nx:Nat} (W:mX hp):FnV P g us hp nx u hp (nx+Kc):=
 ⟨hc.fn,Nat.le_add_right _ _,hw,W,fun B E av hE hH hav hfr=>by
  obtain ⟨ps,h1,h2⟩:=hct E.H nx;refine (hc.calls B E hE _ av hav nx hfr ps v [] h1 h2).mono fun e w' hh=>?_;obtain ⟨E',v',rfl,G,hv⟩:=hh
  exact ⟨E',v',rfl,⟨G.rel,G.w,by rw [G.h,rU,hH],G.ext,G.u,hu _ _ hv⟩⟩⟩
abbrev Ej:=FuncId->Option (List U->Option (U×Nat))
def vn (n:Nat) :(Nat->Rf)->Rf:=Nat.rec (motive:=fun _=>(Nat->Rf)->Rf) (fun k=>k 0) (fun n _ k=>k (Nat.succ n)) n
theorem J2 (n:Nat) (k:Nat->Rf):vn n k=k n:=by cases n <;> rfl
def Oh (_Kf:Nat->Rf) (r:Rf):Option (U×Nat)->HP->Nat->Rf:=fun o hp nx=>Option.rec (motive:=fun _=>Rf) r (fun q=>Prod.rec (motive:=fun _=>Rf) (fun u k=>vn (Nat.add nx k) fun nx=> .ok u hp nx) q) o
def NX (tb:bG) (P:FuncId->Option Func) (X:BT) (KK:FuncId->Nat) (Hk:Ej) (f:FuncId):Fc:=Option.rec (motive:=fun _=>Fc) (vk tb P X KK f) (fun hk=>⟨fun call args hp nx=>Oh (fun _=> .no []) (Fc.run (vk tb P X KK f) call args hp nx) (hk args) hp nx⟩) (Hk f)
def vX (tb:bG) (P:FuncId->Option Func) (X:BT) (KK:FuncId->Nat) (Hk:Ej) (d:Nat):gE:=Nat.rec (motive:=fun _=>gE) (fun _ _ _ _=> .no [11]) (fun _ ih f args hp nx=>Fc.run (NX tb P X KK Hk f) ih args hp nx) d
def aai (P:Program) (Hk:Ej):Prop:=∀ g hk,Hk g=some hk->∀ args q hp nx,(∀ x∈args,U.wf x)->mX hp->hk args=some q->FnV P g args hp nx q.1 hp (nx+q.2)
theorem RY (hT:cn P tb) (hP:P.follows .mixedOrders=true) (hname :∀ (f:FuncId) (fn:Func),P.funcs[f]?=some fn->(fn.name == "runtime.NumGoroutine")=false) {Pf:FuncId->Option Func} (hPf :∀ (f:FuncId) (fn:Func),Pf f=some fn->P.funcs[f]?=some fn) {X:BT} (hX:XOK P X) (KK:FuncId->Nat) (ih:CallVOK P call) :
  CallVOK P fun g args hp nx=>Fc.run (vk tb Pf X KK g) call args hp nx:=by
 refine ⟨fun g args hp nx u hp' nx' Wa Wh h=>?_,fun g args hp nx u hp' nx' Wa h=>?_⟩
 ·unfold vk at h
  cases hx:X g with
  | some x=>
   rw [hx] at h;have h:NU (x args) hp nx = .ok u hp' nx':=h
   cases hxa:x args with
   | none=>rw [hxa] at h;cases h
   | some u1=>rw [hxa] at h;cases h
  | none=>
   rw [hx] at h;have h:Fc.run (Option.rec (motive:=fun _=>Fc) ⟨fun _ _ _ _=> .no [12]⟩ (CN tb (KK g)) (Pf g)) call args hp nx = .ok u hp' nx':=h
   cases hp1:Pf g with
   | none=>rw [hp1] at h;cases h
   | some fn=>rw [hp1] at h;exact E7 hT hP hname ih (hPf _ _ hp1) Wa Wh h
 ·unfold vk at h
  cases hx:X g with
  | some x=>
   rw [hx] at h;have h:NU (x args) hp nx = .ex u hp' nx':=h
   cases hxa:x args with
   | none=>rw [hxa] at h;cases h
   | some u1=>rw [hxa] at h;cases h;obtain ⟨h1,h2⟩:=hX g x hx args u Wa hxa;exact ⟨rfl,rfl,h1,h2⟩
  | none=>
   rw [hx] at h;have h:Fc.run (Option.rec (motive:=fun _=>Fc) ⟨fun _ _ _ _=> .no [12]⟩ (CN tb (KK g)) (Pf g)) call args hp nx = .ex u hp' nx':=h
   cases hp1:Pf g with
   | none=>rw [hp1] at h;cases h
   | some fn=>rw [hp1] at h;exact (Jy h).elim
theorem Ez (hT:cn P tb) (hP:P.follows .mixedOrders=true) (hname :∀ (f:FuncId) (fn:Func),P.funcs[f]?=some fn->(fn.name == "runtime.NumGoroutine")=false) {Pf:FuncId->Option Func} (hPf :∀ (f:FuncId) (fn:Func),Pf f=some fn->P.funcs[f]?=some fn) {X:BT} (hX:XOK P X) (KK:FuncId->Nat) {Hk:Ej} (hH:aai P Hk) :∀ d,CallVOK P (vX tb Pf X KK Hk d)
 | 0=>⟨fun g args hp nx u hp' nx' _ _ h=>(by cases h),fun g args hp nx u hp' nx' _ h=>(by cases h)⟩
 | d+1=>by
  have ih:=Ez hT hP hname hPf hX KK hH d;have ic:=RY hT hP hname hPf hX KK ih;refine ⟨fun g args hp nx u hp' nx' Wa Wh h=>?_,fun g args hp nx u hp' nx' Wa h=>?_⟩
  ·have h:Fc.run (NX tb Pf X KK Hk g) (vX tb Pf X KK Hk d) args hp nx = .ok u hp' nx':=h;unfold NX at h
   cases hx:Hk g with
   | none=>rw [hx] at h;exact ic.ok g args hp nx u hp' nx' Wa Wh h
   | some hk=>
    rw [hx] at h;have h:Oh (fun _=> .no []) (Fc.run (vk tb Pf X KK g) (vX tb Pf X KK Hk d) args hp nx) (hk args) hp nx = .ok u hp' nx':=h
    cases hq:hk args with
    | none=>rw [hq] at h;exact ic.ok g args hp nx u hp' nx' Wa Wh h
    | some q=>rw [hq] at h;have h:vn (nx+q.2) (fun nx=> .ok q.1 hp nx) = .ok u hp' nx':=h;rw [J2] at h;cases h;exact hH g hk hx args q _ nx Wa Wh hq
  ·have h:Fc.run (NX tb Pf X KK Hk g) (vX tb Pf X KK Hk d) args hp nx = .ex u hp' nx':=h;unfold NX at h
   cases hx:Hk g with
   | none=>rw [hx] at h;exact ic.ex g args hp nx u hp' nx' Wa h
   | some hk=>
    rw [hx] at h;have h:Oh (fun _=> .no []) (Fc.run (vk tb Pf X KK g) (vX tb Pf X KK Hk d) args hp nx) (hk args) hp nx = .ex u hp' nx':=h
    cases hq:hk args with
    | none=>rw [hq] at h;exact ic.ex g args hp nx u hp' nx' Wa h
    | some q=>rw [hq] at h;have h:vn (nx+q.2) (fun nx=> .ok q.1 hp nx) = .ex u hp' nx':=h;rw [J2] at h;cases h
end
end
end Go.aa
namespace Go.Proofs.YtjcbhomccohklaaGreatDoor
section
open Go Go.aa Go.RowKit
noncomputable def Wr:List Nat:= [
 0,0,0,65119,24575,1527,140720310845503,1032940127599,95,594939163895262103551,1947349200245056407673908985094143,
 2392683150551144683568538656555278561279,33786519748097791,4556521684263376639,33518643,33518643,5,618970010428591257176961527,
 316853431581361610345484644855,1074250695,342961754377944325198902640958314186751,1,31039,2175,2207680827519,80941,571884156494847,
 730729220306227659762194183914400919200083747103,66037,37463,137564798303,302230879571321747537903,154213489041278403426151199,
 1213667822984302636833487,365403373062433333546563561133644584319791093743,68531,15,2549836180598591,135091,590007613036614872863,189,2093,
 17205069072303483745460431797280757845121363959,432600376175263735,135333885,590293562956938354615,21299455823972908768697484916704673631,
 15647962890497478761257512869494775,154653373227835051981125359370231,135858109,270003,147569453388095438327,18031149959998317,
 2537796727798967729357673716799,33518643,7,262719,575408255,206561870351,132127,33518643,16909343,1074250695,1074250695,584132333839,5,
 43663,137564798303,2744855811295851277030285654977469577215,9837270009305429375,3291512852128515859596046115015110284366959928573999567273181151,
 17661509535773,71,62811766190143,70435309755079,21,29,9952028611233722914988628719,536875975,21,33624375,567637910811613,34871,
 157734642905710068991,7,17247504839,287,751,1125899906781167,543,68531,15,68531,31,2111,67791,33624247,1267766971744237,537982711,7,
 550831686637,17247504839,33271,287,18154794255615,1157496576784466559,36296793806975,2111,67791,41619509458458402374926480527327247,
 623371976811471490270839,21,2203355973565,7,18013866068819231,19,5,603909516494502635802615,19,15,5,5,5,1,65805,393671,100215,41461,
 7,1074266623,41461,554189343,537427959,7,30767,10680565413657634966791598749211705311,1748372298083039162489419473994526981374079,
 613909102082408237765055,23,4611685889574277119,9690297247829818509099023,7,549823021095,16885,19,34359873459,69868716031,5,71,68531,
 527852025946365,51,1152956693341280511,50467315,19,17714647155,594912002450663878599,17247509535,21,
 5574585500266620241506278819022995797836279,45798598826349314118952776107391,30767,1166414994787599451,30468223768147948836066781331485,7,
 35184338929599,313835791421,189,71,2436141435116378390535,5,72110370594031615,10625322633999130018815,270007,
 2658455675924155280183567316963852351,71,17314119695,255,68531,526359,5,19,563,147,8467,65811,66109,4243,33171,262771,201458291,
 749019592093908130998168547243858079179057434181575,2035,2035,711,711,39696297806334883182330020991,147511,545799231,189,71,16403,
 2436141435116378390535,8388487,5,37742254529999670338043,4718529,18330886059069691,270007,166153420561695367707252321293500543,7,
 101442647862428755572662893270609959105484889768075967,147511,71,16527,30791694323487,72268425669383167,7,17188391667,1043,19,1037,19,
 281518060864637,5,3259340307738458011409318461,77,5,5,71,9942831655231632527697442807,17041395,89478431,19,8191,71,21,21,21,
 281473366116127,8380695,4726978173286391744511,39,1125899890069523,71,1137188723,290623467576168319,9175,
 145025710296123410904321674198368924715718399,18272502847,21,141,3288334866514706593133645328825960668421405409267,
 20426029832823244530989399071,167646794486930362006707544072189,15663183425078192791428758033914457634011265410594242675,5,5,19,5,19,7,
 5233021378056568784808409033611007,18272502847,15,67650767,66015,669319516925162926939791635824639,8311,8396919,577588028814460111,134199,
 17318199,2276601635023,33882175,176160575,153157571569583935,39,526271,5,540949,13,5,5,1037,5,0,68531,0,19,5,4393886845391,
 132063,2502854235920920419110911,16631,16793847,20268951531555279,268407,34636407,18212808952271,67764351,264703,4327551,2449471999,
 19221507316027580516863,39,526271,151,180457415182559,1069614111,5465788277392579832897814308109687003511,4434693189791,18281528828543,
 72057680004915423,7,8406071,151,16535,31,21,21,68531,8388487,7,151,8388487,739154422722068959,9663669631,148638630510879231,
 72057680004907231,4047,8406071,65795,8388487,151,279,31,151,34357774559,34771,34082647,61,538972275,5,5,151,34357772511,4278323263,
 4434693189791,34082647,0,0,0,0,0,0,0,0,0,0,0,0,0,0,0,0,0,0,0,0,0,0,0,0,0,0,0,0,8]
noncomputable def awK (f:FuncId):Nat:=(Wr[f]?).getD 0
noncomputable def awX:BT:=fun f=>Bool.rec (motive:=fun _=>Option (List U->Option U)) none (some ixB) (Nat.beq f 288)
noncomputable def awP (f:FuncId):Option Func:=Tryz.prog.funcs[f]?
theorem Jj:J0 Tryz.prog=true:=by kernel_rfl
theorem aay:cn Tryz.prog (MP VZ):=Ud D1
theorem Uu:XOK Tryz.prog awX:=fun g x hx args u _ h=>by
 have hx :(Bool.rec (motive:=fun _=>Option (List U->Option U)) none (some ixB) (Nat.beq g 288):Option (List U->Option U))=some x:=hx
 cases hb:Nat.beq g 288 with
 | false=>rw [hb] at hx;cases hx
 | true=>rw [hb] at hx;cases hx;obtain rfl:=bf hb;exact Xb Tryz.func288 (by kernel_rfl) (by kernel_rfl) (by kernel_rfl) (by kernel_rfl) h
theorem Nj (d:Nat):CallVOK Tryz.prog (zx (MP VZ) awP awX awK d):=EA aay mixed (FS Jj) (fun _ _ h=>h) Uu awK d
abbrev tEx:Ty:= .slice (.nm .Event)
abbrev tPx:Ty:= .slice (.nm .cA)
abbrev I7:Ty:= .int .i64
def HH:aj:={ aj.zero with Name:=⟨#[84,69,83,84]⟩,Side:=2,Innings:=1,Overs:=1,Balls:=4,Wide:=1,NoBall:=1,Outside:=11 }
def Z6:List aa.Event:= [⟨1,1,0,0,true,0,0,⟨0,0,0,0,0,false,0,0,0,0,false,0⟩⟩,⟨2,0,1,2,false,0,0,⟨0,0,0,0,0,false,0,0,0,0,false,0⟩⟩,⟨8,0,2,0,false,0,0,⟨0,0,0,0,0,false,0,0,0,0,false,0⟩⟩,⟨3,0,1,0,false,0,0,⟨0,0,0,0,0,false,0,0,0,0,false,0⟩⟩,⟨4,0,0,0,false,0,0,⟨1,1,1,0,0,false,0,0,0,0,false,0⟩⟩,⟨4,0,0,0,false,0,0,⟨1,0,0,0,0,false,1,1,0,0,false,0⟩⟩,⟨2,0,2,1,false,0,0,⟨0,0,0,0,0,false,0,0,0,0,false,0⟩⟩,⟨8,0,1,0,false,0,0,⟨0,0,0,0,0,false,0,0,0,0,false,0⟩⟩,⟨3,0,2,0,false,0,0,⟨0,0,0,0,0,false,0,0,0,0,false,0⟩⟩,⟨4,0,0,0,false,0,0,⟨2,0,0,0,0,false,0,0,0,0,false,0⟩⟩,⟨4,0,0,0,false,0,0,⟨1,1,0,0,4,false,0,0,0,0,false,0⟩⟩]
abbrev Yo:bl:=cQ []
abbrev PM:bl:=cQ [tEx]
abbrev ad9:List vg:= [.h .str,.h I7,.h I7,.h I7,.h I7,.h I7,.h I7,.h I7,.h .bool,.h I7,.h I7,.h I7,.h I7,.c .nilsl]
abbrev Ds:bl:=⟨[(0,.a ad9),(1,.h tEx)],[],0⟩
def uu:Den (bj Ds):=(HH.Name,HH.Side,HH.Innings,HH.Overs,HH.Balls,HH.Quota,HH.Wide,HH.NoBall,HH.FreeHit,HH.NewBall,HH.FollowOn,HH.Reviews,HH.Outside,Z6,())
abbrev sD:bl:=cQ [tPx,.nm .Match,I7,I7]
theorem Yf:aR Tryz.prog KE 22 (ax KE Yo PM fun x=>([x =()],(Z6,()))):=
 v8 (q:=Yo) (q':=PM) (Nj 10) () (Z6,()) (ts:= [tEx]) rfl rfl rfl (by kernel_rfl)
def exP:List cA:= [⟨4,0,0,0,1,1,2,false,⟨1,1,1,0,0,false,0,0,0,0,false,0⟩,⟨1,0,0,0,0,1,true,true,false,true⟩,1,0⟩,⟨5,0,0,1,1,2,1,false,⟨1,0,0,0,0,false,1,1,0,0,false,0⟩,⟨0,0,0,0,0,0,true,true,true,false⟩,1,1⟩,⟨9,1,0,0,2,2,1,false,⟨2,0,0,0,0,false,0,0,0,0,false,0⟩,⟨0,1,0,0,0,1,false,false,false,false⟩,1,0⟩,⟨10,1,0,0,2,2,1,false,⟨1,1,0,0,4,false,0,0,0,0,false,0⟩,⟨4,0,0,0,0,4,true,true,false,false⟩,5,0⟩]
def exM:Match:=⟨HH,5,1,false,[⟨1,0,1,1,1,⟨0,0,0,0,0⟩,0,2,0,1,[1,2],1,[1],[],true,[2,0],false,2,2,0,[false,false],(0,0,()),1⟩,⟨2,2,1,5,0,⟨1,0,0,0,0⟩,0,1,2,1,[1,1],2,[2],[],true,[0,1],false,1,1,0,[false,false],(0,0,()),3⟩],(0,0,()),⟨2,2,1⟩⟩
def yw:Den (bj sD):=(exP,exM,(-1:Int),(0:Int),())
theorem SX:aR Tryz.prog KE 43 (ax KE Ds sD fun x=>([x=uu],yw)):=
 v8 (Nj 40) uu yw (ts:= [tPx,.nm .Match,I7,I7]) rfl rfl rfl (by kernel_rfl)
def Q6:V:= .fsl (.nm .Event) Z6
noncomputable def acd:U:= .oth Q6
def KI:V:=Gj (sD.gV yw)
noncomputable def ace:U:=mG (Xe KI)
def M8:V:= .agg [.str HH.Name,.int .i64 2,.int .i64 1,.int .i64 1,.int .i64 4,.int .i64 0,.int .i64 1,.int .i64 1,.kb false,.int .i64 0,.int .i64 0,.int .i64 0,.int .i64 11,.nilsl]
def JJ (v:V):Bool:=match v with
 | .fsl t xs=>if h:t = .nm .Event then HA (MV gb (.nm .Event)) (h▸xs:List (Den (.nm .Event))) Z6 else false
 | _=>false
theorem On {v:V} (h:JJ v=true):v=Q6:=by
 unfold JJ at h;split at h
 ·split at h
  ·rename_i e;subst e
   have:=Cv (tp gb _) h
   unfold Q6;exact congrArg _ this
  ·cases h
 ·cases h
noncomputable def Og (args:List U):Option (U×Nat):=match args with
 | []=>some (acd,KE)
 | _=>none
noncomputable def HQ (args:List U):Option (U×Nat):=match args with
 | [a,b]=>Bool.rec (motive:=fun _=>Option (U×Nat)) none (Bool.rec (motive:=fun _=>Option (U×Nat)) none (some (ace,KE)) (JJ b.bK)) (V.qP a.bK M8)
 | _=>none
noncomputable def WR:Ej:=fun f=>Bool.rec (motive:=fun _=>Option (List U->Option (U×Nat))) (Bool.rec (motive:=fun _=>Option (List U->Option (U×Nat))) none (some HQ) (Nat.beq f 43)) (some Og) (Nat.beq f 22)
theorem WY (H:a6) (m:Nat) :∃ ps,ax KE Yo PM (fun x=>([x =()],(Z6,()))) [] H m=some (ps,Q6,[])/\∀ p∈ps,p:=
 ⟨[() =()],by kernel_rfl,fun p hp=>by rw [List.mem_singleton.1 hp]⟩
theorem R9 (H:a6) (m:Nat) :∃ ps,ax KE Ds sD (fun x=>([x=uu],yw)) [M8,Q6] H m=some (ps,KI,[])/\∀ p∈ps,p:=
 ⟨[uu=uu],by kernel_rfl,fun p hp=>by rw [List.mem_singleton.1 hp]⟩
theorem WS:aai Tryz.prog WR:=fun g hk h args q hp nx _ W hq=>by
 have h :(Bool.rec (motive:=fun _=>Option (List U->Option (U×Nat))) (Bool.rec (motive:=fun _=>Option (List U->Option (U×Nat))) none (some HQ) (Nat.beq g 43)) (some Og) (Nat.beq g 22))=some hk:=h
 cases h1:Nat.beq g 22 with
 | true=>
  rw [h1] at h;cases h;obtain rfl:=bf h1;unfold Og at hq;split at hq
  ·cases hq;exact JF Yf (us:= []) (u:=acd) WY (fg.refl _) trivial W
  ·cases hq
 | false=>
  rw [h1] at h
  cases h2:Nat.beq g 43 with
  | false=>rw [h2] at h;cases h
  | true=>
   rw [h2] at h;cases h;obtain rfl:=bf h2;unfold HQ at hq;split at hq
   ·rename_i a b _
    cases h3:V.qP a.bK M8 with
    | false=>rw [h3] at hq;cases hq
    | true=>
     rw [h3] at hq
     cases h4:JJ b.bK with
     | false=>rw [h4] at hq;cases hq
     | true=>rw [h4] at hq;cases hq;refine JF SX (us:= [a,b]) (v:=KI) (fun H m=>?_) ((HW _).trans (nI _)) (nJ _) W;show ∃ ps,ax KE Ds sD (fun x=>([x=uu],yw)) [a.bK,b.bK] H m=some (ps,KI,[])/\∀ p∈ps,p;rw [V.wi _ _ h3,On h4];exact R9 H m
   ·cases hq
theorem WQ (d:Nat):CallVOK Tryz.prog (vX (MP VZ) awP awX awK WR d):=Ez aay mixed (FS Jj) (fun _ _ h=>h) Uu awK WS d
def AJ:FuncId×dR:=(6,bq KE .unit fun _=>⟨[],.bool true,[]⟩)
theorem adY:abb true (vX (MP VZ) awP awX awK WR 40 6 [] jN 0)=true:=by kernel_rfl
theorem Iu:aR Tryz.prog KE 6 (bq KE .unit fun _=>⟨[],.bool true,[]⟩):=Hv (WQ 40) adY
end
section
open Go Go.aa Go.RowKit
attribute [local irreducible] Go.aa.DT.sat Go.aa.a8 Go.aa.RT.sat Go.aa.dD
abbrev hpV:List (Nat×PB):= [(0,.dat (.nm .aj)),(1,.dat (.nm .ay))]
abbrev tmV:List (Nat×PC):= [(2,.c (.ptr 0 0)),(3,.c (.ptr 1 0)),(6,.h kP)]
abbrev acq:Lf×bl:=(.ret,⟨[(4,.h I)],[],0⟩)
abbrev qV0:bl:=⟨tmV++[(36,.h I),(37,.h I)],hpV,2⟩
abbrev xV0:List (Lf×bl):= [(.ext 0,⟨tmV,hpV,2⟩),acq]
abbrev TV0:Type:=List ag×Int×Int×aj×aa.ay×Unit
def eB (a:List ag) (r:aj) (b:aa.ay) (e:Int):Sum (List ag×aj×aa.ay×Unit) (Int×Unit):=if e != 0 then .inr (e,()) else .inl (a,r,b,())
def kB:TV0->Sum (List ag×aj×aa.ay×Unit) (Int×Unit)
 |(a,_,i,r,b,_)=>eB a r b (vw r (b.Boxes.take i.toNat) (b.Boxes.drop i.toNat))
def Ap:TV0->Prop
 |(a,n,i,r,b,_)=>(n =(b.Boxes.length:Int)/\po b.Boxes)/\(0<=i/\i<=n)/\vE r a/\sT r
def yV:TV0->Nat
 |(_,n,i,_)=>(n - i).toNat
abbrev qV1:bl:=⟨tmV++[(52,.h I),(53,.h I)],hpV,2⟩
abbrev xV1:List (Lf×bl):= [(.ext 2,⟨tmV,hpV,2⟩),acq]
def kC:TV0->Sum (List ag×aj×aa.ay×Unit) (Int×Unit)
 |(a,_,i,r,b,_)=>eB a r b (bb r (b.Strips.take i.toNat) (b.Strips.drop i.toNat))
def Aq:TV0->Prop
 |(_,n,i,_,b,_)=>(n =(b.Strips.length:Int)/\xY b.Strips)/\0<=i/\i<=n
def YJ:Den (bj ns)->List Prop×Den (bj vp):=fun x=>([qe x.2.1],(bR x.1 x.2.1,()))
def Kp:Den (bj ns)->List Prop×Den (bj cO):=fun _=>([],(true,()))
theorem nE {r:aj} :∀ (l pre:List aa.ak),bb r pre l=0->∀ x∈l,lE x.Symbols
 | [],_,_,x,hx=>by cases hx
 | y::l,pre,h,x,hx=>by
  unfold bb at h
  have h0:cW r pre y=0:=by
   by_cases hb:cW r pre y=0
   ·exact hb
   ·rw [if_pos (by simpa using hb)] at h;exact absurd h hb
  rw [if_neg (by rw [h0];decide)] at h;rcases List.mem_cons.1 hx with rfl|hx
  ·unfold cW at h0;split at h0
   ·cases h0
   ·split at h0
    ·cases h0
    ·split at h0
     ·cases h0
     ·rename_i hq;intro w hw
      cases hf :(cd w).2 with
      | true=>rfl
      | false=>exact absurd (List.any_eq_true.2 ⟨w,hw,by rw [hf];rfl⟩) hq
  ·exact nE l _ h x hx
noncomputable def L8:Lp:=(⟨0,aI [Sh] Tryz.f9,(fun _=>none),(aC Tryz.f9 0),qV0,xV0⟩:Lp)
theorem Zx (a:List ag) (n:Int) (i:Int) (r:aj) (b:aa.ay) (hi:Ap (a,n,i,r,b,())) :(Go.aa.stepG L8 kB (fun y:Den (bj L8.q)=>Ap y/\yV y<yV (a,n,i,r,b,())) (a,n,i,r,b,())/\Go.aa.bB L8 kB (a,n,i,r,b,())=kB (a,n,i,r,b,())):=by
 refine cast (by kernel_rfl) (?_:let r1:Bool:=lz r (List.take i.toNat b.2) (ob b.2 i) != 0;((decide (i<n)=true->vE r a/\sT r/\po b.2/\n8 i b.2.length/\(r1=true->True)/\(r1=false->Ap (a,n,IntKind.i64.wrap (i+1),r,b,())/\yV (a,n,IntKind.i64.wrap (i+1),r,b,())<yV (a,n,i,r,b,())))/\(decide (i<n)=false->True))/\(cond (decide (i<n)) (cond r1 (Sum.inr (lz r (List.take i.toNat b.2) (ob b.2 i),())) (kB (a,n,IntKind.i64.wrap (i+1),r,b,()))) (Sum.inl (a,r,b,())))=kB (a,n,i,r,b,()));intro r1
 clear_value (hr1:r1=_)
 obtain ⟨⟨h1,hs⟩,⟨h2,h3⟩,ha,hr⟩:=hi;have h1:n =(b.Boxes.length:Int):=h1;have h2:0<=i:=h2;have h3:i<=n:=h3;have hs4:=hs.1;refine dP (fun h=>?_) (fun h=>?_)
 ·have e1:IntKind.i64.wrap (i+1)=i+1:=a7 (by omega) (by omega);have hd:b.Boxes.drop i.toNat=ob b.Boxes i::b.Boxes.drop (i+1).toNat:=aY h2 (by omega) aH.zero;have ht:b.Boxes.take (i+1).toNat=b.Boxes.take i.toNat++[ob b.Boxes i]:=pV h2 (by omega) aH.zero
  have key:kB (a,n,i,r,b,())=bif r1 then .inr (lz r (b.Boxes.take i.toNat) (ob b.Boxes i),()) else kB (a,n,i+1,r,b,()):=by
   show eB a r b (vw r (b.Boxes.take i.toNat) (b.Boxes.drop i.toNat))=bif r1 then _ else eB a r b (vw r (b.Boxes.take (i+1).toNat) (b.Boxes.drop (i+1).toNat));rw [hd,ht,vw,hr1];show eB a r b (if (lz r (b.Boxes.take i.toNat) (ob b.Boxes i) != 0)=true then _ else _)=_
   cases hz:lz r (b.Boxes.take i.toNat) (ob b.Boxes i) != 0 with
   | true=>rw [if_pos rfl];unfold eB;rw [hz];rfl
   | false=>rfl
  rw [e1,key];refine ⟨⟨ha,hr,hs,⟨h2,by show i <(b.Boxes.length:Int);omega⟩,fun _=>trivial,fun _=>⟨?_,?_⟩⟩,rfl⟩
  ·exact ⟨⟨h1,hs⟩,⟨by show 0<=i+1;omega,by show i+1<=n;omega⟩,ha,hr⟩
  ·show (n - (i+1)).toNat <(n - i).toNat;omega
 ·show Sum.inl (a,r,b,())=eB a r b (vw r (b.Boxes.take i.toNat) (b.Boxes.drop i.toNat));rw [aN (l:=b.Boxes) (by omega)];rfl
noncomputable def VQ:aw:=aq L8 kB Ap
noncomputable def Vh:Nat:=fo (aC Tryz.f9 0)
theorem XQ:aJ Tryz.prog 0 Tryz.f9.ntmps (aC Tryz.f9 0) (aq L8 kB Ap):=
 aD L8 (az (.aP Ps rfl .nil) _) mixed (fun b hb S hS=>by cases hS) kB Ap yV (fun |⟨a,n,i,r,b,⟨⟩⟩,hi=>Zx a n i r b hi)
noncomputable def L9:Lp:=(⟨0,aI [Fo] Tryz.f9,(fun _=>none),(aC Tryz.f9 1),qV1,xV1⟩:Lp)
theorem Zy (a:List ag) (n:Int) (i:Int) (r:aj) (b:aa.ay) (hi:Aq (a,n,i,r,b,())) :(Go.aa.stepG L9 kC (fun y:Den (bj L9.q)=>Aq y/\yV y<yV (a,n,i,r,b,())) (a,n,i,r,b,())/\Go.aa.bB L9 kC (a,n,i,r,b,())=kC (a,n,i,r,b,())):=by
 refine cast (by kernel_rfl) (?_:let r1:Bool:=cW r (List.take i.toNat b.3) (Eg b.3 i) != 0;((decide (i<n)=true->xY b.3/\n8 i b.3.length/\(r1=true->True)/\(r1=false->Aq (a,n,IntKind.i64.wrap (i+1),r,b,())/\yV (a,n,IntKind.i64.wrap (i+1),r,b,())<yV (a,n,i,r,b,())))/\(decide (i<n)=false->True))/\(cond (decide (i<n)) (cond r1 (Sum.inr (cW r (List.take i.toNat b.3) (Eg b.3 i),())) (kC (a,n,IntKind.i64.wrap (i+1),r,b,()))) (Sum.inl (a,r,b,())))=kC (a,n,i,r,b,()));intro r1
 clear_value (hr1:r1=_)
 obtain ⟨⟨h1,hs⟩,h2,h3⟩:=hi;have h1:n =(b.Strips.length:Int):=h1;have h2:0<=i:=h2;have h3:i<=n:=h3;have hs4:=hs.1;refine dP (fun h=>?_) (fun h=>?_)
 ·have e1:IntKind.i64.wrap (i+1)=i+1:=a7 (by omega) (by omega);have hd:b.Strips.drop i.toNat=Eg b.Strips i::b.Strips.drop (i+1).toNat:=aY h2 (by omega) ak.zero;have ht:b.Strips.take (i+1).toNat=b.Strips.take i.toNat++[Eg b.Strips i]:=pV h2 (by omega) ak.zero
  have key:kC (a,n,i,r,b,())=bif r1 then .inr (cW r (b.Strips.take i.toNat) (Eg b.Strips i),()) else kC (a,n,i+1,r,b,()):=by
   show eB a r b (bb r (b.Strips.take i.toNat) (b.Strips.drop i.toNat))=bif r1 then _ else eB a r b (bb r (b.Strips.take (i+1).toNat) (b.Strips.drop (i+1).toNat));rw [hd,ht,bb,hr1];show eB a r b (if (cW r (b.Strips.take i.toNat) (Eg b.Strips i) != 0)=true then _ else _)=_
   cases hz:cW r (b.Strips.take i.toNat) (Eg b.Strips i) != 0 with
   | true=>rw [if_pos rfl];unfold eB;rw [hz];rfl
   | false=>rfl
  rw [e1,key];refine ⟨⟨hs,⟨h2,by show i <(b.Strips.length:Int);omega⟩,fun _=>trivial,fun _=>⟨?_,?_⟩⟩,rfl⟩
  ·exact ⟨⟨h1,hs⟩,by show 0<=i+1;omega,by show i+1<=n;omega⟩
  ·show (n - (i+1)).toNat <(n - i).toNat;omega
 ·show Sum.inl (a,r,b,())=eB a r b (bb r (b.Strips.take i.toNat) (b.Strips.drop i.toNat));rw [aN (l:=b.Strips) (by omega)];rfl
noncomputable def VR:aw:=aq L9 kC Aq
noncomputable def Vi:Nat:=fo (aC Tryz.f9 1)
theorem XR:aJ Tryz.prog 0 Tryz.f9.ntmps (aC Tryz.f9 1) (aq L9 kC Aq):=
 aD L9 (az (.aP Dg rfl .nil) _) mixed (fun b hb S hS=>by cases hS) kC Aq yV (fun |⟨a,n,i,r,b,⟨⟩⟩,hi=>Zy a n i r b hi)
theorem GK (r:aj) (b:aa.ay) (hb:qe b) :(a8 (aI [k86,Fp,xc,AE,kZ,AF] Tryz.f9) (find [(Vh,VQ),(Vi,VR)]) Tryz.f9 ns vp (r,b,())).sat fun z_=>z_ =(YJ (r,b,())).2:=by
 refine cast (by kernel_rfl) (?_:let r1:Bool:=cond (b.1 != 1) (cond (b.1 != 2) true (!(cZ b).all sw)) (!(cZ b).all sw);let r2:Bool:=wV (kB (bQ r,(↑b.2.length:Int),0,r,b,()));let r3:List ag×aj×aa.ay×PUnit:=mV (af (kP.prod ((Ty.nm Nm.aj).prod ((Ty.nm Nm.ay).prod Ty.unit)))) (kB (bQ r,(↑b.2.length:Int),0,r,b,()));let r4:Int:=(↑r3.2.2.1.3.length:Int);let r5:Bool:=wV (kC (r3.1,r4,0,r3.2));let r6:List ag×aj×aa.ay×PUnit:=mV (af (kP.prod ((Ty.nm Nm.aj).prod ((Ty.nm Nm.ay).prod Ty.unit)))) (kC (r3.1,r4,0,r3.2));let r7:Bool:=!n4 r6.2.1 r6.2.2.1 (rI r6.2.1 r6.2.2.1);((bI r != 0)=true->(bI r,()) =(bR r b,()))/\((bI r != 0)=false->(((b.1 != 1)=true->((b.1 != 2)=true->True)/\((b.1 != 2)=false->(cZ b).length<=(1000000:Nat)/\True))/\((b.1 != 1)=false->(cZ b).length<=(1000000:Nat)/\True))/\(true=true->(r1=true->(2,()) =(bR r b,()))/\(r1=false->qe b/\(jd b=true->(9,()) =(bR r b,()))/\(jd b=false->kq r/\((cq fun x=>none)/\((↑b.2.length:Int) =(↑b.2.length:Int)/\po b.2)/\((0:Int)<=0/\0<=(↑b.2.length:Int))/\vE r (bQ r)/\sT r)/\(r2=true->((cq fun x=>none)/\(r4 =(↑r3.2.2.1.3.length:Int)/\xY r3.2.2.1.3)/\(0:Int)<=0/\0<=r4)/\(r5=true->ndR r6.2.1 r6.1 r6.2.2.1/\(r7=true->(12,()) =(bR r b,()))/\(r7=false->(0,()) =(bR r b,())))/\(r5=false->jL (af (I.prod Ty.unit)) (kC (r3.1,r4,0,r3.2)) =(bR r b,())))/\(r2=false->jL (af (I.prod Ty.unit)) (kB (bQ r,(↑b.2.length:Int),0,r,b,())) =(bR r b,())))))));intro r1 r2 r3 r4 r5 r6 r7
 clear_value (hr1:r1=_) (hr2:r2=_) (hr3:r3=_) (hr4:r4=_) (hr5:r5=_) (hr6:r6=_) (hr7:r7=_)
 have e1:r1 =(qC b||!(cZ b).all sw):=by rw [hr1];unfold qC;show (bif b.Side != 1 then bif b.Side != 2 then true else _ else _)=_;cases b.Side != 1 <;> cases b.Side != 2 <;> rfl
 have hsl :(cZ b).length<=1000000:=by show 7<=1000000;decide
 refine ⟨fun h=>?_,fun h=>⟨⟨fun _=>⟨fun _=>trivial,fun _=>⟨hsl,trivial⟩⟩,fun _=>⟨hsl,trivial⟩⟩,fun _=>?_⟩⟩
 ·unfold bR;rw [if_pos h]
 have hc:bI r=0:=by simpa using h
 have hg:=lV hc
 have e0:bR r b=if qC b||!(cZ b).all sw then 2 else if jd b then 9
   else if vw r [] b.Boxes != 0 then vw r [] b.Boxes else yF r b (rI r b):=by
  unfold bR;rw [if_neg (by rw [hc];decide)]
 rw [e0,<-e1];refine ⟨fun h1=>by rw [h1];rfl,fun h1=>⟨hb,fun hm=>by rw [h1,hm];rfl,fun hm=>⟨hg.1,⟨rfl,⟨rfl,hb.1⟩,⟨Int.le_refl _,by omega⟩,rfl,hg⟩,fun h2=>?_,fun h2=>?_⟩⟩⟩
 ·rw [h1,hm];have ev:kB (bQ r,(b.Boxes.length:Int),0,r,b,())=eB (bQ r) r b (vw r [] b.Boxes):=rfl;rw [ev] at hr2 hr3
  cases hz:vw r [] b.Boxes != 0 with
  | true=>rw [hr2] at h2;unfold eB at h2;rw [hz] at h2;cases h2
  | false=>
   have hz0:vw r [] b.Boxes=0:=by simpa using hz
   have e3:r3 =(bQ r,r,b,()):=by rw [hr3];unfold eB;rw [hz];rfl
   subst e3;clear hr3;dsimp only at *;refine ⟨⟨rfl,⟨hr4,hb.2⟩,Int.le_refl _,by omega⟩,fun h5=>?_,fun h5=>?_⟩
   ·have ev:kC (bQ r,r4,0,r,b,())=eB (bQ r) r b (bb r [] b.Strips):=rfl;rw [ev] at hr5 hr6
    cases hy:bb r [] b.Strips != 0 with
    | true=>rw [hr5] at h5;unfold eB at h5;rw [hy] at h5;cases h5
    | false=>
     have hy0:bb r [] b.Strips=0:=by simpa using hy
     have e6:r6 =(bQ r,r,b,()):=by rw [hr6];unfold eB;rw [hy];rfl
     subst e6;clear hr6;dsimp only at *;have hx:=vW b.Boxes [] hz0
     have hso:rq b:=by rw [e1] at h1;simp only [Bool.or_eq_false_iff,Bool.not_eq_false'] at h1;exact h1.2
     have hst:=nF hg.2.2.1 b.Strips [] hy0;refine ⟨⟨⟨rfl,hg,fun x hm=>(hx x hm).2.1⟩,hb,fun x hm=>⟨(hx x hm).1,by have:=(hx x hm).2;exact ⟨by omega,this.2⟩⟩,fun x hm=>⟨⟨(hst x hm).1,by have:=(hst x hm).2;omega⟩,nE b.Strips [] hy0 x hm⟩,hso⟩,fun h7=>?_,fun h7=>?_⟩
     ·show _ =(yF r b (rI r b),());unfold yF;rw [hy];rw [hr7] at h7;show _ =(if n4 r b (rI r b)=true then 0 else 12,());rw [if_neg (by simpa using h7)]
     ·show _ =(yF r b (rI r b),());unfold yF;rw [hy];rw [hr7] at h7;show _ =(if n4 r b (rI r b)=true then 0 else 12,());rw [if_pos (by simpa using h7)]
   ·have ev:kC (bQ r,r4,0,r,b,())=eB (bQ r) r b (bb r [] b.Strips):=rfl;rw [ev] at hr5 ⊢
    cases hy:bb r [] b.Strips != 0 with
    | true=>
     show jL _ (eB (bQ r) r b (bb r [] b.Strips)) =(yF r b (rI r b),());unfold yF eB;rw [hy];rfl
    | false=>rw [hr5] at h5;unfold eB at h5;rw [hy] at h5;cases h5
 ·rw [h1,hm];have ev:kB (bQ r,(b.Boxes.length:Int),0,r,b,())=eB (bQ r) r b (vw r [] b.Boxes):=rfl;rw [ev] at hr2 ⊢
  cases hz:vw r [] b.Boxes != 0 with
  | true=>
   show jL _ (eB (bQ r) r b (vw r [] b.Boxes)) =(vw r [] b.Boxes,());unfold eB;rw [hz];rfl
  | false=>rw [hr2] at h2;unfold eB at h2;rw [hz] at h2;cases h2
def pL:FuncId×dR:=(9,ax KE ns vp YJ)
theorem xr:aR Tryz.prog KE 9 (ax KE ns vp YJ):=by
 refine bh (C:=aI [k86,Fp,xc,AE,kZ,AF] Tryz.f9) (az (.aP aeG rfl (.aP Mq rfl (.aP Gd rfl (.aP Il rfl (.aP sy rfl (.aP Im rfl .nil)))))) _) mixed (fn:=Tryz.f9) Tryz.func9 (by kernel_rfl) (by kernel_rfl) (by kernel_rfl) (by kernel_rfl) (by kernel_rfl) (by kernel_rfl) (Λ:=fun x=>find [(Vh,VQ),(Vi,VR)]) ?_ ?_
 ·rintro ⟨r,b,⟨⟩⟩ hw hn
  exact aL.at (by kernel_rfl) (.cons (by kernel_rfl) (XQ) (.cons (by kernel_rfl) (XR) .nil))
 ·rintro ⟨r,b,⟨⟩⟩ hw hn
  exact GK r b (hn _ List.mem_cons_self)
abbrev Sb:List (Nat×PB):= [(0,.dat (.nm .aj))]
abbrev Ug:List (Nat×PC):= [(1,.h kP),(2,.h lM),(3,.h I),(4,.c (.ptr 0 0))]
abbrev aeY:bl:=⟨Ug++[(16,.h lM),(17,.h I),(18,.h I)],Sb,1⟩
abbrev afq:List (Lf×bl):= [(.ext 0,⟨Ug,Sb,1⟩),Rb]
abbrev Wf:Type:=List ag×List aa.aH×Int×List aa.aH×Int×Int×aj×Unit
def fG:Wf->Sum (List ag×List aa.aH×Int×aj×Unit) (Bool×Unit)
 |(a,l,c,xs,_,k,r,_)=>if kE c (vo l c) (xs.drop k.toNat) k then .inl (a,l,c,r,()) else .inr (false,())
def tV:Wf->Prop
 |(_,l,c,xs,n,k,_)=>(n =(xs.length:Int)/\xs.length<=4000)/\(0<=k/\k<=n)/\n8 c l.length
def FP:Wf->Nat
 |(_,_,_,_,n,k,_)=>(n - k).toNat
abbrev aeZ:bl:=⟨Ug++[(11,.h I),(41,.h (.slice .str)),(42,.h I),(43,.h I)],Sb,1⟩
abbrev afr:List (Lf×bl):= [(.ext 2,⟨Ug++[(11,.h I)],Sb,1⟩)]
abbrev Wi:Type:=List ag×List aa.aH×Int×Int×List ByteArray×Int×Int×aj×Unit
def pk:Wi->List ag×List aa.aH×Int×Int×aj×Unit
 |(a,l,c,g,s,_,j,r,_)=>(a,l,c,g+qO ((s.drop j.toNat).map (bu r)),r,())
def tW:Wi->Prop
 |(a,_,_,g,s,m,j,r,_)=>(m =(s.length:Int)/\s.length<=4000)/\(0<=j/\j<=m)/\(vE r a/\kq r/\mw r s)/\fU (16*j) g
def FQ:Wi->Nat
 |(_,_,_,_,_,m,j,_)=>(m - j).toNat
def Du (r:aj) (l:List aa.aH):Prop:=∀ x∈l,mw r x.Symbols
def p7 (r:aj) (l:List aa.aH):List (List ab):=l.map fun x=>x.Symbols.map (bu r)
def I2:Den (bj uY)->List Prop×Den (bj cO):=fun x=>([vE x.1 x.2.1,sT x.1,po x.2.2.1,Du x.1 x.2.2.1,n8 x.2.2.2.1 x.2.2.1.length],(cu x.1 x.2.2.1 (p7 x.1 x.2.2.1) x.2.2.2.1,()))
abbrev aaZ:List (Nat×PB):= [(0,.dat (.nm .aj)),(1,.dat (.nm .ay)),(2,.row 3 Hf),(4,.dat (.nm .aH))]
abbrev QW:List (Nat×PC):= [(2,.c (.ptr 0 0)),(3,.c (.ptr 1 0)),(7,.h kP),(8,.c (.osl 2 3)),(26,.h lM),(27,.h I),(28,.h I)]
abbrev aeR:bl:=⟨QW++[(9,.h I),(10,.c (.ptr 4 0)),(11,.h I)],aaZ,5⟩
abbrev afl:List (Lf×bl):= [(.ext 2,⟨QW++[(9,.h I),(10,.c (.ptr 4 0)),(11,.h I)],aaZ,5⟩)]
abbrev Rq:Type:=List ag×List aa.aH×Int×Int×Int×Int×aj×aa.ay×List aa.ah×aa.aH×Unit
def jA:Rq->Rq
 |(a,bs,n,i,c,k,r,b,o,x,_)=>(a,bs,n,i,c,k+jw x.Bowler (o.drop k.toNat),r,b,o,x,())
def tM:Rq->Prop
 |(_,_,_,_,_,k,_,_,o,_,_)=>0<=k/\k<=(o.length:Int)/\o.length<=4000
def FI:Rq->Nat
 |(_,_,_,_,_,k,_,_,o,_,_)=>((o.length:Int) - k).toNat
abbrev aeS:bl:=⟨QW++[(9,.h I),(11,.h I),(60,.h (.slice .str)),(61,.h I),(62,.h I)],Lz,4⟩
abbrev afm:List (Lf×bl):= [(.ext 4,⟨QW++[(9,.h I),(11,.h I)],Lz,4⟩)]
abbrev V8:Type:=List ag×List aa.aH×Int×Int×Int×Int×List ByteArray×Int×Int×aj×aa.ay×List aa.ah×Unit
abbrev aat:Type:=List ag×List aa.aH×Int×Int×Int×Int×aj×aa.ay×List aa.ah×Unit
def ny:V8->aat
 |(a,bs,n,i,c,k,s,_,j,r,b,o,_)=>(a,bs,n,i,c,k,r,b,o.set k.toNat (iq (lR o k) ((s.drop j.toNat).map (bu r))),())
def tP:V8->Prop
 |(a,_,_,i,_,k,s,m,j,r,_,o,_)=>(m =(s.length:Int)/\s.length<=4000)/\(vE r a/\kq r/\mw r s)/\(0<=j/\j<=m)/\n8 k o.length/\(0<=i/\i<=4000)/\lI (64100*i+16*j) o
def FJ:V8->Nat
 |(_,_,_,_,_,_,_,m,j,_)=>(m - j).toNat
abbrev aeT:bl:=⟨QW,Lz,4⟩
abbrev afn:List (Lf×bl):= [(.ext 0,⟨[(8,.c (.osl 2 3))],[(2,.row 3 Hf)],4⟩)]
abbrev V9:Type:=List ag×List aa.aH×Int×Int×aj×aa.ay×List aa.ah×Unit
def jB:V9->List aa.ah×Unit
 |(_,bs,n,i,r,b,o,_)=>fE (p7 r b.Boxes,bs,n,i,r,b,o,())
def mZ:V9->Prop
 |(a,bs,n,i,r,b,o,_)=>(vE r a/\sT r/\Du r bs)/\jt (p7 r b.Boxes,bs,n,i,r,b,o,())
def oP:V9->Nat
 |(_,_,n,i,_)=>(n - i).toNat
def oU (r:aj) (b:aa.ay):List aa.ah×Int×Unit:=if bR r b != 0 then ([],bR r b,()) else (vV (cu r b.Boxes (p7 r b.Boxes)) b.Boxes (p7 r b.Boxes) 0 [],0,())
def Ql:Den (bj ns)->List Prop×Den (bj Gx):=fun x=>([qe x.2.1],oU x.1 x.2.1)
noncomputable def A8:Lp:=(⟨0,aI [] Tryz.f39,(fun _=>none),(aC Tryz.f39 0),aeY,afq⟩:Lp)
theorem T5 (a:List ag) (l:List aa.aH) (c:Int) (xs:List aa.aH) (n:Int) (k:Int) (r:aj) (hi:tV (a,l,c,xs,n,k,r,())) :(Go.aa.stepG A8 fG (fun y:Den (bj A8.q)=>tV y/\FP y<FP (a,l,c,xs,n,k,r,())) (a,l,c,xs,n,k,r,())/\Go.aa.bB A8 fG (a,l,c,xs,n,k,r,())=fG (a,l,c,xs,n,k,r,())):=by
 refine cast (by kernel_rfl) (?_:let r1:Bool:=cond (k != c) ((xs.getD k.toNat (af (Ty.nm Nm.aH))).1 ==(l.getD c.toNat (af (Ty.nm Nm.aH))).1) false;((decide (k<n)=true->(0<=k/\k <(↑xs.length:Int))/\(((k != c)=true->(0<=c/\c <(↑l.length:Int))/\True)/\((k != c)=false->True))/\(true=true->(r1=true->True)/\(r1=false->tV (a,l,c,xs,n,IntKind.i64.wrap (k+1),r,())/\FP (a,l,c,xs,n,IntKind.i64.wrap (k+1),r,())<FP (a,l,c,xs,n,k,r,()))))/\(decide (k<n)=false->True))/\(cond (decide (k<n)) (cond (true&&true) (cond r1 (Sum.inr (false,())) (fG (a,l,c,xs,n,IntKind.i64.wrap (k+1),r,()))) (cond true (cond r1 (Sum.inr (false,())) (fG (a,l,c,xs,n,IntKind.i64.wrap (k+1),r,()))) (cond (k != c) (Sum.inl (af (kP.prod (lM.prod (I.prod ((Ty.nm Nm.aj).prod Ty.unit)))))) (Sum.inl (af (kP.prod (lM.prod (I.prod ((Ty.nm Nm.aj).prod Ty.unit))))))))) (Sum.inl (a,l,c,r,())))=fG (a,l,c,xs,n,k,r,()));intro r1
 clear_value (hr1:r1=_)
 obtain ⟨⟨h1,h1b⟩,⟨h2,h3⟩,hi0,hi1⟩:=hi;have h1:n =(xs.length:Int):=h1;have h1b:xs.length<=4000:=h1b;have h2:0<=k:=h2;have h3:k<=n:=h3;refine dP (fun h=>?_) (fun h=>?_)
 ·have e1:IntKind.i64.wrap (k+1)=k+1:=a7 (by omega) (by omega);have hd:xs.drop k.toNat=xs.getD k.toNat (af (Ty.nm Nm.aH))::xs.drop (k+1).toNat:=aY h2 (by omega) _;generalize xs.getD k.toNat (af (Ty.nm Nm.aH))=x at *;have er:r1 =(k != c&&x.Over==vo l c):=by rw [hr1];cases k != c <;> rfl
  rw [e1];refine ⟨⟨⟨h2,by omega⟩,⟨fun _=>⟨⟨hi0,hi1⟩,trivial⟩,fun _=>trivial⟩,fun _=>⟨fun _=>trivial,fun _=>⟨⟨⟨h1,h1b⟩,⟨?_,?_⟩,hi0,hi1⟩,?_⟩⟩⟩,?_⟩
  ·show 0<=k+1;omega
  ·show k+1<=n;omega
  ·show (n - (k+1)).toNat <(n - k).toNat;omega
  ·show (bif r1 then Sum.inr (false,()) else fG (a,l,c,xs,n,k+1,r,()))=fG (a,l,c,xs,n,k,r,());unfold fG;simp only;rw [hd,kE,<-er];cases r1 <;> rfl
 ·unfold fG;simp only;rw [aN (l:=xs) (by omega)];rfl
noncomputable def QN:aw:=aq A8 fG tV
noncomputable def P7:Nat:=fo (aC Tryz.f39 0)
theorem SD:aJ Tryz.prog 0 Tryz.f39.ntmps (aC Tryz.f39 0) (aq A8 fG tV):=
 aD A8 (az (aZ.nil) _) mixed (fun b hb S hS=>by cases hS) fG tV FP (fun |⟨a,l,c,xs,n,k,r,⟨⟩⟩,hi=>T5 a l c xs n k r hi)
noncomputable def A9:Lp:=(⟨0,aI [dF] Tryz.f39,(fun _=>none),(aC Tryz.f39 1),aeZ,afr⟩:Lp)
theorem T7 (a:List ag) (l:List aa.aH) (c:Int) (g:Int) (s:List ByteArray) (m:Int) (j:Int) (r:aj) (hi:tW (a,l,c,g,s,m,j,r,())) :(Go.aa.stepG A9 pk (fun y:Den (bj A9.q)=>tW y/\FQ y<FQ (a,l,c,g,s,m,j,r,())) (a,l,c,g,s,m,j,r,())/\Go.aa.bB A9 pk (a,l,c,g,s,m,j,r,())=pk (a,l,c,g,s,m,j,r,())):=by
 refine cast (by kernel_rfl) (?_ :((decide (j<m)=true->(0<=j/\j <(↑s.length:Int))/\a.length<=aW/\tW (a,l,c,IntKind.i64.wrap (g +(aO a (s.getD j.toNat (af Ty.str))).1.3),s,m,IntKind.i64.wrap (j+1),r,())/\FQ (a,l,c,IntKind.i64.wrap (g +(aO a (s.getD j.toNat (af Ty.str))).1.3),s,m,IntKind.i64.wrap (j+1),r,())<FQ (a,l,c,g,s,m,j,r,()))/\(decide (j<m)=false->True))/\(cond (decide (j<m)) (pk (a,l,c,IntKind.i64.wrap (g +(aO a (s.getD j.toNat (af Ty.str))).1.3),s,m,IntKind.i64.wrap (j+1),r,())) (a,l,c,g,r,()))=pk (a,l,c,g,s,m,j,r,()));obtain ⟨⟨h1,h1b⟩,⟨h2,h3⟩,⟨ha,hwn,hrd⟩,u0,u1⟩:=hi;have h1:m =(s.length:Int):=h1;have h1b:s.length<=4000:=h1b;have h2:0<=j:=h2;have h3:j<=m:=h3;have u0:0<=g:=u0;have u1:g<=16*j:=u1;have ha:a=bQ r:=ha;refine dP (fun h=>?_) (fun h=>?_)
 ·have e1:IntKind.i64.wrap (j+1)=j+1:=a7 (by omega) (by omega);have hd:s.drop j.toNat=s.getD j.toNat (af Ty.str)::s.drop (j+1).toNat:=aY h2 (by omega) _;have hm:s.getD j.toNat (af Ty.str)∈s:=List.mem_of_mem_drop (i:=j.toNat) (by rw [hd];exact List.mem_cons_self);generalize s.getD j.toNat (af Ty.str)=w at *;have hw:=hrd _ hm;have hK:=wh hwn hw;have ec :(aO a w).1.3 =(bu r w).charge:=by rw [ha,tB hw];rfl
  have hc0:=hK.1.1;have hc1:=hK.1.2;have e2:IntKind.i64.wrap (g +(aO a w).1.3)=g +(bu r w).charge:=by rw [ec];exact bE (by omega) (by omega)
  rw [e1,e2];refine ⟨⟨⟨h2,by omega⟩,by rw [ha];exact pA r,⟨⟨h1,h1b⟩,⟨?_,?_⟩,⟨ha,hwn,hrd⟩,?_,?_⟩,?_⟩,?_⟩
  ·show 0<=j+1;omega
  ·show j+1<=m;omega
  ·show 0<=g +(bu r w).charge;omega
  ·show g +(bu r w).charge<=16 *(j+1);omega
  ·show (m - (j+1)).toNat <(m - j).toNat;omega
  ·show (a,l,c,g +(bu r w).charge+qO ((s.drop (j+1).toNat).map (bu r)),r,()) =(a,l,c,g+qO ((s.drop j.toNat).map (bu r)),r,());rw [hd];show _ =(a,l,c,g +((bu r w).charge+qO ((s.drop (j+1).toNat).map (bu r))),r,());rw [Int.add_assoc]
 ·show (a,l,c,g,r,()) =(a,l,c,g+qO ((s.drop j.toNat).map (bu r)),r,());rw [aN (l:=s) (by omega)];show _ =(a,l,c,g+0,r,());rw [Int.add_zero]
noncomputable def QO:aw:=aq A9 pk tW
noncomputable def P8:Nat:=fo (aC Tryz.f39 1)
theorem SF:aJ Tryz.prog 0 Tryz.f39.ntmps (aC Tryz.f39 1) (aq A9 pk tW):=
 aD A9 (az (.aP dY rfl .nil) _) mixed (fun b hb S hS=>by cases hS) pk tW FQ (fun |⟨a,l,c,g,s,m,j,r,⟨⟩⟩,hi=>T7 a l c g s m j r hi)
theorem Ni {l:List aa.aH} {c:Int} (hc:n8 c l.length):ob l c∈l:=by
 have h0:0<=c:=hc.1;have h1:c <(l.length:Int):=hc.2;have hi:c.toNat<l.length:=by omega
 unfold ob;rw [List.getD_eq_getElem?_getD,List.getElem?_eq_getElem hi];exact List.getElem_mem hi
theorem Rx {r:aj} {l:List aa.aH} {c:Int} (hc:n8 c l.length):KU (p7 r l) c =(ob l c).Symbols.map (bu r):=by
 have h0:0<=c:=hc.1;have h1:c <(l.length:Int):=hc.2;have hi:c.toNat<l.length:=by omega
 unfold KU p7 ob;rw [List.getD_eq_getElem?_getD,List.getElem?_map,List.getD_eq_getElem?_getD,List.getElem?_eq_getElem hi];rfl
theorem GV {c ov:Int} :∀ (l:List aa.aH) (k:Int),k<=c->kE c ov l k=true->∀ z∈l.take (c - k).toNat,z.Over≠ov
 | [],_,_,_,z,hz=>by simp at hz
 | x::l,k,hk,h,z,hz=>by
  by_cases hkc:k=c
  ·have :(c - k).toNat=0:=by omega
   rw [this] at hz;cases hz
  ·unfold kE at h
   have hb :(k != c&&x.Over==ov)=false:=by
    cases hx :(k != c&&x.Over==ov) with
    | false=>rfl
    | true=>rw [hx] at h;cases h
   rw [hb] at h;simp only [Bool.false_eq_true,if_false] at h;have e :(c - k).toNat =(c - (k+1)).toNat+1:=by omega
   rw [e,List.take_succ_cons] at hz;rcases List.mem_cons.1 hz with rfl|hz
   ·have hne :(k != c)=true:=by simpa using hkc
    rw [hne,Bool.true_and] at hb;simpa using hb
   ·exact GV l (k+1) (by omega) h z hz
theorem OK {r:aj} {l:List aa.aH} {c:Int} (hw:kq r) (hx:Du r l) (hc:n8 c l.length) (hs:kE c (vo l c) l 0=true):cu r l (p7 r l) c =(qO ((ob l c).Symbols.map (bu r))==0&&OG (bQ r) l c==r.Balls):=by
 have h0:0<=c:=hc.1;have h1:c <(l.length:Int):=hc.2;have hr:=hx _ (Ni hc);have hn:=GV l 0 h0 hs;rw [Int.sub_zero] at hn;have ht:l.take (c+1).toNat=l.take c.toNat++[ob l c]:=pV h0 h1 aH.zero
 have hl:OG (bQ r) l c=cK ((ob l c).Symbols.map (bu r)):=by unfold OG;rw [vH,ht,oN,JT r _ _ hn];show 0 +(if (ob l c).Over==vo l c then rP r (ob l c).Symbols else 0)=_;have :((ob l c).Over==vo l c)=true:=beq_self_eq_true (ob l c).Over;rw [if_pos this,(uo (xJ hr)).2];omega
 have hk :∀ y∈(ob l c).Symbols.map (bu r),0<=y.charge:=fun y hy=>by obtain ⟨w,hw',rfl⟩:=List.mem_map.1 hy;exact (wh hw (hr w hw')).1.1
 unfold cu;rw [hs,Rx hc,hl,Bool.true_and,(EC hk).2];rfl
theorem DI (r:aj) (a:List ag) (l:List aa.aH) (c:Int) (ha:vE r a) (hr:sT r) (hl:po l) (hx:Du r l) (hc:n8 c l.length) :(a8 (aI [pM] Tryz.f39) (find [(P7,QN),(P8,QO)]) Tryz.f39 uY cO (r,a,l,c,())).sat fun z_=>z_ =(I2 (r,a,l,c,())).2:=by
 refine cast (by kernel_rfl) (?_:let r1:Bool:=wV (fG (a,l,c,l,(↑l.length:Int),0,r,()));let r2:List ag×List aa.aH×Int×aj×PUnit:=mV (af (kP.prod (lM.prod (I.prod ((Ty.nm Nm.aj).prod Ty.unit))))) (fG (a,l,c,l,(↑l.length:Int),0,r,()));let r3:Int:=(↑(r2.2.1.getD r2.2.2.1.toNat (af (Ty.nm Nm.aH))).3.length:Int);let r4:Bool:=0+qO (List.map (bu r2.2.2.2.1) (List.drop (Int.toNat 0) (r2.2.1.getD r2.2.2.1.toNat (af (Ty.nm Nm.aH))).3))==0;((cq fun x=>none)/\((↑l.length:Int) =(↑l.length:Int)/\l.length<=(4000:Nat))/\((0:Int)<=0/\0<=(↑l.length:Int))/\n8 c l.length)/\(r1=true->(0<=r2.2.2.1/\r2.2.2.1 <(↑r2.2.1.length:Int))/\((cq fun x=>none)/\(r3 =(↑(r2.2.1.getD r2.2.2.1.toNat (af (Ty.nm Nm.aH))).3.length:Int)/\(r2.2.1.getD r2.2.2.1.toNat (af (Ty.nm Nm.aH))).3.length<=(4000:Nat))/\((0:Int)<=0/\0<=r3)/\(vE r2.2.2.2.1 r2.1/\kq r2.2.2.2.1/\mw r2.2.2.2.1 (r2.2.1.getD r2.2.2.1.toNat (af (Ty.nm Nm.aH))).3)/\fU ((16:Int)*0) 0)/\((r4=true->r2.1.length<=aW/\po r2.2.1/\n8 r2.2.2.1 r2.2.1.length/\True)/\(r4=false->True))/\(true=true->(cond r4 (OG r2.1 r2.2.1 r2.2.2.1==r2.2.2.2.1.5) false,()) =(cu r l (p7 r l) c,())))/\(r1=false->jL (af (Ty.bool.prod Ty.unit)) (fG (a,l,c,l,(↑l.length:Int),0,r,())) =(cu r l (p7 r l) c,())));intro r1 r2 r3 r4
 clear_value (hr1:r1=_) (hr2:r2=_) (hr3:r3=_) (hr4:r4=_)
 have h0:0<=c:=hc.1;have h1:c <(l.length:Int):=hc.2;have e1:fG (a,l,c,l,(l.length:Int),0,r,())=if kE c (vo l c) l 0 then .inl (a,l,c,r,()) else .inr (false,()):=rfl;have hm:=Ni hc;refine ⟨⟨rfl,⟨rfl,hl.1⟩,⟨Int.le_refl _,by omega⟩,hc⟩,fun h=>?_,fun h=>?_⟩
 ·cases hs:kE c (vo l c) l 0 with
  | false=>rw [hs] at e1;rw [hr1,e1] at h;cases h
  | true=>
   rw [hs] at e1;have e2:r2 =(a,l,c,r,()):=by rw [hr2,e1];rfl
   subst e2;clear hr2;dsimp only at *;have ha':a=bQ r:=ha;have hD:=OK hr.1 hx hc hs
   have e4:r4 =(qO ((ob l c).Symbols.map (bu r))==0):=by rw [hr4];show (0+qO ((ob l c).Symbols.map (bu r))==0)=_;rw [Int.zero_add]
   refine ⟨⟨h0,h1⟩,⟨rfl,⟨hr3,hl.2 _ hm⟩,⟨Int.le_refl _,by rw [hr3];omega⟩,⟨ha,hr.1,hx _ hm⟩,Int.le_refl _,Int.le_refl _⟩,⟨fun _=>⟨by rw [ha'];exact pA r,hl,hc,trivial⟩,fun _=>trivial⟩,fun _=>?_⟩;rw [hD,<-e4,ha'];cases r4 <;> rfl
 ·cases hs:kE c (vo l c) l 0 with
  | true=>rw [hs] at e1;rw [hr1,e1] at h;cases h
  | false=>rw [hs] at e1;rw [e1];unfold cu;rw [hs];rfl
def HZ:FuncId×dR:=(39,ax KE uY cO I2)
theorem Gc:aR Tryz.prog KE 39 (ax KE uY cO I2):=by
 refine bh (C:=aI [pM] Tryz.f39) (az (.aP xu rfl .nil) _) mixed (fn:=Tryz.f39) Tryz.func39 (by kernel_rfl) (by kernel_rfl) (by kernel_rfl) (by kernel_rfl) (by kernel_rfl) (by kernel_rfl) (Λ:=fun x=>find [(P7,QN),(P8,QO)]) ?_ ?_
 ·rintro ⟨r,a,l,c,⟨⟩⟩ hw hn
  exact aL.at (by kernel_rfl) (.cons (by kernel_rfl) (SD) (.cons (by kernel_rfl) (SF) .nil))
 ·rintro ⟨r,a,l,c,⟨⟩⟩ hw hn
  exact DI r a l c (hn _ List.mem_cons_self) (hn _ (List.mem_cons_of_mem _ List.mem_cons_self)) (hn _ (List.mem_cons_of_mem _ (List.mem_cons_of_mem _ List.mem_cons_self))) (hn _ (List.mem_cons_of_mem _ (List.mem_cons_of_mem _ (List.mem_cons_of_mem _ List.mem_cons_self)))) (hn _ (List.mem_cons_of_mem _ (List.mem_cons_of_mem _ (List.mem_cons_of_mem _ (List.mem_cons_of_mem _ List.mem_cons_self)))))
noncomputable def AV:Lp:=(⟨0,aI [] Tryz.f11,(fun _=>none),(bA Tryz.f11 0 0),aeR,afl⟩:Lp)
theorem TR (a:List ag) (bs:List aa.aH) (n:Int) (i:Int) (c:Int) (k:Int) (r:aj) (b:aa.ay) (o:List aa.ah) (x:aa.aH) (hi:tM (a,bs,n,i,c,k,r,b,o,x,())) :(Go.aa.stepG AV jA (fun y:Den (bj AV.q)=>tM y/\FI y<FI (a,bs,n,i,c,k,r,b,o,x,())) (a,bs,n,i,c,k,r,b,o,x,())/\Go.aa.bB AV jA (a,bs,n,i,c,k,r,b,o,x,())=jA (a,bs,n,i,c,k,r,b,o,x,())):=by
 refine cast (by kernel_rfl) (?_:let r1:Bool:=decide (k <(↑o.length:Int));let r2:List ag×List aa.aH×Int×Int×Int×Int×aj×aa.ay×List aa.ah×aa.aH×PUnit:=af (kP.prod (lM.prod (I.prod (I.prod (I.prod (I.prod ((Ty.nm Nm.aj).prod ((Ty.nm Nm.ay).prod (Hf.slice.prod ((Ty.nm Nm.aH).prod Ty.unit))))))))));let r3:Bool:=cond r1 ((o.getD k.toNat (af (Ty.nm Nm.ah))).1 != x.2) false;let r4:List ag×List aa.aH×Int×Int×Int×Int×aj×aa.ay×List aa.ah×aa.aH×PUnit:=cond r3 (jA (a,bs,n,i,c,IntKind.i64.wrap (k+1),r,b,o,x,())) (a,bs,n,i,c,k,r,b,o,x,());(((r1=true->(0<=k/\k <(↑o.length:Int))/\True)/\(r1=false->True))/\(true=true->(r3=true->tM (a,bs,n,i,c,IntKind.i64.wrap (k+1),r,b,o,x,())/\FI (a,bs,n,i,c,IntKind.i64.wrap (k+1),r,b,o,x,())<FI (a,bs,n,i,c,k,r,b,o,x,()))/\(r3=false->True)))/\(cond (true&&true) r4 (cond true r4 (cond r1 r2 r2)))=jA (a,bs,n,i,c,k,r,b,o,x,()));intro r1 r2 r3 r4
 clear_value (hr1:r1=_) (hr2:r2=_) (hr3:r3=_) (hr4:r4=_)
 obtain ⟨h1,h2,h3⟩:=hi;have h1:0<=k:=h1;have h2:k<=(o.length:Int):=h2;have h3:o.length<=4000:=h3;by_cases h:k <(o.length:Int)
 ·have e1:IntKind.i64.wrap (k+1)=k+1:=a7 (by omega) (by omega);have hd:o.drop k.toNat=o.getD k.toNat (af (Ty.nm Nm.ah))::o.drop (k+1).toNat:=aY h1 h _;generalize o.getD k.toNat (af (Ty.nm Nm.ah))=v at *;have er:r1=true:=by rw [hr1,decide_eq_true h]
  rw [er] at hr3;have e3:r3 =(v.Player != x.Bowler):=hr3;rw [e1] at hr4;rw [e1];refine ⟨⟨⟨fun _=>⟨⟨h1,h⟩,trivial⟩,fun _=>trivial⟩,fun _=>⟨fun _=>⟨⟨?_,?_,h3⟩,?_⟩,fun _=>trivial⟩⟩,?_⟩
  ·show 0<=k+1;omega
  ·show k+1<=(o.length:Int);omega
  ·show ((o.length:Int) - (k+1)).toNat <((o.length:Int) - k).toNat;omega
  ·show r4=jA (a,bs,n,i,c,k,r,b,o,x,());rw [hr4,e3];unfold jA;simp only;rw [hd,jw]
   cases hv:v.Player==x.Bowler with
   | true=>rw [show (v.Player != x.Bowler)=false by rw [bne,hv];rfl];show (a,bs,n,i,c,k,r,b,o,x,()) =(a,bs,n,i,c,k+0,r,b,o,x,());rw [Int.add_zero]
   | false=>rw [show (v.Player != x.Bowler)=true by rw [bne,hv];rfl];show (a,bs,n,i,c,k+1+jw x.Bowler (o.drop (k+1).toNat),r,b,o,x,()) =(a,bs,n,i,c,k +(jw x.Bowler (o.drop (k+1).toNat)+1),r,b,o,x,());rw [show k+1+jw x.Bowler (o.drop (k+1).toNat)=k +(jw x.Bowler (o.drop (k+1).toNat)+1) by omega]
 ·have er:r1=false:=by rw [hr1,decide_eq_false h]
  rw [er] at hr3;have e3:r3=false:=hr3;refine ⟨⟨⟨fun z=>?_,fun _=>trivial⟩,fun _=>⟨fun z=>?_,fun _=>trivial⟩⟩,?_⟩
  ·rw [er] at z;cases z
  ·rw [e3] at z;cases z
  ·show r4=jA (a,bs,n,i,c,k,r,b,o,x,());rw [hr4,e3];unfold jA;simp only;rw [aN (l:=o) (i:=k) (by omega)];show (a,bs,n,i,c,k,r,b,o,x,()) =(a,bs,n,i,c,k+0,r,b,o,x,());rw [Int.add_zero]
noncomputable def ZK:aw:=aq AV jA tM
noncomputable def Yz:Nat:=fo (bA Tryz.f11 0 0)
theorem Su:aJ Tryz.prog 0 Tryz.f11.ntmps (bA Tryz.f11 0 0) (aq AV jA tM):=
 aD AV (az (aZ.nil) _) mixed (fun b hb S hS=>by cases hS) jA tM FI (fun |⟨a,bs,n,i,c,k,r,b,o,x,⟨⟩⟩,hi=>TR a bs n i c k r b o x hi)
noncomputable def AW:Lp:=(⟨0,aI [dF] Tryz.f11,(fun _=>none),(bA Tryz.f11 0 1),aeS,afm⟩:Lp)
theorem TS (a:List ag) (bs:List aa.aH) (n:Int) (i:Int) (c:Int) (k:Int) (s:List ByteArray) (m:Int) (j:Int) (r:aj) (b:aa.ay) (o:List aa.ah) (hi:tP (a,bs,n,i,c,k,s,m,j,r,b,o,())) :(Go.aa.stepG AW ny (fun y:Den (bj AW.q)=>tP y/\FJ y<FJ (a,bs,n,i,c,k,s,m,j,r,b,o,())) (a,bs,n,i,c,k,s,m,j,r,b,o,())/\Go.aa.bB AW ny (a,bs,n,i,c,k,s,m,j,r,b,o,())=ny (a,bs,n,i,c,k,s,m,j,r,b,o,())):=by
 refine cast (by kernel_rfl) (?_:let r1:Bool:=(aO a (s.getD j.toNat (af Ty.str))).1.2==1;let r2:Bool:=(aO a (s.getD j.toNat (af Ty.str))).1.2==2;let r3:List ag×List aa.aH×Int×Int×Int×Int×aj×aa.ay×List aa.ah×PUnit:=af (kP.prod (lM.prod (I.prod (I.prod (I.prod (I.prod ((Ty.nm Nm.aj).prod ((Ty.nm Nm.ay).prod (Hf.slice.prod Ty.unit)))))))));let r4:List ag×List aa.aH×Int×Int×Int×Int×aj×aa.ay×List aa.ah×PUnit:=cond (aO a (s.getD j.toNat (af Ty.str))).1.6 r3 r3;let r5:List aa.ah:=o.set k.toNat (aa.ah.mk (o.getD k.toNat (af (Ty.nm Nm.ah))).1 (o.getD k.toNat (af (Ty.nm Nm.ah))).2 (o.getD k.toNat (af (Ty.nm Nm.ah))).3 (IntKind.i64.wrap ((o.getD k.toNat (af (Ty.nm Nm.ah))).4 +(aO a (s.getD j.toNat (af Ty.str))).1.3)) (o.getD k.toNat (af (Ty.nm Nm.ah))).5 (o.getD k.toNat (af (Ty.nm Nm.ah))).6 (o.getD k.toNat (af (Ty.nm Nm.ah))).7);let r6:aa.ah:=r5.getD k.toNat (af (Ty.nm Nm.ah));let r7:List aa.ah:=cond r1 (r5.set k.toNat (aa.ah.mk r6.1 (IntKind.i64.wrap (r6.2+1)) r6.3 r6.4 r6.5 r6.6 r6.7)) (cond r2 (r5.set k.toNat (aa.ah.mk r6.1 r6.2 r6.3 r6.4 r6.5 (IntKind.i64.wrap (r6.6+1)) r6.7)) (r5.set k.toNat (aa.ah.mk r6.1 r6.2 r6.3 r6.4 r6.5 r6.6 (IntKind.i64.wrap (r6.7+1)))));let r8:aa.ah:=r7.getD k.toNat (af (Ty.nm Nm.ah));((decide (j<m)=true->((0<=j/\j <(↑s.length:Int))/\a.length<=aW/\(0<=k/\k <(↑o.length:Int))/\(0<=k/\k <(↑o.length:Int))/\((r1=true->(0<=k/\k <(↑r5.length:Int))/\(0<=k/\k <(↑r5.length:Int))/\True)/\(r1=false->(r2=true->(0<=k/\k <(↑r5.length:Int))/\(0<=k/\k <(↑r5.length:Int))/\True)/\(r2=false->(0<=k/\k <(↑r5.length:Int))/\(0<=k/\k <(↑r5.length:Int))/\True)))/\(true=true->((aO a (s.getD j.toNat (af Ty.str))).1.6=true->(0<=k/\k <(↑r7.length:Int))/\(0<=k/\k <(↑r7.length:Int))/\True)/\((aO a (s.getD j.toNat (af Ty.str))).1.6=false->True)))/\(true=true->tP (a,bs,n,i,c,k,s,m,IntKind.i64.wrap (j+1),r,b,cond (aO a (s.getD j.toNat (af Ty.str))).1.6 (r7.set k.toNat (aa.ah.mk r8.1 r8.2 r8.3 r8.4 (IntKind.i64.wrap (r8.5+1)) r8.6 r8.7)) r7,())/\FJ (a,bs,n,i,c,k,s,m,IntKind.i64.wrap (j+1),r,b,cond (aO a (s.getD j.toNat (af Ty.str))).1.6 (r7.set k.toNat (aa.ah.mk r8.1 r8.2 r8.3 r8.4 (IntKind.i64.wrap (r8.5+1)) r8.6 r8.7)) r7,())<FJ (a,bs,n,i,c,k,s,m,j,r,b,o,())))/\(decide (j<m)=false->True))/\(cond (decide (j<m)) (cond (true&&(true&&true)&&(true&&true)) (ny (a,bs,n,i,c,k,s,m,IntKind.i64.wrap (j+1),r,b,cond (aO a (s.getD j.toNat (af Ty.str))).1.6 (r7.set k.toNat (aa.ah.mk r8.1 r8.2 r8.3 r8.4 (IntKind.i64.wrap (r8.5+1)) r8.6 r8.7)) r7,())) (cond true (ny (a,bs,n,i,c,k,s,m,IntKind.i64.wrap (j+1),r,b,cond (aO a (s.getD j.toNat (af Ty.str))).1.6 (r7.set k.toNat (aa.ah.mk r8.1 r8.2 r8.3 r8.4 (IntKind.i64.wrap (r8.5+1)) r8.6 r8.7)) r7,())) (cond (true&&(true&&true)) r4 (cond true r4 (cond r1 r3 (cond r2 r3 r3)))))) (a,bs,n,i,c,k,r,b,o,()))=ny (a,bs,n,i,c,k,s,m,j,r,b,o,()));intro r1 r2 r3 r4 r5 r6 r7 r8
 clear_value (hr1:r1=_) (hr2:r2=_) (hr3:r3=_) (hr4:r4=_) (hr5:r5=_) (hr6:r6=_) (hr7:r7=_) (hr8:r8=_)
 obtain ⟨⟨h1,h1b⟩,⟨ha,hwn,hrd⟩,⟨h2,h3⟩,⟨hk0,hk1⟩,⟨hi0,hi4⟩,hl⟩:=hi;have h1:m =(s.length:Int):=h1;have h1b:s.length<=4000:=h1b;have h2:0<=j:=h2;have h3:j<=m:=h3;have hk0:0<=k:=hk0;have hk1:k <(o.length:Int):=hk1;have hi0:0<=i:=hi0;have hi4:i<=4000:=hi4;have ha:a=bQ r:=ha;have hkn:k.toNat<o.length:=by omega
 refine dP (fun h=>?_) (fun h=>?_)
 ·have e1:IntKind.i64.wrap (j+1)=j+1:=a7 (by omega) (by omega);have hd:s.drop j.toNat=s.getD j.toNat (af Ty.str)::s.drop (j+1).toNat:=aY h2 (by omega) _;have hm:s.getD j.toNat (af Ty.str)∈s:=List.mem_of_mem_drop (i:=j.toNat) (by rw [hd];exact List.mem_cons_self);generalize s.getD j.toNat (af Ty.str)=w0 at *;have hw0:=hrd _ hm;have hw:=wh hwn hw0;have h3k:=NP hw0;have hE :(s.drop j.toNat).map (bu r)=bu r w0 ::(s.drop (j+1).toNat).map (bu r):=by rw [hd];rfl
  have hf:aO a w0 =(D0 (bu r w0),true):=by rw [ha];exact tB hw0
  generalize aO a w0=f at *;subst hf;generalize bu r w0=w at *;obtain ⟨hk3,_⟩:=h3k;have hb0:H7 (64100*i+16*j) (lR o k):=qW hl ⟨hk0,hk1⟩;have hb:=B0 hb0 hw;have eO :∀ (v d:aa.ah),(o.set k.toNat v).getD k.toNat d=v:=fun v d=>mc hkn;have eA:o.getD k.toNat (af (Ty.nm Nm.ah))=lR o k:=rfl;rw [eA] at hr5;generalize hx:lR o k=x at *;obtain ⟨f1,f2,f3,f4⟩:=fE1 w;obtain ⟨p1,p2,p3,p4,p5,p6⟩:=hb0
  have wr :∀ {v d:Int},fU (64100*i+16*j) v->0<=d->d<=16->IntKind.i64.wrap (v+d)=v+d:=fun {v d} hv a b=>by obtain ⟨v0,v1⟩:=hv;exact bE (by omega) (by omega)
  have A1:r5=o.set k.toNat ⟨x.Player,x.Balls,x.Maidens,x.Runs+w.charge,x.Wickets,x.Wides,x.NoBalls⟩:=by rw [hr5];congr 2;exact wr p3 hw.1.1 hw.1.2
  have A4:r6 =⟨x.Player,x.Balls,x.Maidens,x.Runs+w.charge,x.Wickets,x.Wides,x.NoBalls⟩:=by rw [hr6,A1];exact eO _ _
  have A5:r7=o.set k.toNat ⟨x.Player,x.Balls+HI w,x.Maidens,x.Runs+w.charge,x.Wickets,x.Wides+HK w,x.NoBalls+HJ w⟩:=by
   rw [hr7,A4,A1,hr1,hr2];simp only [List.set_set];have q1:=wr p1 (by decide :(0:Int)<=1) (by decide);have q5:=wr p5 (by decide :(0:Int)<=1) (by decide);have q6:=wr p6 (by decide :(0:Int)<=1) (by decide);show (bif vr w.kind==1 then _ else bif vr w.kind==2 then _ else _)=_;rw [q1,q5,q6];rcases hk3 with hk|hk|hk
   ·have t:vr w.kind=1:=by rw [hk];rfl
    have b1:HI w=1:=by unfold HI;rw [hk];rfl
    have b2:HK w=0:=by unfold HK;rw [hk];rfl
    have b3:HJ w=0:=by unfold HJ;rw [hk];rfl
    rw [t,b1,b2,b3,Int.add_zero,Int.add_zero];rfl
   ·have t:vr w.kind=2:=by rw [hk];rfl
    have b1:HI w=0:=by unfold HI;rw [hk];rfl
    have b2:HK w=1:=by unfold HK;rw [hk];rfl
    have b3:HJ w=0:=by unfold HJ;rw [hk];rfl
    rw [t,b1,b2,b3,Int.add_zero,Int.add_zero];rfl
   ·have t:vr w.kind=3:=by rw [hk];rfl
    have b1:HI w=0:=by unfold HI;rw [hk];rfl
    have b2:HK w=0:=by unfold HK;rw [hk];rfl
    have b3:HJ w=1:=by unfold HJ;rw [hk];rfl
    rw [t,b1,b2,b3,Int.add_zero,Int.add_zero];rfl
  have A6:r8 =⟨x.Player,x.Balls+HI w,x.Maidens,x.Runs+w.charge,x.Wickets,x.Wides+HK w,x.NoBalls+HJ w⟩:=by rw [hr8,A5];exact eO _ _
  have A7 :(bif w.mark==87 then r7.set k.toNat (aa.ah.mk r8.1 r8.2 r8.3 r8.4 (IntKind.i64.wrap (r8.5 +(1:Int))) r8.6 r8.7) else r7)=o.set k.toNat (lP x w):=by rw [A6,A5];simp only [List.set_set];have q4:=wr p4 (by decide :(0:Int)<=1) (by decide);unfold lP Z7;show (bif w.mark==87 then _ else _)=_;rw [q4];cases w.mark==87 <;> simp only [cond_true,cond_false,if_true,Bool.false_eq_true,if_false,Int.add_zero]
  have eW :(D0 w,true).1.6 =(w.mark==87):=rfl;rw [eW,e1,A7];have hl2 :(o.set k.toNat (lP x w)).length=o.length:=List.length_set;have l5:r5.length=o.length:=by rw [A1];exact List.length_set
  have l7:r7.length=o.length:=by rw [A5];exact List.length_set
  have k5:0<=k/\k <(r5.length:Int):=⟨hk0,by rw [l5];exact hk1⟩;have k7:0<=k/\k <(r7.length:Int):=⟨hk0,by rw [l7];exact hk1⟩;refine ⟨⟨⟨⟨h2,by omega⟩,by rw [ha];exact pA r,⟨hk0,hk1⟩,⟨hk0,hk1⟩,⟨fun _=>⟨k5,k5,trivial⟩,fun _=>⟨fun _=>⟨k5,k5,trivial⟩,fun _=>⟨k5,k5,trivial⟩⟩⟩,fun _=>⟨fun _=>⟨k7,k7,trivial⟩,fun _=>trivial⟩⟩,fun _=>⟨⟨⟨h1,h1b⟩,⟨ha,hwn,hrd⟩,⟨?_,?_⟩,⟨hk0,?_⟩,⟨hi0,hi4⟩,?_⟩,?_⟩⟩,?_⟩
  ·show 0<=j+1;omega
  ·show j+1<=m;omega
  ·show k <((o.set k.toNat (lP x w)).length:Int);rw [hl2];exact hk1
  ·show lI (64100*i+16 *(j+1)) (o.set k.toNat (lP x w));rw [show 64100*i+16 *(j+1)=64100*i+16*j+16 by omega];exact C1 hl hb (by omega)
  ·show (m - (j+1)).toNat <(m - j).toNat;omega
  ·show (a,bs,n,i,c,k,r,b,(o.set k.toNat (lP x w)).set k.toNat (iq (lR (o.set k.toNat (lP x w)) k) ((s.drop (j+1).toNat).map (bu r))),()) =(a,bs,n,i,c,k,r,b,o.set k.toNat (iq (lR o k) ((s.drop j.toNat).map (bu r))),())
   have:lR (o.set k.toNat (lP x w)) k=lP x w:=eO _ _
   rw [this,hE,hx,List.set_set];rfl
 ·show (a,bs,n,i,c,k,r,b,o,()) =(a,bs,n,i,c,k,r,b,o.set k.toNat (iq (lR o k) ((s.drop j.toNat).map (bu r))),());rw [aN (l:=s) (by omega)];show _ =(a,bs,n,i,c,k,r,b,o.set k.toNat (lR o k),())
  have:o.set k.toNat (lR o k)=o:=by unfold lR;rw [List.getD_eq_getElem?_getD,List.getElem?_eq_getElem hkn];exact List.set_getElem_self hkn
  rw [this]
noncomputable def ZL:aw:=aq AW ny tP
noncomputable def YA:Nat:=fo (bA Tryz.f11 0 1)
theorem Sv:aJ Tryz.prog 0 Tryz.f11.ntmps (bA Tryz.f11 0 1) (aq AW ny tP):=
 aD AW (az (.aP dY rfl .nil) _) mixed (fun b hb S hS=>by cases hS) ny tP FJ (fun |⟨a,bs,n,i,c,k,s,m,j,r,b,o,⟨⟩⟩,hi=>TS a bs n i c k s m j r b o hi)
noncomputable def AX:Lp:=(⟨0,aI [dF,HZ] Tryz.f11,(find [(Yz,ZK),(YA,ZL)]),(aC Tryz.f11 0),aeT,afn⟩:Lp)
theorem TT (a:List ag) (bs:List aa.aH) (n:Int) (i:Int) (r:aj) (b:aa.ay) (o:List aa.ah) (hi:mZ (a,bs,n,i,r,b,o,())) :(Go.aa.stepG AX jB (fun y:Den (bj AX.q)=>mZ y/\oP y<oP (a,bs,n,i,r,b,o,())) (a,bs,n,i,r,b,o,())/\Go.aa.bB AX jB (a,bs,n,i,r,b,o,())=jB (a,bs,n,i,r,b,o,())):=by
 refine cast (by kernel_rfl) (?_:let r1:Int:=IntKind.i64.wrap (i+1);let r2:Int:=(↑(bs.getD i.toNat (af (Ty.nm Nm.aH))).3.length:Int);let r3:List ab:=List.map (bu r) (List.drop (Int.toNat 0) (bs.getD i.toNat (af (Ty.nm Nm.aH))).3);let r4:Int:=0+jw (bs.getD i.toNat (af (Ty.nm Nm.aH))).2 (List.drop (Int.toNat 0) o);let r5:Int:=64100*i +(16:Int)*0;let r6:Bool:=r4 ==(↑o.length:Int);let r7:List aa.ah:= [aa.ah.mk (bs.getD i.toNat (af (Ty.nm Nm.aH))).2 0 0 0 0 0 0];let r8:List aa.ah:=o++r7;let r9:List aa.ah:=o.set r4.toNat (iq (lR o r4) r3);let r10:aa.ah:=r9.getD r4.toNat (af (Ty.nm Nm.ah));let r11:List aa.ah:=r8.set r4.toNat (iq (lR r8 r4) r3);let r12:aa.ah:=r11.getD r4.toNat (af (Ty.nm Nm.ah));((decide (i<n)=true->(0<=i/\i <(↑bs.length:Int))/\((cq fun x=>none)/\(0:Int)<=0/\0<=(↑o.length:Int)/\o.length<=(4000:Nat))/\(r6=true->(o.length+r7.length) *(56:Nat)<=(70368744177664:Nat)/\((cq fun x=>none)/\(r2 =(↑(bs.getD i.toNat (af (Ty.nm Nm.aH))).3.length:Int)/\(bs.getD i.toNat (af (Ty.nm Nm.aH))).3.length<=(4000:Nat))/\(vE r a/\kq r/\mw r (bs.getD i.toNat (af (Ty.nm Nm.aH))).3)/\((0:Int)<=0/\0<=r2)/\n8 r4 r8.length/\(0<=i/\i<=4000)/\lI r5 r8)/\vE r a/\sT r/\po b.2/\Du r b.2/\n8 i b.2.length/\(cu r b.2 (p7 r b.2) i=true->(0<=r4/\r4 <(↑r11.length:Int))/\(0<=r4/\r4 <(↑r11.length:Int))/\mZ (a,bs,n,r1,r,b,r11.set r4.toNat (aa.ah.mk r12.1 r12.2 (IntKind.i64.wrap (r12.3+1)) r12.4 r12.5 r12.6 r12.7),())/\oP (a,bs,n,r1,r,b,r11.set r4.toNat (aa.ah.mk r12.1 r12.2 (IntKind.i64.wrap (r12.3+1)) r12.4 r12.5 r12.6 r12.7),())<oP (a,bs,n,i,r,b,o,()))/\(cu r b.2 (p7 r b.2) i=false->mZ (a,bs,n,r1,r,b,r11,())/\oP (a,bs,n,r1,r,b,r11,())<oP (a,bs,n,i,r,b,o,())))/\(r6=false->((cq fun x=>none)/\(r2 =(↑(bs.getD i.toNat (af (Ty.nm Nm.aH))).3.length:Int)/\(bs.getD i.toNat (af (Ty.nm Nm.aH))).3.length<=(4000:Nat))/\(vE r a/\kq r/\mw r (bs.getD i.toNat (af (Ty.nm Nm.aH))).3)/\((0:Int)<=0/\0<=r2)/\n8 r4 o.length/\(0<=i/\i<=4000)/\lI r5 o)/\vE r a/\sT r/\po b.2/\Du r b.2/\n8 i b.2.length/\(cu r b.2 (p7 r b.2) i=true->(0<=r4/\r4 <(↑r9.length:Int))/\(0<=r4/\r4 <(↑r9.length:Int))/\mZ (a,bs,n,r1,r,b,r9.set r4.toNat (aa.ah.mk r10.1 r10.2 (IntKind.i64.wrap (r10.3+1)) r10.4 r10.5 r10.6 r10.7),())/\oP (a,bs,n,r1,r,b,r9.set r4.toNat (aa.ah.mk r10.1 r10.2 (IntKind.i64.wrap (r10.3+1)) r10.4 r10.5 r10.6 r10.7),())<oP (a,bs,n,i,r,b,o,()))/\(cu r b.2 (p7 r b.2) i=false->mZ (a,bs,n,r1,r,b,r9,())/\oP (a,bs,n,r1,r,b,r9,())<oP (a,bs,n,i,r,b,o,()))))/\(decide (i<n)=false->True))/\(cond (decide (i<n)) (cond r6 (cond (cu r b.2 (p7 r b.2) i) (jB (a,bs,n,r1,r,b,r11.set r4.toNat (aa.ah.mk r12.1 r12.2 (IntKind.i64.wrap (r12.3+1)) r12.4 r12.5 r12.6 r12.7),())) (jB (a,bs,n,r1,r,b,r11,()))) (cond (cu r b.2 (p7 r b.2) i) (jB (a,bs,n,r1,r,b,r9.set r4.toNat (aa.ah.mk r10.1 r10.2 (IntKind.i64.wrap (r10.3+1)) r10.4 r10.5 r10.6 r10.7),())) (jB (a,bs,n,r1,r,b,r9,())))) (o,()))=jB (a,bs,n,i,r,b,o,()));intro r1 r2 r3 r4 r5 r6 r7 r8 r9 r10 r11 r12
 clear_value (hr1:r1=_) (hr2:r2=_) (hr3:r3=_) (hr4:r4=_) (hr5:r5=_) (hr6:r6=_) (hr7:r7=_) (hr8:r8=_) (hr9:r9=_) (hr10:r10=_) (hr11:r11=_) (hr12:r12=_)
 obtain ⟨⟨ha,hg,hrx⟩,hA,⟨h2,h3⟩,h4,h5⟩:=hi;obtain ⟨h1,⟨h1a,h1b⟩,hb,hll,hes⟩:=id hA;have h1:n =(bs.length:Int):=h1;have h1a:bs.length<=4000:=h1a;have h2:0<=i:=h2;have h3:i<=n:=h3;have h4 :(o.length:Int)<=i:=h4;have h5:lI (64100*i) o:=h5;have hb:b.Boxes=bs:=hb;have hb2:b.2=bs:=hb;refine dP (fun h=>?_) (fun h=>?_)
 ·have e1:IntKind.i64.wrap (i+1)=i+1:=a7 (by omega) (by omega);have hd:bs.drop i.toNat=bs.getD i.toNat (af (Ty.nm Nm.aH))::bs.drop (i+1).toNat:=aY h2 (by omega) _;have hm:bs.getD i.toNat (af (Ty.nm Nm.aH))∈bs:=List.mem_of_mem_drop (i:=i.toNat) (by rw [hd];exact List.mem_cons_self);rw [e1] at hr1;generalize bs.getD i.toNat (af (Ty.nm Nm.aH))=x at *;have hsy:=h1b _ hm;have hrs:=hrx _ hm
  have hl :(p7 r b.Boxes).drop i.toNat=x.Symbols.map (bu r) ::(p7 r b.Boxes).drop (i+1).toNat:=by rw [hb];unfold p7;rw [<-List.map_drop,hd,List.map_cons,List.map_drop]
  have hym:x.Symbols.map (bu r)∈p7 r b.Boxes:=List.mem_of_mem_drop (i:=i.toNat) (by rw [hl];exact List.mem_cons_self);have hy:=hes _ hym;have hB:cu r b.2 (p7 r b.2) i=cu r b.Boxes (p7 r b.Boxes) i:=rfl;have e3:r3=x.Symbols.map (bu r):=hr3;have e4:r4=jw x.Bowler o:=by rw [hr4];exact Int.zero_add _
  have e5:r5=64100*i:=by rw [hr5];omega
  have e7:r7=[FT x.Bowler]:=hr7;obtain ⟨p0,p1⟩:=IB x.Bowler o;have hyn :(0:Int)<=r2:=by rw [hr2];omega
  have hi4 :(0:Int)<=i/\i<=4000:=⟨h2,by omega⟩;have hsx:po b.2:=by rw [hb2];exact ⟨h1a,h1b⟩
  have hrx2:Du r b.2:=by rw [hb2];exact hrx
  have hin:n8 i b.2.length:=by rw [hb2];exact ⟨h2,by omega⟩
  subst hr1
  cases he:o.any (fun z=>z.Player==x.Bowler) with
  | true=>
   rw [he] at p1;simp only [if_true] at p1
   have e6:r6=false:=by rw [hr6,e4];simp;omega
   rw [<-e4] at p0 p1;have hk:n8 r4 o.length:=⟨p0,p1⟩;have hkn:r4.toNat<o.length:=by omega
   have hv:=pB (qW h5 hk) hy.2;have hv1:=hy.1;have F:=fun m hm=>rC (r:=r) (o:=o) hA ⟨h2,h⟩ hd hl hy (m:=m) h5 hk (by omega) hm (by rw [zr he,e4]);rw [e3] at hr9;have g10:r10=iq (lR o r4) (x.Symbols.map (bu r)):=by rw [hr10,hr9];exact mc hkn
   have eT:=C3 (o:=o) (k:=r4.toNat) g10 hv (by omega);rw [<-hr9] at eT;have l9:r9.length=o.length:=by rw [hr9];exact List.length_set
   have k9:0<=r4/\r4 <(r9.length:Int):=by rw [l9];exact hk
   rw [e6,eT];refine ⟨⟨⟨h2,by omega⟩,⟨rfl,Int.le_refl _,by omega,by omega⟩,fun z=>Bool.noConfusion z,fun _=>⟨⟨rfl,⟨hr2,hsy⟩,⟨ha,hg.1,hrs⟩,⟨Int.le_refl _,hyn⟩,hk,hi4,by rw [e5];exact h5⟩,ha,hg,hsx,hrx2,hin,fun hm=>⟨k9,k9,⟨⟨ha,hg,hrx⟩,(F true hm).1.1⟩,(F true hm).1.2⟩,fun hm=>?_⟩⟩,?_⟩
   ·rw [hr9];exact ⟨⟨⟨ha,hg,hrx⟩,(F false hm).1.1⟩,(F false hm).1.2⟩
   ·cases hm:cu r b.2 (p7 r b.2) i with
    | true=>exact (F true hm).2
    | false=>rw [hr9];exact (F false hm).2
  | false=>
   rw [he] at p1;simp only [Bool.false_eq_true,if_false] at p1;have e6:r6=true:=by rw [hr6,e4,p1];exact beq_self_eq_true _
   have e8:r8=o++[FT x.Bowler]:=by rw [hr8,e7]
   have l8 :(r8.length:Int)=o.length+1:=by rw [e8,List.length_append,List.length_singleton];omega
   have hk:n8 r4 r8.length:=⟨by omega,by omega⟩;have hkn:r4.toNat<r8.length:=by have:=hk.1;have:=hk.2;omega
   have h8:lI (64100*i) r8:=by rw [e8];exact JX h5 (by omega)
   have hv:=pB (qW h8 hk) hy.2;have hv1:=hy.1;have F:=fun m hm=>rC (r:=r) (o:=o) hA ⟨h2,h⟩ hd hl hy (m:=m) h8 hk (by omega) hm (by rw [zq he,<-e8,<-e4]);rw [e3] at hr11;have g12:r12=iq (lR r8 r4) (x.Symbols.map (bu r)):=by rw [hr12,hr11];exact mc hkn
   have eT:=C3 (o:=r8) (k:=r4.toNat) g12 hv (by omega);rw [<-hr11] at eT;have l11:r11.length=r8.length:=by rw [hr11];exact List.length_set
   have k11:0<=r4/\r4 <(r11.length:Int):=by rw [l11];exact hk
   rw [e6,eT];refine ⟨⟨⟨h2,by omega⟩,⟨rfl,Int.le_refl _,by omega,by omega⟩,fun _=>⟨?_,⟨rfl,⟨hr2,hsy⟩,⟨ha,hg.1,hrs⟩,⟨Int.le_refl _,hyn⟩,hk,hi4,by rw [e5];exact h8⟩,ha,hg,hsx,hrx2,hin,fun hm=>⟨k11,k11,⟨⟨ha,hg,hrx⟩,(F true hm).1.1⟩,(F true hm).1.2⟩,fun hm=>?_⟩,fun z=>Bool.noConfusion z⟩,?_⟩
   ·rw [e7,List.length_singleton];omega
   ·rw [hr11];exact ⟨⟨⟨ha,hg,hrx⟩,(F false hm).1.1⟩,(F false hm).1.2⟩
   ·cases hm:cu r b.2 (p7 r b.2) i with
    | true=>exact (F true hm).2
    | false=>rw [hr11];exact (F false hm).2
 ·unfold jB fE;simp only;rw [aN (l:=bs) (by omega)];cases (p7 r b.Boxes).drop i.toNat <;> rfl
noncomputable def QH:aw:=aq AX jB mZ
noncomputable def P1:Nat:=fo (aC Tryz.f11 0)
theorem Sw:aJ Tryz.prog 0 Tryz.f11.ntmps (aC Tryz.f11 0) (aq AX jB mZ):=
 aD AX (az (.aP dY rfl (.aP Gc rfl .nil)) _) mixed (aL.cons (by kernel_rfl) Su (aL.cons (by kernel_rfl) Sv .nil)) jB mZ oP (fun |⟨a,bs,n,i,r,b,o,⟨⟩⟩,hi=>TT a bs n i r b o hi)
theorem B2 {r:aj} {b:aa.ay} (hb:qe b) (h:bR r b=0) :∃ es,fm r b = .inr es/\es=p7 r b.Boxes/\sT r/\Du r b.Boxes/\wo (p7 r b.Boxes)/\∀ x∈b.Strips,lE x.Symbols:=by
 have hP:Lt (fm r b)=0:=by rw [B8,s8 r hb.1.1];exact h
 cases hz:fm r b with
 | inl e=>rw [hz] at hP;exact absurd hP (ED hz)
 | inr es=>obtain ⟨hw,hs,he,hy⟩:=EE hz;obtain ⟨hx,hes⟩:=Ol hb.1.1 he;obtain ⟨⟨_,_,n3⟩,_⟩:=Pk (lV hw) hb hs he hy;have e:es=p7 r b.Boxes:=hes;refine ⟨es,rfl,e,lV hw,fun x hm=>(hx x hm).1,by rw [<-e];exact n3,nE b.Strips [] hy⟩
theorem y6 (r:aj) (b:aa.ay) (hb:qe b) :(a8 (aI [pL,kZ] Tryz.f11) (find [(P1,QH)]) Tryz.f11 ns Gx (r,b,())).sat fun z_=>z_ =(Ql (r,b,())).2:=by
 refine cast (by kernel_rfl) (?_:qe b/\((bR r b != 0)=true->([],bR r b,())=oU r b)/\((bR r b != 0)=false->kq r/\((cq fun x=>none)/\(vE r (bQ r)/\sT r/\Du r b.2)/\jt (p7 r b.2,b.2,(↑b.2.length:Int),0,r,b,[],()))/\(vV (cu r b.2 (p7 r b.2)) (List.drop (Int.toNat 0) b.2) (List.drop (Int.toNat 0) (p7 r b.2)) 0 [],0,())=oU r b));refine ⟨hb,fun h=>?_,fun h=>?_⟩
 ·unfold oU;rw [if_pos h]
 ·obtain ⟨es,_,_,hg,hx,hes,_⟩:=B2 hb (by simpa using h);have hl :(p7 r b.Boxes).length=b.Boxes.length:=by unfold p7;rw [List.length_map]
  refine ⟨hg.1,⟨rfl,⟨rfl,hg,hx⟩,⟨rfl,hb.1,rfl,hl,hes⟩,⟨Int.le_refl _,by omega⟩,Int.le_refl _,fun x hx=>by cases hx⟩,?_⟩;unfold oU;rw [if_neg (by rw [h];exact Bool.false_ne_true)];rfl
def uO:FuncId×dR:=(11,ax KE ns Gx Ql)
theorem Df:aR Tryz.prog KE 11 (ax KE ns Gx Ql):=by
 refine bh (C:=aI [pL,kZ] Tryz.f11) (az (.aP xr rfl (.aP sy rfl .nil)) _) mixed (fn:=Tryz.f11) Tryz.func11 (by kernel_rfl) (by kernel_rfl) (by kernel_rfl) (by kernel_rfl) (by kernel_rfl) (by kernel_rfl) (Λ:=fun x=>find [(P1,QH)]) ?_ ?_
 ·rintro ⟨r,b,⟨⟩⟩ hw hn
  exact aL.at (by kernel_rfl) (.cons (by kernel_rfl) (Sw) .nil)
 ·rintro ⟨r,b,⟨⟩⟩ hw hn
  exact y6 r b (hn _ List.mem_cons_self)
theorem KX {r:aj} {b:aa.ay} (hb:qe b):Gh r b (fm r b)=oU r b:=by
 have hP:Lt (fm r b)=bR r b:=by rw [B8,s8 r hb.1.1]
 unfold oU
 cases hz:bR r b != 0 with
 | true=>
  rw [if_pos rfl,<-hP]
  cases hc:fm r b with
  | inl e=>rfl
  | inr es=>rw [hc] at hP;rw [<-hP] at hz;cases hz
 | false=>obtain ⟨es,h1,h2,_⟩:=B2 hb (by simpa using hz);rw [h1,h2];rfl
end
end Go.Proofs.YtjcbhomccohklaaGreatDoor
