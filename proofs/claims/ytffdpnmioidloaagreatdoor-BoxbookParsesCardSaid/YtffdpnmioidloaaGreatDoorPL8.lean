/- Texts of the mirror and contracts, put together. -/
import Derived.Test.YtffdpnmioidloaaGreatDoorPL7
import Derived.Test.YtffdpnmioidloaaGreatDoorPL3
import Derived.Test.YtffdpnmioidloaaGreatDoorPL6
import Derived.Test.YtffdpnmioidloaaGreatDoorTie
import Derived.SizedLaws
import Derived.LaidMore
import Derived.OpenShut
import Derived.ProofKit
import Derived.Test.YtffdpnmioidloaaGreatDoorPL4
import Derived.HandedShaped
import Derived.LaidSub
import Derived.Stop.LaidErr
import Derived.Lib.LaidTab
import Derived.Lay
import Derived.MakeChecks
namespace Go.Mir
open Go.RowKit
variable {P:Program} {tb:Tbl} {call:eM}
noncomputable section
def EA {t:Ty} (p:List V→Option (Den t×List V)):Nat→List V→Option (List (Den t))
 | 0,_=>some []
 | n+1,vs=>match p vs with
  | some (x,r)=>match EA p n r with
   | some xs=>some (x::xs)
   | none=>none
  | none=>none
def CH (H:aw) (t:Ty) (p:List V→Option (Den t×List V)):List V→Option (List (Den t)×List V)
 | .fsl t' xs::r=>if h:t'=t then some ((h▸xs:List (Den t)),r) else none
 | .nilsl::r=>some ([],r)
 | .esl::r=>some ([],r)
 | .gsl h ver esz off len::r=>match H h with
  | some (.grow ver' esz' cs)=>if ver=ver'∧esz=esz'∧esz=sz t∧(off+len)*esz≤cs.length∧len≤au then match EA p len (cs.drop (off*esz)) with
   | some xs=>some (xs,r)
   | none=>none
   else none
  | _=>none
 | _=>none
def jP (H:aw):Nat→(t:Ty)→List V→Option (Den t×List V)
 | 0,_,_=>none
 | _+1,.int k,vs=>Ez k vs
 | _+1,.bool,vs=>Ey vs
 | _+1,.str,vs=>EB vs
 | _+1,.unit,r=>some ((),r)
 | f+1,.prod a b,r=>match jP H f a r with
  | some (x,r')=>match jP H f b r' with
   | some (y,r'')=>some ((x,y),r'')
   | none=>none
  | none=>none
 | f+1,.slice t,vs=>CH H t (jP H f t) vs
 | f+1,.nm n,r=>match jP H f n.flds r with
  | some (x,r')=>some (n.of x,r')
  | none=>none
def EC (H:aw) (t:Ty) (v:V):Option (Den t):=bif jB t==fx v then (match cellsOf v with
 | some cs=>match jP H fi t cs with
  | some (x,[])=>some x
  | _=>none
 | none=>none) else none
def QX (E:Env) (b:Nat):Prop:=∃ h ver esz cs,E.H h=some (.grow ver esz cs)∧E.ρ h=some b
def rU (E:Env):Env:=⟨E.U,E.ρ,fun b=>E.S b∨QX E b,E.w,fun _=>none⟩
theorem FJ {B:Base} {E:Env} (hE:HRel B E):HRel B (rU E)∧Ext E (rU E):=by
 refine ⟨⟨fun h b hx=>?_,fun b hb=>?_,fun h k b hx=>?_,fun h h' k k' b hx=>?_,fun h k hx=>?_,hE.keeps,fun h k b hx=>?_,fun b hb=> .inl (hE.s0 b hb),fun b hb=>?_⟩,
  ⟨fun _ h=>h,fun _ h=> .inl h,fun _ _=>rfl,fun _ _ _ hx=>?_,fun _ _ _ _ _ _ _ hx=>?_,fun _ _ _ _ _ _ hx=>?_,fun _ _ _ hx=>?_,fun _ _ _ _ _ hx=>?_⟩⟩ <;> try (cases hx)
 ·rcases hb with hb |⟨h,ver,esz,cs,h1,h2⟩
  ·exact hE.stab b hb
  ·exact hE.lt _ _ _ h1 h2
 ·rcases hb with hb |⟨h,ver,esz,cs,h1,h2⟩
  ·exact hE.sb b hb
  ·exact .inr (hE.own _ _ _ h1 h2)
theorem qt {E:Env} {S:Nat→Prop} {t:Ty} {p:List V→Option (Den t×List V)} (hp :∀ vs x r cs,p vs=some (x,r)→ab E vs cs→∃ c1 c2,cs=c1++c2∧Rd S E.w t x c1∧ab E r c2) :
  ∀ (n:Nat) (vs:List V) (xs:List (Den t)) (cs:List Value),EA p n vs=some xs→ab E vs cs→xs.length=n∧∀ (i:Nat) (h:i<xs.length),Rd S E.w t xs[i] ((cs.drop (i*sz t)).take (sz t))
 | 0,vs,xs,cs,h,_=>by
  cases h
  exact ⟨rfl,fun i hi=>by simp at hi⟩
 | n+1,vs,xs,cs,h,hv=>by
  simp only [EA] at h
  split at h
  case h_2=>cases h
  rename_i x r hx
  split at h
  case h_2=>cases h
  rename_i xs' hxs
  cases h
  obtain ⟨c1,c2,rfl,h1,h2⟩:=hp _ _ _ _ hx hv
  obtain ⟨h3,h4⟩:=qt hp n r xs' c2 hxs h2
  refine ⟨by simp [h3],fun i hi=>?_⟩
  have hl:=h1.len
  cases i with
  | zero=>
   rw [Nat.zero_mul,List.drop_zero,←hl,List.take_left]
   exact h1
  | succ i=>
   have e :(c1++c2).drop ((i+1)*sz t)=c2.drop (i*sz t):=by
    rw [Nat.succ_mul,Nat.add_comm,←List.drop_drop,←hl,List.drop_left]
   rw [e]
   exact h4 i (by simpa using hi)
theorem ye {B:Base} {E:Env} (hE:HRel B E) {t:Ty} {p:List V→Option (Den t×List V)} (hp :∀ vs x r cs,p vs=some (x,r)→ab E vs cs→∃ c1 c2,cs=c1++c2∧Rd (rU E).S E.w t x c1∧ab E r c2)
  {vs:List V} {xs:List (Den t)} {rest:List V} {cs:List Value} (h:CH E.H t p vs=some (xs,rest)) (hv:ab E vs cs) :∃ c1 c2,cs=c1++c2∧Rd (rU E).S E.w (.slice t) xs c1∧ab E rest c2:=by
 unfold CH at h
 split at h
 ·split at h
  ·rename_i e
   subst e
   cases h
   obtain ⟨c,r',rfl,h1,h2⟩:=aU hv
   exact ⟨_,_,rfl,Rd.ext (fun _ h=> .inl h) (fun _ _=>rfl) h1,h2⟩
  ·cases h
 ·cases h
  obtain ⟨c,r',rfl,h1,h2⟩:=aU hv
  simp only [aa] at h1
  subst h1
  exact ⟨_,_,rfl,.nil,h2⟩
 ·cases h
  obtain ⟨c,r',rfl,h1,h2⟩:=aU hv
  simp only [aa] at h1
  obtain ⟨a,rfl⟩:=h1
  exact ⟨_,_,rfl,.nil,h2⟩
 ·rename_i hh ver esz off len r
  split at h
  case h_2=>cases h
  rename_i ver' esz' csB hH
  split at h
  case isFalse=>cases h
  rename_i hc
  obtain ⟨rfl,rfl,e3,h4,h5⟩:=hc
  split at h
  case h_2=>cases h
  rename_i xs' hxs
  cases h
  obtain ⟨c,r',rfl,h1,h2⟩:=aU hv
  simp only [aa] at h1
  obtain ⟨_,_,_,h1⟩:=h1
  obtain ⟨b,cap,c,T,fr,k1,rfl,k3,k4,k5,k6⟩:=h1 _ hH
  obtain ⟨_,b',c',T',fr',q1,q2,q3,q4,q5⟩:=hE.blk _ _ hH
  rw [k1] at q1
  cases q1
  rw [k3] at q2
  cases q2
  obtain ⟨g1,g2⟩:=qt (S:=(rU E).S) hp _ _ _ _ hxs (fT q5 (off*esz))
  subst e3
  refine ⟨_,_,rfl,?_,h2⟩
  rw [←g1] at k5 ⊢
  refine .slice (.inr ⟨_,_,_,_,hH,k1⟩) k3 ?_ k5 (by omega) fun i hi=>?_
  ·rw [Nat.add_mul] at k4
   have:=Nat.mul_le_mul_right (sz t) k5
   omega
  ·have:=g2 i hi
   have e :((c.toList.take csB.length).drop (off*sz t)).drop (i*sz t) =((c.toList.drop (off*sz t+i*sz t))).take (csB.length - (off*sz t+i*sz t)):=by
    rw [List.drop_drop,List.drop_take]
   rw [e,List.take_take] at this
   have hle:sz t≤csB.length - (off*sz t+i*sz t):=by
    have h6 :(off +(i+1))*sz t≤(off+len)*sz t:=Nat.mul_le_mul_right _ (by omega)
    rw [Nat.add_mul,Nat.add_mul,Nat.one_mul] at h6
    omega
   rw [Nat.min_eq_left hle] at this
   exact this
 ·cases h
theorem gn {B:Base} {E:Env} (hE:HRel B E) :∀ (f:Nat) (t:Ty) (vs:List V) (x:Den t) (rest:List V) (cs:List Value),jP E.H f t vs=some (x,rest)→ab E vs cs→
  ∃ c1 c2,cs=c1++c2∧Rd (rU E).S E.w t x c1∧ab E rest c2
 | 0,t,vs,x,rest,cs,h,_=>by simp [jP] at h
 | f+1,.int k,vs,x,rest,cs,h,hv=>by
  simp only [jP] at h
  unfold Ez at h
  split at h
  ·split at h
   ·rename_i e
    subst e
    cases h
    obtain ⟨c,r',rfl,h1,h2⟩:=aU hv
    simp only [aa] at h1
    obtain ⟨rfl,h1⟩:=h1
    exact ⟨_,_,rfl,.int h1,h2⟩
   ·cases h
  ·cases h
 | f+1,.bool,vs,x,rest,cs,h,hv=>by
  simp only [jP] at h
  unfold Ey at h
  split at h
  ·cases h
   obtain ⟨c,r',rfl,h1,h2⟩:=aU hv
   simp only [aa] at h1
   subst h1
   exact ⟨_,_,rfl,.bool,h2⟩
  ·cases h
   obtain ⟨c,r',rfl,h1,h2⟩:=aU hv
   simp only [aa] at h1
   subst h1
   exact ⟨_,_,rfl,.bool,h2⟩
  ·cases h
 | f+1,.str,vs,x,rest,cs,h,hv=>by
  simp only [jP] at h
  unfold EB at h
  split at h
  ·cases h
   obtain ⟨c,r',rfl,h1,h2⟩:=aU hv
   simp only [aa] at h1
   obtain ⟨rfl,h1⟩:=h1
   exact ⟨_,_,rfl,.str h1,h2⟩
  ·cases h
 | f+1,.unit,vs,x,rest,cs,h,hv=>by
  simp only [jP] at h
  cases h
  exact ⟨[],cs,rfl,.unit,hv⟩
 | f+1,.prod a b,vs,x,rest,cs,h,hv=>by
  simp only [jP] at h
  split at h
  ·rename_i x1 r1 h1
   split at h
   ·rename_i y1 r2 h2
    cases h
    obtain ⟨c1,c2,rfl,k1,k2⟩:=gn hE f _ _ _ _ _ h1 hv
    obtain ⟨d1,d2,rfl,k3,k4⟩:=gn hE f _ _ _ _ _ h2 k2
    exact ⟨c1++d1,d2,by simp,.prod k1 k3,k4⟩
   ·cases h
  ·cases h
 | f+1,.slice t,vs,x,rest,cs,h,hv=>ye hE (fun vs x r cs=>gn hE f t vs x r cs) h hv
 | f+1,.nm n,vs,x,rest,cs,h,hv=>by
  simp only [jP] at h
  split at h
  ·rename_i x1 r1 h1
   cases h
   obtain ⟨c1,c2,rfl,k1,k2⟩:=gn hE f _ _ _ _ _ h1 hv
   exact ⟨c1,c2,rfl,.nm (by rw [n.to_of];exact k1),k2⟩
  ·cases h
theorem qv {B:Base} {E:Env} (hE:HRel B E) {t:Ty} {v:V} {x:Den t} (h:EC E.H t v=some x) {u:Value} (hv:aa E v u):aa (rU E) (eI t x) u:=by
 unfold EC at h
 cases hg:jB t==fx v with
 | false=>rw [hg] at h;cases h
 | true=>
  rw [hg] at h
  simp only [cond_true] at h
  split at h
  case h_2=>cases h
  rename_i cs hcs
  split at h
  case h_2=>cases h
  rename_i x' hx
  cases h
  obtain ⟨c1,c2,e,hrd,h2⟩:=gn hE _ _ _ _ _ _ hx (bA hv hcs)
  have hc2:c2=[]:=by cases c2 with|nil=>rfl|cons=>simp [ab] at h2
  subst hc2
  rw [List.append_nil] at e
  subst e
  simp only [beq_iff_eq] at hg
  refine q9 (E:=rU E) hrd ?_
  cases e:jB t with
  | true=>
   rw [e] at hg
   cases v <;> simp only [fx,Bool.true_eq_false] at hg
   simp only [aa] at hv
   obtain ⟨l,hl,_⟩:=hv
   exact .inl ⟨rfl,l,hl⟩
  | false=>
   rw [e] at hg
   refine .inr ⟨rfl,?_⟩
   have h1:u.oneCell'=true:=by
    cases v <;> simp only [fx,Bool.false_eq_true] at hg <;> simp only [cellsOf,reduceCtorEq] at hcs <;> exact gk rfl hv
   rw [pO h1]
def B4 {α:Type} (e:α→α→Bool):List α→List α→Bool
 | [],[]=>true
 | x::xs,y::ys=>bif e x y then B4 e xs ys else false
 | _,_=>false
theorem xq {α:Type} {e:α→α→Bool} (h :∀ x y,e x y=true→x=y) :∀ {xs ys:List α},B4 e xs ys=true→xs=ys
 | [],[],_=>rfl
 | [],_::_,h=>by simp [B4] at h
 | _::_,[],h=>by simp [B4] at h
 | x::xs,y::ys,hh=>by
  simp only [B4] at hh
  cases he:e x y with
  | false=>rw [he] at hh;cases hh
  | true=>rw [he] at hh;rw [h _ _ he,xq h hh]
def eqD:Nat→(t:Ty)→Den t→Den t→Bool
 | 0,_,_,_=>false
 | _+1,.int _,x,y=>@decide ((x:Int)=y) (Int.instDecidableEq x y)
 | _+1,.bool,x,y=>@decide ((x:Bool)=y) (instDecidableEqBool x y)
 | _+1,.str,x,y=>decide ((x:ByteArray).data.toList =(y:ByteArray).data.toList)
 | _+1,.unit,_,_=>true
 | f+1,.prod a b,x,y=>bif eqD f a x.1 y.1 then eqD f b x.2 y.2 else false
 | f+1,.slice t,xs,ys=>B4 (eqD f t) xs ys
 | f+1,.nm n,x,y=>eqD f n.flds (n.to x) (n.to y)
theorem pd :∀ (f:Nat) (t:Ty) (x y:Den t),eqD f t x y=true→x=y
 | 0,_,_,_,h=>by simp [eqD] at h
 | _+1,.int _,x,y,h=>@of_decide_eq_true ((x:Int)=y) (Int.instDecidableEq x y) h
 | _+1,.bool,x,y,h=>@of_decide_eq_true ((x:Bool)=y) (instDecidableEqBool x y) h
 | _+1,.str,x,y,h=>ByteArray.ext (Array.toList_inj.1 (of_decide_eq_true (p:=(x:ByteArray).data.toList =(y:ByteArray).data.toList) h))
 | _+1,.unit,_,_,_=>rfl
 | f+1,.prod a b,x,y,h=>by
  simp only [eqD] at h
  cases he:eqD f a x.1 y.1 with
  | false=>rw [he] at h;cases h
  | true=>rw [he] at h;exact Prod.ext (pd f a _ _ he) (pd f b _ _ h)
 | f+1,.slice t,xs,ys,h=>xq (pd f t) (by simpa only [eqD] using h)
 | f+1,.nm n,x,y,h=>by
  simp only [eqD] at h
  have:=pd f n.flds _ _ h
  rw [←n.of_to x,←n.of_to y,this]
def wi (H:aw):List Ty→List V→Option (List V)
 | [],[]=>some []
 | t::ts,v::vs=>match EC H t v with
  | some x=>match wi H ts vs with
   | some r=>some (eI t x::r)
   | none=>none
  | none=>none
 | _,_=>none
def wh (H:aw) (ts:List Ty) (v:V):Option V:=match ts with
 | [t]=>match EC H t v with
  | some x=>some (eI t x)
  | none=>none
 | ts=>match v with
  | .tup vs=>match wi H ts vs with
   | some l=>some (.tup l)
   | none=>none
  | _=>none
theorem qu {B:Base} {E:Env} (hE:HRel B E) :∀ {ts:List Ty} {vs l:List V} {us:List Value},wi E.H ts vs=some l→ab E vs us→ab (rU E) l us∧l.length=ts.length
 | [],[],l,us,h,hv=>by
  cases h
  cases us with
  | nil=>exact ⟨by simp [ab],rfl⟩
  | cons=>simp [ab] at hv
 | t::ts,v::vs,l,us,h,hv=>by
  simp only [wi] at h
  split at h
  case h_2=>cases h
  rename_i x hx
  split at h
  case h_2=>cases h
  rename_i r hr
  cases h
  cases us with
  | nil=>simp [ab] at hv
  | cons u us=>
   simp only [ab] at hv ⊢
   obtain ⟨h1,h2⟩:=qu hE hr hv.2
   exact ⟨⟨qv hE hx hv.1,h1⟩,by simp [h2]⟩
 | [],_::_,_,_,h,_=>by cases h
 | _::_,[],_,_,h,_=>by cases h
theorem AR {B:Base} {E:Env} (hE:HRel B E) {ts:List Ty} {v v0:V} {u:Value} (h:wh E.H ts v=some v0) (hv:aa E v u):aa (rU E) v0 u∧(ts.length≠1→∃ l,v0 = .tup l∧l.length=ts.length):=by
 unfold wh at h
 split at h
 ·split at h
  case h_2=>cases h
  rename_i x hx
  cases h
  exact ⟨qv hE hx hv,fun hn=>absurd rfl hn⟩
 ·split at h
  case h_2=>cases h
  rename_i vs
  split at h
  case h_2=>cases h
  rename_i l hl
  cases h
  simp only [aa] at hv ⊢
  obtain ⟨us,rfl,hus⟩:=hv
  obtain ⟨h1,h2⟩:=qu hE hl hus
  exact ⟨⟨us,rfl,h1⟩,fun _=>⟨l,rfl,h2⟩⟩
theorem Lo {f:FuncId} (hfn :∃ fn,P.funcs[f]?=some fn∧fn.body.isSome=true∧(fn.name == "runtime.NumGoroutine")=false) {n:Nat}
  {K:Nat} {q q':Pat} {spec:Den (tyP q)→List Prop×Den (tyP q')} (hpair:jv q q'=true) (hres:q'.tm.length=n)
  (h :∀ x:Den (tyP q),wfD (tyP q) x→(∀ p∈(spec x).1,p)→∃ (v0:V) (d:List (Nat×Blk)) (nx:Nat),(n≠1→∃ l,v0 = .tup l∧l.length=n)∧dp q.nx q' ⟨kc n v0,d,fun _=>none,nx⟩=some (spec x).2∧
   ∀ (B:Base) (E:Env) (av:List Value),HRel B E→E.H=ak (fun _=>none) (q.hpOf x)→ab E ((q.tmOf x).map (·.2)) av→(∀ n,E.U n→n<q.nx)→
    Calls P f av.toArray E.w fun e w'=>∃ Ec v',e = .returned v'∧HRel B Ec∧Ec.w=w'∧Ec.H=ak (fun _=>none) d∧Ext E Ec∧(∀ n,Ec.U n→n<nx)∧aa Ec v0 v'):CtrOK P K f (ag K q q' spec):=by
 refine ⟨hfn,fun B E hE args av hav m hm ps' v dh hct hps=>?_⟩
 unfold ag at hct
 simp only at hct
 split at hct
 case h_2=>cases hct
 rename_i x hx
 cases hle:AE q q' (iP q ⟨ck 0 args,[],E.H,m⟩)&&(Nat.beq args.length q.tm.length&&Nat.ble q'.nx K) with
 | false=>rw [hle] at hct;cases hct
 | true=>
 rw [hle] at hct
 simp only [cond_true,Option.some.injEq,Prod.mk.injEq] at hct
 obtain ⟨rfl,rfl,rfl⟩:=hct
 simp only [Bool.and_eq_true,Nat.beq_eq] at hle
 obtain ⟨hok,hlen,hKK⟩:=hle
 have hKK:q'.nx≤K:=Nat.le_of_ble_eq_true hKK
 have havl:=aC hav
 have hstH:E.H =(⟨ck 0 args,[],E.H,m⟩:St).H:=by funext h;simp [St.H,ak,find]
 let a0:Act:=⟨av.toArray,[]⟩
 have hT0:dF E (find (ck 0 args)) a0:=fun s v hv=>by
  simp only [eU,Nat.zero_le,if_true,Nat.sub_zero] at hv
  obtain ⟨v',h1,h2⟩:=dx hav s v hv
  have:av.toArray.getD s undef=v':=by
   rw [Array.getD_eq_getD_getElem?]
   simp [h1]
  show aa E v (av.toArray.getD s undef)
  rw [this]
  exact h2
 have hna :(q.hp.all fun x=>nK x.2)=true:=vZ hpair
 obtain ⟨hsub,hnd,htm,hwf⟩:=zK hna hx hE hstH hT0
 obtain ⟨hE1,_⟩:=bI hE (hsP q ⟨ck 0 args,[],E.H,m⟩)
 have hMnx :(iP q ⟨ck 0 args,[],E.H,m⟩).nx=q.nx:=rfl
 generalize hM:iP q ⟨ck 0 args,[],E.H,m⟩=M at *
 generalize hL:hsP q ⟨ck 0 args,[],E.H,m⟩=L at *
 have hE2:=ml hE1 hsub hnd
 let B':Base:=⟨E.w,oW (aX M (bb E L) (q.hpOf x)) (q.hpOf x),(bb E L).S,fun E'=>Ext (aX M (bb E L) (q.hpOf x)) E',fun _ _ h k=>h.trans k,hE2.glob (E:=aX M (bb E L) (q.hpOf x)) fun _ ⟨n,k,hf,hb⟩=>⟨n,k,by show ak (fun _=>none) (q.hpOf x) n=_;unfold ak;rw [hf],hb⟩,[]⟩
 have hpins:B'.pins q.nx:=by rw [←hMnx];exact AX
 have hE2':HRel B' (aX M (bb E L) (q.hpOf x)):=
  ⟨hE2.used,hE2.stab,hE2.lt',hE2.inj',hE2.blk,Keeps.refl _ _,fun h k b hx hb=> .inl ⟨h,k,ai hx,hb⟩,fun _ h=>h,fun _ h=> .inl h⟩
 have hkeysq :(q.tmOf x).map (·.1)=q.tm.map (·.1):=mN _
 have hlenq :(q.tmOf x).length=q.tm.length:=by have:=congrArg List.length hkeysq;simpa using this
 have hpair0:=hpair
 simp only [jv,Bool.and_eq_true] at hpair0
 have hseqq:tg 0 (q.tmOf x)=true:=(mL (l:=q.tmOf x) (l':=q.tm) hkeysq).trans hpair0.2.2.2.2.2.2.2
 have hav2:ab (aX M (bb E L) (q.hpOf x)) ((q.tmOf x).map (·.2)) av:=oS (by rw [List.length_map,hlenq,←hlen,havl]) fun i z u hz hu=>by
  have h1:=kf hseqq i z hz
  have h2:=htm (0+i) z (ae h1)
  have:a0.tmps.getD (0+i) undef=u:=by
   show av.toArray.getD (0+i) undef=u
   rw [Nat.zero_add,Array.getD_eq_getD_getElem?]
   simp [hu]
  rw [this] at h2
  exact h2
 obtain ⟨v0,d,nx,htup,h2,hcalls⟩:=h x hwf hps
 refine (hcalls B' (aX M (bb E L) (q.hpOf x)) av hE2' rfl hav2 (fun n hn=>by have:n<M.nx:=hn;rw [hMnx] at this;exact this)).mono fun e w hh=>?_
 obtain ⟨Ec,v',rfl,hEc,rfl,hHc,hXc,hUc,k2⟩:=hh
 obtain ⟨hp0,hg0⟩:=fO h2
 revert hg0
 generalize hy :(spec x).2=y at *
 intro hg0
 obtain ⟨a',ha'⟩ :∃ a':Act,a'.defers=[]∧dF Ec (find (kc n v0)) a'∧(n=1→a'.tmps=#[v'])∧(n≠1→v' = .tuple a'.tmps∧a'.tmps.size=n):=by
  by_cases hn:n=1
  ·refine ⟨⟨#[v'],[]⟩,rfl,fun s v hv=>?_,fun _=>rfl,fun h=>absurd hn h⟩
   rw [hn] at hv
   have hv:find [(0,v0)] s=some v:=hv
   cases s with
   | zero=>
    have hv:some v0=some v:=hv
    cases hv
    simpa using k2
   | succ s=>
    have hv :(none:Option V)=some v:=hv
    cases hv
  ·obtain ⟨l,rfl,hl⟩:=htup hn
   simp only [aa] at k2
   obtain ⟨us,rfl,hus⟩:=k2
   have hul:=aC hus
   refine ⟨⟨us,[]⟩,rfl,fun s v hv=>?_,fun h=>absurd h hn,fun _=>⟨rfl,by rw [←hl,hul];simp⟩⟩
   have hb:Nat.beq n 1=false:=by
    cases hb:Nat.beq n 1 with
    | false=>rfl
    | true=>exact absurd (Nat.eq_of_beq_eq_true hb) hn
   unfold kc at hv
   rw [hb] at hv
   simp only [cond_false,eU,Nat.zero_le,if_true,Nat.sub_zero] at hv
   obtain ⟨u,g1,g2⟩:=dx hus s v hv
   have:us.getD s undef=u:=by
    rw [Array.getD_eq_getD_getElem?,←Array.getElem?_toList,g1]
    rfl
   rw [this];exact g2
 obtain ⟨hd',hT',hone,hmany⟩:=ha'
 have hst:dZ B' a'.tmps.size ⟨kc n v0,d,fun _=>none,nx⟩ a' Ec.w:=⟨⟨Ec,hEc,rfl,hHc,⟨hXc,hUc⟩,hT'⟩,rfl,hd'⟩
 obtain ⟨⟨Ed,hEd,hdw,hHd,⟨hXd,hUd⟩,hTd⟩,_,_⟩:=gT hpins hg0 hp0 hst
 simp only [jv,Bool.and_eq_true,List.all_eq_true] at hpair
 obtain ⟨o8,o1,o2,o3,o4,o5,o6,o7⟩:=hpair
 simp only [AE,Bool.and_eq_true,List.all_eq_true] at hok
 obtain ⟨n1,n2⟩:=hok
 have hkeys1 :(q'.hpOf y).map (·.1)=q'.hp.map (·.1):=kG _
 have hkeys0 :(q.hpOf x).map (·.1)=q.hp.map (·.1):=kG _
 have hfl:bP q'=false∨((q'.tm.all fun x=>zD x.2)=true∧(q'.hp.all fun x=>xH x.2)=true):=by
  cases hf:bP q' with
  | false=>exact .inl rfl
  | true=>simp only [bP,Bool.and_eq_true] at hf;exact .inr hf
 have hhp:=Cj (fl:=bP q') (hl:=q'.hp.map (·.1)) (vl:=gu q'.hp) (l:=q'.hp) (r:= .unit) (gH q'.tm (dV q'.hp .unit) y).2 (List.all_eq_true.2 o2) (hfl.imp id (·.2))
 have htmv:=Dq (fl:=bP q') (hl:=q'.hp.map (·.1)) (vl:=gu q'.hp) (l:=q'.tm) (r:=dV q'.hp .unit) y (List.all_eq_true.2 o1) (hfl.imp id (·.1))
 have vers :∀ (l:List (Nat×PB)) (z:Den (dV l .unit)) (v:Nat),v∈gu l→∃ n t xs,(n,Blk.row v true t xs)∈(bM l .unit z).1:=by
  intro l
  induction l with
  | nil=>intro z v hv;simp [gu] at hv
  | cons q0 l ih=>
   obtain ⟨n0,b0⟩:=q0
   intro z v hv
   have tl:v∈gu l→∃ n t xs,(n,Blk.row v true t xs)∈(bM ((n0,b0)::l) .unit z).1:=fun h=>by
    obtain ⟨n,t,xs,hm⟩:=ih (iA b0 (dV l .unit) z).2 v h
    exact ⟨n,t,xs,by simp only [bM];exact List.mem_cons_of_mem _ hm⟩
   cases b0 with
   | cells=>exact tl hv
   | dat=>exact tl hv
   | abs=>exact tl hv
   | row v0 t0=>
    simp only [gu,List.mem_cons] at hv
    rcases hv with rfl|hv
    ·exact ⟨n0,t0,_,by simp only [bM,iA];exact List.mem_cons_self⟩
    ·exact tl hv
 have rowsP :∀ (l:List (Nat×PB)) (z:Den (dV l .unit)) (n v:Nat) (rw:Bool) (t:Ty) (xs:List (Den t)),(n,Blk.row v rw t xs)∈(bM l .unit z).1→(n,PB.row v t)∈l:=by
  intro l
  induction l with
  | nil=>intro z n v rw t xs hm;simp [bM] at hm
  | cons q0 l ih=>
   obtain ⟨n0,b0⟩:=q0
   intro z n v rw t xs hm
   simp only [bM,List.mem_cons,Prod.mk.injEq] at hm
   rcases hm with ⟨rfl,hm⟩|hm
   ·cases b0 with
    | cells=>simp [iA] at hm
    | dat=>simp [iA] at hm
    | abs=>simp [iA] at hm
    | row v0 t0=>
     simp only [iA,Blk.row.injEq] at hm
     obtain ⟨rfl,rfl,rfl,_⟩:=hm
     exact List.mem_cons_self
   ·exact List.mem_cons_of_mem _ (ih _ _ _ _ _ _ hm)
 have hHd':Ed.H=ak (fun _=>none) (q'.hpOf y):=hHd
 have hvl :∀ v,v∈gu q'.hp→∃ n t xs,find (q'.hpOf y) n=some (.row v true t xs):=fun v hv=>by
  obtain ⟨n,t,xs,hm⟩:=vers q'.hp _ v hv
  have hnd1 :((q'.hpOf y).map (·.1)).Nodup:=by
   rw [hkeys1]
   exact nodupN_iff.1 o8
  exact ⟨n,t,xs,kD hnd1 hm⟩
 obtain ⟨E',G,hv⟩:=uM (B:=B) (fl:=bP q') hE hm hsub hnd hEd hHd' hXd (nx1:=q'.nx) hUd hKK (vl:=gu q'.hp)
  (fun n k hm'=>by
   have:=hhp n k hm'
   rw [hkeys1]
   exact this) hvl
  (fun n hn=>by
   rw [hkeys1] at hn
   rw [hkeys0]
   have:=o5 n hn
   simp only [Bool.or_eq_true] at this
   rcases this with h1|h1
   ·left;rw [hMnx];exact Nat.le_of_ble_eq_true h1
   ·right;exact memN_iff.1 h1)
  (fun n hn=>by
   rw [hkeys0] at hn
   rw [hkeys1]
   obtain ⟨z,hz1,rfl⟩:=List.mem_map.1 hn
   exact memN_iff.1 (o6 z hz1).1)
  (fun n v rw t xs hf=>by
   have:=o4 _ (rowsP q'.hp _ _ _ _ _ _ (ae hf))
   simp only [Bool.or_eq_true,Nat.blt_eq] at this
   rw [hMnx]
   exact this.imp Nat.le_of_ble_eq_true id)
  (fun n hn hz=>by
   rw [hkeys0] at hn
   obtain ⟨z,hz1,rfl⟩:=List.mem_map.1 hn
   have:=n1 z hz1
   rw [hz] at this
   exact this)
  (fun n v rw t xs hf hz=>by
   have:=n1 _ (rowsP q.hp _ _ _ _ _ _ (ae hf))
   simp only [hz] at this
   cases hh:find M.σ v with
   | none=>rfl
   | some j=>rw [hh] at this;cases this)
  (fun v v' hv hv' l1 l2 z1 z2 s1 s2 e=>by
   refine eC (nodupN_iff.1 n2) (List.mem_filter.2 ⟨hv,?_⟩) (List.mem_filter.2 ⟨hv',?_⟩) e
   ·simp [l1,z1,s1]
   ·simp [l2,z2,s2])
 rw [hdw] at G
 refine ⟨E',v',rfl,G,hv _ _ ?_ ?_⟩
 ·rw [hkeys1]
  unfold AN
  split
  ·rfl
  ·rename_i y0 r hy0
   split
   ·exact htmv y0.1 y0.2 (by show (y0.1,y0.2)∈q'.tmOf y;rw [hy0];exact List.mem_cons_self)
   ·show dM _ _ _ ((q'.tmOf y).map (·.2))=true
    have :∀ l:List (Nat×V),(∀ s v,(s,v)∈l→okV (bP q') (q'.hp.map (·.1)) (gu q'.hp) v=true)→dM (bP q') (q'.hp.map (·.1)) (gu q'.hp) (l.map (·.2))=true:=by
     intro l
     induction l with
     | nil=>intro _;rfl
     | cons z l ih=>intro hz;simp only [List.map_cons,dM,Bool.and_eq_true];exact ⟨hz z.1 z.2 List.mem_cons_self,ih fun s v hm=>hz s v (List.mem_cons_of_mem _ hm)⟩
    exact this _ htmv
 ·have hlen :(q'.tmOf y).length=n:=by
   have :((q'.tmOf y).map (·.1)).length =(q'.tm.map (·.1)).length:=by rw [show (q'.tmOf y).map (·.1)=q'.tm.map (·.1) from mN _]
   simpa [hres] using this
  have hseq:tg 0 (q'.tmOf y)=true:=(mL (l:=q'.tmOf y) (l':=q'.tm) (mN _)).trans o3
  unfold AN
  split
  ·rename_i hy0
   rw [hy0] at hlen
   obtain ⟨h5,h6⟩:=hmany (by rw [←hlen];simp)
   rw [h5]
   simp only [aa]
   refine ⟨_,rfl,?_⟩
   have:a'.tmps.toList=[]:=by
    apply List.eq_nil_of_length_eq_zero
    simp [h6,←hlen]
   rw [this];simp [ab]
  ·rename_i y0 r hy0
   split
   ·rw [hy0] at hlen
    have h5:=hone (by rw [←hlen];rfl)
    have h6:=kf hseq 0 y0.2 (by rw [hy0];rfl)
    have:=hTd (0+0) y0.2 h6
    rw [h5] at this
    simpa using this
   ·rename_i y1 r'
    rw [hy0] at hlen
    obtain ⟨h5,h6⟩:=hmany (by rw [←hlen];simp)
    rw [h5]
    simp only [aa]
    refine ⟨_,rfl,oS ?_ fun i z u hz hu=>?_⟩
    ·rw [hy0];simp only [List.length_map,Array.length_toList,h6,←hlen]
    ·have h7:=kf hseq i z hz
     have:=hTd (0+i) z h7
     rw [Nat.zero_add,Array.getD_eq_getD_getElem?,←Array.getElem?_toList,hu] at this
     exact this
def yZ (q:Pat) (x:Den (tyP q)):List U:=(q.tmOf x).map fun z=>ko (kbV z.2)
def Sj (q':Pat) (ts:List Ty) (p:Nat) (r:Rf):Option (Den (tyP q')):=Rf.rec (motive:=fun _=>Option (Den (tyP q'))) (fun u hp nx=>match wh (hpH hp) ts u.toV with
 | some v0=>dp p q' ⟨kc ts.length v0,[],fun _=>none,nx⟩
 | none=>none) (fun _ _ _=>none) (fun _=>none) r
def isD {q':Pat} (y0:Den (tyP q')) (r:Option (Den (tyP q'))):Bool:=match r with
 | some y=>eqD fi (tyP q') y y0
 | none=>false
theorem wM {E:Env} :∀ {vs:List V} {us:List Value},ab E vs us→ab E (vs.map fun v=>(ko (kbV v)).toV) us
 | [],[],_=>by simp [ab]
 | [],_::_,h=>by simp [ab] at h
 | _::_,[],h=>by simp [ab] at h
 | _::_,_::_,h=>by simp only [List.map_cons,ab] at h ⊢;exact ⟨(Co _).trans (lg _) _ _ h.1,wM h.2⟩
theorem rm (hcall:CallVOK P call) {f:FuncId} {Kc:Nat} {q q':Pat} (x0:Den (tyP q)) (y0:Den (tyP q')) {ts:List Ty} (hpair:jv q q'=true) (hq:q.hp=[]) (hres:q'.tm.length=ts.length)
  (hrun:isD y0 (Sj q' ts q.nx (call f (yZ q x0) hp0 q.nx))=true):CtrOK P Kc f (ag Kc q q' fun x=>([x=x0],y0)):=by
 cases hr:call f (yZ q x0) hp0 q.nx with
 | no w=>rw [hr] at hrun;cases hrun
 | ex u hp' nx'=>rw [hr] at hrun;cases hrun
 | ok u hp' nx'=>
  rw [hr] at hrun
  have F:=hcall.ok f (yZ q x0) hp0 q.nx u hp' nx' (fun x hx=>by
   unfold yZ at hx
   obtain ⟨z,_,rfl⟩:=List.mem_map.1 hx
   exact lh _) HL hr
  have hrun:isD y0 (match wh (hpH hp') ts u.toV with
   | some v0=>dp q.nx q' ⟨kc ts.length v0,[],fun _=>none,nx'⟩
   | none=>none)=true:=hrun
  cases hpk:wh (hpH hp') ts u.toV with
  | none=>rw [hpk] at hrun;cases hrun
  | some v0=>
   rw [hpk] at hrun
   simp only at hrun
   cases hrd:dp q.nx q' ⟨kc ts.length v0,[],fun _=>none,nx'⟩ with
   | none=>rw [hrd] at hrun;cases hrun
   | some y=>
    rw [hrd] at hrun
    have hy:y=y0:=pd fi _ y y0 hrun
    subst hy
    refine Lo F.fn hpair hres fun x _ hx=>?_
    obtain rfl:x=x0:=hx _ (List.mem_singleton.2 rfl)
    have hpn:q.hpOf x=[]:=by
     have hk :(q.hpOf x).map (·.1)=q.hp.map (·.1):=kG _
     rw [hq] at hk
     exact List.map_eq_nil_iff.1 hk
    have htup:ts.length≠1→∃ l,v0 = .tup l∧l.length=ts.length:=fun hn=>by
     unfold wh at hpk
     split at hpk
     ·exact absurd rfl hn
     ·split at hpk
      case h_2=>cases hpk
      rename_i vs _
      split at hpk
      case h_2=>cases hpk
      rename_i l hl
      cases hpk
      refine ⟨l,rfl,?_⟩
      have :∀ {ts:List Ty} {vs l:List V},wi (hpH hp') ts vs=some l→l.length=ts.length:=by
       intro ts
       induction ts with
       | nil=>intro vs l h;cases vs <;> cases h;rfl
       | cons t ts ih=>
        intro vs l h
        cases vs with
        | nil=>cases h
        | cons v vs=>
         simp only [wi] at h
         split at h
         case h_2=>cases h
         split at h
         case h_2=>cases h
         rename_i r hr
         cases h
         simp [ih hr]
      exact this hl
    refine ⟨v0,[],nx',htup,hrd,fun B E av hE hH hav hU=>?_⟩
    refine (F.calls B E av hE (by rw [hH,hpn,Mg];rfl) ?_ (fun n h1 _ hu=>absurd (hU n hu) (by omega))).mono fun e w' hh=>?_
    ·unfold yZ
     have:=wM hav
     rw [List.map_map] at this
     rw [List.map_map]
     exact this
    ·obtain ⟨E',v',rfl,C⟩:=hh
     obtain ⟨R2,X2⟩:=FJ C.rel
     refine ⟨rU E',v',rfl,R2,C.w,rfl,C.ext.trans X2,fun n hn=>?_,?_⟩
     ·have hle:=F.le
      rcases C.u n hn with h|h
      ·have:=hU n h;omega
      ·exact h.2
     ·rw [←C.h] at hpk
      exact (AR C.rel hpk C.v).1
theorem DX {g Kc:Nat} {ct:Ctr} (hc:CtrOK P Kc g ct) {us:List U} {v:V} {u:U} (hct :∀ H m,∃ ps,ct (us.map U.toV) H m=some (ps,v,[])∧∀ p∈ps,p) (hu:VLe v u.toV) (hw:u.wf) {hp:HP} {nx:Nat} (W:hpW hp):FnV P g us hp nx u hp (nx+Kc):=
 ⟨hc.fn,Nat.le_add_right _ _,hw,W,fun B E av hE hH hav hfr=>by
  obtain ⟨ps,h1,h2⟩:=hct E.H nx
  refine (hc.calls B E hE _ av hav nx hfr ps v [] h1 h2).mono fun e w' hh=>?_
  obtain ⟨E',v',rfl,G,hv⟩:=hh
  exact ⟨E',v',rfl,⟨G.rel,G.w,by rw [G.h,lT,hH],G.ext,G.u,hu _ _ hv⟩⟩⟩
abbrev yT:=FuncId→Option (List U→Option (U×Nat))
def mV (n:Nat) :(Nat→Rf)→Rf:=Nat.rec (motive:=fun _=>(Nat→Rf)→Rf) (fun k=>k 0) (fun n _ k=>k (Nat.succ n)) n
theorem Er (n:Nat) (k:Nat→Rf):mV n k=k n:=by cases n <;> rfl
def HK (Kf:Nat→Rf) (r:Rf):Option (U×Nat)→HP→Nat→Rf:=fun o hp nx=>Option.rec (motive:=fun _=>Rf) r (fun q=>Prod.rec (motive:=fun _=>Rf) (fun u k=>mV (Nat.add nx k) fun nx=> .ok u hp nx) q) o
def Hs (tb:Tbl) (P:FuncId→Option Func) (X:wS) (KK:FuncId→Nat) (Hk:yT) (f:FuncId):Fc:=Option.rec (motive:=fun _=>Fc) (qF tb P X KK f) (fun hk=>⟨fun call args hp nx=>HK (fun _=> .no []) (Fc.run (qF tb P X KK f) call args hp nx) (hk args) hp nx⟩) (Hk f)
def ri (tb:Tbl) (P:FuncId→Option Func) (X:wS) (KK:FuncId→Nat) (Hk:yT) (d:Nat):eM:=Nat.rec (motive:=fun _=>eM) (fun _ _ _ _=> .no [11]) (fun _ ih f args hp nx=>Fc.run (Hs tb P X KK Hk f) ih args hp nx) d
def Qw (P:Program) (Hk:yT):Prop:=∀ g hk,Hk g=some hk→∀ args q hp nx,(∀ x∈args,U.wf x)→hpW hp→hk args=some q→FnV P g args hp nx q.1 hp (nx+q.2)
theorem KF (hT:bc P tb) (hP:P.follows .mixedOrders=true) (hname :∀ (f:FuncId) (fn:Func),P.funcs[f]?=some fn→(fn.name == "runtime.NumGoroutine")=false) {Pf:FuncId→Option Func} (hPf :∀ (f:FuncId) (fn:Func),Pf f=some fn→P.funcs[f]?=some fn) {X:wS} (hX:XOK P X) (KK:FuncId→Nat) (ih:CallVOK P call) :
  CallVOK P fun g args hp nx=>Fc.run (qF tb Pf X KK g) call args hp nx:=by
 refine ⟨fun g args hp nx u hp' nx' Wa Wh h=>?_,fun g args hp nx u hp' nx' Wa h=>?_⟩
 ·unfold qF at h
  cases hx:X g with
  | some x=>
   rw [hx] at h
   have h:Ho (x args) hp nx = .ok u hp' nx':=h
   cases hxa:x args with
   | none=>rw [hxa] at h;cases h
   | some u1=>rw [hxa] at h;cases h
  | none=>
   rw [hx] at h
   have h:Fc.run (Option.rec (motive:=fun _=>Fc) ⟨fun _ _ _ _=> .no [12]⟩ (xK tb (KK g)) (Pf g)) call args hp nx = .ok u hp' nx':=h
   cases hp1:Pf g with
   | none=>rw [hp1] at h;cases h
   | some fn=>
    rw [hp1] at h
    exact zF hT hP hname ih (hPf _ _ hp1) Wa Wh h
 ·unfold qF at h
  cases hx:X g with
  | some x=>
   rw [hx] at h
   have h:Ho (x args) hp nx = .ex u hp' nx':=h
   cases hxa:x args with
   | none=>rw [hxa] at h;cases h
   | some u1=>
    rw [hxa] at h
    cases h
    obtain ⟨h1,h2⟩:=hX g x hx args u Wa hxa
    exact ⟨rfl,rfl,h1,h2⟩
  | none=>
   rw [hx] at h
   have h:Fc.run (Option.rec (motive:=fun _=>Fc) ⟨fun _ _ _ _=> .no [12]⟩ (xK tb (KK g)) (Pf g)) call args hp nx = .ex u hp' nx':=h
   cases hp1:Pf g with
   | none=>rw [hp1] at h;cases h
   | some fn=>rw [hp1] at h;exact (DL h).elim
theorem y6 (hT:bc P tb) (hP:P.follows .mixedOrders=true) (hname :∀ (f:FuncId) (fn:Func),P.funcs[f]?=some fn→(fn.name == "runtime.NumGoroutine")=false) {Pf:FuncId→Option Func} (hPf :∀ (f:FuncId) (fn:Func),Pf f=some fn→P.funcs[f]?=some fn) {X:wS} (hX:XOK P X) (KK:FuncId→Nat) {Hk:yT} (hH:Qw P Hk) :∀ d,CallVOK P (ri tb Pf X KK Hk d)
 | 0=>⟨fun g args hp nx u hp' nx' _ _ h=>(by cases h),fun g args hp nx u hp' nx' _ h=>(by cases h)⟩
 | d+1=>by
  have ih:=y6 hT hP hname hPf hX KK hH d
  have ic:=KF hT hP hname hPf hX KK ih
  refine ⟨fun g args hp nx u hp' nx' Wa Wh h=>?_,fun g args hp nx u hp' nx' Wa h=>?_⟩
  ·have h:Fc.run (Hs tb Pf X KK Hk g) (ri tb Pf X KK Hk d) args hp nx = .ok u hp' nx':=h
   unfold Hs at h
   cases hx:Hk g with
   | none=>rw [hx] at h;exact ic.ok g args hp nx u hp' nx' Wa Wh h
   | some hk=>
    rw [hx] at h
    have h:HK (fun _=> .no []) (Fc.run (qF tb Pf X KK g) (ri tb Pf X KK Hk d) args hp nx) (hk args) hp nx = .ok u hp' nx':=h
    cases hq:hk args with
    | none=>rw [hq] at h;exact ic.ok g args hp nx u hp' nx' Wa Wh h
    | some q=>
     rw [hq] at h
     have h:mV (nx+q.2) (fun nx=> .ok q.1 hp nx) = .ok u hp' nx':=h
     rw [Er] at h
     cases h
     exact hH g hk hx args q _ nx Wa Wh hq
  ·have h:Fc.run (Hs tb Pf X KK Hk g) (ri tb Pf X KK Hk d) args hp nx = .ex u hp' nx':=h
   unfold Hs at h
   cases hx:Hk g with
   | none=>rw [hx] at h;exact ic.ex g args hp nx u hp' nx' Wa h
   | some hk=>
    rw [hx] at h
    have h:HK (fun _=> .no []) (Fc.run (qF tb Pf X KK g) (ri tb Pf X KK Hk d) args hp nx) (hk args) hp nx = .ex u hp' nx':=h
    cases hq:hk args with
    | none=>rw [hq] at h;exact ic.ex g args hp nx u hp' nx' Wa h
    | some q=>
     rw [hq] at h
     have h:mV (nx+q.2) (fun nx=> .ok q.1 hp nx) = .ex u hp' nx':=h
     rw [Er] at h
     cases h
end
end Go.Mir
namespace Go.Proofs.YtffdpnmioidloaaGreatDoor
open Go Go.Mir Go.RowKit
noncomputable def NL:List Nat:= [
 0,0,0,5368710655,36028522149442547,5368710653,4415226381821,1527,1527,18014398580791287,54975854010319,140720310845503,1032940127599,
 9223264285382124223,47301970752111457256778715619071745507284655,268435677,2207680827519,342961754377944325198902640958314186751,
 1569419104573232187173592783605487638321880253905708777469,69206271,146477,1106874459013247391197,442722209871163882461,
 151115727451828646850589,33518643,633980042618954450908787834813,5,618970010428591257176961527,316853431581361610345484644855,1074250695,
 480381044530407671,120093090446862583,33624375,2787604209658536138125601562096699283598344183,4202461,33518643,15927415,1,31039,2175,80941,
 160053247034850358852287,62151,43663,5,5,66037,37463,21,1005,554067624221,7,2787591820912781336787614706022950608412659,19,19,132127,
 33518643,16909343,1074250695,1074250695,33518643,101191923,4210141,33789,19,504373101,5,288239182042702077,307,147,16381,5,1048701,
 536875975,2478602523605874885703778247,17205069072303483745460431797280757845121363959,432600376175263735,135333885,590293562956938354615,
 21299455823972908768697484916704673631,15647962890497478761257512869494775,154653373227835051981125359370231,135858109,270003,
 147569453388095438327,18031149959998317,2537796727798967729357673716799,56705726091603258377343,33624247,
 524050826953046096848959272722126231045247,584132333839,100215,75,41619509458458402374926480527327247,2308112542947344287,
 157734642905710068991,7,7,262719,575408255,206561870351,5,277033812445,138351151751817639347,16885,19,1,17823899,19,1074668531,21,
 33773,1141361790201615,403,68531,65875,787475,2361651,4311876109,141837033562243,524481,50467315,28994152961910681312403245,65805,
 393671,567637910811613,34871,17247504839,287,751,1125899906781167,543,68531,15,68531,31,2111,67791,1267766971744237,537982711,7,
 550831686637,17247504839,33271,287,18154794255615,1157496576784466559,36296793806975,2111,67791,2436141435116378390535,181815,5,
 583228246103949343,730729220306227659762194183914400919200083747103,2436141435116378390535,264499,93,5,2203355973565,7,18013866068819231,
 549823021095,5,623371976811471490270839,21,5,4193923,255,17188391667,19,8804716774131,285246067,19,3091,67635213,0,275,1030960988221,
 13229874735489527,19,17714647155,594912002450663878599,17247509535,41461,7,1074266623,41461,554189343,537427959,7,30767,
 10680565413657634966791598749211705311,1748372298083039162489419473994526981374079,613909102082408237765055,23,4611685889574277119,
 9690297247829818509099023,29,7,21,71,17661509535773,71,71,71,19,34359873459,69868716031,2097139,21,141,
 3288334866514706593133645328825960668421405409267,20426029832823244530989399071,0,85,1037,0,702345484717335833347805173187876055236595,147,
 8467,65811,66109,4243,33171,262771,201458291,749019592093908130998168547243858079179057434181575,2035,2035,711,711,21,
 5574585500266620241506278819022995797836279,45798598826349314118952776107391,30767,1166414994787599451,30468223768147948836066781331485,7,
 35184338929599,313835791421,189,71,5,72110370594031615,10625322633999130018815,270007,2658455675924155280183567316963852351,71,17314119695,
 68531,526359,5,0,5,540949,13,5,5,167646794486930362006707544072189,0,5,152001198347852507514867,1043,19,19,281518060864637,5,
 3259340307738458011409318461,77,5,5,39696297806334883182330020991,147511,545799231,189,71,16403,8388487,5,37742254529999670338043,
 4718529,18330886059069691,270007,166153420561695367707252321293500543,7,101442647862428755572662893270609959105484889768075967,147511,16527,
 30791694323487,72268425669383167,7,21,21,1107366397,15663183425078192791428758033914457634011265410594242675,5,5,71,
 9942831655231632527697442807,17041395,89478431,8191,21,21,21,281473366116127,8380695,4726978173286391744511,39,1125899890069523,71,
 1137188723,290623467576168319,9175,145025710296123410904321674198368924715718399,18272502847,1037,19,5,7,5233021378056568784808409033611007,
 18272502847,15,67650767,66015,669319516925162926939791635824639,8311,8396919,577588028814460111,134199,17318199,2276601635023,33882175,
 176160575,153157571569583935,39,526271,68531,19,5,4393886845391,132063,2502854235920920419110911,16631,16793847,20268951531555279,
 268407,34636407,18212808952271,67764351,264703,4327551,2449471999,19221507316027580516863,39,526271,151,180457415182559,1069614111,
 5465788277392579832897814308109687003511,4434693189791,18281528828543,72057680004915423,7,8406071,151,16535,31,68531,8388487,7,151,
 8388487,739154422722068959,9663669631,148638630510879231,72057680004907231,4047,8406071,65795,8388487,151,279,31,151,34357774559,34771,
 34082647,61,538972275,5,5,151,34357772511,4278323263,4434693189791,34082647,0,0,0,0,0,0,0,0,0,0,0,0,0,0,0,0,0,0,0,0,0,
 0,0,0,0,0,0,0,0,8]
noncomputable def awK (f:FuncId):Nat:=(NL[f]?).getD 0
noncomputable def awX:wS:=fun f=>Bool.rec (motive:=fun _=>Option (List U→Option U)) none (some ixB) (Nat.beq f 214)
noncomputable def awP (f:FuncId):Option Func:=Tryz.prog.funcs[f]?
theorem Dy:Ek Tryz.prog=true:=by kernel_rfl
theorem QC:bc Tryz.prog (Gz tbl):=LQ Dp
theorem L3:XOK Tryz.prog awX:=fun g x hx args u _ h=>by
 have hx :(Bool.rec (motive:=fun _=>Option (List U→Option U)) none (some ixB) (Nat.beq g 214):Option (List U→Option U))=some x:=hx
 cases hb:Nat.beq g 214 with
 | false=>rw [hb] at hx;cases hx
 | true=>
  rw [hb] at hx
  cases hx
  obtain rfl:=ay hb
  exact Ou Tryz.func214 (by kernel_rfl) (by kernel_rfl) (by kernel_rfl) (by kernel_rfl) h
theorem GS (d:Nat):CallVOK Tryz.prog (uN (Gz tbl) awP awX awK d):=y7 QC mixed (Au Dy) (fun _ _ h=>h) L3 awK d
end Go.Proofs.YtffdpnmioidloaaGreatDoor
namespace Go.Proofs.YtffdpnmioidloaaGreatDoor
open Go Go.Mir Go.RowKit
abbrev tEx:Ty:= .slice (.nm .Event)
abbrev tPx:Ty:= .slice (.nm .Delivered)
abbrev tI6:Ty:= .int .i64
def exR:Rules:={ Rules.zero with Name:=⟨#[84,69,83,84]⟩,Side:=2,Innings:=1,Overs:=1,Balls:=4,Wide:=1,NoBall:=1,Outside:=11 }
def exL:List Mir.Event:= [⟨1,1,0,0,true,0,0,⟨0,0,0,0,0,false,0,0,0,0,false,0⟩⟩,⟨2,0,1,2,false,0,0,⟨0,0,0,0,0,false,0,0,0,0,false,0⟩⟩,⟨8,0,2,0,false,0,0,⟨0,0,0,0,0,false,0,0,0,0,false,0⟩⟩,⟨3,0,1,0,false,0,0,⟨0,0,0,0,0,false,0,0,0,0,false,0⟩⟩,⟨4,0,0,0,false,0,0,⟨1,1,1,0,0,false,0,0,0,0,false,0⟩⟩,⟨4,0,0,0,false,0,0,⟨1,0,0,0,0,false,1,1,0,0,false,0⟩⟩,⟨2,0,2,1,false,0,0,⟨0,0,0,0,0,false,0,0,0,0,false,0⟩⟩,⟨8,0,1,0,false,0,0,⟨0,0,0,0,0,false,0,0,0,0,false,0⟩⟩,⟨3,0,2,0,false,0,0,⟨0,0,0,0,0,false,0,0,0,0,false,0⟩⟩,⟨4,0,0,0,false,0,0,⟨2,0,0,0,0,false,0,0,0,0,false,0⟩⟩,⟨4,0,0,0,false,0,0,⟨1,1,0,0,4,false,0,0,0,0,false,0⟩⟩]
abbrev Pu:Pat:=dG []
abbrev Jk:Pat:=dG [tEx]
abbrev Sh:List PC0:= [.h .str,.h tI6,.h tI6,.h tI6,.h tI6,.h tI6,.h tI6,.h tI6,.h .bool,.h tI6,.h tI6,.h tI6,.h tI6,.c .nilsl]
abbrev yi:Pat:=⟨[(0,.a Sh),(1,.h tEx)],[],0⟩
def pZ:Den (tyP yi):=(exR.Name,exR.Side,exR.Innings,exR.Overs,exR.Balls,exR.Quota,exR.Wide,exR.NoBall,exR.FreeHit,exR.NewBall,exR.FollowOn,exR.Reviews,exR.Outside,exL,())
abbrev q2Play0:Pat:=dG [tPx,.nm .Match,tI6,tI6]
theorem Pk:CtrOK Tryz.prog KE 38 (ag KE Pu Jk fun x=>([x =()],(exL,()))):=
 rm (q:=Pu) (q':=Jk) (GS 10) () (exL,()) (ts:= [tEx]) rfl rfl rfl (by kernel_rfl)
def exP:List Delivered:= [⟨4,0,0,0,1,1,2,false,⟨1,1,1,0,0,false,0,0,0,0,false,0⟩,⟨1,0,0,0,0,1,true,true,false,true⟩,1,0⟩,⟨5,0,0,1,1,2,1,false,⟨1,0,0,0,0,false,1,1,0,0,false,0⟩,⟨0,0,0,0,0,0,true,true,true,false⟩,1,1⟩,⟨9,1,0,0,2,2,1,false,⟨2,0,0,0,0,false,0,0,0,0,false,0⟩,⟨0,1,0,0,0,1,false,false,false,false⟩,1,0⟩,⟨10,1,0,0,2,2,1,false,⟨1,1,0,0,4,false,0,0,0,0,false,0⟩,⟨4,0,0,0,0,4,true,true,false,false⟩,5,0⟩]
def exM:Match:=⟨exR,5,1,false,[⟨1,0,1,1,1,⟨0,0,0,0,0⟩,0,2,0,1,[1,2],1,[1],[],true,[2,0],false,2,2,0,[false,false],(0,0,()),1⟩,⟨2,2,1,5,0,⟨1,0,0,0,0⟩,0,1,2,1,[1,1],2,[2],[],true,[0,1],false,1,1,0,[false,false],(0,0,()),3⟩],(0,0,()),⟨2,2,1⟩⟩
def tQ:Den (tyP q2Play0):=(exP,exM,(-1:Int),(0:Int),())
theorem Lh:CtrOK Tryz.prog KE 76 (ag KE yi q2Play0 fun x=>([x=pZ],tQ)):=
 rm (GS 40) pZ tQ (ts:= [tPx,.nm .Match,tI6,tI6]) rfl rfl rfl (by kernel_rfl)
end Go.Proofs.YtffdpnmioidloaaGreatDoor
namespace Go.Proofs.YtffdpnmioidloaaGreatDoor
open Go Go.Mir Go.RowKit
def J7:V:= .fsl (.nm .Event) exL
noncomputable def RY:U:= .oth J7
def EY:V:=AN (q2Play0.tmOf tQ)
noncomputable def RZ:U:=ko (kbV EY)
def GJ:V:= .agg [.str exR.Name,.int .i64 2,.int .i64 1,.int .i64 1,.int .i64 4,.int .i64 0,.int .i64 1,.int .i64 1,.kb false,.int .i64 0,.int .i64 0,.int .i64 0,.int .i64 11,.nilsl]
def D1 (v:V):Bool:=match v with
 | .fsl t xs=>if h:t = .nm .Event then B4 (eqD fi (.nm .Event)) (h▸xs:List (Den (.nm .Event))) exL else false
 | _=>false
theorem HO {v:V} (h:D1 v=true):v=J7:=by
 unfold D1 at h
 split at h
 ·split at h
  ·rename_i e
   subst e
   have:=xq (pd fi _) h
   unfold J7
   exact congrArg _ this
  ·cases h
 ·cases h
noncomputable def HJ (args:List U):Option (U×Nat):=match args with
 | []=>some (RY,KE)
 | _=>none
noncomputable def Ci (args:List U):Option (U×Nat):=match args with
 | [a,b]=>Bool.rec (motive:=fun _=>Option (U×Nat)) none (Bool.rec (motive:=fun _=>Option (U×Nat)) none (some (RZ,KE)) (D1 b.toV)) (V.eqb a.toV GJ)
 | _=>none
noncomputable def Oa:yT:=fun f=>Bool.rec (motive:=fun _=>Option (List U→Option (U×Nat))) (Bool.rec (motive:=fun _=>Option (List U→Option (U×Nat))) none (some Ci) (Nat.beq f 76)) (some HJ) (Nat.beq f 38)
theorem Ok (H:aw) (m:Nat) :∃ ps,ag KE Pu Jk (fun x=>([x =()],(exL,()))) [] H m=some (ps,J7,[])∧∀ p∈ps,p:=
 ⟨[() =()],by kernel_rfl,fun p hp=>by rw [List.mem_singleton.1 hp]⟩
theorem KP (H:aw) (m:Nat) :∃ ps,ag KE yi q2Play0 (fun x=>([x=pZ],tQ)) [GJ,J7] H m=some (ps,EY,[])∧∀ p∈ps,p:=
 ⟨[pZ=pZ],by kernel_rfl,fun p hp=>by rw [List.mem_singleton.1 hp]⟩
theorem Oc:Qw Tryz.prog Oa:=fun g hk h args q hp nx _ W hq=>by
 have h :(Bool.rec (motive:=fun _=>Option (List U→Option (U×Nat))) (Bool.rec (motive:=fun _=>Option (List U→Option (U×Nat))) none (some Ci) (Nat.beq g 76)) (some HJ) (Nat.beq g 38))=some hk:=h
 cases h1:Nat.beq g 38 with
 | true=>
  rw [h1] at h
  cases h
  obtain rfl:=ay h1
  unfold HJ at hq
  split at hq
  ·cases hq
   exact DX Pk (us:= []) (u:=RY) Ok (VLe.refl _) trivial W
  ·cases hq
 | false=>
  rw [h1] at h
  cases h2:Nat.beq g 76 with
  | false=>rw [h2] at h;cases h
  | true=>
   rw [h2] at h
   cases h
   obtain rfl:=ay h2
   unfold Ci at hq
   split at hq
   ·rename_i a b _
    cases h3:V.eqb a.toV GJ with
    | false=>rw [h3] at hq;cases hq
    | true=>
     rw [h3] at hq
     cases h4:D1 b.toV with
     | false=>rw [h4] at hq;cases hq
     | true=>
      rw [h4] at hq
      cases hq
      refine DX Lh (us:= [a,b]) (v:=EY) (fun H m=>?_) ((Co _).trans (lg _)) (lh _) W
      show ∃ ps,ag KE yi q2Play0 (fun x=>([x=pZ],tQ)) [a.toV,b.toV] H m=some (ps,EY,[])∧∀ p∈ps,p
      rw [V.eqb_eq _ _ h3,HO h4]
      exact KP H m
   ·cases hq
theorem N9 (d:Nat):CallVOK Tryz.prog (ri (Gz tbl) awP awX awK Oa d):=y6 QC mixed (Au Dy) (fun _ _ h=>h) L3 awK Oc d
end Go.Proofs.YtffdpnmioidloaaGreatDoor
namespace Go.Proofs.YtffdpnmioidloaaGreatDoor
open Go Go.Mir Go.RowKit
def vM:FuncId×Ctr:=(11,aM KE .unit fun _=>⟨[],.bool true,[]⟩)
theorem Sc:Q7 true (ri (Gz tbl) awP awX awK Oa 40 11 [] hp0 0)=true:=by kernel_rfl
theorem CE:CtrOK Tryz.prog KE 11 (aM KE .unit fun _=>⟨[],.bool true,[]⟩):=BZ (N9 40) Sc
end Go.Proofs.YtffdpnmioidloaaGreatDoor
namespace Go.Proofs.YtffdpnmioidloaaGreatDoor
open Go Go.Mir Go.RowKit
attribute [local irreducible] Go.Mir.DT.sat Go.Mir.evPat Go.Mir.RT.sat Go.Mir.evFn
end Go.Proofs.YtffdpnmioidloaaGreatDoor
namespace Go.Proofs.YtffdpnmioidloaaGreatDoor
open Go Go.Mir Go.RowKit
attribute [local irreducible] Go.Mir.DT.sat Go.Mir.evPat Go.Mir.RT.sat Go.Mir.evFn
abbrev LD:Pat:=dG [.slice .str]
def PJ:Den (tyP LD)→List Prop×Den (tyP qz):=fun x=>([x.1.length≤1000000],okO (aG x.1))
abbrev qVa:Pat:=⟨[(4,.c (.osl 0 1)),(10,.h (.slice .str)),(11,.h I),(12,.h I)],[(0,.row 1 I)],2⟩
abbrev xVa:List (Lf×Pat):= [(.ext 0,⟨[(4,.c (.osl 0 1))],[(0,.row 1 I)],2⟩),(.ret,⟨[(2,.c .nilsl),(3,.h .bool)],[],0⟩)]
abbrev TVa:Type:=List ByteArray×Int×Int×List Int×Unit
def AO (o:List Int) (x:Option (List Int)):Sum (List Int×Unit) (Bool×Unit):=match x with
 | some v=> .inl (o++v,())
 | none=> .inr (false,())
def jg:TVa→Sum (List Int×Unit) (Bool×Unit)
 |(l,_,i,o,_)=>AO o (aG (l.drop i.toNat))
def vA:TVa→Prop
 |(l,n,i,o,_)=>(n =(l.length:Int)∧l.length≤1000000)∧(0≤i∧i≤n)∧(o.length:Int)≤i
def IJ:TVa→Nat
 |(_,n,i,_)=>(n - i).toNat
abbrev Sb:PB:= .cells [.c .any,.c .any,.c .any,.c .any,.c .any,.c .any,.c .any,.c .any,.c .any,.c .any]
abbrev QZ:List (Nat×PB):= [(0,Sb),(2,.cells [.h I,.c (.osl 3 4),.c (.osl 5 6),.h I,.h I,.h I,.h I,.h I,.h I,.h I]),(3,.row 4 (.nm .Box)),(5,.row 6 (.nm .Strip))]
abbrev qRp:Pat:=⟨[(0,.h .str),(2,.c (.ptr 0 0)),(4,.c (.ptr 2 0)),(27,.h (.slice .str)),(28,.h I),(29,.h I)],QZ,7⟩
abbrev xRp:List (Lf×Pat):= [(.ext 0,⟨[(0,.h .str),(2,.c (.ptr 0 0)),(4,.c (.ptr 2 0))],QZ,7⟩),(.ret,⟨[(2,.c (.ptr 0 0)),(3,.h I)],[(0,.dat (.nm .Book))],1⟩)]
abbrev TRp:Type:=ByteArray×List ByteArray×Int×Int×Int×Int×Int×Int×Int×Int×Int×Int×List Mir.Box×List Mir.Strip×Unit
abbrev ORp:Type:=Sum TBr (Int×Mir.Book×Unit)
def wg (s:ByteArray):Option Mir.Book→ORp
 | some b=> .inl (stB s b)
 | none=> .inr (4,Mir.Book.zero,())
def wdR (x:ByteArray):List ByteArray:=bX x 32
def bW:TRp→ORp
 |(s,l,_,i,b0,b1,b2,b3,b4,b5,b6,b7,bx,sx,_)=>wg s (dA ((l.drop i.toNat).map wdR) i (mkB b0 b1 b2 b3 b4 b5 b6 b7 bx sx))
def Cv (l:List ByteArray):Prop:=l.length≤20000∧∀ x∈l,x.size≤20000
def oq:TRp→Prop
 |(_,l,n,i,b0,b1,b2,b3,b4,b5,b6,b7,bx,sx,_)=>(n =(l.length:Int)∧Cv l)∧(0≤i∧i≤n)∧jI i.toNat (mkB b0 b1 b2 b3 b4 b5 b6 b7 bx sx)
def sH:TRp→Nat
 |(_,_,n,i,_)=>(n - i).toNat
def yx:Den (tyP qPn)→List Prop×Den (tyP A2):=fun x=>([x.1.size≤20000],((bR x.1).1,(bR x.1).2,()))
noncomputable def lpVr:Lp:=(⟨0,aA [pA] Tryz.f62,(fun _=>none),(ao Tryz.f62 0),qVa,xVa⟩:Lp)
theorem Qe (l:List ByteArray) (n:Int) (i:Int) (o:List Int) (hi:vA (l,n,i,o,())) :(Go.Mir.stepG lpVr jg (fun y:Den (tyP lpVr.q)=>vA y∧IJ y<IJ (l,n,i,o,())) (l,n,i,o,())∧Go.Mir.stepE lpVr jg (l,n,i,o,())=jg (l,n,i,o,())):=by
 refine cast (by kernel_rfl) (?_:let r1:Int×Int:=bQ (l.getD i.toNat (dflt Ty.str)) (0:Int) (1000000:Int);let r2:List Int:= [r1.1];let r3:Bool:=r1.2 !=(0:Int);((decide (i<n)=true→((0:Int)≤i∧i <(↑l.length:Int))∧(r3=true→True)∧(r3=false→(o.length+r2.length) *(8:Nat)≤(70368744177664:Nat)∧vA (l,n,IntKind.i64.wrap (i +(1:Int)),o++r2,())∧IJ (l,n,IntKind.i64.wrap (i +(1:Int)),o++r2,())<IJ (l,n,i,o,())))∧(decide (i<n)=false→True))∧(bif decide (i<n) then bif r3 then Sum.inr (false,()) else jg (l,n,IntKind.i64.wrap (i +(1:Int)),o++r2,()) else Sum.inl (o,()))=jg (l,n,i,o,()))
 intro r1 r2 r3
 clear_value (hr1:r1=_) (hr2:r2=_) (hr3:r3=_)
 obtain ⟨⟨h1,h1b⟩,⟨h2,h3⟩,h4⟩:=hi
 have h1:n =(l.length:Int):=h1
 have h1b:l.length≤1000000:=h1b
 have h2:0≤i:=h2
 have h3:i≤n:=h3
 have h4 :(o.length:Int)≤i:=h4
 by_cases h:i<n
 ·have e1:IntKind.i64.wrap (i+1)=i+1:=wrap64 (by omega) (by omega)
  have hd:l.drop i.toNat=l.getD i.toNat (dflt Ty.str)::l.drop (i+1).toNat:=aL h2 (by omega) _
  generalize l.getD i.toNat (dflt Ty.str)=w at *
  have er:r1=vV w:=hr1.trans (cG _ _ _)
  have hl:r2.length=1:=by rw [hr2];rfl
  have key:jg (l,n,i,o,())=bif r3 then .inr (false,()) else jg (l,n,i+1,o++r2,()):=by
   show AO o (aG (l.drop i.toNat))=bif r3 then .inr (false,()) else AO (o++r2) (aG (l.drop (i+1).toNat))
   rw [hd]
   generalize l.drop (i+1).toNat=R
   have e:aG (w::R)=if r3 then none else (aG R).map (r1.1::·):=by rw [hr3,er];rfl
   rw [e]
   cases r3 with
   | true=>rfl
   | false=>
    cases aG R with
    | none=>rfl
    | some v=>
     show Sum.inl (o++r1.1::v,())=Sum.inl ((o++r2)++v,())
     rw [hr2,List.append_assoc]
     rfl
  rw [decide_eq_true h,e1,key]
  refine ⟨⟨fun _=>⟨⟨h2,by omega⟩,fun _=>trivial,fun _=>⟨?_,⟨⟨h1,h1b⟩,⟨?_,?_⟩,?_⟩,?_⟩⟩,fun z=>Bool.noConfusion z⟩,rfl⟩
  ·omega
  ·show 0≤i+1;omega
  ·show i+1≤n;omega
  ·show ((o++r2).length:Int)≤i+1
   rw [List.length_append];omega
  ·show (n - (i+1)).toNat <(n - i).toNat;omega
 ·rw [decide_eq_false h]
  refine ⟨⟨fun z=>Bool.noConfusion z,fun _=>trivial⟩,?_⟩
  show _=AO o (aG (l.drop i.toNat))
  rw [aF (l:=l) (by omega)]
  show Sum.inl (o,())=Sum.inl (o++[],())
  rw [List.append_nil]
noncomputable def Nr:LoopSum:=ah lpVr jg vA
noncomputable def ML:Nat:=rid (ao Tryz.f62 0)
theorem OX:LoopOKp Tryz.prog 0 Tryz.f62.ntmps (ao Tryz.f62 0) (ah lpVr jg vA):=
 ax lpVr (an (.consU sN rfl .nil) _) mixed (fun b hb S hS=>by cases hS) jg vA IJ (fun |⟨l,n,i,o,⟨⟩⟩,hi=>Qe l n i o hi)
theorem yr (l:List ByteArray) (hl:l.length≤1000000) :(evPat (aA [pA] Tryz.f62) (find [(ML,Nr)]) Tryz.f62 LD qz (l,())).sat fun z_=>z_ =(PJ (l,())).2:=by
 refine cast (by kernel_rfl) (?_:let r1:Bool:=isL (jg (l,(↑l.length:Int),(0:Int),[],()));((cY fun x=>none)∧((↑l.length:Int) =(↑l.length:Int)∧l.length≤(1000000:Nat))∧((0:Int)≤(0:Int)∧(0:Int)≤(↑l.length:Int))∧(↑(0:Nat):Int)≤(0:Int))∧(r1=true→(true,gz (dflt (I.slice.prod Ty.unit)) (jg (l,(↑l.length:Int),(0:Int),[],())))=okO (aG l))∧(r1=false→((gA (dflt (Ty.bool.prod Ty.unit)) (jg (l,(↑l.length:Int),(0:Int),[],()))).1,[],())=okO (aG l)))
 intro r1
 clear_value (hr1:r1=_)
 have er:jg (l,(l.length:Int),0,[],())=AO [] (aG l):=rfl
 rw [er] at hr1 ⊢
 refine ⟨⟨rfl,⟨rfl,hl⟩,⟨Int.le_refl _,by omega⟩,Int.le_refl _⟩,fun h1=>?_,fun h1=>?_⟩
 ·cases hf:aG l with
  | some v=>rfl
  | none=>rw [hr1,hf] at h1;exact Bool.noConfusion h1
 ·cases hf:aG l with
  | none=>rfl
  | some v=>rw [hr1,hf] at h1;exact Bool.noConfusion h1
def Cr:FuncId×Ctr:=(62,ag KE LD qz PJ)
theorem AH:CtrOK Tryz.prog KE 62 (ag KE LD qz PJ):=by
 refine aZ (C:=aA [pA] Tryz.f62) (an (.consU sN rfl .nil) _) mixed (fn:=Tryz.f62) Tryz.func62 (by kernel_rfl) (by kernel_rfl) (by kernel_rfl) (by kernel_rfl) (by kernel_rfl) (by kernel_rfl) (Λ:=fun x=>find [(ML,Nr)]) ?_ ?_
 ·rintro ⟨l,⟨⟩⟩ hw hn
  exact LoopsOKp.at (by kernel_rfl) (.cons (by kernel_rfl) (OX) .nil)
 ·rintro ⟨l,⟨⟩⟩ hw hn
  exact yr l (hn _ List.mem_cons_self)
theorem Hq {n:Nat} {b c:Mir.Book} {m:List ByteArray} (h:jI n b) (ht:c7 b m=some c):jI (n+1) c:=by
 obtain ⟨⟨h1,h2⟩,h3,h4⟩:=h
 unfold c7 at ht
 split at ht
 ·cases ht
 ·cases hI:aG (m.take 8) with
  | none=>rw [hI] at ht;cases ht
  | some v=>rw [hI] at ht;cases ht;exact ⟨⟨Nat.le_succ_of_le h1,Nat.le_succ_of_le h2⟩,h3,h4⟩
theorem Hp {n:Nat} {b c:Mir.Book} {m:List ByteArray} (h:jI n b) (hz:a8 m≤20100) (ht:cZ b m=some c):jI (n+1) c:=by
 obtain ⟨⟨h1,h2⟩,h3,h4⟩:=h
 unfold cZ at ht
 split at ht
 ·cases ht
 ·cases hI:aG (m.take 2) with
  | none=>rw [hI] at ht;cases ht
  | some v=>
   rw [hI] at ht;cases ht
   refine ⟨⟨?_,Nat.le_succ_of_le h2⟩,fun x hx=>?_,h4⟩
   ·show (b.Boxes++[_]).length≤n+1
    rw [List.length_append];exact Nat.succ_le_succ h1
   ·rcases List.mem_append.1 hx with hx|hx
    ·exact h3 x hx
    ·rcases List.mem_singleton.1 hx with rfl
     have:=mM m 2
     show a8 (m.drop 2)≤20100
     omega
theorem Hr {n:Nat} {b c:Mir.Book} {m:List ByteArray} (h:jI n b) (hz:a8 m≤20100) (ht:cA b m=some c):jI (n+1) c:=by
 obtain ⟨⟨h1,h2⟩,h3,h4⟩:=h
 unfold cA at ht
 split at ht
 ·cases ht
 ·cases hI:aG [m.getD 0 ⟨#[]⟩,m.getD 2 ⟨#[]⟩] with
  | none=>rw [hI] at ht;cases ht
  | some v=>
   rw [hI,Option.bind_some] at ht
   split at ht
   ·cases ht
   ·cases ht
    refine ⟨⟨Nat.le_succ_of_le h1,?_⟩,h3,fun x hx=>?_⟩
    ·show (b.Strips++[_]).length≤n+1
     rw [List.length_append];exact Nat.succ_le_succ h2
    ·rcases List.mem_append.1 hx with hx|hx
     ·exact h4 x hx
     ·rcases List.mem_singleton.1 hx with rfl
      have:=mM m 3
      show a8 (m.drop 3)≤20100
      omega
noncomputable def lpRp:Lp:=(⟨0,aA [pB,Cr,k24] Tryz.f18,(fun _=>none),(ao Tryz.f18 0),qRp,xRp⟩:Lp)
theorem Qb (s:ByteArray) (l:List ByteArray) (n:Int) (i:Int) (b0:Int) (b1:Int) (b2:Int) (b3:Int) (b4:Int) (b5:Int) (b6:Int) (b7:Int) (bx:List Mir.Box) (sx:List Mir.Strip) (hi:oq (s,l,n,i,b0,b1,b2,b3,b4,b5,b6,b7,bx,sx,())) :(Go.Mir.stepG lpRp bW (fun y:Den (tyP lpRp.q)=>oq y∧sH y<sH (s,l,n,i,b0,b1,b2,b3,b4,b5,b6,b7,bx,sx,())) (s,l,n,i,b0,b1,b2,b3,b4,b5,b6,b7,bx,sx,())∧Go.Mir.stepE lpRp bW (s,l,n,i,b0,b1,b2,b3,b4,b5,b6,b7,bx,sx,())=bW (s,l,n,i,b0,b1,b2,b3,b4,b5,b6,b7,bx,sx,())):=by
 refine cast (by kernel_rfl) (?_:let r1:Int:=IntKind.i64.wrap (i +(1:Int));let r2:List ByteArray:=bX (l.getD i.toNat (dflt Ty.str)) (UInt8.ofNat (Int.toNat (32:Int)));let r3:Bool:=decide (i >(0:Int));let r4:Int:=(↑r2.length:Int);let r5:ByteArray:=r2.getD (Int.toNat (2:Int)) (dflt Ty.str);let r6:List ByteArray:=List.drop (Int.toNat (1:Int)) (List.take (Int.toNat (3:Int)) r2);let r7:Bool×List Int×Unit:=okO (aG r6);let r8:Bool:=!r7.1;let r9:List ByteArray:=List.take r4.toNat r2;let r10:Int:=(↑r7.2.1.length:Int);let r11:List ByteArray:=List.drop (Int.toNat (1:Int)) r9;let r12:Bool×List Int×Unit:=okO (aG r11);let r13:Bool:=!r12.1;let r14:Int:=(↑r12.2.1.length:Int);let r15:Bool:=ByteArray.toList (r2.getD (Int.toNat (0:Int)) (dflt Ty.str)) ==(ByteArray.mk #[66,79,88]).toList;let r16:List ByteArray:= [r2.getD (Int.toNat (1:Int)) (dflt Ty.str),r2.getD (Int.toNat (3:Int)) (dflt Ty.str)];let r17:Bool×List Int×Unit:=okO (aG r16);let r18:Bool:=ByteArray.toList (r2.getD (Int.toNat (0:Int)) (dflt Ty.str)) ==(ByteArray.mk #[66,79,79,75]).toList;let r19:Int:=(↑r17.2.1.length:Int);let r20:Bool:=ByteArray.toList (r2.getD (Int.toNat (0:Int)) (dflt Ty.str)) ==(ByteArray.mk #[83,84,82,73,80]).toList;let r21:Bool:=bif r17.1 then aW r5 ==(0:Int) else false;let r22:Bool:=bif i ==(0:Int) then bif r18 then r4 ==(9:Int) else false else false;let r23:Bool:=bif r3 then bif r15 then decide (r4≥(3:Int)) else false else false;let r24:Bool:=bif r3 then bif r20 then decide (r4≥(4:Int)) else false else false;let r25:List Mir.Box:= [Mir.Box.mk (r7.2.1.getD (Int.toNat (0:Int)) (dflt (Ty.int IntKind.i64))) (r7.2.1.getD (Int.toNat (1:Int)) (dflt (Ty.int IntKind.i64))) (List.drop (Int.toNat (3:Int)) r9)];let r26:List Mir.Strip:= [Mir.Strip.mk (r17.2.1.getD (Int.toNat (0:Int)) (dflt (Ty.int IntKind.i64))) (List.drop (Int.toNat (4:Int)) r9) (bG r5) (r17.2.1.getD (Int.toNat (1:Int)) (dflt (Ty.int IntKind.i64)))];((decide (i<n)=true→((0:Int)≤i∧i <(↑l.length:Int))∧ByteArray.size (l.getD i.toNat (dflt Ty.str))≤(1000000:Nat)∧(((i ==(0:Int))=true→((0:Int)≤(0:Int)∧(0:Int)<r4)∧(r18=true→True)∧(r18=false→True))∧((i ==(0:Int))=false→True))∧(true=true→(r22=true→((0:Int)≤(1:Int)∧(1:Int)≤r4∧r4≤r4)∧r11.length≤(1000000:Nat)∧((r12.1=true→((0:Int)≤(0:Int)∧(0:Int)<r14)∧((0:Int)≤(1:Int)∧(1:Int)<r14)∧((0:Int)≤(2:Int)∧(2:Int)<r14)∧((0:Int)≤(3:Int)∧(3:Int)<r14)∧((0:Int)≤(4:Int)∧(4:Int)<r14)∧((0:Int)≤(5:Int)∧(5:Int)<r14)∧((0:Int)≤(6:Int)∧(6:Int)<r14)∧((0:Int)≤(7:Int)∧(7:Int)<r14)∧True)∧(r12.1=false→True))∧(true=true→(r13=true→True)∧(r13=false→oq (s,l,n,r1,bif r12.1 then r12.2.1.getD (Int.toNat (0:Int)) (dflt (Ty.int IntKind.i64)) else b0,bif r12.1 then r12.2.1.getD (Int.toNat (3:Int)) (dflt (Ty.int IntKind.i64)) else b1,bif r12.1 then r12.2.1.getD (Int.toNat (4:Int)) (dflt (Ty.int IntKind.i64)) else b2,bif r12.1 then r12.2.1.getD (Int.toNat (5:Int)) (dflt (Ty.int IntKind.i64)) else b3,bif r12.1 then r12.2.1.getD (Int.toNat (6:Int)) (dflt (Ty.int IntKind.i64)) else b4,bif r12.1 then r12.2.1.getD (Int.toNat (7:Int)) (dflt (Ty.int IntKind.i64)) else b5,bif r12.1 then r12.2.1.getD (Int.toNat (1:Int)) (dflt (Ty.int IntKind.i64)) else b6,bif r12.1 then r12.2.1.getD (Int.toNat (2:Int)) (dflt (Ty.int IntKind.i64)) else b7,bx,sx,())∧sH (s,l,n,r1,bif r12.1 then r12.2.1.getD (Int.toNat (0:Int)) (dflt (Ty.int IntKind.i64)) else b0,bif r12.1 then r12.2.1.getD (Int.toNat (3:Int)) (dflt (Ty.int IntKind.i64)) else b1,bif r12.1 then r12.2.1.getD (Int.toNat (4:Int)) (dflt (Ty.int IntKind.i64)) else b2,bif r12.1 then r12.2.1.getD (Int.toNat (5:Int)) (dflt (Ty.int IntKind.i64)) else b3,bif r12.1 then r12.2.1.getD (Int.toNat (6:Int)) (dflt (Ty.int IntKind.i64)) else b4,bif r12.1 then r12.2.1.getD (Int.toNat (7:Int)) (dflt (Ty.int IntKind.i64)) else b5,bif r12.1 then r12.2.1.getD (Int.toNat (1:Int)) (dflt (Ty.int IntKind.i64)) else b6,bif r12.1 then r12.2.1.getD (Int.toNat (2:Int)) (dflt (Ty.int IntKind.i64)) else b7,bx,sx,())<sH (s,l,n,i,b0,b1,b2,b3,b4,b5,b6,b7,bx,sx,()))))∧(r22=false→((r3=true→((0:Int)≤(0:Int)∧(0:Int)<r4)∧(r15=true→True)∧(r15=false→True))∧(r3=false→True))∧(true=true→(r23=true→((0:Int)≤(1:Int)∧(1:Int)≤(3:Int)∧(3:Int)≤r4)∧r6.length≤(1000000:Nat)∧(r7.1=true→((0:Int)≤(0:Int)∧(0:Int)<r10)∧((0:Int)≤(1:Int)∧(1:Int)<r10)∧((0:Int)≤(3:Int)∧(3:Int)≤r4∧r4≤r4)∧(bx.length+r25.length) *(40:Nat)≤(70368744177664:Nat)∧(r8=true→True)∧(r8=false→oq (s,l,n,r1,b0,b1,b2,b3,b4,b5,b6,b7,bx++r25,sx,())∧sH (s,l,n,r1,b0,b1,b2,b3,b4,b5,b6,b7,bx++r25,sx,())<sH (s,l,n,i,b0,b1,b2,b3,b4,b5,b6,b7,bx,sx,())))∧(r7.1=false→(r8=true→True)∧(r8=false→oq (s,l,n,r1,b0,b1,b2,b3,b4,b5,b6,b7,bx,sx,())∧sH (s,l,n,r1,b0,b1,b2,b3,b4,b5,b6,b7,bx,sx,())<sH (s,l,n,i,b0,b1,b2,b3,b4,b5,b6,b7,bx,sx,()))))∧(r23=false→((r3=true→((0:Int)≤(0:Int)∧(0:Int)<r4)∧(r20=true→True)∧(r20=false→True))∧(r3=false→True))∧(true=true→(r24=true→((0:Int)≤(1:Int)∧(1:Int)<r4)∧((0:Int)≤(3:Int)∧(3:Int)<r4)∧r16.length≤(1000000:Nat)∧((0:Int)≤(2:Int)∧(2:Int)<r4)∧(r21=true→((0:Int)≤(0:Int)∧(0:Int)<r19)∧((0:Int)≤(1:Int)∧(1:Int)<r19)∧((0:Int)≤(4:Int)∧(4:Int)≤r4∧r4≤r4)∧(sx.length+r26.length) *(48:Nat)≤(70368744177664:Nat)∧oq (s,l,n,r1,b0,b1,b2,b3,b4,b5,b6,b7,bx,sx++r26,())∧sH (s,l,n,r1,b0,b1,b2,b3,b4,b5,b6,b7,bx,sx++r26,())<sH (s,l,n,i,b0,b1,b2,b3,b4,b5,b6,b7,bx,sx,()))∧(r21=false→True))∧(r24=false→True)))))))∧(decide (i<n)=false→True))∧(bif decide (i<n) then bif true&&true&&true then bif r22 then bif true&&true then bif r13 then Sum.inr ((4:Int),Mir.Book.mk (0:Int) [] [] (Mir.Extras.mk (0:Int) (0:Int) (0:Int) (0:Int) (0:Int)) (0:Int) (0:Int),()) else bW (s,l,n,r1,bif r12.1 then r12.2.1.getD (Int.toNat (0:Int)) (dflt (Ty.int IntKind.i64)) else b0,bif r12.1 then r12.2.1.getD (Int.toNat (3:Int)) (dflt (Ty.int IntKind.i64)) else b1,bif r12.1 then r12.2.1.getD (Int.toNat (4:Int)) (dflt (Ty.int IntKind.i64)) else b2,bif r12.1 then r12.2.1.getD (Int.toNat (5:Int)) (dflt (Ty.int IntKind.i64)) else b3,bif r12.1 then r12.2.1.getD (Int.toNat (6:Int)) (dflt (Ty.int IntKind.i64)) else b4,bif r12.1 then r12.2.1.getD (Int.toNat (7:Int)) (dflt (Ty.int IntKind.i64)) else b5,bif r12.1 then r12.2.1.getD (Int.toNat (1:Int)) (dflt (Ty.int IntKind.i64)) else b6,bif r12.1 then r12.2.1.getD (Int.toNat (2:Int)) (dflt (Ty.int IntKind.i64)) else b7,bx,sx,()) else bif true then bif r13 then Sum.inr ((4:Int),Mir.Book.mk (0:Int) [] [] (Mir.Extras.mk (0:Int) (0:Int) (0:Int) (0:Int) (0:Int)) (0:Int) (0:Int),()) else bW (s,l,n,r1,bif r12.1 then r12.2.1.getD (Int.toNat (0:Int)) (dflt (Ty.int IntKind.i64)) else b0,bif r12.1 then r12.2.1.getD (Int.toNat (3:Int)) (dflt (Ty.int IntKind.i64)) else b1,bif r12.1 then r12.2.1.getD (Int.toNat (4:Int)) (dflt (Ty.int IntKind.i64)) else b2,bif r12.1 then r12.2.1.getD (Int.toNat (5:Int)) (dflt (Ty.int IntKind.i64)) else b3,bif r12.1 then r12.2.1.getD (Int.toNat (6:Int)) (dflt (Ty.int IntKind.i64)) else b4,bif r12.1 then r12.2.1.getD (Int.toNat (7:Int)) (dflt (Ty.int IntKind.i64)) else b5,bif r12.1 then r12.2.1.getD (Int.toNat (1:Int)) (dflt (Ty.int IntKind.i64)) else b6,bif r12.1 then r12.2.1.getD (Int.toNat (2:Int)) (dflt (Ty.int IntKind.i64)) else b7,bx,sx,()) else bif r12.1 then Sum.inl (dflt (Ty.str.prod (I.prod (I.prod (I.prod (I.prod (I.prod (I.prod (I.prod (I.prod ((Ty.nm Nm.Box).slice.prod ((Ty.nm Nm.Strip).slice.prod Ty.unit)))))))))))) else Sum.inl (dflt (Ty.str.prod (I.prod (I.prod (I.prod (I.prod (I.prod (I.prod (I.prod (I.prod ((Ty.nm Nm.Box).slice.prod ((Ty.nm Nm.Strip).slice.prod Ty.unit)))))))))))) else bif true&&true&&true then bif r23 then bif r7.1 then bif r8 then Sum.inr ((4:Int),Mir.Book.mk (0:Int) [] [] (Mir.Extras.mk (0:Int) (0:Int) (0:Int) (0:Int) (0:Int)) (0:Int) (0:Int),()) else bW (s,l,n,r1,b0,b1,b2,b3,b4,b5,b6,b7,bx++r25,sx,()) else bif r8 then Sum.inr ((4:Int),Mir.Book.mk (0:Int) [] [] (Mir.Extras.mk (0:Int) (0:Int) (0:Int) (0:Int) (0:Int)) (0:Int) (0:Int),()) else bW (s,l,n,r1,b0,b1,b2,b3,b4,b5,b6,b7,bx,sx,()) else bif true&&true&&true then bif r24 then bif r21 then bW (s,l,n,r1,b0,b1,b2,b3,b4,b5,b6,b7,bx,sx++r26,()) else Sum.inr ((4:Int),Mir.Book.mk (0:Int) [] [] (Mir.Extras.mk (0:Int) (0:Int) (0:Int) (0:Int) (0:Int)) (0:Int) (0:Int),()) else Sum.inr ((4:Int),Mir.Book.mk (0:Int) [] [] (Mir.Extras.mk (0:Int) (0:Int) (0:Int) (0:Int) (0:Int)) (0:Int) (0:Int),()) else bif true then bif r24 then bif r21 then bW (s,l,n,r1,b0,b1,b2,b3,b4,b5,b6,b7,bx,sx++r26,()) else Sum.inr ((4:Int),Mir.Book.mk (0:Int) [] [] (Mir.Extras.mk (0:Int) (0:Int) (0:Int) (0:Int) (0:Int)) (0:Int) (0:Int),()) else Sum.inr ((4:Int),Mir.Book.mk (0:Int) [] [] (Mir.Extras.mk (0:Int) (0:Int) (0:Int) (0:Int) (0:Int)) (0:Int) (0:Int),()) else bif r3 then bif r20 then Sum.inl (dflt (Ty.str.prod (I.prod (I.prod (I.prod (I.prod (I.prod (I.prod (I.prod (I.prod ((Ty.nm Nm.Box).slice.prod ((Ty.nm Nm.Strip).slice.prod Ty.unit)))))))))))) else Sum.inl (dflt (Ty.str.prod (I.prod (I.prod (I.prod (I.prod (I.prod (I.prod (I.prod (I.prod ((Ty.nm Nm.Box).slice.prod ((Ty.nm Nm.Strip).slice.prod Ty.unit)))))))))))) else Sum.inl (dflt (Ty.str.prod (I.prod (I.prod (I.prod (I.prod (I.prod (I.prod (I.prod (I.prod ((Ty.nm Nm.Box).slice.prod ((Ty.nm Nm.Strip).slice.prod Ty.unit)))))))))))) else bif true then bif r23 then bif r7.1 then bif r8 then Sum.inr ((4:Int),Mir.Book.mk (0:Int) [] [] (Mir.Extras.mk (0:Int) (0:Int) (0:Int) (0:Int) (0:Int)) (0:Int) (0:Int),()) else bW (s,l,n,r1,b0,b1,b2,b3,b4,b5,b6,b7,bx++r25,sx,()) else bif r8 then Sum.inr ((4:Int),Mir.Book.mk (0:Int) [] [] (Mir.Extras.mk (0:Int) (0:Int) (0:Int) (0:Int) (0:Int)) (0:Int) (0:Int),()) else bW (s,l,n,r1,b0,b1,b2,b3,b4,b5,b6,b7,bx,sx,()) else bif true&&true&&true then bif r24 then bif r21 then bW (s,l,n,r1,b0,b1,b2,b3,b4,b5,b6,b7,bx,sx++r26,()) else Sum.inr ((4:Int),Mir.Book.mk (0:Int) [] [] (Mir.Extras.mk (0:Int) (0:Int) (0:Int) (0:Int) (0:Int)) (0:Int) (0:Int),()) else Sum.inr ((4:Int),Mir.Book.mk (0:Int) [] [] (Mir.Extras.mk (0:Int) (0:Int) (0:Int) (0:Int) (0:Int)) (0:Int) (0:Int),()) else bif true then bif r24 then bif r21 then bW (s,l,n,r1,b0,b1,b2,b3,b4,b5,b6,b7,bx,sx++r26,()) else Sum.inr ((4:Int),Mir.Book.mk (0:Int) [] [] (Mir.Extras.mk (0:Int) (0:Int) (0:Int) (0:Int) (0:Int)) (0:Int) (0:Int),()) else Sum.inr ((4:Int),Mir.Book.mk (0:Int) [] [] (Mir.Extras.mk (0:Int) (0:Int) (0:Int) (0:Int) (0:Int)) (0:Int) (0:Int),()) else bif r3 then bif r20 then Sum.inl (dflt (Ty.str.prod (I.prod (I.prod (I.prod (I.prod (I.prod (I.prod (I.prod (I.prod ((Ty.nm Nm.Box).slice.prod ((Ty.nm Nm.Strip).slice.prod Ty.unit)))))))))))) else Sum.inl (dflt (Ty.str.prod (I.prod (I.prod (I.prod (I.prod (I.prod (I.prod (I.prod (I.prod ((Ty.nm Nm.Box).slice.prod ((Ty.nm Nm.Strip).slice.prod Ty.unit)))))))))))) else Sum.inl (dflt (Ty.str.prod (I.prod (I.prod (I.prod (I.prod (I.prod (I.prod (I.prod (I.prod ((Ty.nm Nm.Box).slice.prod ((Ty.nm Nm.Strip).slice.prod Ty.unit)))))))))))) else bif r3 then bif r15 then Sum.inl (dflt (Ty.str.prod (I.prod (I.prod (I.prod (I.prod (I.prod (I.prod (I.prod (I.prod ((Ty.nm Nm.Box).slice.prod ((Ty.nm Nm.Strip).slice.prod Ty.unit)))))))))))) else Sum.inl (dflt (Ty.str.prod (I.prod (I.prod (I.prod (I.prod (I.prod (I.prod (I.prod (I.prod ((Ty.nm Nm.Box).slice.prod ((Ty.nm Nm.Strip).slice.prod Ty.unit)))))))))))) else Sum.inl (dflt (Ty.str.prod (I.prod (I.prod (I.prod (I.prod (I.prod (I.prod (I.prod (I.prod ((Ty.nm Nm.Box).slice.prod ((Ty.nm Nm.Strip).slice.prod Ty.unit)))))))))))) else bif true then bif r22 then bif true&&true then bif r13 then Sum.inr ((4:Int),Mir.Book.mk (0:Int) [] [] (Mir.Extras.mk (0:Int) (0:Int) (0:Int) (0:Int) (0:Int)) (0:Int) (0:Int),()) else bW (s,l,n,r1,bif r12.1 then r12.2.1.getD (Int.toNat (0:Int)) (dflt (Ty.int IntKind.i64)) else b0,bif r12.1 then r12.2.1.getD (Int.toNat (3:Int)) (dflt (Ty.int IntKind.i64)) else b1,bif r12.1 then r12.2.1.getD (Int.toNat (4:Int)) (dflt (Ty.int IntKind.i64)) else b2,bif r12.1 then r12.2.1.getD (Int.toNat (5:Int)) (dflt (Ty.int IntKind.i64)) else b3,bif r12.1 then r12.2.1.getD (Int.toNat (6:Int)) (dflt (Ty.int IntKind.i64)) else b4,bif r12.1 then r12.2.1.getD (Int.toNat (7:Int)) (dflt (Ty.int IntKind.i64)) else b5,bif r12.1 then r12.2.1.getD (Int.toNat (1:Int)) (dflt (Ty.int IntKind.i64)) else b6,bif r12.1 then r12.2.1.getD (Int.toNat (2:Int)) (dflt (Ty.int IntKind.i64)) else b7,bx,sx,()) else bif true then bif r13 then Sum.inr ((4:Int),Mir.Book.mk (0:Int) [] [] (Mir.Extras.mk (0:Int) (0:Int) (0:Int) (0:Int) (0:Int)) (0:Int) (0:Int),()) else bW (s,l,n,r1,bif r12.1 then r12.2.1.getD (Int.toNat (0:Int)) (dflt (Ty.int IntKind.i64)) else b0,bif r12.1 then r12.2.1.getD (Int.toNat (3:Int)) (dflt (Ty.int IntKind.i64)) else b1,bif r12.1 then r12.2.1.getD (Int.toNat (4:Int)) (dflt (Ty.int IntKind.i64)) else b2,bif r12.1 then r12.2.1.getD (Int.toNat (5:Int)) (dflt (Ty.int IntKind.i64)) else b3,bif r12.1 then r12.2.1.getD (Int.toNat (6:Int)) (dflt (Ty.int IntKind.i64)) else b4,bif r12.1 then r12.2.1.getD (Int.toNat (7:Int)) (dflt (Ty.int IntKind.i64)) else b5,bif r12.1 then r12.2.1.getD (Int.toNat (1:Int)) (dflt (Ty.int IntKind.i64)) else b6,bif r12.1 then r12.2.1.getD (Int.toNat (2:Int)) (dflt (Ty.int IntKind.i64)) else b7,bx,sx,()) else bif r12.1 then Sum.inl (dflt (Ty.str.prod (I.prod (I.prod (I.prod (I.prod (I.prod (I.prod (I.prod (I.prod ((Ty.nm Nm.Box).slice.prod ((Ty.nm Nm.Strip).slice.prod Ty.unit)))))))))))) else Sum.inl (dflt (Ty.str.prod (I.prod (I.prod (I.prod (I.prod (I.prod (I.prod (I.prod (I.prod ((Ty.nm Nm.Box).slice.prod ((Ty.nm Nm.Strip).slice.prod Ty.unit)))))))))))) else bif true&&true&&true then bif r23 then bif r7.1 then bif r8 then Sum.inr ((4:Int),Mir.Book.mk (0:Int) [] [] (Mir.Extras.mk (0:Int) (0:Int) (0:Int) (0:Int) (0:Int)) (0:Int) (0:Int),()) else bW (s,l,n,r1,b0,b1,b2,b3,b4,b5,b6,b7,bx++r25,sx,()) else bif r8 then Sum.inr ((4:Int),Mir.Book.mk (0:Int) [] [] (Mir.Extras.mk (0:Int) (0:Int) (0:Int) (0:Int) (0:Int)) (0:Int) (0:Int),()) else bW (s,l,n,r1,b0,b1,b2,b3,b4,b5,b6,b7,bx,sx,()) else bif true&&true&&true then bif r24 then bif r21 then bW (s,l,n,r1,b0,b1,b2,b3,b4,b5,b6,b7,bx,sx++r26,()) else Sum.inr ((4:Int),Mir.Book.mk (0:Int) [] [] (Mir.Extras.mk (0:Int) (0:Int) (0:Int) (0:Int) (0:Int)) (0:Int) (0:Int),()) else Sum.inr ((4:Int),Mir.Book.mk (0:Int) [] [] (Mir.Extras.mk (0:Int) (0:Int) (0:Int) (0:Int) (0:Int)) (0:Int) (0:Int),()) else bif true then bif r24 then bif r21 then bW (s,l,n,r1,b0,b1,b2,b3,b4,b5,b6,b7,bx,sx++r26,()) else Sum.inr ((4:Int),Mir.Book.mk (0:Int) [] [] (Mir.Extras.mk (0:Int) (0:Int) (0:Int) (0:Int) (0:Int)) (0:Int) (0:Int),()) else Sum.inr ((4:Int),Mir.Book.mk (0:Int) [] [] (Mir.Extras.mk (0:Int) (0:Int) (0:Int) (0:Int) (0:Int)) (0:Int) (0:Int),()) else bif r3 then bif r20 then Sum.inl (dflt (Ty.str.prod (I.prod (I.prod (I.prod (I.prod (I.prod (I.prod (I.prod (I.prod ((Ty.nm Nm.Box).slice.prod ((Ty.nm Nm.Strip).slice.prod Ty.unit)))))))))))) else Sum.inl (dflt (Ty.str.prod (I.prod (I.prod (I.prod (I.prod (I.prod (I.prod (I.prod (I.prod ((Ty.nm Nm.Box).slice.prod ((Ty.nm Nm.Strip).slice.prod Ty.unit)))))))))))) else Sum.inl (dflt (Ty.str.prod (I.prod (I.prod (I.prod (I.prod (I.prod (I.prod (I.prod (I.prod ((Ty.nm Nm.Box).slice.prod ((Ty.nm Nm.Strip).slice.prod Ty.unit)))))))))))) else bif true then bif r23 then bif r7.1 then bif r8 then Sum.inr ((4:Int),Mir.Book.mk (0:Int) [] [] (Mir.Extras.mk (0:Int) (0:Int) (0:Int) (0:Int) (0:Int)) (0:Int) (0:Int),()) else bW (s,l,n,r1,b0,b1,b2,b3,b4,b5,b6,b7,bx++r25,sx,()) else bif r8 then Sum.inr ((4:Int),Mir.Book.mk (0:Int) [] [] (Mir.Extras.mk (0:Int) (0:Int) (0:Int) (0:Int) (0:Int)) (0:Int) (0:Int),()) else bW (s,l,n,r1,b0,b1,b2,b3,b4,b5,b6,b7,bx,sx,()) else bif true&&true&&true then bif r24 then bif r21 then bW (s,l,n,r1,b0,b1,b2,b3,b4,b5,b6,b7,bx,sx++r26,()) else Sum.inr ((4:Int),Mir.Book.mk (0:Int) [] [] (Mir.Extras.mk (0:Int) (0:Int) (0:Int) (0:Int) (0:Int)) (0:Int) (0:Int),()) else Sum.inr ((4:Int),Mir.Book.mk (0:Int) [] [] (Mir.Extras.mk (0:Int) (0:Int) (0:Int) (0:Int) (0:Int)) (0:Int) (0:Int),()) else bif true then bif r24 then bif r21 then bW (s,l,n,r1,b0,b1,b2,b3,b4,b5,b6,b7,bx,sx++r26,()) else Sum.inr ((4:Int),Mir.Book.mk (0:Int) [] [] (Mir.Extras.mk (0:Int) (0:Int) (0:Int) (0:Int) (0:Int)) (0:Int) (0:Int),()) else Sum.inr ((4:Int),Mir.Book.mk (0:Int) [] [] (Mir.Extras.mk (0:Int) (0:Int) (0:Int) (0:Int) (0:Int)) (0:Int) (0:Int),()) else bif r3 then bif r20 then Sum.inl (dflt (Ty.str.prod (I.prod (I.prod (I.prod (I.prod (I.prod (I.prod (I.prod (I.prod ((Ty.nm Nm.Box).slice.prod ((Ty.nm Nm.Strip).slice.prod Ty.unit)))))))))))) else Sum.inl (dflt (Ty.str.prod (I.prod (I.prod (I.prod (I.prod (I.prod (I.prod (I.prod (I.prod ((Ty.nm Nm.Box).slice.prod ((Ty.nm Nm.Strip).slice.prod Ty.unit)))))))))))) else Sum.inl (dflt (Ty.str.prod (I.prod (I.prod (I.prod (I.prod (I.prod (I.prod (I.prod (I.prod ((Ty.nm Nm.Box).slice.prod ((Ty.nm Nm.Strip).slice.prod Ty.unit)))))))))))) else bif r3 then bif r15 then Sum.inl (dflt (Ty.str.prod (I.prod (I.prod (I.prod (I.prod (I.prod (I.prod (I.prod (I.prod ((Ty.nm Nm.Box).slice.prod ((Ty.nm Nm.Strip).slice.prod Ty.unit)))))))))))) else Sum.inl (dflt (Ty.str.prod (I.prod (I.prod (I.prod (I.prod (I.prod (I.prod (I.prod (I.prod ((Ty.nm Nm.Box).slice.prod ((Ty.nm Nm.Strip).slice.prod Ty.unit)))))))))))) else Sum.inl (dflt (Ty.str.prod (I.prod (I.prod (I.prod (I.prod (I.prod (I.prod (I.prod (I.prod ((Ty.nm Nm.Box).slice.prod ((Ty.nm Nm.Strip).slice.prod Ty.unit)))))))))))) else bif i ==(0:Int) then bif r18 then Sum.inl (dflt (Ty.str.prod (I.prod (I.prod (I.prod (I.prod (I.prod (I.prod (I.prod (I.prod ((Ty.nm Nm.Box).slice.prod ((Ty.nm Nm.Strip).slice.prod Ty.unit)))))))))))) else Sum.inl (dflt (Ty.str.prod (I.prod (I.prod (I.prod (I.prod (I.prod (I.prod (I.prod (I.prod ((Ty.nm Nm.Box).slice.prod ((Ty.nm Nm.Strip).slice.prod Ty.unit)))))))))))) else Sum.inl (dflt (Ty.str.prod (I.prod (I.prod (I.prod (I.prod (I.prod (I.prod (I.prod (I.prod ((Ty.nm Nm.Box).slice.prod ((Ty.nm Nm.Strip).slice.prod Ty.unit)))))))))))) else Sum.inl (s,b0,b1,b2,b3,b4,b5,b6,b7,bx,sx,()))=bW (s,l,n,i,b0,b1,b2,b3,b4,b5,b6,b7,bx,sx,()))
 intro r1 r2 r3 r4 r5 r6 r7 r8 r9 r10 r11 r12 r13 r14 r15 r16 r17 r18 r19 r20 r21 r22 r23 r24 r25 r26
 clear_value (hr1:r1=_) (hr2:r2=_) (hr3:r3=_) (hr4:r4=_) (hr5:r5=_) (hr6:r6=_) (hr7:r7=_) (hr8:r8=_) (hr9:r9=_) (hr10:r10=_) (hr11:r11=_) (hr12:r12=_) (hr13:r13=_) (hr14:r14=_) (hr15:r15=_) (hr16:r16=_) (hr17:r17=_) (hr18:r18=_) (hr19:r19=_) (hr20:r20=_) (hr21:r21=_) (hr22:r22=_) (hr23:r23=_) (hr24:r24=_) (hr25:r25=_) (hr26:r26=_)
 obtain ⟨⟨h1,h1b⟩,⟨h2,h3⟩,h4⟩:=hi
 have h1:n =(l.length:Int):=h1
 have h1b:Cv l:=h1b
 have h2:0≤i:=h2
 have h3:i≤n:=h3
 have h4:jI i.toNat (mkB b0 b1 b2 b3 b4 b5 b6 b7 bx sx):=h4
 have hf:=h1b.1
 by_cases h:i<n
 ·have e1:r1=i+1:=by rw [hr1];exact wrap64 (by omega) (by omega)
  have hd:l.drop i.toNat=l.getD i.toNat (dflt Ty.str)::l.drop (i+1).toNat:=aL h2 (by omega) _
  have hm:l.getD i.toNat (dflt Ty.str)∈l:=List.mem_of_mem_drop (i:=i.toNat) (by rw [hd];exact List.mem_cons_self)
  have hz:ByteArray.size (l.getD i.toNat (dflt Ty.str))≤20000:=h1b.2 _ hm
  generalize l.getD i.toNat (dflt Ty.str)=x at *
  have e2:r2=wdR x:=hr2
  have hw:a8 r2≤20001:=by
   rw [e2];unfold wdR;rw [oM]
   exact Nat.succ_le_succ hz
  have hl2:=cu r2
  have hp:0<r2.length:=by rw [e2];exact rn _ _
  clear hr2
  obtain ⟨z,m,ezm⟩ :∃ z m,r2=z::m:=by
   cases r2 with
   | nil=>exact absurd hp (Nat.lt_irrefl 0)
   | cons z m=>exact ⟨z,m,rfl⟩
  subst ezm
  have hm4:r4 =(m.length:Int)+1:=hr4
  have hwm:a8 m≤20100:=by rw [cm] at hw;omega
  have e8:r9=z::m:=by rw [hr9,hr4,Int.toNat_natCast,List.take_length]
  have e10:r12=okO (aG m):=by rw [hr12,hr11,e8];rfl
  have e6:r7=okO (aG (m.take 2)):=by rw [hr7,hr6];rfl
  have e14:r17=okO (aG [m.getD 0 ⟨#[]⟩,m.getD 2 ⟨#[]⟩]):=by rw [hr17,hr16];rfl
  have e5:r5=m.getD 1 ⟨#[]⟩:=hr5
  have l11:r11.length≤1000000:=by rw [hr11,e8];show m.length≤1000000;have:=cu m;omega
  have l6:r6.length≤1000000:=by rw [hr6];show ((m.take 2)).length≤1000000;rw [List.length_take];omega
  have l16:r16.length≤1000000:=by rw [hr16];show 2≤1000000;omega
  have b9 :(r4==9) =(m.length==8):=by rw [hm4,Bool.eq_iff_iff];simp;omega
  have b3':decide (r4≥3)=decide (m.length≥2):=by rw [hm4,Bool.eq_iff_iff];simp;omega
  have b4':decide (r4≥4)=decide (m.length≥3):=by rw [hm4,Bool.eq_iff_iff];simp;omega
  have e19:r22 =(i==0&&z.toList==bookV.toList&&m.length==8):=by
   have:r18 =(z.toList==bookV.toList):=hr18
   rw [hr22,b9,this]
   cases i==0 <;> cases z.toList==bookV.toList <;> rfl
  have e20:r23 =(decide (i>0)&&z.toList==boxV.toList&&decide (m.length≥2)):=by
   have:r15 =(z.toList==boxV.toList):=hr15
   rw [hr23,b3',this,hr3]
   cases decide (i>0) <;> cases z.toList==boxV.toList <;> rfl
  have e21:r24 =(decide (i>0)&&z.toList==stripV.toList&&decide (m.length≥3)):=by
   have:r20 =(z.toList==stripV.toList):=hr20
   rw [hr24,b4',this,hr3]
   cases decide (i>0) <;> cases z.toList==stripV.toList <;> rfl
  have k19:r22=true→m.length=8:=fun h=>by
   rw [e19,Bool.and_eq_true] at h
   exact eq_of_beq h.2
  have k20:r23=true→2≤m.length:=fun h=>by
   rw [e20,Bool.and_eq_true] at h
   exact of_decide_eq_true h.2
  have k21:r24=true→3≤m.length:=fun h=>by
   rw [e21,Bool.and_eq_true] at h
   exact of_decide_eq_true h.2
  have tk:ef i (mkB b0 b1 b2 b3 b4 b5 b6 b7 bx sx) (z::m)=if r22=true then c7 (mkB b0 b1 b2 b3 b4 b5 b6 b7 bx sx) m else if r23=true then cZ (mkB b0 b1 b2 b3 b4 b5 b6 b7 bx sx) m else if r24=true then cA (mkB b0 b1 b2 b3 b4 b5 b6 b7 bx sx) m else none:=by
   rw [e19,e20,e21];rfl
  have step:bW (s,l,n,i,b0,b1,b2,b3,b4,b5,b6,b7,bx,sx,())=match ef i (mkB b0 b1 b2 b3 b4 b5 b6 b7 bx sx) (z::m) with|none=>(.inr (4,Mir.Book.zero,()):ORp)|some c=>wg s (dA ((l.drop (i+1).toNat).map wdR) (i+1) c):=by
   show wg s (dA ((l.drop i.toNat).map wdR) i (mkB b0 b1 b2 b3 b4 b5 b6 b7 bx sx))=_
   rw [hd,List.map_cons,←e2]
   show wg s ((ef i (mkB b0 b1 b2 b3 b4 b5 b6 b7 bx sx) (z::m)).bind (dA ((l.drop (i+1).toNat).map wdR) (i+1)))=_
   cases ef i (mkB b0 b1 b2 b3 b4 b5 b6 b7 bx sx) (z::m) <;> rfl
  have ei :(i+1).toNat=i.toNat+1:=by omega
  have hmu :(n - (i+1)).toNat <(n - i).toNat:=by omega
  have hd0 :∀ v,aG m=some v→m.length=8→c7 (mkB b0 b1 b2 b3 b4 b5 b6 b7 bx sx) m=some (HH (mkB b0 b1 b2 b3 b4 b5 b6 b7 bx sx) v):=fun v hv hl=>by
   unfold c7
   rw [if_neg (by omega),List.take_of_length_le (by omega),hv]
   rfl
  have hd1 :∀ v,aG (m.take 2)=some v→2≤m.length→cZ (mkB b0 b1 b2 b3 b4 b5 b6 b7 bx sx) m=some (NO (mkB b0 b1 b2 b3 b4 b5 b6 b7 bx sx) v (m.drop 2)):=fun v hv hl=>by
   unfold cZ
   rw [if_neg (by omega),hv]
   rfl
  have hd2 :∀ v,aG [m.getD 0 ⟨#[]⟩,m.getD 2 ⟨#[]⟩]=some v→aW (m.getD 1 ⟨#[]⟩)=0→3≤m.length→cA (mkB b0 b1 b2 b3 b4 b5 b6 b7 bx sx) m=some (Dj (mkB b0 b1 b2 b3 b4 b5 b6 b7 bx sx) v (bG (m.getD 1 ⟨#[]⟩)) (m.drop 3)):=fun v hv hk hl=>by
   unfold cA
   rw [if_neg (by omega),hv,Option.bind_some,hk]
   rfl
  have e22 :∀ v,r7 =(true,v,())→r25=[⟨v.getD 0 0,v.getD 1 0,m.drop 2⟩]:=fun v hv=>by rw [hr25,hv,e8];rfl
  have e23 :∀ v,r17 =(true,v,())→r26=[⟨v.getD 0 0,m.drop 3,bG (m.getD 1 ⟨#[]⟩),v.getD 1 0⟩]:=fun v hv=>by rw [hr26,hv,e8,e5];rfl
  have e18:r21 =(r17.1&&aW (m.getD 1 ⟨#[]⟩)==0):=by rw [hr21,e5];cases r17.1 <;> rfl
  have hbx:bx.length≤i.toNat:=h4.1.1
  have hsx:sx.length≤i.toNat:=h4.1.2
  rw [decide_eq_true h,step,tk,e1]
  clear hr1 hr3 hr6 hr11 hr16 hr5 hr7 hr9 hr12 hr15 hr17 hr18 hr20 hr21 hr22 hr23 hr24 hr25 hr26 tk step e19 e20 e21 b9 b3' b4' e2 hd hm
  refine ⟨⟨fun _=>⟨⟨h2,by omega⟩,Nat.le_trans hz (by decide),⟨fun _=>⟨⟨Int.le_refl _,by omega⟩,fun _=>trivial,fun _=>trivial⟩,fun _=>trivial⟩,fun _=>⟨fun h19=>?_,fun h19=>⟨⟨fun _=>⟨⟨Int.le_refl _,by omega⟩,fun _=>trivial,fun _=>trivial⟩,fun _=>trivial⟩,fun _=>⟨fun h20=>?_,fun h20=>⟨⟨fun _=>⟨⟨Int.le_refl _,by omega⟩,fun _=>trivial,fun _=>trivial⟩,fun _=>trivial⟩,fun _=>⟨fun h21=>?_,fun _=>trivial⟩⟩⟩⟩⟩⟩,fun z=>Bool.noConfusion z⟩,?_⟩
  ·have hl:=k19 h19
   cases hI:aG m with
   | none=>
    have e10n:r12 =(false,[],()):=by rw [e10,hI];rfl
    rw [e10n] at hr13
    have e11:r13=true:=hr13
    rw [e10n,e11]
    exact ⟨⟨by decide,by omega,Int.le_refl _⟩,l11,⟨fun z=>Bool.noConfusion z,fun _=>trivial⟩,fun _=>⟨fun _=>trivial,fun z=>Bool.noConfusion z⟩⟩
   | some v=>
    have hv:=jK hI
    have e10n:r12 =(true,v,()):=by rw [e10,hI];rfl
    have e12:r14=8:=by rw [hr14,e10n];show (v.length:Int)=8;omega
    have hfw:=Hq h4 (hd0 v hI hl)
    rw [←ei] at hfw
    rw [e10n,e12]
    refine ⟨⟨by decide,by omega,Int.le_refl _⟩,l11,⟨fun _=>⟨by decide,by decide,by decide,by decide,by decide,by decide,by decide,by decide,trivial⟩,fun z=>Bool.noConfusion z⟩,fun _=>⟨fun _=>trivial,fun _=>⟨⟨⟨h1,h1b⟩,⟨?_,?_⟩,hfw⟩,hmu⟩⟩⟩
    ·show 0≤i+1;omega
    ·show i+1≤n;omega
  ·have hl:=k20 h20
   cases hI:aG (m.take 2) with
   | none=>
    have e6n:r7 =(false,[],()):=by rw [e6,hI];rfl
    rw [e6n] at hr8
    have e7:r8=true:=hr8
    rw [e6n,e7]
    exact ⟨⟨by decide,by decide,by omega⟩,l6,fun z=>Bool.noConfusion z,fun _=>⟨fun _=>trivial,fun z=>Bool.noConfusion z⟩⟩
   | some v=>
    have hv:=jK hI
    have hv2 :(m.take 2).length=2:=by rw [List.length_take];omega
    have e6n:r7 =(true,v,()):=by rw [e6,hI];rfl
    have e9:r10=2:=by rw [hr10,e6n];show (v.length:Int)=2;omega
    have hfw:=Hp h4 hwm (hd1 v hI hl)
    rw [←ei] at hfw
    rw [e22 v e6n,e6n,e9]
    refine ⟨⟨by decide,by decide,by omega⟩,l6,fun _=>⟨by decide,by decide,⟨by decide,by omega,Int.le_refl _⟩,?_,fun _=>trivial,fun _=>⟨⟨⟨h1,h1b⟩,⟨?_,?_⟩,hfw⟩,hmu⟩⟩,fun z=>Bool.noConfusion z⟩
    ·show (bx.length+1)*40≤70368744177664;omega
    ·show 0≤i+1;omega
    ·show i+1≤n;omega
  ·have hl:=k21 h21
   refine ⟨⟨by decide,by omega⟩,⟨by decide,by omega⟩,l16,⟨by decide,by omega⟩,fun h18=>?_,fun _=>trivial⟩
   rw [e18,Bool.and_eq_true] at h18
   obtain ⟨h14,hk⟩:=h18
   have hk:aW (m.getD 1 ⟨#[]⟩)=0:=eq_of_beq hk
   cases hI:aG [m.getD 0 ⟨#[]⟩,m.getD 2 ⟨#[]⟩] with
   | none=>rw [e14,hI] at h14;exact Bool.noConfusion h14
   | some v=>
    have hv:=jK hI
    have e14n:r17 =(true,v,()):=by rw [e14,hI];rfl
    have e16:r19=2:=by rw [hr19,e14n];show (v.length:Int)=2;exact congrArg Int.ofNat hv
    have hfw:=Hr h4 hwm (hd2 v hI hk hl)
    rw [←ei] at hfw
    rw [e23 v e14n,e16]
    refine ⟨by decide,by decide,⟨by decide,by omega,Int.le_refl _⟩,?_,⟨⟨h1,h1b⟩,⟨?_,?_⟩,hfw⟩,hmu⟩
    ·show (sx.length+1)*48≤70368744177664;omega
    ·show 0≤i+1;omega
    ·show i+1≤n;omega
  ·cases h19:r22 with
   | true=>
    have hl:=k19 h19
    rw [if_pos rfl]
    cases hI:aG m with
    | none=>
     have e10n:r12 =(false,[],()):=by rw [e10,hI];rfl
     rw [e10n] at hr13
     have e11:r13=true:=hr13
     have eT:c7 (mkB b0 b1 b2 b3 b4 b5 b6 b7 bx sx) m=none:=by unfold c7;rw [if_neg (by omega),List.take_of_length_le (by omega),hI];rfl
     rw [e11,eT]
     rfl
    | some v=>
     have e10n:r12 =(true,v,()):=by rw [e10,hI];rfl
     rw [e10n] at hr13
     have e11:r13=false:=hr13
     rw [e11,e10n,hd0 v hI hl]
     rfl
   | false=>
    rw [if_neg (by decide)]
    cases h20:r23 with
    | true=>
     have hl:=k20 h20
     rw [if_pos rfl]
     cases hI:aG (m.take 2) with
     | none=>
      have e6n:r7 =(false,[],()):=by rw [e6,hI];rfl
      rw [e6n] at hr8
      have e7:r8=true:=hr8
      have eT:cZ (mkB b0 b1 b2 b3 b4 b5 b6 b7 bx sx) m=none:=by unfold cZ;rw [if_neg (by omega),hI];rfl
      rw [e6n,e7,eT]
      rfl
     | some v=>
      have e6n:r7 =(true,v,()):=by rw [e6,hI];rfl
      rw [e6n] at hr8
      have e7:r8=false:=hr8
      rw [e22 v e6n,e6n,e7,hd1 v hI hl]
      rfl
    | false=>
     rw [if_neg (by decide)]
     cases h21:r24 with
     | true=>
      have hl:=k21 h21
      rw [if_pos rfl]
      cases hI:aG [m.getD 0 ⟨#[]⟩,m.getD 2 ⟨#[]⟩] with
      | none=>
       have e14n:r17 =(false,[],()):=by rw [e14,hI];rfl
       have e18n:r21=false:=by rw [e18,e14n];rfl
       have eT:cA (mkB b0 b1 b2 b3 b4 b5 b6 b7 bx sx) m=none:=by unfold cA;rw [if_neg (by omega),hI];rfl
       rw [e18n,eT]
       rfl
      | some v=>
       have e14n:r17 =(true,v,()):=by rw [e14,hI];rfl
       cases hk:aW (m.getD 1 ⟨#[]⟩)==0 with
       | true=>
        have e18n:r21=true:=by rw [e18,e14n,hk];rfl
        rw [e18n,e23 v e14n,hd2 v hI (eq_of_beq hk) hl]
        rfl
       | false=>
        have e18n:r21=false:=by rw [e18,e14n,hk];rfl
        have eT:cA (mkB b0 b1 b2 b3 b4 b5 b6 b7 bx sx) m=none:=by
         unfold cA
         rw [if_neg (by omega),hI,Option.bind_some]
         have :(aW (m.getD 1 ⟨#[]⟩) != 0)=true:=by unfold bne;rw [hk];rfl
         rw [if_pos this]
        rw [e18n,eT]
        rfl
     | false=>
      rw [if_neg (by decide)]
      rfl
 ·rw [decide_eq_false h]
  refine ⟨⟨fun z=>Bool.noConfusion z,fun _=>trivial⟩,?_⟩
  show _=wg s (dA ((l.drop i.toNat).map wdR) i (mkB b0 b1 b2 b3 b4 b5 b6 b7 bx sx))
  rw [aF (l:=l) (by omega)]
  rfl
noncomputable def No:LoopSum:=ah lpRp bW oq
noncomputable def MI:Nat:=rid (ao Tryz.f18 0)
theorem OU:LoopOKp Tryz.prog 0 Tryz.f18.ntmps (ao Tryz.f18 0) (ah lpRp bW oq):=
 ax lpRp (an (.consU sO rfl (.consU AH rfl (.consU SD rfl .nil))) _) mixed (fun b hb S hS=>by cases hS) bW oq sH (fun |⟨s,l,n,i,b0,b1,b2,b3,b4,b5,b6,b7,bx,sx,⟨⟩⟩,hi=>Qb s l n i b0 b1 b2 b3 b4 b5 b6 b7 bx sx hi)
theorem u6 :∀ (L:List ByteArray) (n:Nat) (i:Int) (b c:Mir.Book),(∀ x∈L,x.size≤20000)→jI n b→dA (L.map wdR) i b=some c→jI (n+L.length) c
 | [],n,i,b,c,_,hb,h=>by cases h;exact hb
 | x::L,n,i,b,c,hL,hb,h=>by
  have h :(ef i b (wdR x)).bind (dA (L.map wdR) (i+1))=some c:=h
  cases hT:ef i b (wdR x) with
  | none=>rw [hT] at h;cases h
  | some d=>
   rw [hT] at h
   have hx:=hL x List.mem_cons_self
   have hw:a8 (wdR x)≤20100:=by
    unfold wdR
    rw [oM]
    omega
   have hd:jI (n+1) d:=by
    cases hz:wdR x with
    | nil=>rw [hz] at hT;cases hT
    | cons z m=>
     rw [hz] at hT hw
     rw [cm] at hw
     have hT :(if i==0&&z.toList==bookV.toList&&m.length==8 then c7 b m else if decide (i>0)&&z.toList==boxV.toList&&decide (m.length≥2) then cZ b m else if decide (i>0)&&z.toList==stripV.toList&&decide (m.length≥3) then cA b m else none)=some d:=hT
     split at hT
     ·exact Hq hb hT
     split at hT
     ·exact Hp hb (by omega) hT
     split at hT
     ·exact Hr hb (by omega) hT
     ·cases hT
   have:=u6 L (n+1) (i+1) d c (fun y hy=>hL y (List.mem_cons_of_mem _ hy)) hd h
   rw [List.length_cons]
   have e:n +(L.length+1)=n+1+L.length:=by omega
   rw [e]
   exact this
theorem Be (s:ByteArray) (hs:s.size≤20000) :(evPat (aA [pB,zT] Tryz.f18) (find [(MI,No)]) Tryz.f18 qPn A2 (s,())).sat fun z_=>z_ =(yx (s,())).2:=by
 refine cast (by kernel_rfl) (?_:let r1:Int:=(↑(bX s (UInt8.ofNat (Int.toNat (10:Int)))).length:Int);let r2:Int:=IntKind.i64.wrap (r1 - (1:Int));let r3:List ByteArray:=List.drop (Int.toNat (0:Int)) (List.take r2.toNat (bX s (UInt8.ofNat (Int.toNat (10:Int)))));let r4:Int:=(↑r3.length:Int);let r5:Bool:=isL (bW (s,r3,r4,(0:Int),(0:Int),(0:Int),(0:Int),(0:Int),(0:Int),(0:Int),(0:Int),(0:Int),[],[],()));let r6:Int×Mir.Book×PUnit:=gA (dflt (I.prod ((Ty.nm Nm.Book).prod Ty.unit))) (bW (s,r3,r4,(0:Int),(0:Int),(0:Int),(0:Int),(0:Int),(0:Int),(0:Int),(0:Int),(0:Int),[],[],()));let r7:ByteArray×Int×Int×Int×Int×Int×Int×Int×Int×List Mir.Box×List Mir.Strip×PUnit:=gz (dflt (Ty.str.prod (I.prod (I.prod (I.prod (I.prod (I.prod (I.prod (I.prod (I.prod ((Ty.nm Nm.Box).slice.prod ((Ty.nm Nm.Strip).slice.prod Ty.unit)))))))))))) (bW (s,r3,r4,(0:Int),(0:Int),(0:Int),(0:Int),(0:Int),(0:Int),(0:Int),(0:Int),(0:Int),[],[],()));let r8:Mir.Book:=Mir.Book.mk r7.2.1 r7.2.2.2.2.2.2.2.2.2.1 r7.2.2.2.2.2.2.2.2.2.2.1 (Mir.Extras.mk r7.2.2.1 r7.2.2.2.1 r7.2.2.2.2.1 r7.2.2.2.2.2.1 r7.2.2.2.2.2.2.1) r7.2.2.2.2.2.2.2.1 r7.2.2.2.2.2.2.2.2.1;let r9:ByteArray×Int:=aR r8;let r10:Bool:=bif r9.2 !=(0:Int) then true else !r9.1.toList==r7.1.toList;s.size≤(1000000:Nat)∧((0:Int)≤(0:Int)∧(0:Int)≤r2∧r2≤r1)∧((cY fun x=>none)∧(r4 =(↑r3.length:Int)∧Cv r3)∧((0:Int)≤(0:Int)∧(0:Int)≤r4)∧jI (Int.toNat (0:Int)) (mkB (0:Int) (0:Int) (0:Int) (0:Int) (0:Int) (0:Int) (0:Int) (0:Int) [] []))∧(r5=true→BH r8∧(r10=true→(Mir.Book.mk (0:Int) [] [] (Mir.Extras.mk (0:Int) (0:Int) (0:Int) (0:Int) (0:Int)) (0:Int) (0:Int),(4:Int),()) =((bR s).1,(bR s).2,()))∧(r10=false→(r8,(0:Int),()) =((bR s).1,(bR s).2,())))∧(r5=false→(r6.2.1,r6.1,()) =((bR s).1,(bR s).2,())))
 intro r1 r2 r3 r4 r5 r6 r7 r8 r9 r10
 clear_value (hr1:r1=_) (hr2:r2=_) (hr3:r3=_) (hr4:r4=_) (hr5:r5=_) (hr6:r6=_) (hr7:r7=_) (hr8:r8=_) (hr9:r9=_) (hr10:r10=_)
 have hc:=uT s 10
 have hc0:=rn s 10
 have e1:r1 =((bX s 10).length:Int):=hr1
 have e2:r2=r1 - 1:=by rw [hr2];exact wrap64 (by omega) (by omega)
 have e3:r3 =(bX s 10).dropLast:=by
  rw [hr3,List.dropLast_eq_take]
  show (bX s 10).take r2.toNat=_
  congr 1
  omega
 have hl3:r3.length =(bX s 10).length - 1:=by rw [e3,List.length_dropLast]
 have hx3 :∀ x∈r3,x.size≤20000:=fun x hx=>by
  rw [e3] at hx
  exact Nat.le_trans (hc.2 x (List.dropLast_subset _ hx)) hs
 have f0:jI 0 Mir.Book.zero:=⟨⟨Nat.le_refl _,Nat.le_refl _⟩,(fun x hx=>by cases hx),fun x hx=>by cases hx⟩
 have er:bW (s,r3,r4,0,0,0,0,0,0,0,0,0,[],[],())=wg s (dA (r3.map wdR) 0 Mir.Book.zero):=rfl
 have eP:bR s=rv s (dA (r3.map wdR) 0 Mir.Book.zero):=by rw [e3];rfl
 rw [er] at hr5 hr6 hr7
 rw [eP]
 refine ⟨Nat.le_trans hs (by decide),⟨Int.le_refl _,by omega,by omega⟩,⟨rfl,⟨hr4,⟨by omega,hx3⟩⟩,⟨Int.le_refl _,by omega⟩,f0⟩,fun h5=>?_,fun h5=>?_⟩
 ·cases hF:dA (r3.map wdR) 0 Mir.Book.zero with
  | none=>rw [hr5,hF] at h5;exact Bool.noConfusion h5
  | some b=>
   have hf:=u6 _ 0 _ _ _ hx3 f0 hF
   obtain ⟨⟨g1,g2⟩,g3,g4⟩:=hf
   have e7:r7=stB s b:=by rw [hr7,hF];rfl
   have e8:r8=b:=by rw [hr8,e7];rfl
   have e10:r10 =((aR b).2 != 0 ||(aR b).1.toList != s.toList):=by
    rw [hr10,hr9,e8,e7]
    cases (aR b).2 != 0 <;> rfl
   have eO:rv s (some b)=if r10=true then (Mir.Book.zero,4) else (b,0):=by rw [e10];rfl
   rw [eO,e8]
   refine ⟨⟨⟨by omega,by omega⟩,g3,g4⟩,fun h10=>?_,fun h10=>?_⟩
   ·rw [if_pos h10];rfl
   ·rw [if_neg (by rw [h10];decide)]
 ·cases hF:dA (r3.map wdR) 0 Mir.Book.zero with
  | some b=>rw [hr5,hF] at h5;exact Bool.noConfusion h5
  | none=>
   have e6:r6 =(4,Mir.Book.zero,()):=by rw [hr6,hF];rfl
   rw [e6]
   rfl
def vK:FuncId×Ctr:=(18,ag KE qPn A2 yx)
theorem CC:CtrOK Tryz.prog KE 18 (ag KE qPn A2 yx):=by
 refine aZ (C:=aA [pB,zT] Tryz.f18) (an (.consU sO rfl (.consU F4 rfl .nil)) _) mixed (fn:=Tryz.f18) Tryz.func18 (by kernel_rfl) (by kernel_rfl) (by kernel_rfl) (by kernel_rfl) (by kernel_rfl) (by kernel_rfl) (Λ:=fun x=>find [(MI,No)]) ?_ ?_
 ·rintro ⟨s,⟨⟩⟩ hw hn
  exact LoopsOKp.at (by kernel_rfl) (.cons (by kernel_rfl) (OU) .nil)
 ·rintro ⟨s,⟨⟩⟩ hw hn
  exact Be s (hn _ List.mem_cons_self)
end Go.Proofs.YtffdpnmioidloaaGreatDoor
namespace Go.Proofs.YtffdpnmioidloaaGreatDoor
open Go Go.Mir Go.RowKit
attribute [local irreducible] Go.Mir.DT.sat Go.Mir.evPat Go.Mir.RT.sat Go.Mir.evFn
abbrev qSS:Pat:=dG [.str,.str]
def MU:Den (tyP qSS)→List Prop×Den (tyP bs):=fun _=>([],(true,()))
theorem yw (s:ByteArray) (t:ByteArray) :(evPat (aA [vM,zQ,vK,D6,zS] Tryz.f4) (fun _=>none) Tryz.f4 qSS bs (s,t,())).sat fun z_=>z_ =(MU (s,t,())).2:=by
 refine cast (by kernel_rfl) (?_:let r1:Int:=if (400:Int) <(↑s.size:Int) then (400:Int) else (↑s.size:Int);let r2:Int:=if (400:Int) <(↑t.size:Int) then (400:Int) else (↑t.size:Int);let r3:ByteArray:=s.extract (Int.toNat (0:Int)) r1.toNat;let r4:ByteArray:=t.extract (Int.toNat (0:Int)) r2.toNat;let r5:Mir.Book×Int:=dE r3;let r6:Mir.Book×Int:=bR r3;let r7:Bool:=mi r5.1 (bR r4).1;((!true)=true→(false,()) =(true,()))∧((!true)=false→((0:Int)≤(0:Int)∧(0:Int)≤r1∧r1≤(↑s.size:Int))∧((0:Int)≤(0:Int)∧(0:Int)≤r2∧r2≤(↑t.size:Int))∧r3.size≤(20000:Nat)∧r3.size≤(20000:Nat)∧r4.size≤(20000:Nat)∧(bif mi r5.1 r6.1 then bif r5.2==r6.2 then r7==r7 else false else false,()) =(true,())))
 intro r1 r2 r3 r4 r5 r6 r7
 clear_value (hr1:r1=_) (hr2:r2=_) (hr3:r3=_) (hr4:r4=_) (hr5:r5=_) (hr6:r6=_) (hr7:r7=_)
 have e1:0≤r1∧r1≤(s.size:Int)∧r1≤400:=by rw [hr1];split <;> omega
 have e2:0≤r2∧r2≤(t.size:Int)∧r2≤400:=by rw [hr2];split <;> omega
 have e3:r3.size≤20000:=by rw [hr3,ByteArray.size_extract];omega
 have e4:r4.size≤20000:=by rw [hr4,ByteArray.size_extract];omega
 have e6:r6=r5:=by rw [hr6,hr5];exact CI _
 refine ⟨fun h=>Bool.noConfusion h,fun _=>⟨⟨Int.le_refl _,e1.1,e1.2.1⟩,⟨Int.le_refl _,e2.1,e2.2.1⟩,e3,e3,e4,?_⟩⟩
 rw [e6,Gn,beq_self_eq_true,beq_self_eq_true]
 rfl
theorem AI:CtrOK Tryz.prog KE 4 (ag KE qSS bs MU):=by
 refine aZ (C:=aA [vM,zQ,vK,D6,zS] Tryz.f4) (an (.consU CE rfl (.consU F1 rfl (.consU CC rfl (.consU I7 rfl (.consU F3 rfl .nil))))) _) mixed (fn:=Tryz.f4) Tryz.func4 (by kernel_rfl) (by kernel_rfl) (by kernel_rfl) (by kernel_rfl) (by kernel_rfl) (by kernel_rfl) (Λ:=fun _ _=>none) ?_ ?_
 ·exact fun _ _ _ _ _ _ _ _ h=>by cases h
 ·rintro ⟨s,t,⟨⟩⟩ hw hn
  exact yw s t
end Go.Proofs.YtffdpnmioidloaaGreatDoor
namespace Go.Proofs.YtffdpnmioidloaaGreatDoor
open Go Go.ChangeShapes Go.WideShapes Go.ChangeAt Go.RowKit
theorem SG:ownKnob Tryz.prog.godebug=none:=by kernel_rfl
end Go.Proofs.YtffdpnmioidloaaGreatDoor
namespace Go.Proofs.YtffdpnmioidloaaGreatDoor
open Go Go.Mir Go.RowKit Go.Shelf Go.ChangeShapes Go.WideShapes Go.ChangeAt
theorem n3 {H:Type} {enc:TypeId×Value→H} {a:Assume} {C:Checked} {os:Os} {f:FuncId} {fn:Func} {s:ChangeSpec} {conds:List PathCond} {apart fresh handsOn again:Bool} {X:World→Array Value→Prop}
  (hX :∀ (w w':World) (args:Array Value),w.heap=w'.heap→X w args→X w' args)
  (own:ownKnob C.prog.godebug=none) (started:os.Started) (noInit:C.prog.inits.idxOf? f=none) (hfn:C.prog.funcs[f]?=some fn)
  (witness :∃ (w:World) (tape:Tape) (i:Input),w.os=os∧(w.forCall tape i).Shaped C.prog∧i.vars=[]∧Input.okWide C.prog (w.forCall tape i) .any w.heap.size f i∧
   ((s.pre enc C.prog fn conds apart (w.forCall tape i).memory i.args∧X (w.forCall tape i).memory i.args)∧sizedMet enc C.prog fn (OpenSpec.ofChange s) apart (w.forCall tape i).memory i.args)∧a.holds C.prog (lone (Frame.enter C.prog f i.args .normal) [] (w.forCall tape i)))
  (contract :∀ (W:World) (base:Nat) (args:Array Value) (ds gs:List (DataW H)) (before:List MemPlace),
   (∀ (j:Nat) t v,fn.params[j]?=some t→args[j]?=some v→Value.okWide C.prog W .any base t v)→
   DataW.Whole enc C.prog fn.params.toList s.vars apart W args.toList ds gs before→
   conds.all (PathCond.test C.prog ⟨fn.params.toList,ds,s.plain.varTypes C.prog,gs⟩)=true→
   (DataW.weightsEach C.prog (fn.params.toList++s.plain.varTypes C.prog) (ds++gs)).all (·≤reachBytes)=true→X W args→W.ShapedOpen C.prog→
   a.holds C.prog (lone (Frame.enter C.prog f args .normal) [] W)→
   Calls C.prog f args W fun e W'=>∃ v,e = .returned v∧s.post enc C.prog fn apart fresh handsOn again W args v W') :
  ReturnsInHanded a C os f .any (fun w args=>(s.pre enc C.prog fn conds apart w args∧X w args)∧sizedMet enc C.prog fn (OpenSpec.ofChange s) apart w args) (s.post enc C.prog fn apart fresh handsOn again):=by
 refine returnsInHanded_of_calls own started noInit witness ?_
 intro w tape i _ hsh _ hok hpre hholds
 obtain ⟨_,_,_,fn',hfn',_,_,_,_,hval⟩:=hok
 have e:fn'=fn:=Option.some.inj (hfn'.symm.trans hfn)
 subst e
 obtain ⟨⟨⟨ds,gs,before,hw,hc⟩,hx⟩,hz⟩:=hpre
 have hw':=DataW.Whole.of_heap (w':=w.forCall tape i) (by rfl) hw
 refine (contract (w.forCall tape i) w.heap.size i.args ds gs before hval hw' hc (hz.weights hw) (hX _ _ _ (by rfl) hx) hsh hholds).mono fun e W' ⟨v,he,hp⟩=>?_
 subst he
 exact ChangeSpec.post_blind hp
abbrev lz:List (String×DataW Unit):= [("math/bits.deBruijn32tab",Rows.laid_math_bits_deBruijn32tab),("math/bits.deBruijn64tab",Rows.laid_math_bits_deBruijn64tab),("internal/strconv.uint64pow10",Rows.laid_internal_strconv_uint64pow10),("unicode/utf8.acceptRanges",Rows.laid_unicode_utf8_acceptRanges),("strconv.ErrRange",Rows.laid_strconv_ErrRange),("strconv.ErrSyntax",Rows.laid_strconv_ErrSyntax),("unicode/utf8.first",Rows.laid_unicode_utf8_first)]
theorem H5 {w:World} (h:laidMetH Tryz.prog lz w):laidMet Tryz.prog lz w:=by
 have:=(laidMetH_iff.1 h).1
 exact this
theorem rh {w:World} {n:String} {g:Nat} (hg:Tryz.prog.globalNamed n=some g) {c:Array Value} (h:w.var? Tryz.prog n=some c) :∃ T fr,w.heap[g]?=some (.cells c T fr):=by
 unfold World.var? at h
 rw [hg] at h
 simp only [Option.bind_some] at h
 split at h
 ·rename_i c' T fr hh
  cases h
  exact ⟨_,_,hh⟩
 ·cases h
theorem RL : "*" ++ "errors.errorString" = "*errors.errorString":=by decide
theorem MT (u:TypeId) (h:Tryz.prog.typeName? 3 u=some "*errors.errorString"):u=325:=
 typeName_ptr_named (nm:="errors.errorString") (by rw [RL];kernel_rfl) (by kernel_rfl) (by decide) u (by rw [RL];exact h)
theorem JW {w:World} (h:laidMet Tryz.prog lz w):Lib.TabIs Tryz.prog w "internal/strconv.uint64pow10" .u64 Lib.pow10Tab:=
 Lib.tabIs_of_head (g:=0) (t:=298) (e:=197) (n:=20) (by kernel_rfl) (by kernel_rfl) Tryz.underlying298 Tryz.underlying197 (by kernel_rfl) (by kernel_rfl) h.tail.tail
theorem Gw {w:World} (h:laidMet Tryz.prog lz w) :∃ T fr te pe,w.heap[2]?=some (.cells #[.iface te pe] T fr):=by
 obtain ⟨a,s,hv,-,-,-⟩:=laid_sentinel (g:=2) (ti:=118) h.tail.tail.tail.tail.tail (by kernel_rfl) (by kernel_rfl) Tryz.underlying118 MT Tryz.underlying325 Tryz.underlying327 rfl rfl Tryz.underlying9 (by kernel_rfl) (by kernel_rfl)
 obtain ⟨T,fr,hb⟩:=rh (g:=2) (by kernel_rfl) hv
 exact ⟨T,fr,_,_,hb⟩
theorem Gc {w:World} (h:laidMet Tryz.prog lz w) :∃ T fr te pe,w.heap[3]?=some (.cells #[.iface te pe] T fr):=by
 obtain ⟨a,s,hv,-,-,-⟩:=laid_sentinel (g:=3) (ti:=118) h.tail.tail.tail.tail (by kernel_rfl) (by kernel_rfl) Tryz.underlying118 MT Tryz.underlying325 Tryz.underlying327 rfl rfl Tryz.underlying9 (by kernel_rfl) (by kernel_rfl)
 obtain ⟨T,fr,hb⟩:=rh (g:=3) (by kernel_rfl) hv
 exact ⟨T,fr,_,_,hb⟩
theorem jE {P:Program} {w:World} {g:Nat} {t:TypeId} {zero:Array Value} {k:IntKind}
  (h:w.ShapedOpen P) (hg:g<P.globals.size)
  (h0 :((begin P (fun _ _=>0) default).world.heap[g]?).bind Obj.row?=some (zero,t)) (hz:zero.size=1)
  (hb:P.buildable t=true) (hc:P.cellTypes P.depth t=some [t]) (hu:P.underlying t=some (.int k)) :
  ∃ m T fr,w.heap[g]?=some (.cells #[.int k m] T fr):=by
 obtain ⟨cs,hh,hs,hr⟩:=h.1 g zero t hg h0
 obtain ⟨ts,hts,_,hall⟩:=hr hb
 rw [hc] at hts
 cases hts
 have hs1:cs.size=1:=by omega
 have h1:0<cs.size:=by omega
 obtain ⟨u,hu',hok⟩:=hall 0 cs[0] (by simp [h1])
 have:u=t:=by simpa using hu'.symm
 subst this
 unfold Cell.ok at hok
 rw [hu] at hok
 have hcs:cs=#[cs[0]]:=by
  apply Array.ext
  ·simp [hs1]
  ·intro i h1 h2
   have:i=0:=by omega
   subst this
   rfl
 cases hv:cs[0] <;> rw [hv] at hok <;> simp at hok
 case int k' n=>
  refine ⟨n,u,(0,0),?_⟩
  rw [hh,hcs,hv,hok.1]
theorem KO {w:World} (h:laidMetH Tryz.prog lz w) (hs:w.ShapedOpen Tryz.prog):jz w fun _=>False:=by
 have h:=H5 h
 intro p hp
 refine ⟨?_,fun h=>h⟩
 unfold GL at hp
 simp only [List.mem_cons,List.not_mem_nil,or_false] at hp
 rcases hp with rfl|rfl|rfl|rfl
 ·have ht:=JW h
  unfold Lib.TabIs at ht
  obtain ⟨T,fr,hb⟩:=rh (g:=0) (by kernel_rfl) ht
  exact ⟨_,hb,T,fr,rfl⟩
 ·obtain ⟨m,T,fr,hb⟩:=jE (g:=1) (k:= .i64) (zero:=#[.int .i64 0]) (t:=3) hs (of_decide_eq_true (by kernel_rfl)) (by kernel_rfl) rfl (by kernel_rfl) (by kernel_rfl) Tryz.underlying3
  exact ⟨_,hb,m,T,fr,rfl⟩
 ·obtain ⟨T,fr,te,pe,hb⟩:=Gw h
  exact ⟨_,hb,te,pe,T,fr,rfl⟩
 ·obtain ⟨T,fr,te,pe,hb⟩:=Gc h
  exact ⟨_,hb,te,pe,T,fr,rfl⟩
end Go.Proofs.YtffdpnmioidloaaGreatDoor
namespace Go.Proofs.YtffdpnmioidloaaGreatDoor
open Go Go.ChangeShapes Go.WideShapes Go.ChangeAt Go.RowKit
theorem Fx (os:Os) (args:Array Value):laidMetH Tryz.prog lz ((World.laidAll Tryz.prog os lz).forCall (fun _ _=>0) ⟨#[],args,[]⟩).memory:=by
 rw [MakeChecks.laidMetH_plain _ _ _ (by kernel_rfl)]
 exact laidMet_laidAll _ (by kernel_rfl) (by kernel_rfl)
end Go.Proofs.YtffdpnmioidloaaGreatDoor
namespace Go.Mir
open Go.RowKit
variable {P:Program}
inductive PF where
 | dat
 | ptr
 | clo (g:FuncId)
end Go.Mir
namespace Go.Mir
open Go.RowKit Go.ChangeShapes Go.WideShapes
open Go.Proofs.YtffdpnmioidloaaGreatDoor.Rows (uptoBulk uptoBulkAll)
section
variable {H:Type} {enc:TypeId×Value→H} {P:Program} {w:World}
theorem Cs {K:Nat} {f:FuncId} {fn:Func} {c:Ctr} (hc:CtrOK P K f c) {ps:Ty} (hps:tp P fn.params.toList ps=true) (hgl:jz w fun _=>False)
  (h :∀ x:Den ps,wfD ps x→∃ ls,c (eQ ps x) (fun _=>none) 0=some (ls,.bool true,[])∧∀ p∈ls,p)
  {args:Array Value} {ds:List (DataW H)} {p:List MemPlace} (hA:DataW.TrodAll enc P w 0 (fun _=>true) true fn.params.toList args.toList ds p) (hval :∀ (j:Nat) t v,fn.params[j]?=some t→args[j]?=some v→∃ r b,Value.okWide P w r b t v)
  (hw :∀ m∈DataW.weightsEach P fn.params.toList ds,m≤au) :
  Calls P f args w fun e w'=>e = .returned (.bool true)∧Keeps w (fun _=>False) w':=by
 obtain ⟨x,k1,⟨cs,k2⟩,_,_,_⟩:=oU hA hps (fun j t v h1 h2=>hval j t v (by simpa using h1) (by simpa using h2)) hw
 obtain ⟨ls,e1,e2⟩:=h x ⟨_,_,_,k2⟩
 have hc:=hc.calls (L4 w hgl) (KA w) (Hl w hgl) _ _ k1 0 (fun n _ _ hu=>hu) ls _ _ e1 e2
 have e:args.toList.toArray=args:=by simp
 rw [e] at hc
 refine Calls.mono hc fun e w' hr=>?_
 obtain ⟨E',v',rfl,G,hv⟩:=hr
 simp only [aa] at hv
 subst hv
 refine ⟨rfl,?_⟩
 have:=G.rel.keeps
 rw [G.w] at this
 exact this
end
end Go.Mir
