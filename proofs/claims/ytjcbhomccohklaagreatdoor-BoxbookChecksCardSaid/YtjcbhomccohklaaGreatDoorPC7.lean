/- Texts of the mirror and contracts, put together. -/
import Derived.Test.YtjcbhomccohklaaGreatDoorPC6
import Derived.Laws.Externs
import Derived.Lib.Bytealg
import Derived.Test.YtjcbhomccohklaaGreatDoorPC3
import Derived.Test.YtjcbhomccohklaaGreatDoorPC5
import Derived.Test.YtjcbhomccohklaaGreatDoorTie
import Derived.SizedLaws
import Derived.LaidMore
import Derived.OpenShut
import Derived.ProofKit
import Derived.HandedShaped
import Derived.LaidSub
import Derived.Stop.LaidErr
import Derived.Lib.LaidTab
import Derived.Lay
import Derived.MakeChecks
import Derived.Test.YtjcbhomccohklaaGreatDoorPC2
namespace Go.Mir
section
open Go.RowKit
variable {P:Program}
theorem LR {g:FuncId} {fn:Func} {e:Array Value→Sem Value} (hf:P.funcs[g]?=some fn) (hname :(fn.name == "runtime.NumGoroutine")=false) (hb:fn.body.isNone=true) (hn:Extern.findNext fn=none) (he:Extern.find fn=some e) {args:List U} {u:U}
  (h :∀ (E:Env) (av:List Value),ab E (args.map U.toV) av→∃ v',aa E u.toV v'∧(e av.toArray).run P E.w = .ok v' E.w):yn P g args u:=fun E av hav=>by
 obtain ⟨v',hv,hr⟩:=h E av hav
 refine ⟨v',hv,fun o c f l a next Q ho hcf hfe hav2 hnx=>?_⟩
 have hrun :(execOp a.eval o).run P E.w = .ok (.value v') E.w:=by
  have e1 :(c.args.toList.map a.eval++l.toList).toArray=#[]++c.args.map a.eval++l:=by
   apply Array.ext'
   simp
  have :(execOp a.eval o).run P E.w =(callFunc g (#[]++c.args.map a.eval++l)).run P E.w:=by
   simp [execOp,ho,resolve,hcf,Deferred.ofValue,hfe,invoke]
  rw [this,run_callFunc_extern hf hname hb hn he,←e1,←hav2,hr]
  rfl
 unfold Oper.wp
 rw [hrun]
 simp only [Oper.upon]
 exact hnx
theorem S5 :∀ (l:List UInt8) (c:UInt8),Lib.indexByte l c≤l.length
 | [],c=>by unfold Lib.indexByte;simp
 | b::l,c=>by
  have:=S5 l c
  unfold Lib.indexByte
  simp only [List.length_cons]
  split
  ·omega
  ·split <;> omega
theorem FF :∀ (l:List UInt8) (c i:Nat),c<256→Jb l c i=if Lib.indexByte l c.toUInt8 = -1 then -1 else Lib.indexByte l c.toUInt8 +(i:Int)
 | [],c,i,_=>rfl
 | b::l,c,i,hc=>by
  show Bool.rec (motive:=fun _=>Int) (Jb l c (i+1)) (.ofNat i) (Nat.beq b.toNat c)=_
  rw [FF l c (i+1) hc]
  have hge:=Lib.indexByte_ge l c.toUInt8
  have hcn:c.toUInt8.toNat=c:=by simp [Nat.toUInt8];omega
  have step:Lib.indexByte (b::l) c.toUInt8=if b==c.toUInt8 then 0 else if Lib.indexByte l c.toUInt8 == -1 then -1 else Lib.indexByte l c.toUInt8+1:=rfl
  rw [step]
  cases hb:Nat.beq b.toNat c with
  | true=>
   have e:b=c.toUInt8:=UInt8.toNat.inj (by rw [hcn];exact aE hb)
   have e2 :(b==c.toUInt8)=true:=by rw [e];simp
   rw [e2]
   simp
  | false=>
   have e :¬(b==c.toUInt8)=true:=fun h=>by
    have:b=c.toUInt8:=by simpa using h
    rw [this,hcn,Nat.beq_refl] at hb
    cases hb
   have e2 :(b==c.toUInt8)=false:=by simpa using e
   rw [e2]
   simp only [Bool.false_eq_true,if_false]
   by_cases h1:Lib.indexByte l c.toUInt8 = -1
   ·rw [if_pos h1,h1];rfl
   ·rw [if_neg h1]
    have h2 :¬(Lib.indexByte l c.toUInt8 == -1)=true:=by simpa using h1
    rw [if_neg h2,if_neg (by omega)]
    push_cast
    omega
theorem Px {g:FuncId} {fn:Func} (hf:P.funcs[g]?=some fn) (hname :(fn.name == "runtime.NumGoroutine")=false) (hb:fn.body.isNone=true) (hn:Extern.findNext fn=none) (he:Extern.find fn=some Extern.BytealgIndexByte.indexByte) {args:List U} {u:U} (h:ixB args=some u):u.wf∧yn P g args u:=by
 unfold ixB at h
 split at h
 case h_2=>cases h
 rename_i s c
 cases h
 refine ⟨trivial,LR hf hname hb hn he fun E av hav=>?_⟩
 obtain ⟨a,r,rfl,h1,h2⟩:=cW hav
 obtain ⟨b,r2,rfl,h3,h4⟩:=cW h2
 have h5:r2=[]:=by cases r2 with|nil=>rfl|cons=>simp [ab] at h4
 subst h5
 simp only [U.toV,aa] at h1 h3
 obtain ⟨rfl,hs⟩:=h1
 obtain ⟨rfl,hc⟩:=h3
 have hc2:c<256:=by
  have:=hc.2
  simp [IntKind.max,IntKind.bits,IntKind.signed] at this
  omega
 refine ⟨_,?_,Lib.run_indexByteString s (Int.ofNat c) E.w⟩
 have e:Jb s.data.toList c 0=Lib.indexByte s.data.toList c.toUInt8:=by
  rw [FF _ _ _ hc2]
  split
  ·rename_i h;rw [h]
  ·simp
 show aa E (.int .i64 (Jb s.data.toList c 0)) _
 rw [e]
 refine fU ?_
 have hge:=Lib.indexByte_ge s.data.toList c.toUInt8
 have hle:=S5 s.data.toList c.toUInt8
 have hl:s.data.toList.length≤aA:=by simpa using hs
 unfold aA at hl
 have e1:IntKind.i64.min = -9223372036854775808:=by decide
 have e2:IntKind.i64.max=9223372036854775807:=by decide
 unfold ok
 rw [e1,e2]
 omega
end
section
open Go.RowKit
variable {P:Program} {tb:Tbl} {call:eK}
noncomputable section
def F4 {t:Ty} (p:List V→Option (Den t×List V)):Nat→List V→Option (List (Den t))
 | 0,_=>some []
 | n+1,vs=>match p vs with
  | some (x,r)=>match F4 p n r with
   | some xs=>some (x::xs)
   | none=>none
  | none=>none
def Et (H:aw) (t:Ty) (p:List V→Option (Den t×List V)):List V→Option (List (Den t)×List V)
 | .fsl t' xs::r=>if h:t'=t then some ((h▸xs:List (Den t)),r) else none
 | .nilsl::r=>some ([],r)
 | .esl::r=>some ([],r)
 | .gsl h ver esz off len::r=>match H h with
  | some (.grow ver' esz' cs)=>if ver=ver'∧esz=esz'∧esz=sz t∧(off+len)*esz≤cs.length∧len≤aA then match F4 p len (cs.drop (off*esz)) with
   | some xs=>some (xs,r)
   | none=>none
   else none
  | _=>none
 | _=>none
def jZ (H:aw):Nat→(t:Ty)→List V→Option (Den t×List V)
 | 0,_,_=>none
 | _+1,.int k,vs=>F1 k vs
 | _+1,.bool,vs=>F0 vs
 | _+1,.str,vs=>F5 vs
 | _+1,.unit,r=>some ((),r)
 | f+1,.prod a b,r=>match jZ H f a r with
  | some (x,r')=>match jZ H f b r' with
   | some (y,r'')=>some ((x,y),r'')
   | none=>none
  | none=>none
 | f+1,.slice t,vs=>Et H t (jZ H f t) vs
 | f+1,.nm n,r=>match jZ H f n.flds r with
  | some (x,r')=>some (n.of x,r')
  | none=>none
def F6 (H:aw) (t:Ty) (v:V):Option (Den t):=bif fB t==dF v then (match cellsOf v with
 | some cs=>match jZ H dx t cs with
  | some (x,[])=>some x
  | _=>none
 | none=>none) else none
def SN (E:Env) (b:Nat):Prop:=∃ h ver esz cs,E.H h=some (.grow ver esz cs)∧E.ρ h=some b
def th (E:Env):Env:=⟨E.U,E.ρ,fun b=>E.S b∨SN E b,E.w,fun _=>none⟩
theorem Hd {B:Base} {E:Env} (hE:HRel B E):HRel B (th E)∧Ext E (th E):=by
 refine ⟨⟨fun h b hx=>?_,fun b hb=>?_,fun h k b hx=>?_,fun h h' k k' b hx=>?_,fun h k hx=>?_,hE.keeps,fun h k b hx=>?_,fun b hb=> .inl (hE.s0 b hb),fun b hb=>?_⟩,
  ⟨fun _ h=>h,fun _ h=> .inl h,fun _ _=>rfl,fun _ _ _ hx=>?_,fun _ _ _ _ _ _ _ hx=>?_,fun _ _ _ _ _ _ hx=>?_,fun _ _ _ hx=>?_,fun _ _ _ _ _ hx=>?_⟩⟩ <;> try (cases hx)
 ·rcases hb with hb |⟨h,ver,esz,cs,h1,h2⟩
  ·exact hE.stab b hb
  ·exact hE.lt _ _ _ h1 h2
 ·rcases hb with hb |⟨h,ver,esz,cs,h1,h2⟩
  ·exact hE.sb b hb
  ·exact .inr (hE.own _ _ _ h1 h2)
theorem rn {E:Env} {S:Nat→Prop} {t:Ty} {p:List V→Option (Den t×List V)} (hp :∀ vs x r cs,p vs=some (x,r)→ab E vs cs→∃ c1 c2,cs=c1++c2∧Rd S E.w t x c1∧ab E r c2) :
  ∀ (n:Nat) (vs:List V) (xs:List (Den t)) (cs:List Value),F4 p n vs=some xs→ab E vs cs→xs.length=n∧∀ (i:Nat) (h:i<xs.length),Rd S E.w t xs[i] ((cs.drop (i*sz t)).take (sz t))
 | 0,vs,xs,cs,h,_=>by
  cases h
  exact ⟨rfl,fun i hi=>by simp at hi⟩
 | n+1,vs,xs,cs,h,hv=>by
  simp only [F4] at h
  split at h
  case h_2=>cases h
  rename_i x r hx
  split at h
  case h_2=>cases h
  rename_i xs' hxs
  cases h
  obtain ⟨c1,c2,rfl,h1,h2⟩:=hp _ _ _ _ hx hv
  obtain ⟨h3,h4⟩:=rn hp n r xs' c2 hxs h2
  refine ⟨by simp [h3],fun i hi=>?_⟩
  have hl:=h1.len
  cases i with
  | zero=>
   rw [Nat.zero_mul,List.drop_zero,←hl,List.take_left]
   exact h1
  | succ i=>
   have e :(c1++c2).drop ((i+1)*sz t)=c2.drop (i*sz t):=by
    rw [Nat.succ_mul,Nat.add_comm,←List.drop_drop,←hl,List.drop_left]
   rw [e]
   exact h4 i (by simpa using hi)
theorem zX {B:Base} {E:Env} (hE:HRel B E) {t:Ty} {p:List V→Option (Den t×List V)} (hp :∀ vs x r cs,p vs=some (x,r)→ab E vs cs→∃ c1 c2,cs=c1++c2∧Rd (th E).S E.w t x c1∧ab E r c2)
  {vs:List V} {xs:List (Den t)} {rest:List V} {cs:List Value} (h:Et E.H t p vs=some (xs,rest)) (hv:ab E vs cs) :∃ c1 c2,cs=c1++c2∧Rd (th E).S E.w (.slice t) xs c1∧ab E rest c2:=by
 unfold Et at h
 split at h
 ·split at h
  ·rename_i e
   subst e
   cases h
   obtain ⟨c,r',rfl,h1,h2⟩:=aY hv
   exact ⟨_,_,rfl,Rd.ext (fun _ h=> .inl h) (fun _ _=>rfl) h1,h2⟩
  ·cases h
 ·cases h
  obtain ⟨c,r',rfl,h1,h2⟩:=aY hv
  simp only [aa] at h1
  subst h1
  exact ⟨_,_,rfl,.nil,h2⟩
 ·cases h
  obtain ⟨c,r',rfl,h1,h2⟩:=aY hv
  simp only [aa] at h1
  obtain ⟨a,rfl⟩:=h1
  exact ⟨_,_,rfl,.nil,h2⟩
 ·rename_i hh ver esz off len r
  split at h
  case h_2=>cases h
  rename_i ver' esz' csB hH
  split at h
  case isFalse=>cases h
  rename_i hc
  obtain ⟨rfl,rfl,e3,h4,h5⟩:=hc
  split at h
  case h_2=>cases h
  rename_i xs' hxs
  cases h
  obtain ⟨c,r',rfl,h1,h2⟩:=aY hv
  simp only [aa] at h1
  obtain ⟨_,_,_,h1⟩:=h1
  obtain ⟨b,cap,c,T,fr,k1,rfl,k3,k4,k5,k6⟩:=h1 _ hH
  obtain ⟨_,b',c',T',fr',q1,q2,q3,q4,q5⟩:=hE.blk _ _ hH
  rw [k1] at q1
  cases q1
  rw [k3] at q2
  cases q2
  obtain ⟨g1,g2⟩:=rn (S:=(th E).S) hp _ _ _ _ hxs (fV q5 (off*esz))
  subst e3
  refine ⟨_,_,rfl,?_,h2⟩
  rw [←g1] at k5 ⊢
  refine .slice (.inr ⟨_,_,_,_,hH,k1⟩) k3 ?_ k5 (by omega) fun i hi=>?_
  ·rw [Nat.add_mul] at k4
   have:=Nat.mul_le_mul_right (sz t) k5
   omega
  ·have:=g2 i hi
   have e :((c.toList.take csB.length).drop (off*sz t)).drop (i*sz t) =((c.toList.drop (off*sz t+i*sz t))).take (csB.length - (off*sz t+i*sz t)):=by
    rw [List.drop_drop,List.drop_take]
   rw [e,List.take_take] at this
   have hle:sz t≤csB.length - (off*sz t+i*sz t):=by
    have h6 :(off +(i+1))*sz t≤(off+len)*sz t:=Nat.mul_le_mul_right _ (by omega)
    rw [Nat.add_mul,Nat.add_mul,Nat.one_mul] at h6
    omega
   rw [Nat.min_eq_left hle] at this
   exact this
 ·cases h
theorem gz {B:Base} {E:Env} (hE:HRel B E) :∀ (f:Nat) (t:Ty) (vs:List V) (x:Den t) (rest:List V) (cs:List Value),jZ E.H f t vs=some (x,rest)→ab E vs cs→
  ∃ c1 c2,cs=c1++c2∧Rd (th E).S E.w t x c1∧ab E rest c2
 | 0,t,vs,x,rest,cs,h,_=>by simp [jZ] at h
 | f+1,.int k,vs,x,rest,cs,h,hv=>by
  simp only [jZ] at h
  unfold F1 at h
  split at h
  ·split at h
   ·rename_i e
    subst e
    cases h
    obtain ⟨c,r',rfl,h1,h2⟩:=aY hv
    simp only [aa] at h1
    obtain ⟨rfl,h1⟩:=h1
    exact ⟨_,_,rfl,.int h1,h2⟩
   ·cases h
  ·cases h
 | f+1,.bool,vs,x,rest,cs,h,hv=>by
  simp only [jZ] at h
  unfold F0 at h
  split at h
  ·cases h
   obtain ⟨c,r',rfl,h1,h2⟩:=aY hv
   simp only [aa] at h1
   subst h1
   exact ⟨_,_,rfl,.bool,h2⟩
  ·cases h
   obtain ⟨c,r',rfl,h1,h2⟩:=aY hv
   simp only [aa] at h1
   subst h1
   exact ⟨_,_,rfl,.bool,h2⟩
  ·cases h
 | f+1,.str,vs,x,rest,cs,h,hv=>by
  simp only [jZ] at h
  unfold F5 at h
  split at h
  ·cases h
   obtain ⟨c,r',rfl,h1,h2⟩:=aY hv
   simp only [aa] at h1
   obtain ⟨rfl,h1⟩:=h1
   exact ⟨_,_,rfl,.str h1,h2⟩
  ·cases h
 | f+1,.unit,vs,x,rest,cs,h,hv=>by
  simp only [jZ] at h
  cases h
  exact ⟨[],cs,rfl,.unit,hv⟩
 | f+1,.prod a b,vs,x,rest,cs,h,hv=>by
  simp only [jZ] at h
  split at h
  ·rename_i x1 r1 h1
   split at h
   ·rename_i y1 r2 h2
    cases h
    obtain ⟨c1,c2,rfl,k1,k2⟩:=gz hE f _ _ _ _ _ h1 hv
    obtain ⟨d1,d2,rfl,k3,k4⟩:=gz hE f _ _ _ _ _ h2 k2
    exact ⟨c1++d1,d2,by simp,.prod k1 k3,k4⟩
   ·cases h
  ·cases h
 | f+1,.slice t,vs,x,rest,cs,h,hv=>zX hE (fun vs x r cs=>gz hE f t vs x r cs) h hv
 | f+1,.nm n,vs,x,rest,cs,h,hv=>by
  simp only [jZ] at h
  split at h
  ·rename_i x1 r1 h1
   cases h
   obtain ⟨c1,c2,rfl,k1,k2⟩:=gz hE f _ _ _ _ _ h1 hv
   exact ⟨c1,c2,rfl,.nm (by rw [n.to_of];exact k1),k2⟩
  ·cases h
theorem rv {B:Base} {E:Env} (hE:HRel B E) {t:Ty} {v:V} {x:Den t} (h:F6 E.H t v=some x) {u:Value} (hv:aa E v u):aa (th E) (bD t x) u:=by
 unfold F6 at h
 cases hg:fB t==dF v with
 | false=>rw [hg] at h;cases h
 | true=>
  rw [hg] at h
  simp only [cond_true] at h
  split at h
  case h_2=>cases h
  rename_i cs hcs
  split at h
  case h_2=>cases h
  rename_i x' hx
  cases h
  obtain ⟨c1,c2,e,hrd,h2⟩:=gz hE _ _ _ _ _ _ hx (bp hv hcs)
  have hc2:c2=[]:=by cases c2 with|nil=>rfl|cons=>simp [ab] at h2
  subst hc2
  rw [List.append_nil] at e
  subst e
  simp only [beq_iff_eq] at hg
  refine oG (E:=th E) hrd ?_
  cases e:fB t with
  | true=>
   rw [e] at hg
   cases v <;> simp only [dF,Bool.true_eq_false] at hg
   simp only [aa] at hv
   obtain ⟨l,hl,_⟩:=hv
   exact .inl ⟨rfl,l,hl⟩
  | false=>
   rw [e] at hg
   refine .inr ⟨rfl,?_⟩
   have h1:u.oneCell'=true:=by
    cases v <;> simp only [dF,Bool.false_eq_true] at hg <;> simp only [cellsOf,reduceCtorEq] at hcs <;> exact fh rfl hv
   rw [nf h1]
def DB {α:Type} (e:α→α→Bool):List α→List α→Bool
 | [],[]=>true
 | x::xs,y::ys=>bif e x y then DB e xs ys else false
 | _,_=>false
theorem yV {α:Type} {e:α→α→Bool} (h :∀ x y,e x y=true→x=y) :∀ {xs ys:List α},DB e xs ys=true→xs=ys
 | [],[],_=>rfl
 | [],_::_,h=>by simp [DB] at h
 | _::_,[],h=>by simp [DB] at h
 | x::xs,y::ys,hh=>by
  simp only [DB] at hh
  cases he:e x y with
  | false=>rw [he] at hh;cases hh
  | true=>rw [he] at hh;rw [h _ _ he,yV h hh]
def eqD:Nat→(t:Ty)→Den t→Den t→Bool
 | 0,_,_,_=>false
 | _+1,.int _,x,y=>@decide ((x:Int)=y) (Int.instDecidableEq x y)
 | _+1,.bool,x,y=>@decide ((x:Bool)=y) (instDecidableEqBool x y)
 | _+1,.str,x,y=>decide ((x:ByteArray).data.toList =(y:ByteArray).data.toList)
 | _+1,.unit,_,_=>true
 | f+1,.prod a b,x,y=>bif eqD f a x.1 y.1 then eqD f b x.2 y.2 else false
 | f+1,.slice t,xs,ys=>DB (eqD f t) xs ys
 | f+1,.nm n,x,y=>eqD f n.flds (n.to x) (n.to y)
theorem qb :∀ (f:Nat) (t:Ty) (x y:Den t),eqD f t x y=true→x=y
 | 0,_,_,_,h=>by simp [eqD] at h
 | _+1,.int _,x,y,h=>@of_decide_eq_true ((x:Int)=y) (Int.instDecidableEq x y) h
 | _+1,.bool,x,y,h=>@of_decide_eq_true ((x:Bool)=y) (instDecidableEqBool x y) h
 | _+1,.str,x,y,h=>ByteArray.ext (Array.toList_inj.1 (of_decide_eq_true (p:=(x:ByteArray).data.toList =(y:ByteArray).data.toList) h))
 | _+1,.unit,_,_,_=>rfl
 | f+1,.prod a b,x,y,h=>by
  simp only [eqD] at h
  cases he:eqD f a x.1 y.1 with
  | false=>rw [he] at h;cases h
  | true=>rw [he] at h;exact Prod.ext (qb f a _ _ he) (qb f b _ _ h)
 | f+1,.slice t,xs,ys,h=>yV (qb f t) (by simpa only [eqD] using h)
 | f+1,.nm n,x,y,h=>by
  simp only [eqD] at h
  have:=qb f n.flds _ _ h
  rw [←n.of_to x,←n.of_to y,this]
def xM (H:aw):List Ty→List V→Option (List V)
 | [],[]=>some []
 | t::ts,v::vs=>match F6 H t v with
  | some x=>match xM H ts vs with
   | some r=>some (bD t x::r)
   | none=>none
  | none=>none
 | _,_=>none
def xL (H:aw) (ts:List Ty) (v:V):Option V:=match ts with
 | [t]=>match F6 H t v with
  | some x=>some (bD t x)
  | none=>none
 | ts=>match v with
  | .tup vs=>match xM H ts vs with
   | some l=>some (.tup l)
   | none=>none
  | _=>none
theorem rq {B:Base} {E:Env} (hE:HRel B E) :∀ {ts:List Ty} {vs l:List V} {us:List Value},xM E.H ts vs=some l→ab E vs us→ab (th E) l us∧l.length=ts.length
 | [],[],l,us,h,hv=>by
  cases h
  cases us with
  | nil=>exact ⟨by simp [ab],rfl⟩
  | cons=>simp [ab] at hv
 | t::ts,v::vs,l,us,h,hv=>by
  simp only [xM] at h
  split at h
  case h_2=>cases h
  rename_i x hx
  split at h
  case h_2=>cases h
  rename_i r hr
  cases h
  cases us with
  | nil=>simp [ab] at hv
  | cons u us=>
   simp only [ab] at hv ⊢
   obtain ⟨h1,h2⟩:=rq hE hr hv.2
   exact ⟨⟨rv hE hx hv.1,h1⟩,by simp [h2]⟩
 | [],_::_,_,_,h,_=>by cases h
 | _::_,[],_,_,h,_=>by cases h
theorem Ct {B:Base} {E:Env} (hE:HRel B E) {ts:List Ty} {v v0:V} {u:Value} (h:xL E.H ts v=some v0) (hv:aa E v u):aa (th E) v0 u∧(ts.length≠1→∃ l,v0 = .tup l∧l.length=ts.length):=by
 unfold xL at h
 split at h
 ·split at h
  case h_2=>cases h
  rename_i x hx
  cases h
  exact ⟨rv hE hx hv,fun hn=>absurd rfl hn⟩
 ·split at h
  case h_2=>cases h
  rename_i vs
  split at h
  case h_2=>cases h
  rename_i l hl
  cases h
  simp only [aa] at hv ⊢
  obtain ⟨us,rfl,hus⟩:=hv
  obtain ⟨h1,h2⟩:=rq hE hl hus
  exact ⟨⟨us,rfl,h1⟩,fun _=>⟨l,rfl,h2⟩⟩
theorem MA {f:FuncId} (hfn :∃ fn,P.funcs[f]?=some fn∧fn.body.isSome=true∧(fn.name == "runtime.NumGoroutine")=false) {n:Nat}
  {K:Nat} {q q':Pat} {spec:Den (tyP q)→List Prop×Den (tyP q')} (hpair:jF q q'=true) (hres:q'.tm.length=n)
  (h :∀ x:Den (tyP q),wfD (tyP q) x→(∀ p∈(spec x).1,p)→∃ (v0:V) (d:List (Nat×Blk)) (nx:Nat),(n≠1→∃ l,v0 = .tup l∧l.length=n)∧gB q.nx q' ⟨kn n v0,d,fun _=>none,nx⟩=some (spec x).2∧
   ∀ (B:Base) (E:Env) (av:List Value),HRel B E→E.H=au (fun _=>none) (q.hpOf x)→ab E ((q.tmOf x).map (·.2)) av→(∀ n,E.U n→n<q.nx)→
    Calls P f av.toArray E.w fun e w'=>∃ Ec v',e = .returned v'∧HRel B Ec∧Ec.w=w'∧Ec.H=au (fun _=>none) d∧Ext E Ec∧(∀ n,Ec.U n→n<nx)∧aa Ec v0 v'):CtrOK P K f (aj K q q' spec):=by
 refine ⟨hfn,fun B E hE args av hav m hm ps' v dh hct hps=>?_⟩
 unfold aj at hct
 simp only at hct
 split at hct
 case h_2=>cases hct
 rename_i x hx
 cases hle:B9 q q' (jd q ⟨cj 0 args,[],E.H,m⟩)&&(Nat.beq args.length q.tm.length&&Nat.ble q'.nx K) with
 | false=>rw [hle] at hct;cases hct
 | true=>
 rw [hle] at hct
 simp only [cond_true,Option.some.injEq,Prod.mk.injEq] at hct
 obtain ⟨rfl,rfl,rfl⟩:=hct
 simp only [Bool.and_eq_true,Nat.beq_eq] at hle
 obtain ⟨hok,hlen,hKK⟩:=hle
 have hKK:q'.nx≤K:=Nat.le_of_ble_eq_true hKK
 have havl:=aI hav
 have hstH:E.H =(⟨cj 0 args,[],E.H,m⟩:St).H:=by funext h;simp [St.H,au,find]
 let a0:Act:=⟨av.toArray,[]⟩
 have hT0:eJ E (find (cj 0 args)) a0:=fun s v hv=>by
  simp only [eP,Nat.zero_le,if_true,Nat.sub_zero] at hv
  obtain ⟨v',h1,h2⟩:=dp hav s v hv
  have:av.toArray.getD s undef=v':=by
   rw [Array.getD_eq_getD_getElem?]
   simp [h1]
  show aa E v (av.toArray.getD s undef)
  rw [this]
  exact h2
 have hna :(q.hp.all fun x=>oo x.2)=true:=xF hpair
 obtain ⟨hsub,hnd,htm,hwf⟩:=BC hna hx hE hstH hT0
 obtain ⟨hE1,_⟩:=cx hE (hsP q ⟨cj 0 args,[],E.H,m⟩)
 have hMnx :(jd q ⟨cj 0 args,[],E.H,m⟩).nx=q.nx:=rfl
 generalize hM:jd q ⟨cj 0 args,[],E.H,m⟩=M at *
 generalize hL:hsP q ⟨cj 0 args,[],E.H,m⟩=L at *
 have hE2:=mI hE1 hsub hnd
 let B':Base:=⟨E.w,pX (bc M (bh E L) (q.hpOf x)) (q.hpOf x),(bh E L).S,fun E'=>Ext (bc M (bh E L) (q.hpOf x)) E',fun _ _ h k=>h.trans k,hE2.glob (E:=bc M (bh E L) (q.hpOf x)) fun _ ⟨n,k,hf,hb⟩=>⟨n,k,by show au (fun _=>none) (q.hpOf x) n=_;unfold au;rw [hf],hb⟩,[]⟩
 have hpins:B'.pins q.nx:=by rw [←hMnx];exact Cw
 have hE2':HRel B' (bc M (bh E L) (q.hpOf x)):=
  ⟨hE2.used,hE2.stab,hE2.lt',hE2.inj',hE2.blk,Keeps.refl _ _,fun h k b hx hb=> .inl ⟨h,k,aC hx,hb⟩,fun _ h=>h,fun _ h=> .inl h⟩
 have hkeysq :(q.tmOf x).map (·.1)=q.tm.map (·.1):=nj _
 have hlenq :(q.tmOf x).length=q.tm.length:=by have:=congrArg List.length hkeysq;simpa using this
 have hpair0:=hpair
 simp only [jF,Bool.and_eq_true] at hpair0
 have hseqq:uA 0 (q.tmOf x)=true:=(ni (l:=q.tmOf x) (l':=q.tm) hkeysq).trans hpair0.2.2.2.2.2.2.2
 have hav2:ab (bc M (bh E L) (q.hpOf x)) ((q.tmOf x).map (·.2)) av:=pS (by rw [List.length_map,hlenq,←hlen,havl]) fun i z u hz hu=>by
  have h1:=ko hseqq i z hz
  have h2:=htm (0+i) z (ag h1)
  have:a0.tmps.getD (0+i) undef=u:=by
   show av.toArray.getD (0+i) undef=u
   rw [Nat.zero_add,Array.getD_eq_getD_getElem?]
   simp [hu]
  rw [this] at h2
  exact h2
 obtain ⟨v0,d,nx,htup,h2,hcalls⟩:=h x hwf hps
 refine (hcalls B' (bc M (bh E L) (q.hpOf x)) av hE2' rfl hav2 (fun n hn=>by have:n<M.nx:=hn;rw [hMnx] at this;exact this)).mono fun e w hh=>?_
 obtain ⟨Ec,v',rfl,hEc,rfl,hHc,hXc,hUc,k2⟩:=hh
 obtain ⟨hp0,hg0⟩:=iQ h2
 revert hg0
 generalize hy :(spec x).2=y at *
 intro hg0
 obtain ⟨a',ha'⟩ :∃ a':Act,a'.defers=[]∧eJ Ec (find (kn n v0)) a'∧(n=1→a'.tmps=#[v'])∧(n≠1→v' = .tuple a'.tmps∧a'.tmps.size=n):=by
  by_cases hn:n=1
  ·refine ⟨⟨#[v'],[]⟩,rfl,fun s v hv=>?_,fun _=>rfl,fun h=>absurd hn h⟩
   rw [hn] at hv
   have hv:find [(0,v0)] s=some v:=hv
   cases s with
   | zero=>
    have hv:some v0=some v:=hv
    cases hv
    simpa using k2
   | succ s=>
    have hv :(none:Option V)=some v:=hv
    cases hv
  ·obtain ⟨l,rfl,hl⟩:=htup hn
   simp only [aa] at k2
   obtain ⟨us,rfl,hus⟩:=k2
   have hul:=aI hus
   refine ⟨⟨us,[]⟩,rfl,fun s v hv=>?_,fun h=>absurd h hn,fun _=>⟨rfl,by rw [←hl,hul];simp⟩⟩
   have hb:Nat.beq n 1=false:=by
    cases hb:Nat.beq n 1 with
    | false=>rfl
    | true=>exact absurd (Nat.eq_of_beq_eq_true hb) hn
   unfold kn at hv
   rw [hb] at hv
   simp only [cond_false,eP,Nat.zero_le,if_true,Nat.sub_zero] at hv
   obtain ⟨u,g1,g2⟩:=dp hus s v hv
   have:us.getD s undef=u:=by
    rw [Array.getD_eq_getD_getElem?,←Array.getElem?_toList,g1]
    rfl
   rw [this];exact g2
 obtain ⟨hd',hT',hone,hmany⟩:=ha'
 have hst:gX B' a'.tmps.size ⟨kn n v0,d,fun _=>none,nx⟩ a' Ec.w:=⟨⟨Ec,hEc,rfl,hHc,⟨hXc,hUc⟩,hT'⟩,rfl,hd'⟩
 obtain ⟨⟨Ed,hEd,hdw,hHd,⟨hXd,hUd⟩,hTd⟩,_,_⟩:=jS hpins hg0 hp0 hst
 simp only [jF,Bool.and_eq_true,List.all_eq_true] at hpair
 obtain ⟨o8,o1,o2,o3,o4,o5,o6,o7⟩:=hpair
 simp only [B9,Bool.and_eq_true,List.all_eq_true] at hok
 obtain ⟨n1,n2⟩:=hok
 have hkeys1 :(q'.hpOf y).map (·.1)=q'.hp.map (·.1):=kL _
 have hkeys0 :(q.hpOf x).map (·.1)=q.hp.map (·.1):=kL _
 have hfl:bP q'=false∨((q'.tm.all fun x=>Bv x.2)=true∧(q'.hp.all fun x=>zm x.2)=true):=by
  cases hf:bP q' with
  | false=>exact .inl rfl
  | true=>simp only [bP,Bool.and_eq_true] at hf;exact .inr hf
 have hhp:=DS (fl:=bP q') (hl:=q'.hp.map (·.1)) (vl:=gG q'.hp) (l:=q'.hp) (r:= .unit) (gR q'.tm (dW q'.hp .unit) y).2 (List.all_eq_true.2 o2) (hfl.imp id (·.2))
 have htmv:=EZ (fl:=bP q') (hl:=q'.hp.map (·.1)) (vl:=gG q'.hp) (l:=q'.tm) (r:=dW q'.hp .unit) y (List.all_eq_true.2 o1) (hfl.imp id (·.1))
 have vers :∀ (l:List (Nat×PB)) (z:Den (dW l .unit)) (v:Nat),v∈gG l→∃ n t xs,(n,Blk.row v true t xs)∈(bL l .unit z).1:=by
  intro l
  induction l with
  | nil=>intro z v hv;simp [gG] at hv
  | cons q0 l ih=>
   obtain ⟨n0,b0⟩:=q0
   intro z v hv
   have tl:v∈gG l→∃ n t xs,(n,Blk.row v true t xs)∈(bL ((n0,b0)::l) .unit z).1:=fun h=>by
    obtain ⟨n,t,xs,hm⟩:=ih (iM b0 (dW l .unit) z).2 v h
    exact ⟨n,t,xs,by simp only [bL];exact List.mem_cons_of_mem _ hm⟩
   cases b0 with
   | cells=>exact tl hv
   | dat=>exact tl hv
   | abs=>exact tl hv
   | row v0 t0=>
    simp only [gG,List.mem_cons] at hv
    rcases hv with rfl|hv
    ·exact ⟨n0,t0,_,by simp only [bL,iM];exact List.mem_cons_self⟩
    ·exact tl hv
 have rowsP :∀ (l:List (Nat×PB)) (z:Den (dW l .unit)) (n v:Nat) (rw:Bool) (t:Ty) (xs:List (Den t)),(n,Blk.row v rw t xs)∈(bL l .unit z).1→(n,PB.row v t)∈l:=by
  intro l
  induction l with
  | nil=>intro z n v rw t xs hm;simp [bL] at hm
  | cons q0 l ih=>
   obtain ⟨n0,b0⟩:=q0
   intro z n v rw t xs hm
   simp only [bL,List.mem_cons,Prod.mk.injEq] at hm
   rcases hm with ⟨rfl,hm⟩|hm
   ·cases b0 with
    | cells=>simp [iM] at hm
    | dat=>simp [iM] at hm
    | abs=>simp [iM] at hm
    | row v0 t0=>
     simp only [iM] at hm
     obtain ⟨rfl,rfl,rfl,_⟩:=hm
     exact List.mem_cons_self
   ·exact List.mem_cons_of_mem _ (ih _ _ _ _ _ _ hm)
 have hHd':Ed.H=au (fun _=>none) (q'.hpOf y):=hHd
 have hvl :∀ v,v∈gG q'.hp→∃ n t xs,find (q'.hpOf y) n=some (.row v true t xs):=fun v hv=>by
  obtain ⟨n,t,xs,hm⟩:=vers q'.hp _ v hv
  have hnd1 :((q'.hpOf y).map (·.1)).Nodup:=by
   rw [hkeys1]
   exact nodupN_iff.1 o8
  exact ⟨n,t,xs,kI hnd1 hm⟩
 obtain ⟨E',G,hv⟩:=vW (B:=B) (fl:=bP q') hE hm hsub hnd hEd hHd' hXd (nx1:=q'.nx) hUd hKK (vl:=gG q'.hp)
  (fun n k hm'=>by
   have:=hhp n k hm'
   rw [hkeys1]
   exact this) hvl
  (fun n hn=>by
   rw [hkeys1] at hn
   rw [hkeys0]
   have:=o5 n hn
   simp only [Bool.or_eq_true] at this
   rcases this with h1|h1
   ·left;rw [hMnx];exact Nat.le_of_ble_eq_true h1
   ·right;exact memN_iff.1 h1)
  (fun n hn=>by
   rw [hkeys0] at hn
   rw [hkeys1]
   obtain ⟨z,hz1,rfl⟩:=List.mem_map.1 hn
   exact memN_iff.1 (o6 z hz1).1)
  (fun n v rw t xs hf=>by
   have:=o4 _ (rowsP q'.hp _ _ _ _ _ _ (ag hf))
   simp only [Bool.or_eq_true,Nat.blt_eq] at this
   rw [hMnx]
   exact this.imp Nat.le_of_ble_eq_true id)
  (fun n hn hz=>by
   rw [hkeys0] at hn
   obtain ⟨z,hz1,rfl⟩:=List.mem_map.1 hn
   have:=n1 z hz1
   rw [hz] at this
   exact this)
  (fun n v rw t xs hf hz=>by
   have:=n1 _ (rowsP q.hp _ _ _ _ _ _ (ag hf))
   simp only [hz] at this
   cases hh:find M.σ v with
   | none=>rfl
   | some j=>rw [hh] at this;cases this)
  (fun v v' hv hv' l1 l2 z1 z2 s1 s2 e=>by
   refine eA (nodupN_iff.1 n2) (List.mem_filter.2 ⟨hv,?_⟩) (List.mem_filter.2 ⟨hv',?_⟩) e
   ·simp [l1,z1,s1]
   ·simp [l2,z2,s2])
 rw [hdw] at G
 refine ⟨E',v',rfl,G,hv _ _ ?_ ?_⟩
 ·rw [hkeys1]
  unfold Cq
  split
  ·rfl
  ·rename_i y0 r hy0
   split
   ·exact htmv y0.1 y0.2 (by show (y0.1,y0.2)∈q'.tmOf y;rw [hy0];exact List.mem_cons_self)
   ·show dK _ _ _ ((q'.tmOf y).map (·.2))=true
    have :∀ l:List (Nat×V),(∀ s v,(s,v)∈l→okV (bP q') (q'.hp.map (·.1)) (gG q'.hp) v=true)→dK (bP q') (q'.hp.map (·.1)) (gG q'.hp) (l.map (·.2))=true:=by
     intro l
     induction l with
     | nil=>intro _;rfl
     | cons z l ih=>intro hz;simp only [List.map_cons,dK,Bool.and_eq_true];exact ⟨hz z.1 z.2 List.mem_cons_self,ih fun s v hm=>hz s v (List.mem_cons_of_mem _ hm)⟩
    exact this _ htmv
 ·have hlen :(q'.tmOf y).length=n:=by
   have :((q'.tmOf y).map (·.1)).length =(q'.tm.map (·.1)).length:=by rw [show (q'.tmOf y).map (·.1)=q'.tm.map (·.1) from nj _]
   simpa [hres] using this
  have hseq:uA 0 (q'.tmOf y)=true:=(ni (l:=q'.tmOf y) (l':=q'.tm) (nj _)).trans o3
  unfold Cq
  split
  ·rename_i hy0
   rw [hy0] at hlen
   obtain ⟨h5,h6⟩:=hmany (by rw [←hlen];simp)
   rw [h5]
   simp only [aa]
   refine ⟨_,rfl,?_⟩
   have:a'.tmps.toList=[]:=by
    apply List.eq_nil_of_length_eq_zero
    simp [h6,←hlen]
   rw [this];simp [ab]
  ·rename_i y0 r hy0
   split
   ·rw [hy0] at hlen
    have h5:=hone (by rw [←hlen];rfl)
    have h6:=ko hseq 0 y0.2 (by rw [hy0];rfl)
    have:=hTd (0+0) y0.2 h6
    rw [h5] at this
    simpa using this
   ·rename_i y1 r'
    rw [hy0] at hlen
    obtain ⟨h5,h6⟩:=hmany (by rw [←hlen];simp)
    rw [h5]
    simp only [aa]
    refine ⟨_,rfl,pS ?_ fun i z u hz hu=>?_⟩
    ·rw [hy0];simp only [List.length_map,Array.length_toList,h6,←hlen]
    ·have h7:=ko hseq i z hz
     have:=hTd (0+i) z h7
     rw [Nat.zero_add,Array.getD_eq_getD_getElem?,←Array.getElem?_toList,hu] at this
     exact this
def A1 (q:Pat) (x:Den (tyP q)):List U:=(q.tmOf x).map fun z=>ku (kbV z.2)
def UG (q':Pat) (ts:List Ty) (p:Nat) (r:Rf):Option (Den (tyP q')):=Rf.rec (motive:=fun _=>Option (Den (tyP q'))) (fun u hp nx=>match xL (hpH hp) ts u.toV with
 | some v0=>gB p q' ⟨kn ts.length v0,[],fun _=>none,nx⟩
 | none=>none) (fun _ _ _=>none) (fun _=>none) r
def isD {q':Pat} (y0:Den (tyP q')) (r:Option (Den (tyP q'))):Bool:=match r with
 | some y=>eqD dx (tyP q') y y0
 | none=>false
theorem yi {E:Env} :∀ {vs:List V} {us:List Value},ab E vs us→ab E (vs.map fun v=>(ku (kbV v)).toV) us
 | [],[],_=>by simp [ab]
 | [],_::_,h=>by simp [ab] at h
 | _::_,[],h=>by simp [ab] at h
 | _::_,_::_,h=>by simp only [List.map_cons,ab] at h ⊢;exact ⟨(DW _).trans (lq _) _ _ h.1,yi h.2⟩
theorem sF (hcall:CallVOK P call) {f:FuncId} {Kc:Nat} {q q':Pat} (x0:Den (tyP q)) (y0:Den (tyP q')) {ts:List Ty} (hpair:jF q q'=true) (hq:q.hp=[]) (hres:q'.tm.length=ts.length)
  (hrun:isD y0 (UG q' ts q.nx (call f (A1 q x0) hp0 q.nx))=true):CtrOK P Kc f (aj Kc q q' fun x=>([x=x0],y0)):=by
 cases hr:call f (A1 q x0) hp0 q.nx with
 | no w=>rw [hr] at hrun;cases hrun
 | ex u hp' nx'=>rw [hr] at hrun;cases hrun
 | ok u hp' nx'=>
  rw [hr] at hrun
  have F:=hcall.ok f (A1 q x0) hp0 q.nx u hp' nx' (fun x hx=>by
   unfold A1 at hx
   obtain ⟨z,_,rfl⟩:=List.mem_map.1 hx
   exact lr _) I5 hr
  have hrun:isD y0 (match xL (hpH hp') ts u.toV with
   | some v0=>gB q.nx q' ⟨kn ts.length v0,[],fun _=>none,nx'⟩
   | none=>none)=true:=hrun
  cases hpk:xL (hpH hp') ts u.toV with
  | none=>rw [hpk] at hrun;cases hrun
  | some v0=>
   rw [hpk] at hrun
   simp only at hrun
   cases hrd:gB q.nx q' ⟨kn ts.length v0,[],fun _=>none,nx'⟩ with
   | none=>rw [hrd] at hrun;cases hrun
   | some y=>
    rw [hrd] at hrun
    have hy:y=y0:=qb dx _ y y0 hrun
    subst hy
    refine MA F.fn hpair hres fun x _ hx=>?_
    obtain rfl:x=x0:=hx _ (List.mem_singleton.2 rfl)
    have hpn:q.hpOf x=[]:=by
     have hk :(q.hpOf x).map (·.1)=q.hp.map (·.1):=kL _
     rw [hq] at hk
     exact List.map_eq_nil_iff.1 hk
    have htup:ts.length≠1→∃ l,v0 = .tup l∧l.length=ts.length:=fun hn=>by
     unfold xL at hpk
     split at hpk
     ·exact absurd rfl hn
     ·split at hpk
      case h_2=>cases hpk
      rename_i vs _
      split at hpk
      case h_2=>cases hpk
      rename_i l hl
      cases hpk
      refine ⟨l,rfl,?_⟩
      have :∀ {ts:List Ty} {vs l:List V},xM (hpH hp') ts vs=some l→l.length=ts.length:=by
       intro ts
       induction ts with
       | nil=>intro vs l h;cases vs <;> cases h;rfl
       | cons t ts ih=>
        intro vs l h
        cases vs with
        | nil=>cases h
        | cons v vs=>
         simp only [xM] at h
         split at h
         case h_2=>cases h
         split at h
         case h_2=>cases h
         rename_i r hr
         cases h
         simp [ih hr]
      exact this hl
    refine ⟨v0,[],nx',htup,hrd,fun B E av hE hH hav hU=>?_⟩
    refine (F.calls B E av hE (by rw [hH,hpn,Nw];rfl) ?_ (fun n h1 _ hu=>absurd (hU n hu) (by omega))).mono fun e w' hh=>?_
    ·unfold A1
     have:=yi hav
     rw [List.map_map] at this
     rw [List.map_map]
     exact this
    ·obtain ⟨E',v',rfl,C⟩:=hh
     obtain ⟨R2,X2⟩:=Hd C.rel
     refine ⟨th E',v',rfl,R2,C.w,rfl,C.ext.trans X2,fun n hn=>?_,?_⟩
     ·have hle:=F.le
      rcases C.u n hn with h|h
      ·have:=hU n h;omega
      ·exact h.2
     ·rw [←C.h] at hpk
      exact (Ct C.rel hpk C.v).1
theorem FA {g Kc:Nat} {ct:Ctr} (hc:CtrOK P Kc g ct) {us:List U} {v:V} {u:U} (hct :∀ H m,∃ ps,ct (us.map U.toV) H m=some (ps,v,[])∧∀ p∈ps,p) (hu:VLe v u.toV) (hw:u.wf) {hp:HP} {nx:Nat} (W:hpW hp):FnV P g us hp nx u hp (nx+Kc):=
 ⟨hc.fn,Nat.le_add_right _ _,hw,W,fun B E av hE hH hav hfr=>by
  obtain ⟨ps,h1,h2⟩:=hct E.H nx
  refine (hc.calls B E hE _ av hav nx hfr ps v [] h1 h2).mono fun e w' hh=>?_
  obtain ⟨E',v',rfl,G,hv⟩:=hh
  exact ⟨E',v',rfl,⟨G.rel,G.w,by rw [G.h,pc,hH],G.ext,G.u,hu _ _ hv⟩⟩⟩
abbrev AV:=FuncId→Option (List U→Option (U×Nat))
def rO (n:Nat) :(Nat→Rf)→Rf:=Nat.rec (motive:=fun _=>(Nat→Rf)→Rf) (fun k=>k 0) (fun n _ k=>k (Nat.succ n)) n
theorem FU (n:Nat) (k:Nat→Rf):rO n k=k n:=by cases n <;> rfl
def I4 (_Kf:Nat→Rf) (r:Rf):Option (U×Nat)→HP→Nat→Rf:=fun o hp nx=>Option.rec (motive:=fun _=>Rf) r (fun q=>Prod.rec (motive:=fun _=>Rf) (fun u k=>rO (Nat.add nx k) fun nx=> .ok u hp nx) q) o
def IK (tb:Tbl) (P:FuncId→Option Func) (X:yp) (KK:FuncId→Nat) (Hk:AV) (f:FuncId):Fc:=Option.rec (motive:=fun _=>Fc) (rK tb P X KK f) (fun hk=>⟨fun call args hp nx=>I4 (fun _=> .no []) (Fc.run (rK tb P X KK f) call args hp nx) (hk args) hp nx⟩) (Hk f)
def sB (tb:Tbl) (P:FuncId→Option Func) (X:yp) (KK:FuncId→Nat) (Hk:AV) (d:Nat):eK:=Nat.rec (motive:=fun _=>eK) (fun _ _ _ _=> .no [11]) (fun _ ih f args hp nx=>Fc.run (IK tb P X KK Hk f) ih args hp nx) d
def Sg (P:Program) (Hk:AV):Prop:=∀ g hk,Hk g=some hk→∀ args q hp nx,(∀ x∈args,U.wf x)→hpW hp→hk args=some q→FnV P g args hp nx q.1 hp (nx+q.2)
theorem LS (hT:a6 P tb) (hP:P.follows .mixedOrders=true) (hname :∀ (f:FuncId) (fn:Func),P.funcs[f]?=some fn→(fn.name == "runtime.NumGoroutine")=false) {Pf:FuncId→Option Func} (hPf :∀ (f:FuncId) (fn:Func),Pf f=some fn→P.funcs[f]?=some fn) {X:yp} (hX:XOK P X) (KK:FuncId→Nat) (ih:CallVOK P call) :
  CallVOK P fun g args hp nx=>Fc.run (rK tb Pf X KK g) call args hp nx:=by
 refine ⟨fun g args hp nx u hp' nx' Wa Wh h=>?_,fun g args hp nx u hp' nx' Wa h=>?_⟩
 ·unfold rK at h
  cases hx:X g with
  | some x=>
   rw [hx] at h
   have h:IH (x args) hp nx = .ok u hp' nx':=h
   cases hxa:x args with
   | none=>rw [hxa] at h;cases h
   | some u1=>rw [hxa] at h;cases h
  | none=>
   rw [hx] at h
   have h:Fc.run (Option.rec (motive:=fun _=>Fc) ⟨fun _ _ _ _=> .no [12]⟩ (zp tb (KK g)) (Pf g)) call args hp nx = .ok u hp' nx':=h
   cases hp1:Pf g with
   | none=>rw [hp1] at h;cases h
   | some fn=>
    rw [hp1] at h
    exact Bw hT hP hname ih (hPf _ _ hp1) Wa Wh h
 ·unfold rK at h
  cases hx:X g with
  | some x=>
   rw [hx] at h
   have h:IH (x args) hp nx = .ex u hp' nx':=h
   cases hxa:x args with
   | none=>rw [hxa] at h;cases h
   | some u1=>
    rw [hxa] at h
    cases h
    obtain ⟨h1,h2⟩:=hX g x hx args u Wa hxa
    exact ⟨rfl,rfl,h1,h2⟩
  | none=>
   rw [hx] at h
   have h:Fc.run (Option.rec (motive:=fun _=>Fc) ⟨fun _ _ _ _=> .no [12]⟩ (zp tb (KK g)) (Pf g)) call args hp nx = .ex u hp' nx':=h
   cases hp1:Pf g with
   | none=>rw [hp1] at h;cases h
   | some fn=>rw [hp1] at h;exact (Fu h).elim
theorem A5 (hT:a6 P tb) (hP:P.follows .mixedOrders=true) (hname :∀ (f:FuncId) (fn:Func),P.funcs[f]?=some fn→(fn.name == "runtime.NumGoroutine")=false) {Pf:FuncId→Option Func} (hPf :∀ (f:FuncId) (fn:Func),Pf f=some fn→P.funcs[f]?=some fn) {X:yp} (hX:XOK P X) (KK:FuncId→Nat) {Hk:AV} (hH:Sg P Hk) :∀ d,CallVOK P (sB tb Pf X KK Hk d)
 | 0=>⟨fun g args hp nx u hp' nx' _ _ h=>(by cases h),fun g args hp nx u hp' nx' _ h=>(by cases h)⟩
 | d+1=>by
  have ih:=A5 hT hP hname hPf hX KK hH d
  have ic:=LS hT hP hname hPf hX KK ih
  refine ⟨fun g args hp nx u hp' nx' Wa Wh h=>?_,fun g args hp nx u hp' nx' Wa h=>?_⟩
  ·have h:Fc.run (IK tb Pf X KK Hk g) (sB tb Pf X KK Hk d) args hp nx = .ok u hp' nx':=h
   unfold IK at h
   cases hx:Hk g with
   | none=>rw [hx] at h;exact ic.ok g args hp nx u hp' nx' Wa Wh h
   | some hk=>
    rw [hx] at h
    have h:I4 (fun _=> .no []) (Fc.run (rK tb Pf X KK g) (sB tb Pf X KK Hk d) args hp nx) (hk args) hp nx = .ok u hp' nx':=h
    cases hq:hk args with
    | none=>rw [hq] at h;exact ic.ok g args hp nx u hp' nx' Wa Wh h
    | some q=>
     rw [hq] at h
     have h:rO (nx+q.2) (fun nx=> .ok q.1 hp nx) = .ok u hp' nx':=h
     rw [FU] at h
     cases h
     exact hH g hk hx args q _ nx Wa Wh hq
  ·have h:Fc.run (IK tb Pf X KK Hk g) (sB tb Pf X KK Hk d) args hp nx = .ex u hp' nx':=h
   unfold IK at h
   cases hx:Hk g with
   | none=>rw [hx] at h;exact ic.ex g args hp nx u hp' nx' Wa h
   | some hk=>
    rw [hx] at h
    have h:I4 (fun _=> .no []) (Fc.run (rK tb Pf X KK g) (sB tb Pf X KK Hk d) args hp nx) (hk args) hp nx = .ex u hp' nx':=h
    cases hq:hk args with
    | none=>rw [hq] at h;exact ic.ex g args hp nx u hp' nx' Wa h
    | some q=>
     rw [hq] at h
     have h:rO (nx+q.2) (fun nx=> .ok q.1 hp nx) = .ex u hp' nx':=h
     rw [FU] at h
     cases h
end
end
end Go.Mir
namespace Go.Proofs.YtjcbhomccohklaaGreatDoor
section
open Go Go.Mir Go.RowKit
noncomputable def OU:List Nat:= [
 0,0,0,65119,24575,1527,140720310845503,1032940127599,95,594939163895262103551,1947349200245056407673908985094143,
 2392683150551144683568538656555278561279,33786519748097791,4556521684263376639,33518643,33518643,5,618970010428591257176961527,
 316853431581361610345484644855,1074250695,342961754377944325198902640958314186751,1,31039,2175,2207680827519,80941,571884156494847,
 730729220306227659762194183914400919200083747103,66037,37463,137564798303,302230879571321747537903,154213489041278403426151199,
 1213667822984302636833487,365403373062433333546563561133644584319791093743,68531,15,2549836180598591,135091,590007613036614872863,189,2093,
 17205069072303483745460431797280757845121363959,432600376175263735,135333885,590293562956938354615,21299455823972908768697484916704673631,
 15647962890497478761257512869494775,154653373227835051981125359370231,135858109,270003,147569453388095438327,18031149959998317,
 2537796727798967729357673716799,33518643,7,262719,575408255,206561870351,132127,33518643,16909343,1074250695,1074250695,584132333839,5,
 43663,137564798303,2744855811295851277030285654977469577215,9837270009305429375,3291512852128515859596046115015110284366959928573999567273181151,
 17661509535773,71,62811766190143,70435309755079,21,29,9952028611233722914988628719,536875975,21,33624375,567637910811613,34871,
 157734642905710068991,7,17247504839,287,751,1125899906781167,543,68531,15,68531,31,2111,67791,33624247,1267766971744237,537982711,7,
 550831686637,17247504839,33271,287,18154794255615,1157496576784466559,36296793806975,2111,67791,41619509458458402374926480527327247,
 623371976811471490270839,21,2203355973565,7,18013866068819231,19,5,603909516494502635802615,19,15,5,5,5,1,65805,393671,100215,41461,
 7,1074266623,41461,554189343,537427959,7,30767,10680565413657634966791598749211705311,1748372298083039162489419473994526981374079,
 613909102082408237765055,23,4611685889574277119,9690297247829818509099023,7,549823021095,16885,19,34359873459,69868716031,5,71,68531,
 527852025946365,51,1152956693341280511,50467315,19,17714647155,594912002450663878599,17247509535,21,
 5574585500266620241506278819022995797836279,45798598826349314118952776107391,30767,1166414994787599451,30468223768147948836066781331485,7,
 35184338929599,313835791421,189,71,2436141435116378390535,5,72110370594031615,10625322633999130018815,270007,
 2658455675924155280183567316963852351,71,17314119695,255,68531,526359,5,19,563,147,8467,65811,66109,4243,33171,262771,201458291,
 749019592093908130998168547243858079179057434181575,2035,2035,711,711,39696297806334883182330020991,147511,545799231,189,71,16403,
 2436141435116378390535,8388487,5,37742254529999670338043,4718529,18330886059069691,270007,166153420561695367707252321293500543,7,
 101442647862428755572662893270609959105484889768075967,147511,71,16527,30791694323487,72268425669383167,7,17188391667,1043,19,1037,19,
 281518060864637,5,3259340307738458011409318461,77,5,5,71,9942831655231632527697442807,17041395,89478431,19,8191,71,21,21,21,
 281473366116127,8380695,4726978173286391744511,39,1125899890069523,71,1137188723,290623467576168319,9175,
 145025710296123410904321674198368924715718399,18272502847,21,141,3288334866514706593133645328825960668421405409267,
 20426029832823244530989399071,167646794486930362006707544072189,15663183425078192791428758033914457634011265410594242675,5,5,19,5,19,7,
 5233021378056568784808409033611007,18272502847,15,67650767,66015,669319516925162926939791635824639,8311,8396919,577588028814460111,134199,
 17318199,2276601635023,33882175,176160575,153157571569583935,39,526271,5,540949,13,5,5,1037,5,0,68531,0,19,5,4393886845391,
 132063,2502854235920920419110911,16631,16793847,20268951531555279,268407,34636407,18212808952271,67764351,264703,4327551,2449471999,
 19221507316027580516863,39,526271,151,180457415182559,1069614111,5465788277392579832897814308109687003511,4434693189791,18281528828543,
 72057680004915423,7,8406071,151,16535,31,21,21,68531,8388487,7,151,8388487,739154422722068959,9663669631,148638630510879231,
 72057680004907231,4047,8406071,65795,8388487,151,279,31,151,34357774559,34771,34082647,61,538972275,5,5,151,34357772511,4278323263,
 4434693189791,34082647,0,0,0,0,0,0,0,0,0,0,0,0,0,0,0,0,0,0,0,0,0,0,0,0,0,0,0,0,8]
noncomputable def awK (f:FuncId):Nat:=(OU[f]?).getD 0
noncomputable def awX:yp:=fun f=>Bool.rec (motive:=fun _=>Option (List U→Option U)) none (some ixB) (Nat.beq f 288)
noncomputable def awP (f:FuncId):Option Func:=Tryz.prog.funcs[f]?
theorem Fa:FR Tryz.prog=true:=by kernel_rfl
theorem Sn:a6 Tryz.prog (HK tbl):=M8 AH
theorem Nn:XOK Tryz.prog awX:=fun g x hx args u _ h=>by
 have hx :(Bool.rec (motive:=fun _=>Option (List U→Option U)) none (some ixB) (Nat.beq g 288):Option (List U→Option U))=some x:=hx
 cases hb:Nat.beq g 288 with
 | false=>rw [hb] at hx;cases hx
 | true=>
  rw [hb] at hx
  cases hx
  obtain rfl:=aE hb
  exact Px Tryz.func288 (by kernel_rfl) (by kernel_rfl) (by kernel_rfl) (by kernel_rfl) h
theorem H5 (d:Nat):CallVOK Tryz.prog (vX (HK tbl) awP awX awK d):=A6 Sn mixed (B4 Fa) (fun _ _ h=>h) Nn awK d
abbrev tEx:Ty:= .slice (.nm .Event)
abbrev tPx:Ty:= .slice (.nm .Delivered)
abbrev tI6:Ty:= .int .i64
def exR:Rules:={ Rules.zero with Name:=⟨#[84,69,83,84]⟩,Side:=2,Innings:=1,Overs:=1,Balls:=4,Wide:=1,NoBall:=1,Outside:=11 }
def exL:List Mir.Event:= [⟨1,1,0,0,true,0,0,⟨0,0,0,0,0,false,0,0,0,0,false,0⟩⟩,⟨2,0,1,2,false,0,0,⟨0,0,0,0,0,false,0,0,0,0,false,0⟩⟩,⟨8,0,2,0,false,0,0,⟨0,0,0,0,0,false,0,0,0,0,false,0⟩⟩,⟨3,0,1,0,false,0,0,⟨0,0,0,0,0,false,0,0,0,0,false,0⟩⟩,⟨4,0,0,0,false,0,0,⟨1,1,1,0,0,false,0,0,0,0,false,0⟩⟩,⟨4,0,0,0,false,0,0,⟨1,0,0,0,0,false,1,1,0,0,false,0⟩⟩,⟨2,0,2,1,false,0,0,⟨0,0,0,0,0,false,0,0,0,0,false,0⟩⟩,⟨8,0,1,0,false,0,0,⟨0,0,0,0,0,false,0,0,0,0,false,0⟩⟩,⟨3,0,2,0,false,0,0,⟨0,0,0,0,0,false,0,0,0,0,false,0⟩⟩,⟨4,0,0,0,false,0,0,⟨2,0,0,0,0,false,0,0,0,0,false,0⟩⟩,⟨4,0,0,0,false,0,0,⟨1,1,0,0,4,false,0,0,0,0,false,0⟩⟩]
abbrev QH:Pat:=cn []
abbrev Kj:Pat:=cn [tEx]
abbrev UE:List PC0:= [.h .str,.h tI6,.h tI6,.h tI6,.h tI6,.h tI6,.h tI6,.h tI6,.h .bool,.h tI6,.h tI6,.h tI6,.h tI6,.c .nilsl]
abbrev Ad:Pat:=⟨[(0,.a UE),(1,.h tEx)],[],0⟩
def qN:Den (tyP Ad):=(exR.Name,exR.Side,exR.Innings,exR.Overs,exR.Balls,exR.Quota,exR.Wide,exR.NoBall,exR.FreeHit,exR.NewBall,exR.FollowOn,exR.Reviews,exR.Outside,exL,())
abbrev q2Play0:Pat:=cn [tPx,.nm .Match,tI6,tI6]
theorem Qy:CtrOK Tryz.prog KE 22 (aj KE QH Kj fun x=>([x =()],(exL,()))):=
 sF (q:=QH) (q':=Kj) (H5 10) () (exL,()) (ts:= [tEx]) rfl rfl rfl (by kernel_rfl)
def exP:List Delivered:= [⟨4,0,0,0,1,1,2,false,⟨1,1,1,0,0,false,0,0,0,0,false,0⟩,⟨1,0,0,0,0,1,true,true,false,true⟩,1,0⟩,⟨5,0,0,1,1,2,1,false,⟨1,0,0,0,0,false,1,1,0,0,false,0⟩,⟨0,0,0,0,0,0,true,true,true,false⟩,1,1⟩,⟨9,1,0,0,2,2,1,false,⟨2,0,0,0,0,false,0,0,0,0,false,0⟩,⟨0,1,0,0,0,1,false,false,false,false⟩,1,0⟩,⟨10,1,0,0,2,2,1,false,⟨1,1,0,0,4,false,0,0,0,0,false,0⟩,⟨4,0,0,0,0,4,true,true,false,false⟩,5,0⟩]
def exM:Match:=⟨exR,5,1,false,[⟨1,0,1,1,1,⟨0,0,0,0,0⟩,0,2,0,1,[1,2],1,[1],[],true,[2,0],false,2,2,0,[false,false],(0,0,()),1⟩,⟨2,2,1,5,0,⟨1,0,0,0,0⟩,0,1,2,1,[1,1],2,[2],[],true,[0,1],false,1,1,0,[false,false],(0,0,()),3⟩],(0,0,()),⟨2,2,1⟩⟩
def ve:Den (tyP q2Play0):=(exP,exM,(-1:Int),(0:Int),())
theorem Mt:CtrOK Tryz.prog KE 43 (aj KE Ad q2Play0 fun x=>([x=qN],ve)):=
 sF (H5 40) qN ve (ts:= [tPx,.nm .Match,tI6,tI6]) rfl rfl rfl (by kernel_rfl)
def Ll:V:= .fsl (.nm .Event) exL
noncomputable def Ub:U:= .oth Ll
def Gu:V:=Cq (q2Play0.tmOf ve)
noncomputable def Uc:U:=ku (kbV Gu)
def HT:V:= .agg [.str exR.Name,.int .i64 2,.int .i64 1,.int .i64 1,.int .i64 4,.int .i64 0,.int .i64 1,.int .i64 1,.kb false,.int .i64 0,.int .i64 0,.int .i64 0,.int .i64 11,.nilsl]
def FD (v:V):Bool:=match v with
 | .fsl t xs=>if h:t = .nm .Event then DB (eqD dx (.nm .Event)) (h▸xs:List (Den (.nm .Event))) exL else false
 | _=>false
theorem I8 {v:V} (h:FD v=true):v=Ll:=by
 unfold FD at h
 split at h
 ·split at h
  ·rename_i e
   subst e
   have:=yV (qb dx _) h
   unfold Ll
   exact congrArg _ this
  ·cases h
 ·cases h
noncomputable def I3 (args:List U):Option (U×Nat):=match args with
 | []=>some (Ub,KE)
 | _=>none
noncomputable def DQ (args:List U):Option (U×Nat):=match args with
 | [a,b]=>Bool.rec (motive:=fun _=>Option (U×Nat)) none (Bool.rec (motive:=fun _=>Option (U×Nat)) none (some (Uc,KE)) (FD b.toV)) (V.eqb a.toV HT)
 | _=>none
noncomputable def Pi:AV:=fun f=>Bool.rec (motive:=fun _=>Option (List U→Option (U×Nat))) (Bool.rec (motive:=fun _=>Option (List U→Option (U×Nat))) none (some DQ) (Nat.beq f 43)) (some I3) (Nat.beq f 22)
theorem Pn (H:aw) (m:Nat) :∃ ps,aj KE QH Kj (fun x=>([x =()],(exL,()))) [] H m=some (ps,Ll,[])∧∀ p∈ps,p:=
 ⟨[() =()],by kernel_rfl,fun p hp=>by rw [List.mem_singleton.1 hp]⟩
theorem L0 (H:aw) (m:Nat) :∃ ps,aj KE Ad q2Play0 (fun x=>([x=qN],ve)) [HT,Ll] H m=some (ps,Gu,[])∧∀ p∈ps,p:=
 ⟨[qN=qN],by kernel_rfl,fun p hp=>by rw [List.mem_singleton.1 hp]⟩
theorem Pj:Sg Tryz.prog Pi:=fun g hk h args q hp nx _ W hq=>by
 have h :(Bool.rec (motive:=fun _=>Option (List U→Option (U×Nat))) (Bool.rec (motive:=fun _=>Option (List U→Option (U×Nat))) none (some DQ) (Nat.beq g 43)) (some I3) (Nat.beq g 22))=some hk:=h
 cases h1:Nat.beq g 22 with
 | true=>
  rw [h1] at h
  cases h
  obtain rfl:=aE h1
  unfold I3 at hq
  split at hq
  ·cases hq
   exact FA Qy (us:= []) (u:=Ub) Pn (VLe.refl _) trivial W
  ·cases hq
 | false=>
  rw [h1] at h
  cases h2:Nat.beq g 43 with
  | false=>rw [h2] at h;cases h
  | true=>
   rw [h2] at h
   cases h
   obtain rfl:=aE h2
   unfold DQ at hq
   split at hq
   ·rename_i a b _
    cases h3:V.eqb a.toV HT with
    | false=>rw [h3] at hq;cases hq
    | true=>
     rw [h3] at hq
     cases h4:FD b.toV with
     | false=>rw [h4] at hq;cases hq
     | true=>
      rw [h4] at hq
      cases hq
      refine FA Mt (us:= [a,b]) (v:=Gu) (fun H m=>?_) ((DW _).trans (lq _)) (lr _) W
      show ∃ ps,aj KE Ad q2Play0 (fun x=>([x=qN],ve)) [a.toV,b.toV] H m=some (ps,Gu,[])∧∀ p∈ps,p
      rw [V.eqb_eq _ _ h3,I8 h4]
      exact L0 H m
   ·cases hq
theorem Ph (d:Nat):CallVOK Tryz.prog (sB (HK tbl) awP awX awK Pi d):=A5 Sn mixed (B4 Fa) (fun _ _ h=>h) Nn awK Pj d
def xp:FuncId×Ctr:=(6,aK KE .unit fun _=>⟨[],.bool true,[]⟩)
theorem Uy:S2 true (sB (HK tbl) awP awX awK Pi 40 6 [] hp0 0)=true:=by kernel_rfl
theorem Eo:CtrOK Tryz.prog KE 6 (aK KE .unit fun _=>⟨[],.bool true,[]⟩):=Dv (Ph 40) Uy
end
section
open Go Go.Mir Go.RowKit
attribute [local irreducible] Go.Mir.DT.sat Go.Mir.evPat Go.Mir.RT.sat Go.Mir.evFn
abbrev hpV:List (Nat×PB):= [(0,.dat (.nm .Rules)),(1,.dat (.nm .Book))]
abbrev tmV:List (Nat×PC):= [(2,.c (.ptr 0 0)),(3,.c (.ptr 1 0)),(6,.h tSys)]
abbrev Uk:Lf×Pat:=(.ret,⟨[(4,.h I)],[],0⟩)
abbrev qV0:Pat:=⟨tmV++[(36,.h I),(37,.h I)],hpV,2⟩
abbrev xV0:List (Lf×Pat):= [(.ext 0,⟨tmV,hpV,2⟩),Uk]
abbrev TV0:Type:=List ref21_Symbol×Int×Int×Rules×Mir.Book×Unit
def cO (a:List ref21_Symbol) (r:Rules) (b:Mir.Book) (e:Int):Sum (List ref21_Symbol×Rules×Mir.Book×Unit) (Int×Unit):=if e != 0 then .inr (e,()) else .inl (a,r,b,())
def iT:TV0→Sum (List ref21_Symbol×Rules×Mir.Book×Unit) (Int×Unit)
 |(a,_,i,r,b,_)=>cO a r b (bxR r (b.Boxes.take i.toNat) (b.Boxes.drop i.toNat))
def wV:TV0→Prop
 |(a,n,i,r,b,_)=>(n =(b.Boxes.length:Int)∧smX b.Boxes)∧(0≤i∧i≤n)∧isS r a∧rdG r
def vD:TV0→Nat
 |(_,n,i,_)=>(n - i).toNat
abbrev qV1:Pat:=⟨tmV++[(52,.h I),(53,.h I)],hpV,2⟩
abbrev xV1:List (Lf×Pat):= [(.ext 2,⟨tmV,hpV,2⟩),Uk]
def iU:TV0→Sum (List ref21_Symbol×Rules×Mir.Book×Unit) (Int×Unit)
 |(a,_,i,r,b,_)=>cO a r b (aD r (b.Strips.take i.toNat) (b.Strips.drop i.toNat))
def wW:TV0→Prop
 |(_,n,i,_,b,_)=>(n =(b.Strips.length:Int)∧smY b.Strips)∧0≤i∧i≤n
def QU:Den (tyP qRB)→List Prop×Den (tyP rP):=fun x=>([smB x.2.1],(dw x.1 x.2.1,()))
def Gf:Den (tyP qRB)→List Prop×Den (tyP dT):=fun _=>([],(true,()))
theorem pO {r:Rules} :∀ (l pre:List Mir.Strip),aD r pre l=0→∀ x∈l,s9 x.Symbols
 | [],_,_,x,hx=>by cases hx
 | y::l,pre,h,x,hx=>by
  unfold aD at h
  have h0:bQ r pre y=0:=by
   by_cases hb:bQ r pre y=0
   ·exact hb
   ·rw [if_pos (by simpa using hb)] at h;exact absurd h hb
  rw [if_neg (by rw [h0];decide)] at h
  rcases List.mem_cons.1 hx with rfl|hx
  ·unfold bQ at h0
   split at h0
   ·cases h0
   ·split at h0
    ·cases h0
    ·split at h0
     ·cases h0
     ·rename_i hq
      intro w hw
      cases hf :(bF w).2 with
      | true=>rfl
      | false=>exact absurd (List.any_eq_true.2 ⟨w,hw,by rw [hf];rfl⟩) hq
  ·exact pO l _ h x hx
noncomputable def lpV0:Lp:=(⟨0,az [L5] Tryz.f9,(fun _=>none),(aq Tryz.f9 0),qV0,xV0⟩:Lp)
theorem RJ (a:List ref21_Symbol) (n:Int) (i:Int) (r:Rules) (b:Mir.Book) (hi:wV (a,n,i,r,b,())) :(Go.Mir.stepG lpV0 iT (fun y:Den (tyP lpV0.q)=>wV y∧vD y<vD (a,n,i,r,b,())) (a,n,i,r,b,())∧Go.Mir.stepE lpV0 iT (a,n,i,r,b,())=iT (a,n,i,r,b,())):=by
 refine cast (by kernel_rfl) (?_:let r1:Bool:=jw r (List.take i.toNat b.2) (atB b.2 i) != 0;((decide (i<n)=true→isS r a∧rdG r∧smX b.2∧inL i b.2.length∧(r1=true→True)∧(r1=false→wV (a,n,IntKind.i64.wrap (i+1),r,b,())∧vD (a,n,IntKind.i64.wrap (i+1),r,b,())<vD (a,n,i,r,b,())))∧(decide (i<n)=false→True))∧(cond (decide (i<n)) (cond r1 (Sum.inr (jw r (List.take i.toNat b.2) (atB b.2 i),())) (iT (a,n,IntKind.i64.wrap (i+1),r,b,()))) (Sum.inl (a,r,b,())))=iT (a,n,i,r,b,()))
 intro r1
 clear_value (hr1:r1=_)
 obtain ⟨⟨h1,hs⟩,⟨h2,h3⟩,ha,hr⟩:=hi
 have h1:n =(b.Boxes.length:Int):=h1
 have h2:0≤i:=h2
 have h3:i≤n:=h3
 have hs4:=hs.1
 refine fv (fun h=>?_) (fun h=>?_)
 ·have e1:IntKind.i64.wrap (i+1)=i+1:=aL (by omega) (by omega)
  have hd:b.Boxes.drop i.toNat=atB b.Boxes i::b.Boxes.drop (i+1).toNat:=aP h2 (by omega) Box.zero
  have ht:b.Boxes.take (i+1).toNat=b.Boxes.take i.toNat++[atB b.Boxes i]:=pP h2 (by omega) Box.zero
  have key:iT (a,n,i,r,b,())=bif r1 then .inr (jw r (b.Boxes.take i.toNat) (atB b.Boxes i),()) else iT (a,n,i+1,r,b,()):=by
   show cO a r b (bxR r (b.Boxes.take i.toNat) (b.Boxes.drop i.toNat))=bif r1 then _ else cO a r b (bxR r (b.Boxes.take (i+1).toNat) (b.Boxes.drop (i+1).toNat))
   rw [hd,ht,bxR,hr1]
   show cO a r b (if (jw r (b.Boxes.take i.toNat) (atB b.Boxes i) != 0)=true then _ else _)=_
   cases hz:jw r (b.Boxes.take i.toNat) (atB b.Boxes i) != 0 with
   | true=>
    rw [if_pos rfl]
    unfold cO
    rw [hz]
    rfl
   | false=>rfl
  rw [e1,key]
  refine ⟨⟨ha,hr,hs,⟨h2,by show i <(b.Boxes.length:Int);omega⟩,fun _=>trivial,fun _=>⟨?_,?_⟩⟩,rfl⟩
  ·exact ⟨⟨h1,hs⟩,⟨by show 0≤i+1;omega,by show i+1≤n;omega⟩,ha,hr⟩
  ·show (n - (i+1)).toNat <(n - i).toNat;omega
 ·show Sum.inl (a,r,b,())=cO a r b (bxR r (b.Boxes.take i.toNat) (b.Boxes.drop i.toNat))
  rw [aG (l:=b.Boxes) (by omega)]
  rfl
noncomputable def OC:LoopSum:=ai lpV0 iT wV
noncomputable def NZ:Nat:=rid (aq Tryz.f9 0)
theorem Qd:LoopOKp Tryz.prog 0 Tryz.f9.ntmps (aq Tryz.f9 0) (ai lpV0 iT wV):=
 ax lpV0 (an (.consU J4 rfl .nil) _) mixed (fun b hb S hS=>by cases hS) iT wV vD (fun |⟨a,n,i,r,b,⟨⟩⟩,hi=>RJ a n i r b hi)
noncomputable def lpV1:Lp:=(⟨0,az [BK] Tryz.f9,(fun _=>none),(aq Tryz.f9 1),qV1,xV1⟩:Lp)
theorem RK (a:List ref21_Symbol) (n:Int) (i:Int) (r:Rules) (b:Mir.Book) (hi:wW (a,n,i,r,b,())) :(Go.Mir.stepG lpV1 iU (fun y:Den (tyP lpV1.q)=>wW y∧vD y<vD (a,n,i,r,b,())) (a,n,i,r,b,())∧Go.Mir.stepE lpV1 iU (a,n,i,r,b,())=iU (a,n,i,r,b,())):=by
 refine cast (by kernel_rfl) (?_:let r1:Bool:=bQ r (List.take i.toNat b.3) (atS b.3 i) != 0;((decide (i<n)=true→smY b.3∧inL i b.3.length∧(r1=true→True)∧(r1=false→wW (a,n,IntKind.i64.wrap (i+1),r,b,())∧vD (a,n,IntKind.i64.wrap (i+1),r,b,())<vD (a,n,i,r,b,())))∧(decide (i<n)=false→True))∧(cond (decide (i<n)) (cond r1 (Sum.inr (bQ r (List.take i.toNat b.3) (atS b.3 i),())) (iU (a,n,IntKind.i64.wrap (i+1),r,b,()))) (Sum.inl (a,r,b,())))=iU (a,n,i,r,b,()))
 intro r1
 clear_value (hr1:r1=_)
 obtain ⟨⟨h1,hs⟩,h2,h3⟩:=hi
 have h1:n =(b.Strips.length:Int):=h1
 have h2:0≤i:=h2
 have h3:i≤n:=h3
 have hs4:=hs.1
 refine fv (fun h=>?_) (fun h=>?_)
 ·have e1:IntKind.i64.wrap (i+1)=i+1:=aL (by omega) (by omega)
  have hd:b.Strips.drop i.toNat=atS b.Strips i::b.Strips.drop (i+1).toNat:=aP h2 (by omega) Strip.zero
  have ht:b.Strips.take (i+1).toNat=b.Strips.take i.toNat++[atS b.Strips i]:=pP h2 (by omega) Strip.zero
  have key:iU (a,n,i,r,b,())=bif r1 then .inr (bQ r (b.Strips.take i.toNat) (atS b.Strips i),()) else iU (a,n,i+1,r,b,()):=by
   show cO a r b (aD r (b.Strips.take i.toNat) (b.Strips.drop i.toNat))=bif r1 then _ else cO a r b (aD r (b.Strips.take (i+1).toNat) (b.Strips.drop (i+1).toNat))
   rw [hd,ht,aD,hr1]
   show cO a r b (if (bQ r (b.Strips.take i.toNat) (atS b.Strips i) != 0)=true then _ else _)=_
   cases hz:bQ r (b.Strips.take i.toNat) (atS b.Strips i) != 0 with
   | true=>
    rw [if_pos rfl]
    unfold cO
    rw [hz]
    rfl
   | false=>rfl
  rw [e1,key]
  refine ⟨⟨hs,⟨h2,by show i <(b.Strips.length:Int);omega⟩,fun _=>trivial,fun _=>⟨?_,?_⟩⟩,rfl⟩
  ·exact ⟨⟨h1,hs⟩,by show 0≤i+1;omega,by show i+1≤n;omega⟩
  ·show (n - (i+1)).toNat <(n - i).toNat;omega
 ·show Sum.inl (a,r,b,())=cO a r b (aD r (b.Strips.take i.toNat) (b.Strips.drop i.toNat))
  rw [aG (l:=b.Strips) (by omega)]
  rfl
noncomputable def OD:LoopSum:=ai lpV1 iU wW
noncomputable def N0:Nat:=rid (aq Tryz.f9 1)
theorem Qe:LoopOKp Tryz.prog 0 Tryz.f9.ntmps (aq Tryz.f9 1) (ai lpV1 iU wW):=
 ax lpV1 (an (.consU zR rfl .nil) _) mixed (fun b hb S hS=>by cases hS) iU wW vD (fun |⟨a,n,i,r,b,⟨⟩⟩,hi=>RK a n i r b hi)
theorem CN (r:Rules) (b:Mir.Book) (hb:smB b) :(evPat (az [k86,BL,tH,xg,rk,xh] Tryz.f9) (find [(NZ,OC),(N0,OD)]) Tryz.f9 qRB rP (r,b,())).sat fun z_=>z_ =(QU (r,b,())).2:=by
 refine cast (by kernel_rfl) (?_:let r1:Bool:=cond (b.1 != 1) (cond (b.1 != 2) true (!(bV b).all okI)) (!(bV b).all okI);let r2:Bool:=isL (iT (bl r,(↑b.2.length:Int),0,r,b,()));let r3:List ref21_Symbol×Rules×Mir.Book×PUnit:=oc (dflt (tSys.prod ((Ty.nm Nm.Rules).prod ((Ty.nm Nm.Book).prod Ty.unit)))) (iT (bl r,(↑b.2.length:Int),0,r,b,()));let r4:Int:=(↑r3.2.2.1.3.length:Int);let r5:Bool:=isL (iU (r3.1,r4,0,r3.2));let r6:List ref21_Symbol×Rules×Mir.Book×PUnit:=oc (dflt (tSys.prod ((Ty.nm Nm.Rules).prod ((Ty.nm Nm.Book).prod Ty.unit)))) (iU (r3.1,r4,0,r3.2));let r7:Bool:=!lG r6.2.1 r6.2.2.1 (oO r6.2.1 r6.2.2.1);((aV r != 0)=true→(aV r,()) =(dw r b,()))∧((aV r != 0)=false→(((b.1 != 1)=true→((b.1 != 2)=true→True)∧((b.1 != 2)=false→(bV b).length≤(1000000:Nat)∧True))∧((b.1 != 1)=false→(bV b).length≤(1000000:Nat)∧True))∧(true=true→(r1=true→(2,()) =(dw r b,()))∧(r1=false→smB b∧(gq b=true→(9,()) =(dw r b,()))∧(gq b=false→nv r∧((cg fun x=>none)∧((↑b.2.length:Int) =(↑b.2.length:Int)∧smX b.2)∧((0:Int)≤0∧0≤(↑b.2.length:Int))∧isS r (bl r)∧rdG r)∧(r2=true→((cg fun x=>none)∧(r4 =(↑r3.2.2.1.3.length:Int)∧smY r3.2.2.1.3)∧(0:Int)≤0∧0≤r4)∧(r5=true→ndR r6.2.1 r6.1 r6.2.2.1∧(r7=true→(12,()) =(dw r b,()))∧(r7=false→(0,()) =(dw r b,())))∧(r5=false→jT (dflt (I.prod Ty.unit)) (iU (r3.1,r4,0,r3.2)) =(dw r b,())))∧(r2=false→jT (dflt (I.prod Ty.unit)) (iT (bl r,(↑b.2.length:Int),0,r,b,())) =(dw r b,())))))))
 intro r1 r2 r3 r4 r5 r6 r7
 clear_value (hr1:r1=_) (hr2:r2=_) (hr3:r3=_) (hr4:r4=_) (hr5:r5=_) (hr6:r6=_) (hr7:r7=_)
 have e1:r1 =(nR b||!(bV b).all okI):=by
  rw [hr1]
  unfold nR
  show (bif b.Side != 1 then bif b.Side != 2 then true else _ else _)=_
  cases b.Side != 1 <;> cases b.Side != 2 <;> rfl
 have hsl :(bV b).length≤1000000:=by show 7≤1000000;decide
 refine ⟨fun h=>?_,fun h=>⟨⟨fun _=>⟨fun _=>trivial,fun _=>⟨hsl,trivial⟩⟩,fun _=>⟨hsl,trivial⟩⟩,fun _=>?_⟩⟩
 ·unfold dw
  rw [if_pos h]
 have hc:aV r=0:=by simpa using h
 have hg:=v8 hc
 have e0:dw r b=if nR b||!(bV b).all okI then 2 else if gq b then 9
   else if bxR r [] b.Boxes != 0 then bxR r [] b.Boxes else vh r b (oO r b):=by
  unfold dw
  rw [if_neg (by rw [hc];decide)]
 rw [e0,←e1]
 refine ⟨fun h1=>by rw [h1];rfl,fun h1=>⟨hb,fun hm=>by rw [h1,hm];rfl,fun hm=>⟨hg.1,⟨rfl,⟨rfl,hb.1⟩,⟨Int.le_refl _,by omega⟩,rfl,hg⟩,fun h2=>?_,fun h2=>?_⟩⟩⟩
 ·rw [h1,hm]
  have ev:iT (bl r,(b.Boxes.length:Int),0,r,b,())=cO (bl r) r b (bxR r [] b.Boxes):=rfl
  rw [ev] at hr2 hr3
  cases hz:bxR r [] b.Boxes != 0 with
  | true=>rw [hr2] at h2;unfold cO at h2;rw [hz] at h2;cases h2
  | false=>
   have hz0:bxR r [] b.Boxes=0:=by simpa using hz
   have e3:r3 =(bl r,r,b,()):=by rw [hr3];unfold cO;rw [hz];rfl
   subst e3
   clear hr3
   dsimp only at *
   refine ⟨⟨rfl,⟨hr4,hb.2⟩,Int.le_refl _,by omega⟩,fun h5=>?_,fun h5=>?_⟩
   ·have ev:iU (bl r,r4,0,r,b,())=cO (bl r) r b (aD r [] b.Strips):=rfl
    rw [ev] at hr5 hr6
    cases hy:aD r [] b.Strips != 0 with
    | true=>rw [hr5] at h5;unfold cO at h5;rw [hy] at h5;cases h5
    | false=>
     have hy0:aD r [] b.Strips=0:=by simpa using hy
     have e6:r6 =(bl r,r,b,()):=by rw [hr6];unfold cO;rw [hy];rfl
     subst e6
     clear hr6
     dsimp only at *
     have hx:=sA b.Boxes [] hz0
     have hso:qL b:=by
      rw [e1] at h1
      simp only [Bool.or_eq_false_iff,Bool.not_eq_false'] at h1
      exact h1.2
     have hst:=ll hg.2.2.1 b.Strips [] hy0
     refine ⟨⟨⟨rfl,hg,fun x hm=>(hx x hm).2.1⟩,hb,fun x hm=>⟨(hx x hm).1,by have:=(hx x hm).2;exact ⟨by omega,this.2⟩⟩,fun x hm=>⟨⟨(hst x hm).1,by have:=(hst x hm).2;omega⟩,pO b.Strips [] hy0 x hm⟩,hso⟩,fun h7=>?_,fun h7=>?_⟩
     ·show _ =(vh r b (oO r b),())
      unfold vh
      rw [hy]
      rw [hr7] at h7
      show _ =(if lG r b (oO r b)=true then 0 else 12,())
      rw [if_neg (by simpa using h7)]
     ·show _ =(vh r b (oO r b),())
      unfold vh
      rw [hy]
      rw [hr7] at h7
      show _ =(if lG r b (oO r b)=true then 0 else 12,())
      rw [if_pos (by simpa using h7)]
   ·have ev:iU (bl r,r4,0,r,b,())=cO (bl r) r b (aD r [] b.Strips):=rfl
    rw [ev] at hr5 ⊢
    cases hy:aD r [] b.Strips != 0 with
    | true=>
     show jT _ (cO (bl r) r b (aD r [] b.Strips)) =(vh r b (oO r b),())
     unfold vh cO
     rw [hy]
     rfl
    | false=>rw [hr5] at h5;unfold cO at h5;rw [hy] at h5;cases h5
 ·rw [h1,hm]
  have ev:iT (bl r,(b.Boxes.length:Int),0,r,b,())=cO (bl r) r b (bxR r [] b.Boxes):=rfl
  rw [ev] at hr2 ⊢
  cases hz:bxR r [] b.Boxes != 0 with
  | true=>
   show jT _ (cO (bl r) r b (bxR r [] b.Boxes)) =(bxR r [] b.Boxes,())
   unfold cO
   rw [hz]
   rfl
  | false=>rw [hr2] at h2;unfold cO at h2;rw [hz] at h2;cases h2
def xf:FuncId×Ctr:=(9,aj KE qRB rP QU)
theorem Ef:CtrOK Tryz.prog KE 9 (aj KE qRB rP QU):=by
 refine aO (C:=az [k86,BL,tH,xg,rk,xh] Tryz.f9) (an (.consU UZ rfl (.consU Ho rfl (.consU Ck rfl (.consU Eg rfl (.consU zQ rfl (.consU Eh rfl .nil)))))) _) mixed (fn:=Tryz.f9) Tryz.func9 (by kernel_rfl) (by kernel_rfl) (by kernel_rfl) (by kernel_rfl) (by kernel_rfl) (by kernel_rfl) (Λ:=fun x=>find [(NZ,OC),(N0,OD)]) ?_ ?_
 ·rintro ⟨r,b,⟨⟩⟩ hw hn
  exact LoopsOKp.at (by kernel_rfl) (.cons (by kernel_rfl) (Qd) (.cons (by kernel_rfl) (Qe) .nil))
 ·rintro ⟨r,b,⟨⟩⟩ hw hn
  exact CN r b (hn _ List.mem_cons_self)
theorem Au (r:Rules) (b:Mir.Book) :(evPat (az [xp,FJ,xd,xf] Tryz.f3) (fun _=>none) Tryz.f3 qRB dT (r,b,())).sat fun z_=>z_ =(Gf (r,b,())).2:=by
 refine cast (by kernel_rfl) (?_:let r1:Mir.Book:=Mir.Book.mk b.1 (List.map yQ (List.take (8:Nat) b.2)) (List.map yR (List.take (8:Nat) b.3)) b.4 b.5 b.6;((!true)=true→(false,()) =(true,()))∧((!true)=false→smB r1∧smB r1∧(kB r r1==dw r r1,()) =(true,())))
 intro r1
 clear_value (hr1:r1=_)
 have e:r1=DJ b:=hr1
 have hs:smB r1:=by
  rw [e]
  obtain ⟨x1,x2⟩:=SJ b
  obtain ⟨y1,y2⟩:=SK b
  exact ⟨⟨by omega,fun x hx=>Nat.le_trans (x2 x hx) (by decide)⟩,⟨by omega,fun x hx=>Nat.le_trans (y2 x hx) (by decide)⟩⟩
 refine ⟨fun h=>Bool.noConfusion h,fun _=>⟨hs,hs,?_⟩⟩
 rw [GO r hs.1.1,beq_self_eq_true]
theorem Cl:CtrOK Tryz.prog KE 3 (aj KE qRB dT Gf):=by
 refine aO (C:=az [xp,FJ,xd,xf] Tryz.f3) (an (.consU Eo rfl (.consU J5 rfl (.consU Ea rfl (.consU Ef rfl .nil)))) _) mixed (fn:=Tryz.f3) Tryz.func3 (by kernel_rfl) (by kernel_rfl) (by kernel_rfl) (by kernel_rfl) (by kernel_rfl) (by kernel_rfl) (Λ:=fun _ _=>none) ?_ ?_
 ·exact fun _ _ _ _ _ _ _ _ h=>by cases h
 ·rintro ⟨r,b,⟨⟩⟩ hw hn
  exact Au r b
end
section
open Go Go.ChangeShapes Go.WideShapes Go.ChangeAt Go.RowKit
theorem U3:ownKnob Tryz.prog.godebug=none:=by kernel_rfl
end
section
open Go Go.Mir Go.RowKit Go.Shelf Go.ChangeShapes Go.WideShapes Go.ChangeAt
theorem oJ {H:Type} {enc:TypeId×Value→H} {a:Assume} {C:Checked} {os:Os} {f:FuncId} {fn:Func} {s:ChangeSpec} {conds:List PathCond} {apart fresh handsOn again:Bool} {X:World→Array Value→Prop}
  (hX :∀ (w w':World) (args:Array Value),w.heap=w'.heap→X w args→X w' args)
  (own:ownKnob C.prog.godebug=none) (started:os.Started) (noInit:C.prog.inits.idxOf? f=none) (hfn:C.prog.funcs[f]?=some fn)
  (witness :∃ (w:World) (tape:Tape) (i:Input),w.os=os∧(w.forCall tape i).Shaped C.prog∧i.vars=[]∧Input.okWide C.prog (w.forCall tape i) .any w.heap.size f i∧
   ((s.pre enc C.prog fn conds apart (w.forCall tape i).memory i.args∧X (w.forCall tape i).memory i.args)∧sizedMet enc C.prog fn (OpenSpec.ofChange s) apart (w.forCall tape i).memory i.args)∧a.holds C.prog (lone (Frame.enter C.prog f i.args .normal) [] (w.forCall tape i)))
  (contract :∀ (W:World) (base:Nat) (args:Array Value) (ds gs:List (DataW H)) (before:List MemPlace),
   (∀ (j:Nat) t v,fn.params[j]?=some t→args[j]?=some v→Value.okWide C.prog W .any base t v)→
   DataW.Whole enc C.prog fn.params.toList s.vars apart W args.toList ds gs before→
   conds.all (PathCond.test C.prog ⟨fn.params.toList,ds,s.plain.varTypes C.prog,gs⟩)=true→
   (DataW.weightsEach C.prog (fn.params.toList++s.plain.varTypes C.prog) (ds++gs)).all (·≤reachBytes)=true→X W args→W.ShapedOpen C.prog→
   a.holds C.prog (lone (Frame.enter C.prog f args .normal) [] W)→
   Calls C.prog f args W fun e W'=>∃ v,e = .returned v∧s.post enc C.prog fn apart fresh handsOn again W args v W') :
  ReturnsInHanded a C os f .any (fun w args=>(s.pre enc C.prog fn conds apart w args∧X w args)∧sizedMet enc C.prog fn (OpenSpec.ofChange s) apart w args) (s.post enc C.prog fn apart fresh handsOn again):=by
 refine returnsInHanded_of_calls own started noInit witness ?_
 intro w tape i _ hsh _ hok hpre hholds
 obtain ⟨_,_,_,fn',hfn',_,_,_,_,hval⟩:=hok
 have e:fn'=fn:=Option.some.inj (hfn'.symm.trans hfn)
 subst e
 obtain ⟨⟨⟨ds,gs,before,hw,hc⟩,hx⟩,hz⟩:=hpre
 have hw':=DataW.Whole.of_heap (w':=w.forCall tape i) (by rfl) hw
 refine (contract (w.forCall tape i) w.heap.size i.args ds gs before hval hw' hc (hz.weights hw) (hX _ _ _ (by rfl) hx) hsh hholds).mono fun e W' ⟨v,he,hp⟩=>?_
 subst he
 exact ChangeSpec.post_blind hp
abbrev lC:List (String×DataW Unit):= [("math/bits.deBruijn32tab",Rows.laid_math_bits_deBruijn32tab),("math/bits.deBruijn64tab",Rows.laid_math_bits_deBruijn64tab),("internal/strconv.uint64pow10",Rows.laid_internal_strconv_uint64pow10),("unicode/utf8.acceptRanges",Rows.laid_unicode_utf8_acceptRanges),("strconv.ErrRange",Rows.laid_strconv_ErrRange),("strconv.ErrSyntax",Rows.laid_strconv_ErrSyntax),("unicode/utf8.first",Rows.laid_unicode_utf8_first)]
theorem Jk {w:World} (h:laidMetH Tryz.prog lC w):laidMet Tryz.prog lC w:=by
 have:=(laidMetH_iff.1 h).1
 exact this
theorem sy {w:World} {n:String} {g:Nat} (hg:Tryz.prog.globalNamed n=some g) {c:Array Value} (h:w.var? Tryz.prog n=some c) :∃ T fr,w.heap[g]?=some (.cells c T fr):=by
 unfold World.var? at h
 rw [hg] at h
 simp only [Option.bind_some] at h
 split at h
 ·rename_i c' T fr hh
  cases h
  exact ⟨_,_,hh⟩
 ·cases h
theorem TQ : "*" ++ "errors.errorString" = "*errors.errorString":=by decide
theorem N7 (u:TypeId) (h:Tryz.prog.typeName? 3 u=some "*errors.errorString"):u=298:=
 typeName_ptr_named (nm:="errors.errorString") (by rw [TQ];kernel_rfl) (by kernel_rfl) (by decide) u (by rw [TQ];exact h)
theorem Lb {w:World} (h:laidMet Tryz.prog lC w):Lib.TabIs Tryz.prog w "internal/strconv.uint64pow10" .u64 Lib.pow10Tab:=
 Lib.tabIs_of_head (g:=2) (t:=311) (e:=242) (n:=20) (by kernel_rfl) (by kernel_rfl) Tryz.underlying311 Tryz.underlying242 (by kernel_rfl) (by kernel_rfl) h.tail.tail
theorem HI {w:World} (h:laidMet Tryz.prog lC w) :∃ T fr te pe,w.heap[0]?=some (.cells #[.iface te pe] T fr):=by
 obtain ⟨a,s,hv,-,-,-⟩:=laid_sentinel (g:=0) (ti:=196) h.tail.tail.tail.tail.tail (by kernel_rfl) (by kernel_rfl) Tryz.underlying196 N7 Tryz.underlying298 Tryz.underlying300 rfl rfl Tryz.underlying9 (by kernel_rfl) (by kernel_rfl)
 obtain ⟨T,fr,hb⟩:=sy (g:=0) (by kernel_rfl) hv
 exact ⟨T,fr,_,_,hb⟩
theorem Hu {w:World} (h:laidMet Tryz.prog lC w) :∃ T fr te pe,w.heap[1]?=some (.cells #[.iface te pe] T fr):=by
 obtain ⟨a,s,hv,-,-,-⟩:=laid_sentinel (g:=1) (ti:=196) h.tail.tail.tail.tail (by kernel_rfl) (by kernel_rfl) Tryz.underlying196 N7 Tryz.underlying298 Tryz.underlying300 rfl rfl Tryz.underlying9 (by kernel_rfl) (by kernel_rfl)
 obtain ⟨T,fr,hb⟩:=sy (g:=1) (by kernel_rfl) hv
 exact ⟨T,fr,_,_,hb⟩
theorem jL {P:Program} {w:World} {g:Nat} {t:TypeId} {zero:Array Value} {k:IntKind}
  (h:w.ShapedOpen P) (hg:g<P.globals.size)
  (h0 :((begin P (fun _ _=>0) default).world.heap[g]?).bind Obj.row?=some (zero,t)) (hz:zero.size=1)
  (hb:P.buildable t=true) (hc:P.cellTypes P.depth t=some [t]) (hu:P.underlying t=some (.int k)) :
  ∃ m T fr,w.heap[g]?=some (.cells #[.int k m] T fr):=by
 obtain ⟨cs,hh,hs,hr⟩:=h.1 g zero t hg h0
 obtain ⟨ts,hts,_,hall⟩:=hr hb
 rw [hc] at hts
 cases hts
 have hs1:cs.size=1:=by omega
 have h1:0<cs.size:=by omega
 obtain ⟨u,hu',hok⟩:=hall 0 cs[0] (by simp [h1])
 have:u=t:=by simpa using hu'.symm
 subst this
 unfold Cell.ok at hok
 rw [hu] at hok
 have hcs:cs=#[cs[0]]:=by
  apply Array.ext
  ·simp [hs1]
  ·intro i h1 h2
   have:i=0:=by omega
   subst this
   rfl
 cases hv:cs[0] <;> rw [hv] at hok <;> simp at hok
 case int k' n=>
  refine ⟨n,u,(0,0),?_⟩
  rw [hh,hcs,hv,hok.1]
theorem LZ {w:World} (h:laidMetH Tryz.prog lC w) (hs:w.ShapedOpen Tryz.prog):nV w fun _=>False:=by
 have h:=Jk h
 intro p hp
 refine ⟨?_,fun h=>h⟩
 unfold GL at hp
 simp only [List.mem_cons,List.not_mem_nil,or_false] at hp
 rcases hp with rfl|rfl|rfl|rfl
 ·have ht:=Lb h
  unfold Lib.TabIs at ht
  obtain ⟨T,fr,hb⟩:=sy (g:=2) (by kernel_rfl) ht
  exact ⟨_,hb,T,fr,rfl⟩
 ·obtain ⟨m,T,fr,hb⟩:=jL (g:=5) (k:= .i64) (zero:=#[.int .i64 0]) (t:=3) hs (of_decide_eq_true (by kernel_rfl)) (by kernel_rfl) rfl (by kernel_rfl) (by kernel_rfl) Tryz.underlying3
  exact ⟨_,hb,m,T,fr,rfl⟩
 ·obtain ⟨T,fr,te,pe,hb⟩:=HI h
  exact ⟨_,hb,te,pe,T,fr,rfl⟩
 ·obtain ⟨T,fr,te,pe,hb⟩:=Hu h
  exact ⟨_,hb,te,pe,T,fr,rfl⟩
end
section
open Go Go.ChangeShapes Go.WideShapes Go.ChangeAt Go.RowKit
theorem G0 (os:Os) (args:Array Value):laidMetH Tryz.prog lC ((World.laidAll Tryz.prog os lC).forCall (fun _ _=>0) ⟨#[],args,[]⟩).memory:=by
 rw [MakeChecks.laidMetH_plain _ _ _ (by kernel_rfl)]
 exact laidMet_laidAll _ (by kernel_rfl) (by kernel_rfl)
end
end Go.Proofs.YtjcbhomccohklaaGreatDoor
namespace Go.Mir
section
open Go.RowKit
variable {P:Program}
inductive PF where
 | dat
 | ptr
 | clo (g:FuncId)
def ay (E:Env):Env:=⟨fun _=>False,fun _=>none,fun b=>b<E.w.heap.size,E.w,fun _=>none⟩
end
section
open Go.RowKit Go.ChangeShapes Go.WideShapes
open Go.Proofs.YtjcbhomccohklaaGreatDoor.Rows (uptoBulk uptoBulkAll)
section
variable {H:Type} {enc:TypeId×Value→H} {P:Program} {w:World}
theorem DZ {K:Nat} {f:FuncId} {fn:Func} {c:Ctr} (hc:CtrOK P K f c) {ps:Ty} (hps:uF P fn.params.toList ps=true) (hgl:nV w fun _=>False)
  (h :∀ x:Den ps,wfD ps x→∃ ls,c (dy ps x) (fun _=>none) 0=some (ls,.bool true,[])∧∀ p∈ls,p)
  {args:Array Value} {ds:List (DataW H)} {p:List MemPlace} (hA:DataW.TrodAll enc P w 0 (fun _=>true) true fn.params.toList args.toList ds p) (hval :∀ (j:Nat) t v,fn.params[j]?=some t→args[j]?=some v→∃ r b,Value.okWide P w r b t v)
  (hw :∀ m∈DataW.weightsEach P fn.params.toList ds,m≤aA) :
  Calls P f args w fun e w'=>e = .returned (.bool true)∧Keeps w (fun _=>False) w':=by
 obtain ⟨x,k1,⟨cs,k2⟩,_,_,_⟩:=pV hA hps (fun j t v h1 h2=>hval j t v (by simpa using h1) (by simpa using h2)) hw
 obtain ⟨ls,e1,e2⟩:=h x ⟨_,_,_,k2⟩
 have hc:=hc.calls (No w hgl) (LM w) (ID w hgl) _ _ k1 0 (fun n _ _ hu=>hu) ls _ _ e1 e2
 have e:args.toList.toArray=args:=by simp
 rw [e] at hc
 refine Calls.mono hc fun e w' hr=>?_
 obtain ⟨E',v',rfl,G,hv⟩:=hr
 simp only [aa] at hv
 subst hv
 refine ⟨rfl,?_⟩
 have:=G.rel.keeps
 rw [G.w] at this
 exact this
end
end
end Go.Mir
