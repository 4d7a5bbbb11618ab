/- Texts of the mirror and contracts, put together. -/
import Derived.Test.YtffdpnmioidloaaGreatDoorPW1
import Derived.LoopN
namespace Go.Mir
section
open Go.RowKit
variable {P:Program}
def jn {α:Type} (f:Nat→Option α) (l:List (Nat×α)):Nat→Option α:=fun k=>match find l k with|some v=>some v|none=>f k
def fK {α:Type} (L:Nat→Bool) :(Nat→Option α)→Nat→List (List (Nat×α))→(Nat→Option α)
 | f,_,[]=>f
 | f,i,u::us=>fK L (if L i=true then jn f u else f) (i+1) us
theorem oH {α:Type} {f:Nat→Option α} {u:List (Nat×α)} {k:Nat} (h:find u k=none):jn f u k=f k:=by simp [jn,h]
theorem oI {α:Type} {f:Nat→Option α} {u:List (Nat×α)} {k:Nat} {v:α} (h:find u k=some v):jn f u k=some v:=by simp [jn,h]
theorem mA {α:Type} {L L':Nat→Bool} {k:Nat} :∀ (us:List (List (Nat×α))) (i:Nat) (f f':Nat→Option α),f k=f' k→(∀ j u,us[j]?=some u→find u k≠none→L (i+j)=L' (i+j))→fK L f i us k=fK L' f' i us k
 | [],_,_,_,h,_=>h
 | u::us,i,f,f',h,hu=>by
  unfold fK
  refine mA us (i+1) _ _ ?_ (fun j u' hj hf=>by
   have:=hu (j+1) u' (by simpa using hj) hf
   rwa [show i +(j+1)=i+1+j by omega] at this)
  cases hf:find u k with
  | none=>
   have e1 :(if L i=true then jn f u else f) k=f k:=by split <;> simp [oH hf]
   have e2 :(if L' i=true then jn f' u else f') k=f' k:=by split <;> simp [oH hf]
   rw [e1,e2,h]
  | some v=>
   have:=hu 0 u (by simp) (by rw [hf];simp)
   simp only [Nat.add_zero] at this
   rw [this]
   split
   ·rw [oI hf,oI hf]
   ·exact h
theorem AL {α:Type} {L:Nat→Bool} {k:Nat} {v:α} :∀ (us:List (List (Nat×α))) (i:Nat) (f:Nat→Option α) (j0:Nat) (u0:List (Nat×α)),us[j0]?=some u0→L (i+j0)=true→find u0 k=some v→
  (∀ j u,j0<j→us[j]?=some u→L (i+j)=true→find u k=none)→fK L f i us k=some v
 | [],_,_,j0,u0,h,_,_,_=>by simp at h
 | u::us,i,f,0,u0,h,hL,hf,hl=>by
  simp only [List.getElem?_cons_zero,Option.some.injEq] at h
  subst h
  unfold fK
  simp only [Nat.add_zero] at hL
  rw [if_pos hL]
  have key :∀ (us:List (List (Nat×α))) (i:Nat) (g:Nat→Option α),g k=some v→(∀ j u,us[j]?=some u→L (i+j)=true→find u k=none)→fK L g i us k=some v:=by
   intro us
   induction us with
   | nil=>intro i g hg _;exact hg
   | cons u us ih=>
    intro i g hg hh
    unfold fK
    refine ih _ _ ?_ (fun j u' hj hLj=>hh (j+1) u' (by simpa using hj) (by rwa [show i +(j+1)=i+1+j by omega]))
    split
    ·rename_i hL0
     rw [oH (hh 0 u (by simp) (by simpa using hL0))];exact hg
    ·exact hg
  refine key us (i+1) _ (oI hf) (fun j u' hj hLj=>hl (j+1) u' (by omega) (by simpa using hj) (by rwa [show i +(j+1)=i+1+j by omega]))
 | u::us,i,f,j0+1,u0,h,hL,hf,hl=>by
  unfold fK
  exact AL us (i+1) _ j0 u0 (by simpa using h) (by rwa [show i+1+j0=i +(j0+1) by omega]) hf
   (fun j u' hj hu' hLj=>hl (j+1) u' (by omega) (by simpa using hu') (by rwa [show i +(j+1)=i+1+j by omega]))
theorem Om {α:Type} {L L':Nat→Bool} (us:List (List (Nat×α))) (f:Nat→Option α) (i:Nat) (u0:List (Nat×α)) (hi:us[i]?=some u0) (hL' :∀ j,L' j=if j=i then true else L j)
  (hd :∀ j u,i<j→us[j]?=some u→L j=true→∀ k,find u0 k≠none→find u k=none):fK L' f 0 us=jn (fK L f 0 us) u0:=by
 funext k
 cases hf:find u0 k with
 | none=>
  rw [oH hf]
  refine mA us 0 f f rfl (fun j u hj hu=>?_)
  rw [Nat.zero_add,hL' j]
  by_cases e:j=i
  ·subst e;rw [hi] at hj;cases hj;exact absurd hf hu
  ·rw [if_neg e]
 | some v=>
  rw [oI hf]
  refine AL us 0 f i u0 hi (by rw [Nat.zero_add,hL',if_pos rfl]) hf (fun j u hj hu hLj=>?_)
  rw [Nat.zero_add,hL',if_neg (by omega)] at hLj
  exact hd j u hj hu hLj k (by rw [hf];simp)
theorem vf {α:Type} :∀ (us:List (List (Nat×α))) (f:Nat→Option α) (i n:Nat),fK (fun j=>Nat.blt j (i+n)) f i us =(us.take n).foldl jn f
 | [],f,i,n=>by simp [fK]
 | u::us,f,i,0=>by
  have hall :∀ (us:List (List (Nat×α))) (f:Nat→Option α) (k:Nat),i≤k→fK (fun j=>Nat.blt j (i+0)) f k us=f:=by
   intro us
   induction us with
   | nil=>intro f k _;rfl
   | cons u us ih=>
    intro f k hk
    unfold fK
    have:Nat.blt k (i+0)=false:=by cases hb:Nat.blt k (i+0) with|false=>rfl|true=>rw [Nat.blt_eq] at hb;omega
    rw [this]
    simp only [Bool.false_eq_true,if_false]
    exact ih _ _ (by omega)
  rw [hall _ _ _ (Nat.le_refl i)]
  rfl
 | u::us,f,i,n+1=>by
  unfold fK
  have:Nat.blt i (i +(n+1))=true:=by rw [Nat.blt_eq];omega
  rw [this]
  simp only [if_true,List.take_succ_cons,List.foldl_cons]
  have:=vf us (jn f u) (i+1) n
  rw [show i+1+n=i +(n+1) by omega] at this
  exact this
theorem yW (H:bj) (l:List (Nat×Blk)):aY H l=jn H l:=by
 funext h
 unfold aY jn
 cases find l h <;> rfl
theorem J2 (tm r:List (Nat×V)):find (r++tm)=jn (find tm) r:=by
 funext k
 rw [cY]
 rfl
def ow (r:Rec):List (Nat×V):=gw r.dst r.v
theorem EY {C:Cfg} {dr:Bool} {all:List Oper} {st:St} :∀ (rest:List Oper) (i:Nat) (d:Dl) (recs:List Rec) (df:Dl) (rf:List Rec),Run C dr all st i rest d recs df rf→recs.length=i→
  find (d.tm++st.tm) =(recs.map ow).foldl jn (find st.tm)→aY st.H d.hp =(recs.map Rec.dh).foldl jn st.H→
  (∃ more,rf=recs++more∧more.length=rest.length)∧find (df.tm++st.tm) =(rf.map ow).foldl jn (find st.tm)∧aY st.H df.hp =(rf.map Rec.dh).foldl jn st.H∧
  ∀ j o,rest[j]?=some o→∃ r tm H,rf[i+j]?=some r∧Does C dr all tm H (st.nx +(i+j)*C.K) o r∧find tm =((rf.take (i+j)).map ow).foldl jn (find st.tm)∧H =((rf.take (i+j)).map Rec.dh).foldl jn st.H
 | [],i,d,recs,df,rf,hr,hl,h1,h2=>by
  cases hr
  exact ⟨⟨[],by simp,rfl⟩,h1,h2,fun j o h=>by simp at h⟩
 | o::rest,i,d,recs,df,rf,hr,hl,h1,h2=>by
  cases hr with
  | @cons _ _ _ _ _ r _ _ hdo hrun=>
   obtain ⟨⟨more,e1,e2⟩,g1,g2,g3⟩:=EY rest (i+1) _ _ _ _ hrun (by simp [hl])
    (by rw [List.append_assoc,J2,h1];simp [ow]) (by rw [dN,h2];simp [yW])
   refine ⟨⟨r::more,by rw [e1];simp,by simp [e2]⟩,g1,g2,fun j o' hj=>?_⟩
   cases j with
   | zero=>
    simp only [List.getElem?_cons_zero,Option.some.injEq] at hj
    subst hj
    have et:rf.take i=recs:=by rw [e1,List.append_assoc,List.take_append_of_le_length (by omega),List.take_of_length_le (by omega)]
    refine ⟨r,_,_,?_,hdo,?_,?_⟩
    ·rw [e1,Nat.add_zero,List.append_assoc,List.getElem?_append_right (by omega)]
     simp [hl]
    ·rw [Nat.add_zero,et];exact h1
    ·rw [Nat.add_zero,et];exact h2
   | succ j=>
    obtain ⟨r',tm,H,k1,k2,k3,k4⟩:=g3 j o' (by simpa using hj)
    rw [show i+1+j=i +(j+1) by omega] at k1 k2 k3 k4
    exact ⟨r',tm,H,k1,k2,k3,k4⟩
theorem oU (acc:List Nat) (j:Nat) :∀ (es:List Edge),(rr acc es).testBit j=true→∃ e∈es,Region.binds .any e=true∧(j=e.on∨((acc[e.on]?).getD 0).testBit j=true)
 | [],h=>by simp [rr] at h
 | e::es,h=>by
  unfold rr at h
  split at h
  ·rename_i hb
   simp only [Nat.testBit_or,Bool.or_eq_true] at h
   rcases h with (h|h)|h
   ·obtain ⟨e',h1,h2⟩:=oU acc j es h
    exact ⟨e',List.mem_cons_of_mem _ h1,h2⟩
   ·have:j=e.on:=by
     rw [Nat.testBit_two_pow] at h
     simpa using (of_decide_eq_true h).symm
    exact ⟨e,List.mem_cons_self,hb,.inl this⟩
   ·exact ⟨e,List.mem_cons_self,hb,.inr h⟩
  ·obtain ⟨e',h1,h2⟩:=oU acc j es h
   exact ⟨e',List.mem_cons_of_mem _ h1,h2⟩
theorem qe :∀ (os:List Oper) (acc:List Nat),(∃ more,lG os acc=acc++more∧more.length=os.length)∧
  ∀ j o,os[j]?=some o→(lG os acc)[acc.length+j]?=some (rr ((lG os acc).take (acc.length+j)) o.after.toList)
 | [],acc=>⟨⟨[],by simp [lG],rfl⟩,fun j o h=>by simp at h⟩
 | o::os,acc=>by
  obtain ⟨⟨more,e1,e2⟩,h⟩:=qe os (acc++[rr acc o.after.toList])
  unfold lG
  refine ⟨⟨rr acc o.after.toList::more,by rw [e1];simp,by simp [e2]⟩,fun j o' hj=>?_⟩
  cases j with
  | zero=>
   simp only [List.getElem?_cons_zero,Option.some.injEq] at hj
   subst hj
   rw [e1,Nat.add_zero,List.append_assoc,List.getElem?_append_right (Nat.le_refl _),List.take_append_of_le_length (Nat.le_refl _),List.take_of_length_le (Nat.le_refl _)]
   simp
  | succ j=>
   have:=h j o' (by simpa using hj)
   rw [List.length_append,List.length_singleton,show acc.length+1+j=acc.length +(j+1) by omega] at this
   exact this
theorem jl :∀ (os:List Oper) (i:Nat),ik i os=true→∀ j o,os[j]?=some o→∀ e∈o.after,Region.binds .any e=true→e.on<i+j
 | [],_,_,j,o,h,_,_,_=>by simp at h
 | o::os,i,h,j,o',hj,e,he,hb=>by
  simp only [ik,Bool.and_eq_true] at h
  cases j with
  | zero=>
   simp only [List.getElem?_cons_zero,Option.some.injEq] at hj
   subst hj
   have:=List.all_eq_true.1 h.1 e (by simpa using he)
   rw [hb] at this
   simp only [Bool.not_true,Bool.false_or,Nat.blt_eq] at this
   omega
  | succ j=>
   have:=jl os (i+1) h.2 j o' (by simpa using hj) e he hb
   omega
theorem lT {all:List Oper} (hE:ik 0 all=true) {listed:Array Bool} (hclosed :∀ j oj,all[j]?=some oj→listed.getD j false=true→∀ e∈oj.after,Region.binds .any e=true→listed.getD e.on false=true) :
  ∀ (n i:Nat),i≤n→∀ oi,all[i]?=some oi→(∀ e∈oi.after,Region.binds .any e=true→listed.getD e.on false=true)→∀ j,(((lG all [])[i]?).getD 0).testBit j=true→listed.getD j false=true
 | 0,i,hn,oi,hoi,hdir,j,hj=>by
  have hm:=(qe all []).2 i oi hoi
  simp only [List.length_nil,Nat.zero_add] at hm
  rw [hm] at hj
  obtain ⟨e,he,hb,h1⟩:=oU _ j _ hj
  have:=jl all 0 hE i oi hoi e (by simpa using he) hb
  omega
 | n+1,i,hn,oi,hoi,hdir,j,hj=>by
  have hm:=(qe all []).2 i oi hoi
  simp only [List.length_nil,Nat.zero_add] at hm
  rw [hm] at hj
  obtain ⟨e,he,hb,h1⟩:=oU _ j _ hj
  have he':e∈oi.after:=by simpa using he
  have hlt:=jl all 0 hE i oi hoi e he' hb
  have hl:=hdir e he' hb
  rcases h1 with rfl|h1
  ·exact hl
  ·have hilt:i<all.length:=(List.getElem?_eq_some_iff.1 hoi).1
   have helt:e.on<all.length:=by omega
   have hoe:all[e.on]?=some all[e.on]:=List.getElem?_eq_getElem helt
   rw [List.getElem?_take_of_lt (by omega)] at h1
   exact lT hE hclosed n e.on (by omega) _ hoe (hclosed _ _ hoe hl) j h1
structure Comm (r s:Rec):Prop where
 d :∀ x,x∈r.dst.toList→x∈s.dst.toList→False
 ds :∀ x,x∈r.dst.toList→x∈s.rs→False
 sd :∀ x,x∈s.dst.toList→x∈r.rs→False
 k :∀ x,x∈r.dh.map (·.1)→x∈s.dh.map (·.1)→False
 kR :∀ x,x∈r.dh.map (·.1)→x∈s.R→False
 sk :∀ x,x∈s.dh.map (·.1)→x∈r.R→False
theorem Comm.symm {r s:Rec} (h:Comm r s):Comm s r:=⟨fun x a b=>h.d x b a,h.sd,h.ds,fun x a b=>h.k x b a,h.sk,h.kR⟩
theorem jw {l r:List Nat} (h:F5 l r=true) :∀ x,x∈l→x∈r→False:=fun x hl hr=>by
 have:=List.all_eq_true.1 h x hl
 rw [memN_iff.2 hr] at this
 cases this
theorem JX {r s:Rec} (h:comm r s=true):Comm r s:=by
 simp only [comm,Bool.and_eq_true] at h
 exact ⟨jw h.1.1.1,jw h.1.1.2,jw h.1.2,jw h.2.1.1,jw h.2.1.2,jw h.2.2⟩
theorem tV {ms:List Nat} {i:Nat} {r:Rec} :∀ (rs:List Rec) (j:Nat),BU ms i r j rs=true→∀ k s,rs[k]?=some s→(((ms[j+k]?).getD 0).testBit i=true∨Comm r s)
 | [],_,_,k,s,h=>by simp at h
 | s::ss,j,h,k,s',hk=>by
  simp only [BU,Bool.and_eq_true,Bool.or_eq_true] at h
  cases k with
  | zero=>
   simp only [List.getElem?_cons_zero,Option.some.injEq] at hk
   subst hk
   exact h.1.imp id JX
  | succ k=>
   have:=tV ss (j+1) h.2 k s' (by simpa using hk)
   rwa [show j+1+k=j +(k+1) by omega] at this
theorem m9 {ms:List Nat} :∀ (rs:List Rec) (i:Nat),lX ms i rs=true→∀ a b r s,a<b→rs[a]?=some r→rs[b]?=some s→(((ms[i+b]?).getD 0).testBit (i+a)=true∨Comm r s)
 | [],_,_,a,b,r,s,_,h,_=>by simp at h
 | r0::rs,i,h,a,b,r,s,hab,ha,hb=>by
  simp only [lX,Bool.and_eq_true] at h
  cases b with
  | zero=>omega
  | succ b=>
   cases a with
   | zero=>
    simp only [List.getElem?_cons_zero,Option.some.injEq] at ha
    subst ha
    have:=tV rs (i+1) h.1 b s (by simpa using hb)
    rwa [show i+1+b=i +(b+1) by omega] at this
   | succ a=>
    have:=m9 rs (i+1) h.2 a b r s (by omega) (by simpa using ha) (by simpa using hb)
    rwa [show i+1+b=i +(b+1) by omega,show i+1+a=i +(a+1) by omega] at this
end
section
open Go.RowKit
variable {P:Program}
section
variable {H1 H2:bj}
theorem Bh {td:TD} {v:V} (h :∀ k∈v.hs,H1 k=H2 k):kE td H1 v=kE td H2 v:=by
 cases v with
 | ptr a o=>simp only [kE,sa,h a (by simp [V.hs])]
 | gp a v o=>simp only [kE,h a (by simp [V.hs])]
 | rp a v i o=>simp only [kE,sa,h a (by simp [V.hs])]
 | _=>rfl
theorem yf {tb:Tbl} {td:TD} {v i:V} (h :∀ k∈v.hs,H1 k=H2 k):jM tb td H1 v i=jM tb td H2 v i:=by
 cases v with
 | gsl a v e o l=>simp only [jM,h a (by simp [V.hs])]
 | osl a v=>simp only [jM,uK,h a (by simp [V.hs])]
 | _=>rfl
theorem yi {tb:Tbl} {td:TD} {v:V} {lo hi mx:Option V} (h :∀ k∈v.hs,H1 k=H2 k):jN tb td H1 v lo hi mx=jN tb td H2 v lo hi mx:=by
 cases v with
 | gsl a v e o l=>simp only [jN,h a (by simp [V.hs])]
 | osl a v=>simp only [jN,uL,R6,h a (by simp [V.hs])]
 | _=>rfl
theorem Dk {td:TD} {v:V} (h :∀ k∈v.hs,H1 k=H2 k):p7 td H1 v=p7 td H2 v:=by
 obtain ⟨kd,a1,a2,a3,a4⟩:=td
 cases v with
 | gsl a v e o l=>cases kd <;> first|rfl|simp only [p7,h a (by simp [V.hs])]
 | osl a v=>cases kd <;> first|rfl|simp only [p7,ID,h a (by simp [V.hs])]
 | _=>cases kd <;> rfl
theorem Dt {n:Nat} {v:V} (h :∀ k∈v.hs,H1 k=H2 k):sf H1 n v=sf H2 n v:=by
 cases v with
 | gsl a v e o l=>simp only [sf,h a (by simp [V.hs])]
 | fsl t xs=>cases xs <;> rfl
 | _=>rfl
theorem D4 {t:Ty} {v:V} (h :∀ k∈v.hs,H1 k=H2 k):su H1 t v=su H2 t v:=by
 cases v with
 | osl a v=>simp only [su,h a (by simp [V.hs])]
 | _=>rfl
theorem yb {tb:Tbl} {td:TD} {m:Nat} {s x:V} (h :∀ k∈s.hs,H1 k=H2 k) (h' :∀ k∈x.hs,H1 k=H2 k):lx tb td H1 m s x=lx tb td H2 m s x:=by
 unfold lx
 simp only [D4 h']
 cases s with
 | osl a v=>simp only [h a (by simp [V.hs])]
 | _=>rfl
theorem vF {tb:Tbl} {td:TD} {m:Nat} {s x:V} (h :∀ k∈s.hs,H1 k=H2 k) (h' :∀ k∈x.hs,H1 k=H2 k):jz tb td H1 m s x=jz tb td H2 m s x:=by
 unfold jz
 simp only [Dt h',yb h h']
 cases s with
 | gsl a v e o l=>simp only [h a (by simp [V.hs])]
 | _=>rfl
end
theorem LU {C:Cfg} {m:Nat} {H1 H2:bj} {ev:Operand→V} {op:Op} (hd:vB ev op=true) (h :∀ x∈op.operands.toList,∀ k∈(ev x).hs,H1 k=H2 k):gy C m H1 ev op=gy C m H2 ev op:=by
 cases op with
 | load t a=>
  have h1:=h a (by simp [Op.operands])
  simp only [gy,yk,qQ,Bh h1]
 | indexAddr t x i=>
  have h1:=h x (by simp [Op.operands])
  simp only [gy,yk,qQ,yf h1]
 | slice t x lo hi mx=>
  have h1:=h x (by simp [Op.operands])
  simp only [gy,yk,qQ,yi h1]
 | makeFunc fn first caps=>cases fn <;> rfl
 | store t a x=>
  have ha:=h a (by simp [Op.operands])
  simp only [vB] at hd
  generalize hva:ev a=va at hd ha
  cases va with
  | ptr k o=>
   have e1:=ha k (by simp [V.hs])
   simp only [gy,yk,qQ,hva,ng,jO,uM,e1]
  | gp k v o=>
   have e1:=ha k (by simp [V.hs])
   simp only [gy,yk,qQ,hva,ng,jO,e1]
  | _=>simp only [Bool.false_eq_true] at hd
 | call c=>
  simp only [vB] at hd
  split at hd
  ·rename_i hc
   have key:qQ C.tb C.Γ m H1 ev (.call c)=qQ C.tb C.Γ m H2 ev (.call c):=by
    simp only [qQ,hc]
    generalize hat:c.argTypes.toList=tl
    generalize hx:c.args.toList=xl
    match tl,xl,hx with
    | [t],[x],hx=>
     have h1:=h x (by simp [Op.operands,Call.operands,hx])
     simp only
     cases C.tb t with
     | none=>rfl
     | some td=>exact Dk h1
    | [],_,_=>rfl
    | [_],[],_=>rfl
    | [_],_::_::_,_=>rfl
    | _::_::_,_,_=>rfl
   simp only [gy,yk,key]
  ·rename_i hc
   have key:qQ C.tb C.Γ m H1 ev (.call c)=qQ C.tb C.Γ m H2 ev (.call c):=by
    simp only [qQ,hc]
    generalize hat:c.argTypes.toList=tl
    generalize hx:c.args.toList=xl
    match tl,xl,hx with
    | [t,t2],[s,x],hx=>
     have h1:=h s (by simp [Op.operands,Call.operands,hx])
     have h2:=h x (by simp [Op.operands,Call.operands,hx])
     simp only [vF h1 h2]
    | [],_,_=>rfl
    | [_],_,_=>rfl
    | [_,_],[],_=>rfl
    | [_,_],[_],_=>rfl
    | [_,_],_::_::_::_,_=>rfl
    | _::_::_::_,_,_=>rfl
   simp only [gy,yk,key]
  ·cases hd
 | _=>first|rfl |(simp only [vB,Bool.false_eq_true] at hd)
theorem JZ {C:Cfg} {m:Nat} {H1 H2:bj} {ev:Operand→V} {op:Op} (hd:vB ev op=true) (h :∀ k∈RZ ev op,H1 k=H2 k):gy C m H1 ev op=gy C m H2 ev op:=by
 have key :(∀ k∈op.operands.toList.flatMap (fun x=>(ev x).hs),H1 k=H2 k)→gy C m H1 ev op=gy C m H2 ev op:=fun h=>LU hd fun x hx k hk=>h k (List.mem_flatMap.2 ⟨x,hx,hk⟩)
 cases op with
 | move a=>rfl
 | assign a=>rfl
 | nilCheck a=>rfl
 | fieldAddr t a i=>rfl
 | _=>exact key h
theorem Ext.restr (E:Env) (R:List Nat):Ext E { E with H:=Mir.restr E.H R }:=by
 have get :∀ h k,Mir.restr E.H R h=some k→E.H h=some k:=fun h k hh=>by
  unfold Mir.restr at hh
  cases hm:memN R h with
  | false=>rw [hm] at hh;cases hh
  | true=>rw [hm] at hh;exact hh
 exact ⟨fun _ h=>h,fun _ h=>h,fun _ _=>rfl,fun h cs _ hx=>⟨⟨cs,get _ _ hx⟩,rfl⟩,fun h ver rw t xs _ _ hx=>⟨rw,xs,get _ _ hx,rfl,rfl,fun b c T fr _ hw=>⟨c,T,fr,hw,rfl⟩⟩,fun h ver esz cs _ _ hx=>⟨cs,get _ _ hx,rfl,rfl,fun b c T fr _ hw=>⟨c,T,fr,hw,rfl⟩⟩,fun h es _ hx=>⟨⟨es,get _ _ hx⟩,rfl⟩,fun h k t x _ hx=>⟨⟨x,get _ _ hx⟩,rfl⟩⟩
theorem ni {α:Type} {l:List (Nat×α)} {k:Nat} (h:find l k≠none):k∈l.map (·.1):=by
 induction l with
 | nil=>simp [find] at h
 | cons x l ih=>
  obtain ⟨a,v⟩:=x
  simp only [find] at h
  cases hb:Nat.beq a k with
  | true=>simp [Nat.eq_of_beq_eq_true hb]
  | false=>rw [hb] at h;simp only [cond_false] at h;simp only [List.map_cons,List.mem_cons];exact .inr (ih h)
theorem aD {α:Type} {l:List (Nat×α)} {k:Nat} {v:α} (h:find l k=some v) :(k,v)∈l:=by
 induction l with
 | nil=>simp [find] at h
 | cons q l ih=>
  obtain ⟨a,b⟩:=q
  simp only [find] at h
  cases hb:Nat.beq a k with
  | true=>rw [hb] at h;simp only [cond_true,Option.some.injEq] at h;simp [Nat.eq_of_beq_eq_true hb,h]
  | false=>rw [hb] at h;simp only [cond_false] at h;exact List.mem_cons_of_mem _ (ih h)
theorem x3 {r:Rec} {k:Nat} (h:find (ow r) k≠none):k∈r.dst.toList:=by
 unfold ow at h
 cases hd:r.dst with
 | none=>rw [hd] at h;simp [gw,find] at h
 | some d=>
  rw [hd] at h
  have:=ni h
  simpa [gw] using this
theorem oK {R:List Nat} {m K:Nat} {l:List Nat} (h:J7 R m K l=true) :∀ x∈l,x∈R∨(m≤x∧x<m+K):=fun x hx=>by
 have:=List.all_eq_true.1 h x hx
 simp only [Bool.or_eq_true,Bool.and_eq_true,memN_iff,Nat.blt_eq] at this
 exact this.imp id fun h=>⟨Nat.le_of_ble_eq_true h.1,h.2⟩
theorem jR {E:Env} {all:List Oper} {tm:List (Nat×V)} {a:Act} {o:Oper} {b:Bool} (hT :∀ s∈cn all o,af E (fD tm s) (a.tmps.getD s undef)) (h:kH all tm o=some b) :
  Region.wanted o (yielded all.toArray a.tmps)=b:=by
 refine tz (E:=E) (T:=fun s=>bif memN (cn all o) s then fD tm s else .any) (fun s=>?_) ?_
 ·cases hm:memN (cn all o) s with
  | true=>simpa using hT s (memN_iff.1 hm)
  | false=>simp [af]
 ·unfold kH at h
  cases hg:o.guard with
  | none=>rw [hg] at h;exact h
  | some q=>
   obtain ⟨j,want⟩:=q
   rw [hg] at h
   simp only at h ⊢
   cases hj:all[j]? with
   | none=>rw [hj] at h;exact h
   | some oj=>
    rw [hj] at h
    simp only at h ⊢
    cases hd:oj.dst with
    | none=>rw [hd] at h;exact h
    | some dj=>
     rw [hd] at h
     have hm:memN (cn all o) dj=true:=by
      rw [memN_iff]
      unfold cn
      rw [hg]
      simp [hj,hd]
     simp only [hm,cond_true]
     exact h
structure Inv (C:Cfg) (B:Base) (E0:Env) (st:St) (rf:List Rec) (L:Nat→Bool) (a:Act) (w:World):Prop where
 ex :∃ E,HRel B E∧E.w=w∧Ext E0 E∧E.H=fK L st.H 0 (rf.map Rec.dh)∧(∀ n,E.U n→E0.U n∨∃ i,i<rf.length∧L i=true∧st.nx+i*C.K≤n∧n<st.nx+i*C.K+C.K)∧ju E (fK L (find st.tm) 0 (rf.map ow)) a
 size:a.tmps.size=C.N
 defers:a.defers=B.dfs
theorem Mb {C:Cfg} (hC:CfgOK P C) {B:Base} {E0:Env} {all:List Oper} {st:St} {rf:List Rec} (hfr0 :∀ n,st.nx≤n→n<st.nx+rf.length*C.K→¬ E0.U n) {L L':Nat→Bool} {i:Nat} {o:Oper} {r:Rec} (ho:all[i]?=some o) (hr:rf[i]?=some r) (hLi:L i=false) (hL' :∀ j,L' j=if j=i then true else L j)
  {tm:List (Nat×V)} {H:bj} (hdo:Does C true all tm H (st.nx+i*C.K) o r) (htm:find tm=fK (fun j=>Nat.blt j i) (find st.tm) 0 (rf.map ow)) (hH:H=fK (fun j=>Nat.blt j i) st.H 0 (rf.map Rec.dh))
  (hcomm :∀ j s,rf[j]?=some s→(j<i∧L j=false)∨(i<j∧L j=true)→Comm r s) {Q:Exit→Act→World→Prop} {a:Act} {w:World} (hI:Inv C B E0 st rf L a w) {K:Act→World→Prop} (hK :∀ a w,Inv C B E0 st rf L' a w→K a w) :
  wpOp P all.toArray Q i K a w:=by
 obtain ⟨⟨E,hE,rfl,hX,hEH,hU,hT⟩,hsz,hdf⟩:=hI
 obtain ⟨hd,he,hrs⟩:=hdo.dstIn
 have hiL:i<rf.length:=(List.getElem?_eq_some_iff.1 hr).1
 have hLsel :∀ {α:Type} (us:List (List (Nat×α))) (f:Nat→Option α) (k:Nat) (g:Rec→List (Nat×α)),us=rf.map g→(∀ j s,rf[j]?=some s→find (g s) k≠none→j≠i→Comm r s→False)→fK L f 0 us k=fK (fun j=>Nat.blt j i) f 0 us k:=by
  intro α us f k g hus hno
  refine mA us 0 f f rfl (fun j u hj hu=>?_)
  rw [Nat.zero_add]
  subst hus
  rw [List.getElem?_map] at hj
  cases hs:rf[j]? with
  | none=>rw [hs] at hj;simp at hj
  | some s=>
   rw [hs] at hj
   simp only [Option.map_some,Option.some.injEq] at hj
   subst hj
   by_cases hji:j=i
   ·subst hji
    rw [hLi]
    cases hb:Nat.blt j j with
    | false=>rfl
    | true=>rw [Nat.blt_eq] at hb;omega
   ·rcases Nat.lt_or_gt_of_ne hji with hlt|hgt
    ·have hb:Nat.blt j i=true:=by rw [Nat.blt_eq];exact hlt
     rw [hb]
     cases hLj:L j with
     | true=>rfl
     | false=>exact (hno j s hs hu hji (hcomm j s hs (.inl ⟨hlt,hLj⟩))).elim
    ·have hb:Nat.blt j i=false:=by cases hb:Nat.blt j i with|false=>rfl|true=>rw [Nat.blt_eq] at hb;omega
     rw [hb]
     cases hLj:L j with
     | false=>rfl
     | true=>exact (hno j s hs hu hji (hcomm j s hs (.inr ⟨hgt,hLj⟩))).elim
 have hslot :∀ s∈cn all o,fK L (find st.tm) 0 (rf.map ow) s=find tm s:=fun s hs=>by
  rw [htm]
  refine hLsel _ _ s ow rfl (fun j s' hs' hne hji hc=>?_)
  exact hc.sd s (x3 hne) (by rw [hrs];exact hs)
 have hlook :∀ s∈cn all o,af E (fD tm s) (a.tmps.getD s undef):=fun s hs=>by
  unfold fD
  cases hf:find tm s with
  | none=>simp [af]
  | some v=>exact hT s v (by rw [hslot s hs];exact hf)
 have hL0 :∀ {α:Type} (us:List (List (Nat×α))) (f:Nat→Option α) (g:Rec→List (Nat×α)),us=rf.map g→(∀ j s,i<j→rf[j]?=some s→Comm r s→∀ k,find (g r) k≠none→find (g s) k=none)→fK L' f 0 us=jn (fK L f 0 us) (g r):=by
  intro α us f g hus hno
  subst hus
  refine Om (rf.map g) f i (g r) (by rw [List.getElem?_map,hr];rfl) hL' (fun j u hj hu hLj k hk=>?_)
  rw [List.getElem?_map] at hu
  cases hs:rf[j]? with
  | none=>rw [hs] at hu;simp at hu
  | some s=>
   rw [hs] at hu
   simp only [Option.map_some,Option.some.injEq] at hu
   subst hu
   exact hno j s hj hs (hcomm j s hs (.inr ⟨hj,hLj⟩)) k hk
 have none_of :∀ {α:Type} {l:List (Nat×α)} {k:Nat},(k∈l.map (·.1)→False)→find l k=none:=fun {α l k} h=>by
  cases hf:find l k with
  | none=>rfl
  | some v=>exact (h (ni (by rw [hf];simp))).elim
 have hT':fK L' (find st.tm) 0 (rf.map ow)=jn (fK L (find st.tm) 0 (rf.map ow)) (ow r):=hL0 _ _ ow rfl (fun j s _ _ hc k hk=>by
  cases hf:find (ow s) k with
  | none=>rfl
  | some v=>exact (hc.d k (x3 hk) (x3 (by rw [hf];simp))).elim)
 have hH':fK L' st.H 0 (rf.map Rec.dh)=jn (fK L st.H 0 (rf.map Rec.dh)) r.dh:=hL0 _ _ Rec.dh rfl (fun j s _ _ hc k hk=>none_of fun hm=>hc.k k (ni hk) hm)
 have after :∀ (E':Env) (v':Value),GoodK B E (st.nx+i*C.K) C.K r.dh E'.w E'→af E' r.v v'→Inv C B E0 st rf L' (a.put o.dst v') E'.w:=fun E' v' G hv=>by
  refine ⟨⟨E',G.rel,rfl,hX.trans G.ext,by rw [G.h,hH',hEH,yW],fun n hn=>?_,?_⟩,by rw [ES];exact hsz,by rw [xk];exact hdf⟩
  ·rcases G.u n hn with h|h
   ·rcases hU n h with h1 |⟨j,h1,h2,h3⟩
    ·exact .inl h1
    ·refine .inr ⟨j,h1,?_,h3⟩
     rw [hL']
     split
     ·rfl
     ·exact h2
   ·exact .inr ⟨i,hiL,by rw [hL',if_pos rfl],h.1,h.2⟩
  ·rw [hT']
   exact Nn G.ext hT hsz hd (v:=r.v) hv (fun s u hu=>by
    unfold jn ow at hu
    rw [he] at hu
    cases hf:find (gw o.dst r.v) s with
    | some x=>rw [hf] at hu;exact .inl hu
    | none=>rw [hf] at hu;exact .inr ⟨rfl,hu⟩)
 unfold wpOp
 simp only [List.getElem?_toArray,ho]
 cases hdo with
 | skip _ hg=>
  rw [jR hlook hg]
  simp only [Bool.false_eq_true,if_false]
  exact hK _ _ (after E undef ⟨hE,Ext.refl E,rfl,rfl,fun n h=> .inl h⟩ (by simp [af,undef,ah]))
 | @dir ps v v' dh _ _ hg hdr hev hps hv=>
  rw [jR hlook hg]
  simp only [if_true]
  left
  have hfresh :∀ n,st.nx+i*C.K≤n→n<st.nx+i*C.K+C.K→¬ E.U n:=fun n h1 h2 hu=>by
   have hiK:=Nat.mul_le_mul_right C.K (show i+1≤rf.length from hiL)
   rw [Nat.add_mul] at hiK
   rcases hU n hu with h3 |⟨j,h3,h4,h5,h6⟩
   ·exact hfr0 n (by omega) (by omega) h3
   ·have hji:j≠i:=fun e=>by subst e;rw [hLi] at h4;cases h4
    rcases Nat.lt_or_gt_of_ne hji with hlt|hgt
    ·have:=Nat.mul_le_mul_right C.K (show j+1≤i from hlt)
     rw [Nat.add_mul] at this
     omega
    ·have:=Nat.mul_le_mul_right C.K (show i+1≤j from hgt)
     rw [Nat.add_mul] at this
     omega
  have hev2:=JZ (C:=C) (m:=st.nx+i*C.K) (H1:=E.H) (H2:=H) hdr fun k hk=>by
   rw [hEH,hH]
   refine hLsel _ _ k Rec.dh rfl (fun j s hs hne hji hc=>?_)
   exact hc.sk k (ni hne) hk
  rw [hev] at hev2
  have hevm :∀ x,af E (fq (cn all o) tm x) (a.eval x):=fun x=>by
   cases x with
   | tmp t=>
    simp only [fq]
    cases hm:memN (cn all o) t with
    | false=>simp [af]
    | true=>exact hlook t (memN_iff.1 hm)
   | const v=>exact vy v
   | func f=>simp only [fq,af,Act.eval];exact ⟨#[],rfl,by simp [ah]⟩
   | _=>simp [fq,af]
  exact nb hE hC.tb hC.K hC.Γ hfresh hevm hev2 hps fun v'' E' G hv'=>hK _ _ (after E' _ G (TU hv hv'))
 | @run ps v v' dh R _ hg hst hps hv=>
  rw [jR hlook hg]
  simp only [if_true]
  left
  simp only [xR] at hst
  split at hst
  case h_2=>cases hst
  rename_i ps' v2 dh' hev
  cases hfr:Bn H (No H 8 (o.op.operands.toList.flatMap fun x=>(fq (cn all o) tm x).hs) []) (st.nx+i*C.K) C.K v2 dh' with
  | false=>rw [hfr] at hst;cases hst
  | true=>
   rw [hfr] at hst
   simp only [cond_true,Option.some.injEq,Prod.mk.injEq] at hst
   obtain ⟨rfl,rfl,rfl,hR⟩:=hst
   rw [hR] at hfr hev
   have hHR :∀ h∈R,E.H h=H h:=fun h hh=>by
    rw [hEH,hH]
    refine hLsel _ _ h Rec.dh rfl (fun j s hs hne hji hc=>?_)
    exact hc.sk h (ni hne) hh
   have hrest:restr H R=restr E.H R:=by
    funext h
    unfold restr
    cases hm:memN R h with
    | false=>rfl
    | true=>simp only [cond_true];exact (hHR h (memN_iff.1 hm)).symm
   simp only [Bn,Bool.and_eq_true] at hfr
   obtain ⟨⟨f1,f2⟩,f3⟩:=hfr
   have fR :∀ h∈R,∃ b,H h=some b∧J7 R (st.nx+i*C.K) C.K b.hs=true:=fun h hh=>by
    have:=List.all_eq_true.1 f1 h hh
    split at this
    ·rename_i b hb;exact ⟨b,hb,this⟩
    ·cases this
   have hfresh :∀ n,st.nx+i*C.K≤n→n<st.nx+i*C.K+C.K→¬ E.U n:=fun n h1 h2 hu=>by
    have hiK:=Nat.mul_le_mul_right C.K (show i+1≤rf.length from hiL)
    rw [Nat.add_mul] at hiK
    rcases hU n hu with h3 |⟨j,h3,h4,h5,h6⟩
    ·exact hfr0 n (by omega) (by omega) h3
    ·have hji:j≠i:=fun e=>by subst e;rw [hLi] at h4;cases h4
     rcases Nat.lt_or_gt_of_ne hji with hlt|hgt
     ·have:=Nat.mul_le_mul_right C.K (show j+1≤i from hlt)
      rw [Nat.add_mul] at this
      omega
     ·have:=Nat.mul_le_mul_right C.K (show i+1≤j from hgt)
      rw [Nat.add_mul] at this
      omega
   have hEs:=hE.restr R
   have Xs:=Ext.restr E R
   rw [hrest] at hev
   have hevm :∀ x,af { E with H:=Mir.restr E.H R } (fq (cn all o) tm x) (a.eval x):=fun x=>by
    cases x with
    | tmp t=>
     simp only [fq]
     cases hm:memN (cn all o) t with
     | false=>simp [af]
     | true=>exact cF Xs _ _ (hlook t (memN_iff.1 hm))
    | const v=>exact vy v
    | func f=>simp only [fq,af,Act.eval];exact ⟨#[],rfl,by simp [ah]⟩
    | _=>simp [fq,af]
   exact nb (E:={ E with H:=Mir.restr E.H R }) hEs hC.tb hC.K hC.Γ hfresh hevm hev hps fun v'' Es G hv'=>by
    obtain ⟨E',G',tr⟩:=Ub hE hfresh G (fun h hh=>by obtain ⟨b,hb,_⟩:=fR h hh;exact ⟨b,by rw [hHR h hh];exact hb⟩)
     (fun h hh k hk x hx=>by
      obtain ⟨b,hb,hb2⟩:=fR h hh
      rw [hHR h hh,hb] at hk
      cases hk
      exact oK hb2 x hx)
     (fun h k hk=>by
      have hq:=aD hk
      have:=List.all_eq_true.1 f2 _ hq
      simp only [Bool.and_eq_true] at this
      exact ⟨oK this.1 h (by simp),oK this.2⟩)
    have hw:E'.w=Es.w:=G'.w
    have hv2:af E' v2 v'':=tr _ _ (oK f3) hv'
    have:=hK _ _ (after E' _ (by rw [hw];exact G') (TU hv hv2))
    rw [hw] at this
    exact this
def unl (n:Nat) (listed:Array Bool):Nat:=((List.range n).filter fun i=>!listed.getD i true).length
theorem vY {p q:Nat→Bool} {i:Nat} (hp:p i=true) (hq:q i=false) (hs :∀ j,j≠i→q j=p j) :∀ (l:List Nat),l.Nodup→i∈l→(l.filter q).length+1 =(l.filter p).length
 | [],_,h=>by simp at h
 | x::l,hn,hm=>by
  have hn':=List.nodup_cons.1 hn
  by_cases e:x=i
  ·subst e
   have:l.filter q=l.filter p:=List.filter_congr fun y hy=>hs y (fun e=>by subst e;exact hn'.1 hy)
   simp [hp,hq,this]
  ·have hm':i∈l:=by
    rcases List.mem_cons.1 hm with h|h
    ·exact absurd h.symm e
    ·exact h
   have ih:=vY hp hq hs l hn'.2 hm'
   simp only [List.filter_cons,hs x e]
   split
   ·simp [ih]
   ·exact ih
theorem LW {C:Cfg} (hC:CfgOK P C) {B:Base} {E0:Env} {all:List Oper} {st:St} {df:Dl} {rf:List Rec} (hrun:Run C true all st 0 all ⟨[],[]⟩ [] df rf) (hE:ik 0 all=true) (hck:lX (lG all []) 0 rf=true) {Q:Exit→Act→World→Prop}
  (hfr0 :∀ n,st.nx≤n→n<st.nx+all.length*C.K→¬ E0.U n)
  (hQ :∀ E a,HRel B E→Ext E0 E→E.H=aY st.H df.hp→(∀ n,E.U n→E0.U n∨(st.nx≤n∧n<st.nx+all.length*C.K))→ju E (find (df.tm++st.tm)) a→a.tmps.size=C.N→a.defers=B.dfs→Q .normal a E.w) :
  ∀ (fuel:Nat) (listed:Array Bool) (a:Act) (w:World),listed.size=all.length→unl all.length listed=fuel→
   (∀ j oj,all[j]?=some oj→listed.getD j false=true→∀ e∈oj.after,Region.binds .any e=true→listed.getD e.on false=true)→
   Inv C B E0 st rf (fun i=>listed.getD i false) a w→wpAny P .any all.toArray Q fuel listed a w:=by
 obtain ⟨⟨more,e1,e2⟩,g1,g2,g3⟩:=EY all 0 ⟨[],[]⟩ [] df rf hrun rfl rfl rfl
 have hlen:rf.length=all.length:=by rw [e1];simpa using e2
 have full :∀ (listed:Array Bool),listed.size=all.length→Region.ready .any all.toArray listed=[]→∀ i,i<all.length→listed.getD i false=true:=by
  intro listed hsz hrd i
  induction i using Nat.strongRecOn with
  | _ i ih=>
   intro hi
   cases hb:listed.getD i false with
   | true=>rfl
   | false=>
    have hun:listed.getD i true=false:=by
     have:i<listed.size:=by omega
     simp [this] at hb ⊢
     exact hb
    have hoi:all[i]?=some all[i]:=List.getElem?_eq_getElem hi
    have:i∈Region.ready .any all.toArray listed:=mem_ready.2 ⟨hun,all[i],by simp,fun e he hbd=>by
     have:=jl all 0 hE i _ hoi e he hbd
     exact ih e.on (by omega) (by omega)⟩
    rw [hrd] at this
    cases this
 have close :∀ (listed:Array Bool) (a:Act) (w:World),listed.size=all.length→(∀ i,i<all.length→listed.getD i false=true)→Inv C B E0 st rf (fun i=>listed.getD i false) a w→Q .normal a w:=by
  intro listed a w hsz hall hI
  obtain ⟨⟨E,hE',rfl,hX,hEH,hU,hT⟩,hs,hd⟩:=hI
  have hsel :∀ {α:Type} (us:List (List (Nat×α))) (f:Nat→Option α),us.length=all.length→fK (fun i=>listed.getD i false) f 0 us=us.foldl jn f:=fun us f hl=>by
   have h1:=vf us f 0 us.length
   rw [List.take_of_length_le (Nat.le_refl _)] at h1
   rw [←h1]
   funext k
   refine mA us 0 f f rfl (fun j u hj _=>?_)
   have hjl:j<us.length:=(List.getElem?_eq_some_iff.1 hj).1
   rw [Nat.zero_add,hall j (by omega)]
   exact (by rw [Nat.blt_eq];omega:Nat.blt j (0+us.length)=true).symm
  refine hQ E a hE' hX ?_ (fun n hn=>?_) (fun s v hv=>?_) hs hd
  ·rw [hEH,hsel _ _ (by simp [hlen]),g2]
  ·rcases hU n hn with h |⟨i,h1,_,h3,h4⟩
   ·exact .inl h
   ·have:=Nat.mul_le_mul_right C.K (show i+1≤all.length by omega)
    rw [Nat.add_mul] at this
    exact .inr ⟨by omega,by omega⟩
  ·refine hT s v ?_
   rw [hsel _ _ (by simp [hlen]),←g1]
   exact hv
 intro fuel
 induction fuel with
 | zero=>
  intro listed a w hsz hun _ hI
  have hall :∀ i,i<all.length→listed.getD i false=true:=fun i hi=>by
   have h0 :(List.range all.length).filter (fun i=>!listed.getD i true)=[]:=List.eq_nil_of_length_eq_zero hun
   have:=List.filter_eq_nil_iff.1 h0 i (List.mem_range.2 hi)
   have hi':i<listed.size:=by omega
   simp [hi'] at this ⊢
   exact this
  refine ⟨?_,close listed a w hsz hall hI⟩
  cases hr:Region.ready .any all.toArray listed with
  | nil=>rfl
  | cons i l=>
   have hm:i∈Region.ready .any all.toArray listed:=by rw [hr];exact List.mem_cons_self
   obtain ⟨h1,o,h2,_⟩:=mem_ready.1 hm
   have hi:i<all.length:=by
    have:=(Array.getElem?_eq_some_iff.1 h2).1
    simpa using this
   have h3:=hall i hi
   have hi':i<listed.size:=by omega
   simp [hi'] at h1 h3
   rw [h1] at h3;cases h3
 | succ fuel ih=>
  intro listed a w hsz hun hclosed hI
  refine ⟨fun hr=>close listed a w hsz (full listed hsz hr) hI,fun i hi=>?_⟩
  obtain ⟨h1,o,h2,hdir⟩:=mem_ready.1 hi
  have ho:all[i]?=some o:=by simpa using h2
  have hil:i<all.length:=(List.getElem?_eq_some_iff.1 ho).1
  have his:i<listed.size:=by omega
  have hLi:listed.getD i false=false:=by simp [his] at h1 ⊢;exact h1
  obtain ⟨r,tm,H,k1,k2,k3,k4⟩:=g3 i o ho
  simp only [Nat.zero_add] at k1 k2 k3 k4
  have hget :∀ j,(listed.setIfInBounds i true).getD j false=if j=i then true else listed.getD j false:=fun j=>by
   by_cases e:j=i
   ·subst e;simp [his]
   ·simp [e,Array.getElem?_setIfInBounds_ne (Ne.symm e),Array.getD_eq_getD_getElem?]
  have hgetT :∀ j,j≠i→(listed.setIfInBounds i true).getD j true=listed.getD j true:=fun j e=>by
   simp [Array.getElem?_setIfInBounds_ne (Ne.symm e),Array.getD_eq_getD_getElem?]
  refine Mb hC (E0:=E0) (by rw [hlen];exact hfr0) (L:=fun i=>listed.getD i false) (L':=fun j=>(listed.setIfInBounds i true).getD j false) ho k1 hLi hget k2 ?_ ?_ (fun j s hs hor=>?_) hI (fun a w hI'=>ih _ a w (by simpa using hsz) ?_ ?_ hI')
  ·rw [k3]
   have:=vf (rf.map ow) (find st.tm) 0 i
   rw [←List.map_take,] at this
   simpa using this.symm
  ·rw [k4]
   have:=vf (rf.map Rec.dh) st.H 0 i
   rw [←List.map_take] at this
   simpa using this.symm
  ·rcases hor with ⟨hlt,hLj⟩ |⟨hgt,hLj⟩
   ·rcases m9 rf 0 hck j i s r hlt hs k1 with h|h
    ·simp only [Nat.zero_add] at h
     have:=lT hE hclosed i i (Nat.le_refl _) o ho hdir j h
     rw [this] at hLj;cases hLj
    ·exact h.symm
   ·rcases m9 rf 0 hck i j r s hgt k1 hs with h|h
    ·simp only [Nat.zero_add] at h
     have hjl:j<all.length:=by rw [←hlen];exact (List.getElem?_eq_some_iff.1 hs).1
     have hoj:all[j]?=some all[j]:=List.getElem?_eq_getElem hjl
     have:=lT hE hclosed j j (Nat.le_refl _) _ hoj (hclosed j _ hoj hLj) i h
     rw [this] at hLi;cases hLi
    ·exact h
  ·have:=vY (p:=fun j=>!listed.getD j true) (q:=fun j=>!(listed.setIfInBounds i true).getD j true) (i:=i) (by simp [h1]) (by simp [his]) (fun j e=>by simp [hgetT j e]) (List.range all.length) List.nodup_range (List.mem_range.2 hil)
   unfold unl at hun ⊢
   omega
  ·intro j oj hj hlj e he hb
   rw [hget] at hlj ⊢
   by_cases e1:e.on=i
   ·rw [if_pos e1]
   ·rw [if_neg e1]
    by_cases e2:j=i
    ·subst e2
     rw [ho] at hj;cases hj
     exact hdir e he hb
    ·rw [if_neg e2] at hlj
     exact hclosed j oj hj hlj e he hb
theorem J0 {C:Cfg} (hC:CfgOK P C) {B:Base} {all:List Oper} {st:St} {df:Dl} {rf:List Rec} (hrun:Run C true all st 0 all ⟨[],[]⟩ [] df rf) (hE:ik 0 all=true) (hck:lX (lG all []) 0 rf=true) {Q:Exit→Act→World→Prop}
  {E:Env} (hE':HRel B E) (hH:E.H=st.H) {a:Act} (hT:ju E (find st.tm) a) (hsz:a.tmps.size=C.N) (hdf:a.defers=B.dfs)
  (hfr0 :∀ n,st.nx≤n→n<st.nx+all.length*C.K→¬ E.U n)
  (hQ :∀ E' a,HRel B E'→Ext E E'→E'.H=aY st.H df.hp→(∀ n,E'.U n→E.U n∨(st.nx≤n∧n<st.nx+all.length*C.K))→ju E' (find (df.tm++st.tm)) a→a.tmps.size=C.N→a.defers=B.dfs→Q .normal a E'.w) :
  wpAny P .any all.toArray Q all.toArray.size (Array.replicate all.toArray.size false) a { E.w with drawn:=E.w.drawn+1 }:=by
 obtain ⟨R,X⟩:=xQ hE' { E.w with drawn:=E.w.drawn+1 } rfl rfl rfl rfl
 have hfalse :∀ i,(Array.replicate all.toArray.size false).getD i false=false:=fun i=>by
  rcases Nat.lt_or_ge i all.length with h|h
  ·simp [h]
  ·simp [h]
 have hno :∀ {α:Type} (us:List (List (Nat×α))) (f:Nat→Option α) (i:Nat),fK (fun i=>(Array.replicate all.toArray.size false).getD i false) f i us=f:=by
  intro α us
  induction us with
  | nil=>intro f i;rfl
  | cons u us ih=>intro f i;unfold fK;rw [hfalse];simp only [Bool.false_eq_true,if_false];exact ih f _
 refine LW hC (E0:={ E with w:={ E.w with drawn:=E.w.drawn+1 } }) hrun hE hck hfr0 (fun E1 a1 r1 x1 h1 u1 t1 s1 d1=>hQ E1 a1 r1 (X.trans x1) h1 u1 t1 s1 d1) _ _ a _ (by simp) ?_ (fun j oj hj hl=>by rw [hfalse] at hl;cases hl) ⟨⟨_,R,rfl,Ext.refl _,?_,fun n hn=> .inl hn,fun s v hv=>?_⟩,hsz,hdf⟩
 ·unfold unl
  have :(List.range all.length).filter (fun i=>!(Array.replicate all.toArray.size false).getD i true)=List.range all.length:=List.filter_eq_self.2 fun i hi=>by
   have:=List.mem_range.1 hi
   simp [this]
  rw [this]
  simp
 ·rw [hno _ _ _];exact hH
 ·rw [hno] at hv
  exact cF X _ _ (hT s v hv)
theorem Dg {C:Cfg} (hC:CfgOK P C) {B:Base} {all:List Oper} {st:St} {df:Dl} {rf:List Rec} (hrun:Run C true all st 0 all ⟨[],[]⟩ [] df rf) (hE:ik 0 all=true) (hck:lX (lG all []) 0 rf=true) {Q:Exit→Act→World→Prop}
  (hQ :∀ a w,SRel B C.N (find (df.tm++st.tm)) (aY st.H df.hp) (fun n=>n<st.nx+all.length*C.K) a w→Q .normal a w) {a:Act} {w:World} (hs:SRel B C.N (find st.tm) st.H (fun n=>n<st.nx) a w) :
  wpAny P .any all.toArray Q all.toArray.size (Array.replicate all.toArray.size false) a { w with drawn:=w.drawn+1 }:=by
 obtain ⟨⟨E,hE',rfl,hH,⟨hG,hU⟩,hT⟩,hsz,hdf⟩:=hs
 refine J0 hC hrun hE hck hE' hH hT hsz hdf (fun n h1 _ hu=>?_) (fun E1 a1 r1 x1 h1 u1 t1 s1 d1=>hQ _ _ ⟨⟨E1,r1,rfl,h1,⟨B.clo _ _ hG x1,fun n hn=>?_⟩,t1⟩,s1,d1⟩)
 ·have:=hU n hu;omega
 ·rcases u1 n hn with h|h
  ·have:=hU n h;omega
  ·exact h.2
theorem p0 {C:Cfg} (hC:CfgOK P C) (hP:P.follows .mixedOrders=true) {B:Base} {all:List Oper} {st:St} {df:Dl} {rf:List Rec} (hrun:Run C true all st 0 all ⟨[],[]⟩ [] df rf) (hE:ik 0 all=true) (hck:lX (lG all []) 0 rf=true) {Q:Exit→Act→World→Prop}
  (hQ :∀ a w,SRel B C.N (find (df.tm++st.tm)) (aY st.H df.hp) (fun n=>n<st.nx+all.length*C.K) a w→Q .normal a w) {a:Act} {w:World} (hs:SRel B C.N (find st.tm) st.H (fun n=>n<st.nx) a w) (id:Nat) :
  (Code.region id all.toArray true).wp P Q a w:=
 wp_region_any hP (Dg hC hrun hE hck hQ hs)
end
section
open Go.RowKit
variable {P:Program}
def Tr.pre (d:Dl):Tr→Tr
 | .leaf e d' nx=> .leaf e ⟨d'.tm++d.tm,d'.hp++d.hp⟩ nx
 | .br b t e=> .br b (t.pre d) (e.pre d)
 | .need p t=> .need p (t.pre d)
 | .both t u=> .both (t.pre d) (u.pre d)
 | .when b t=> .when b (t.pre d)
 | .done=> .done
 | .bad=> .bad
def Tr.graft (k:Dl→Nat→Tr):Tr→Tr
 | .leaf .nrm d nx=>(k d nx).pre d
 | .leaf e d nx=> .leaf e d nx
 | .br b t e=> .br b (t.graft k) (e.graft k)
 | .need p t=> .need p (t.graft k)
 | .both t u=> .both (t.graft k) (u.graft k)
 | .when b t=> .when b (t.graft k)
 | .done=> .done
 | .bad=> .bad
def Tr.nN:Tr→Nat
 | .leaf .nrm _ _=>1
 | .leaf _ _ _=>0
 | .br _ t e=>t.nN+e.nN
 | .need _ t=>t.nN
 | .both t u=>t.nN+u.nN
 | .when _ t=>t.nN
 | .done | .bad=>0
def Tr.cut:Tr→Tr
 | .leaf .nrm _ _=> .done
 | .leaf e d nx=> .leaf e d nx
 | .br b t e=> .br b t.cut e.cut
 | .need p t=> .need p t.cut
 | .both t u=> .both t.cut u.cut
 | .when b t=> .when b t.cut
 | .done=> .done
 | .bad=> .bad
def Tr.clean:Tr→Bool
 | .leaf .nrm _ _=>true
 | .br _ t e=>t.clean&&e.clean
 | _=>false
inductive KB where
 | yes|no|is (b:Bool)
def KB.val:KB→Bool
 | .yes=>true
 | .no=>false
 | .is b=>b
def KB.ite (b:Bool):KB→KB→KB
 | .yes,.yes=> .yes
 | .no,.no=> .no
 | .yes,.no=> .is b
 | .no,.yes=> .is (!b)
 | x,y=> .is (cond b x.val y.val)
def KB.or:KB→KB→KB
 | .yes,_=> .yes
 | _,.yes=> .yes
 | .no,y=>y
 | x,.no=>x
 | x,y=> .is (x.val||y.val)
def KB.and (b:Bool):KB→KB
 | .yes=> .is b
 | .no=> .no
 | .is c=> .is (b&&c)
def Tr.isN:Tr→KB
 | .leaf .nrm _ _=> .yes
 | .leaf _ _ _=> .no
 | .br b t e=>KB.ite b t.isN e.isN
 | .need _ t=>t.isN
 | .both t u=>KB.or t.isN u.isN
 | .when b t=>KB.and b t.isN
 | .done | .bad=> .no
mutual
def cL (p:Bool):V→V→Option V
 | .any,_=>some .any
 | .hint _ _,_=>some .any
 | .int k a,y=>match y with | .int k' b=>(if k=k' then some (.int k (cond p a b)) else none) | .any=>some .any|_=>none
 | .bool a,y=>match y with | .bool b=>some (.bool (cond p a b)) | .kb b=>some (.bool (cond p a b)) | .any=>some .any|_=>none
 | .kb a,y=>match y with
  | .bool b=>some (.bool (cond p a b))
  | .kb b=>(match a,b with|true,true=>some (.kb true)|false,false=>some (.kb false)|true,false=>some (.bool p)|false,true=>some (.bool (!p)))
  | .any=>some .any
  | _=>none
 | .str a,y=>match y with | .str b=>some (.str (cond p a b)) | .any=>some .any|_=>none
 | .nilptr,y=>match y with | .nilptr=>some .nilptr | .any=>some .any|_=>none
 | .ptr h o,y=>match y with | .ptr h' o'=>(if h=h'∧o=o' then some (.ptr h o) else none) | .any=>some .any|_=>none
 | .fp t xs i o,y=>match y with | .fp t' ys j o'=>(if e:t'=t then (if o=o' then some (.fp t (cond p xs (e▸ys)) (cond p i j) o) else none) else none) | .any=>some .any|_=>none
 | .rp h ver i o,y=>match y with | .rp h' ver' j o'=>(if h=h'∧ver=ver'∧o=o' then some (.rp h ver (cond p i j) o) else none) | .any=>some .any|_=>none
 | .nilsl,y=>match y with | .nilsl=>some .nilsl | .fsl t ys=>some (.fsl t (cond p [] ys)) | .any=>some .any|_=>none
 | .esl,y=>match y with | .esl=>some .esl | .any=>some .any|_=>none
 | .osl h ver,y=>match y with | .osl h' ver'=>(if h=h'∧ver=ver' then some (.osl h ver) else none) | .any=>some .any|_=>none
 | .fsl t xs,y=>match y with | .fsl t' ys=>(if e:t'=t then some (.fsl t (cond p xs (e▸ys))) else none) | .nilsl=>some (.fsl t (cond p xs [])) | .any=>some .any|_=>none
 | .gsl h ver e o l,y=>match y with | .gsl h' ver' e' o' l'=>(if h=h'∧ver=ver'∧e=e'∧o=o'∧l=l' then some (.gsl h ver e o l) else none) | .any=>some .any|_=>none
 | .gp h ver o,y=>match y with | .gp h' ver' o'=>(if h=h'∧ver=ver'∧o=o' then some (.gp h ver o) else none) | .any=>some .any|_=>none
 | .mpv h,y=>match y with | .mpv h'=>(if h=h' then some (.mpv h) else none) | .any=>some .any|_=>none
 | .av k h,y=>match y with | .av k' h'=>(if k=k'∧h=h' then some (.av k h) else none) | .any=>some .any|_=>none
 | .nilfn,y=>match y with | .nilfn=>some .nilfn | .any=>some .any|_=>none
 | .nilmap,y=>match y with | .nilmap=>some .nilmap | .any=>some .any|_=>none
 | .fn f cs,y=>match y with | .fn f' ds=>(if f=f' then (match ir p cs ds with|some l=>some (.fn f l)|none=>none) else none) | .any=>some .any|_=>none
 | .agg cs,y=>match y with | .agg ds=>(match ir p cs ds with|some l=>some (.agg l)|none=>none) | .any=>some .any|_=>none
 | .tup cs,y=>match y with | .tup ds=>(match ir p cs ds with|some l=>some (.tup l)|none=>none) | .any=>some .any|_=>none
def ir (p:Bool):List V→List V→Option (List V)
 | [],[]=>some []
 | x::xs,y::ys=>match cL p x y with
  | some v=>match ir p xs ys with
   | some l=>some (v::l)
   | none=>none
  | none=>none
 | _,_=>none
end
def uP:V→Bool
 | .tup []=>true
 | _=>false
def BG (p:Bool) (x y:V):Option V:=bif uP x||uP y then some .any else cL p x y
def BE (p:Bool):Blk→Blk→Option Blk
 | .cells cs,.cells ds=>match ir p cs ds with|some l=>some (.cells l)|none=>none
 | .row ver rw t xs,.row ver' rw' t' ys=>if e:t'=t then (if ver=ver'∧rw=rw' then some (.row ver rw t (cond p xs (e▸ys))) else none) else none
 | .abs k t x,.abs k' t' y=>if e:t'=t then (if k=k' then some (.abs k t (cond p x (e▸y))) else none) else none
 | _,_=>none
def lh {α:Type}:List (Nat×α)→List Nat→List Nat
 | [],acc=>acc
 |(k,_)::r,acc=>bif memN acc k then lh r acc else lh r (k::acc)
def mf (p:Bool) (t1 t2:List (Nat×V)):List Nat→Option (List (Nat×V))
 | []=>some []
 | k::ks=>match BG p (fD t1 k) (fD t2 k) with
  | some v=>match mf p t1 t2 ks with
   | some l=>some ((k,v)::l)
   | none=>none
  | none=>none
def oV (p:Bool) (H H1 H2:bj):List Nat→Option (List (Nat×Blk))
 | []=>some []
 | k::ks=>match H1 k,H2 k with
  | some b1,some b2=>match BE p b1 b2 with
   | some b=>match oV p H H1 H2 ks with
    | some l=>some ((k,b)::l)
    | none=>none
   | none=>none
  | _,_=>match H k with
   | some _=>none
   | none=>oV p H H1 H2 ks
def BF (p:Bool) (st:St) (d1 d2:Dl):Option Dl:=
 match mf p (d1.tm++st.tm) (d2.tm++st.tm) (lh d1.tm (lh d2.tm [])) with
 | some tm=>match oV p st.H (aY st.H d1.hp) (aY st.H d2.hp) (lh d1.hp (lh d2.hp [])) with
  | some hp=>some ⟨tm,hp⟩
  | none=>none
 | none=>none
def Tr.mrg (st:St):Tr→Option (Option (Dl×Nat))
 | .leaf .nrm d nx=>some (some (d,nx))
 | .leaf _ _ _=>some none
 | .br b t e=>match t.mrg st,e.mrg st with
  | some none,r=>r
  | r,some none=>r
  | some (some (d1,n1)),some (some (d2,n2))=>match BF b st d1 d2 with
   | some d=>some (some (d,Nat.max n1 n2))
   | none=>none
  | _,_=>none
 | .need _ t=>t.mrg st
 | .both t u=>match t.mrg st,u.mrg st with
  | some none,r=>r
  | r,some none=>r
  | _,_=>none
 | .when _ t=>t.mrg st
 | .done | .bad=>some none
def Ij (st:St) (t:Tr) (k:Dl→Nat→Tr):Tr:=
 bif Nat.ble t.nN 1 then t.graft k
 else match t.mrg st with
  | some (some (d,nx))=>bif t.clean then (k d nx).pre d else .both t.cut (.when t.isN.val ((k d nx).pre d))
  | _=>t.graft k
def Tr.catch (id:Nat):Tr→Tr
 | .leaf (.ext id') d nx=>if id'=id then .leaf .nrm d nx else .leaf (.ext id') d nx
 | .leaf e d nx=> .leaf e d nx
 | .br b t e=> .br b (t.catch id) (e.catch id)
 | .need p t=> .need p (t.catch id)
 | .both t u=> .both (t.catch id) (u.catch id)
 | .when b t=> .when b (t.catch id)
 | .done=> .done
 | .bad=> .bad
def Hb:Code→Option Nat
 | .region id _ _=>some id
 | .seq a b=>match Hb a with|some n=>some n|none=>Hb b
 | .cond _ a b=>match Hb a with|some n=>some n|none=>Hb b
 | .block _ b=>Hb b
 | .loop b=>Hb b
 | _=>none
def rid (c:Code):Nat:=match Hb c with|some n=>n|none=>0
structure LoopSum where
 pre:St→Prop
 T:St→Tr
def qI (f:St→Tr):Nat→St→Tr
 | 0,_=> .bad
 | n+1,st=>Ij st (f st) fun d nx=>qI f n (st.app d nx)
def rS:Nat:=100000
def cU (C:Cfg) (Λ:Nat→Option LoopSum):Code→St→Tr
 | .skip,st=> .leaf .nrm ⟨[],[]⟩ st.nx
 | .region _ ops dr,st=>tj C dr ops.toList st 0 ops.toList ⟨[],[]⟩ []
 | .seq a b,st=>Ij st (cU C Λ a st) fun d nx=>cU C Λ b (st.app d nx)
 | .cond c x y,st=>match EE st.tm c with
  | .kb true=>cU C Λ x st
  | .kb false=>cU C Λ y st
  | .bool b=>match b with|true=>cU C Λ x st|false=>cU C Λ y st
  | .hint q true=> .both (.when q (cU C Λ x st)) (cU C Λ y st)
  | .hint q false=> .both (.when q (cU C Λ y st)) (cU C Λ x st)
  | _=> .bad
 | .block id b,st=>(cU C Λ b st).catch id
 | .loop b,st=>match Λ (rid b) with
  | some L=> .need (L.pre st) (L.T st)
  | none=>qI (cU C Λ b) rS st
 | .exit id,st=> .leaf (.ext id) ⟨[],[]⟩ st.nx
 | .ret,st=> .leaf .ret ⟨[],[]⟩ st.nx
 | _,_=> .bad
def bL (C:Cfg) (Λ:Nat→Option LoopSum):Code→St→Tr
 | .skip,st=> .leaf .nrm ⟨[],[]⟩ st.nx
 | .region _ ops dr,st=>tj C dr ops.toList st 0 ops.toList ⟨[],[]⟩ []
 | .seq a b,st=>Ij st (bL C Λ a st) fun d nx=>bL C Λ b (st.app d nx)
 | .cond c x y,st=>match EE st.tm c with
  | .kb true=>bL C Λ x st
  | .kb false=>bL C Λ y st
  | .bool b=> .br b (bL C Λ x st) (bL C Λ y st)
  | .hint q true=> .both (.when q (bL C Λ x st)) (bL C Λ y st)
  | .hint q false=> .both (.when q (bL C Λ y st)) (bL C Λ x st)
  | _=> .bad
 | .block id b,st=>(bL C Λ b st).catch id
 | .loop b,st=>match Λ (rid b) with
  | some L=> .need (L.pre st) (L.T st)
  | none=>qI (cU C Λ b) rS st
 | .exit id,st=> .leaf (.ext id) ⟨[],[]⟩ st.nx
 | .ret,st=> .leaf .ret ⟨[],[]⟩ st.nx
 | _,_=> .bad
def bh (Λ:Nat→Option LoopSum):Code→List Code
 | .seq a b=>bh Λ a++bh Λ b
 | .cond _ a b=>bh Λ a++bh Λ b
 | .block _ b=>bh Λ b
 | .loop b=>b ::(match Λ (rid b) with|some _=> []|none=>bh Λ b)
 | _=> []
def mb:Code→List Code
 | .seq a b=>mb a++mb b
 | .cond _ a b=>mb a++mb b
 | .block _ b=>mb b
 | .loop b=> [b]
 | _=> []
end
section
open Go.RowKit
variable {P:Program}
set_option maxHeartbeats 1000000 in
mutual
theorem rz {E:Env} {p:Bool} :∀ (x y v:V) (u:Value),cL p x y=some v→(p=true→af E x u)→(p=false→af E y u)→af E v u
 | .any,y,v,u,h,_,_=>by simp only [cL,Option.some.injEq] at h;subst h;simp [af]
 | .int k a,y,v,u,h,h1,h2=>by
  cases y <;> simp only [cL,reduceCtorEq,Option.some.injEq] at h
  case any=>subst h;simp [af]
  case int k' b=>
   split at h
   case isFalse=>cases h
   rename_i e;subst e
   cases h
   cases p
   ·exact h2 rfl
   ·exact h1 rfl
 | .bool a,y,v,u,h,h1,h2=>by
  cases y <;> simp only [cL,reduceCtorEq,Option.some.injEq] at h
  case any=>subst h;simp [af]
  all_goals (subst h;cases p <;> first|exact h1 rfl |(have:=h2 rfl;simpa [af] using this))
 | .kb a,y,v,u,h,h1,h2=>by
  cases y <;> simp only [cL,reduceCtorEq,Option.some.injEq] at h
  case any=>subst h;simp [af]
  case bool b=>subst h;cases p <;> first |(have:=h1 rfl;simpa [af] using this) |(have:=h2 rfl;simpa [af] using this)
  case kb b=>
   cases a <;> cases b <;> simp only [Option.some.injEq] at h <;> subst h <;> cases p <;> first |(have:=h1 rfl;simpa [af] using this) |(have:=h2 rfl;simpa [af] using this)
 | .str a,y,v,u,h,h1,h2=>by
  cases y <;> simp only [cL,reduceCtorEq,Option.some.injEq] at h
  case any=>subst h;simp [af]
  case str b=>subst h;cases p <;> first|exact h1 rfl|exact h2 rfl
 | .nilptr,y,v,u,h,h1,h2=>by
  cases y <;> simp only [cL,reduceCtorEq,Option.some.injEq] at h
  case any=>subst h;simp [af]
  case nilptr=>subst h;cases p <;> first|exact h1 rfl|exact h2 rfl
 | .ptr hh o,y,v,u,h,h1,h2=>by
  cases y <;> simp only [cL,reduceCtorEq,Option.some.injEq] at h
  case any=>subst h;simp [af]
  case ptr h' o'=>
   split at h
   case isFalse=>cases h
   rename_i e;obtain ⟨rfl,rfl⟩:=e
   cases h
   cases p <;> first|exact h1 rfl|exact h2 rfl
 | .fp t xs i o,y,v,u,h,h1,h2=>by
  cases y <;> simp only [cL,reduceCtorEq,Option.some.injEq] at h
  case any=>subst h;simp [af]
  case fp t' ys j o'=>
   split at h
   case isFalse=>cases h
   rename_i e;subst e
   split at h
   case isFalse=>cases h
   rename_i e;subst e
   cases h
   cases p <;> first|exact h1 rfl|exact h2 rfl
 | .rp hh ver i o,y,v,u,h,h1,h2=>by
  cases y <;> simp only [cL,reduceCtorEq,Option.some.injEq] at h
  case any=>subst h;simp [af]
  case rp h' ver' j o'=>
   split at h
   case isFalse=>cases h
   rename_i e;obtain ⟨rfl,rfl,rfl⟩:=e
   cases h
   cases p <;> first|exact h1 rfl|exact h2 rfl
 | .nilsl,y,v,u,h,h1,h2=>by
  cases y <;> simp only [cL,reduceCtorEq,Option.some.injEq] at h
  case any=>subst h;simp [af]
  case nilsl=>subst h;cases p <;> first|exact h1 rfl|exact h2 rfl
  case fsl t ys=>
   subst h
   cases p
   ·exact h2 rfl
   ·have:=h1 rfl
    simp only [af] at this ⊢
    subst this
    exact .nil
 | .esl,y,v,u,h,h1,h2=>by
  cases y <;> simp only [cL,reduceCtorEq,Option.some.injEq] at h
  case any=>subst h;simp [af]
  case esl=>subst h;cases p <;> first|exact h1 rfl|exact h2 rfl
 | .osl hh ver,y,v,u,h,h1,h2=>by
  cases y <;> simp only [cL,reduceCtorEq,Option.some.injEq] at h
  case any=>subst h;simp [af]
  case osl h' ver'=>
   split at h
   case isFalse=>cases h
   rename_i e;obtain ⟨rfl,rfl⟩:=e
   cases h
   cases p <;> first|exact h1 rfl|exact h2 rfl
 | .fsl t xs,y,v,u,h,h1,h2=>by
  cases y <;> simp only [cL,reduceCtorEq,Option.some.injEq] at h
  case any=>subst h;simp [af]
  case fsl t' ys=>
   split at h
   case isFalse=>cases h
   rename_i e;subst e
   cases h
   cases p <;> first|exact h1 rfl|exact h2 rfl
  case nilsl=>
   subst h
   cases p
   ·have:=h2 rfl
    simp only [af] at this ⊢
    subst this
    exact .nil
   ·exact h1 rfl
 | .hint _ _,y,v,u,h,h1,h2=>by
  simp only [cL,Option.some.injEq] at h
  subst h;simp [af]
 | .gsl hh ver e o l,y,v,u,h,h1,h2=>by
  cases y <;> simp only [cL,reduceCtorEq,Option.some.injEq] at h
  case any=>subst h;simp [af]
  case gsl h' ver' e' o' l'=>
   split at h
   case isFalse=>cases h
   rename_i e;obtain ⟨rfl,rfl,rfl,rfl,rfl⟩:=e
   cases h
   cases p <;> first|exact h1 rfl|exact h2 rfl
 | .gp hh ver o,y,v,u,h,h1,h2=>by
  cases y <;> simp only [cL,reduceCtorEq,Option.some.injEq] at h
  case any=>subst h;simp [af]
  case gp h' ver' o'=>
   split at h
   case isFalse=>cases h
   rename_i e;obtain ⟨rfl,rfl,rfl⟩:=e
   cases h
   cases p <;> first|exact h1 rfl|exact h2 rfl
 | .mpv hh,y,v,u,h,h1,h2=>by
  cases y <;> simp only [cL,reduceCtorEq,Option.some.injEq] at h
  case any=>subst h;simp [af]
  case mpv h'=>
   split at h
   case isFalse=>cases h
   rename_i e;subst e
   cases h
   cases p <;> first|exact h1 rfl|exact h2 rfl
 | .av k hh,y,v,u,h,h1,h2=>by
  cases y <;> simp only [cL,reduceCtorEq,Option.some.injEq] at h
  case any=>subst h;simp [af]
  case av k' h'=>
   split at h
   case isFalse=>cases h
   rename_i e;obtain ⟨rfl,rfl⟩:=e
   cases h
   cases p <;> first|exact h1 rfl|exact h2 rfl
 | .nilfn,y,v,u,h,h1,h2=>by
  cases y <;> simp only [cL,reduceCtorEq,Option.some.injEq] at h
  case any=>subst h;simp [af]
  case nilfn=>subst h;cases p <;> first|exact h1 rfl|exact h2 rfl
 | .nilmap,y,v,u,h,h1,h2=>by
  cases y <;> simp only [cL,reduceCtorEq,Option.some.injEq] at h
  case any=>subst h;simp [af]
  case nilmap=>subst h;cases p <;> first|exact h1 rfl|exact h2 rfl
 | .fn f cs,y,v,u,h,h1,h2=>by
  cases y <;> simp only [cL,reduceCtorEq,Option.some.injEq] at h
  case any=>subst h;simp [af]
  case fn f' ds=>
   split at h
   case isFalse=>cases h
   rename_i e;subst e
   split at h
   case h_2=>cases h
   rename_i l hl
   cases h
   simp only [af] at h1 h2 ⊢
   cases p with
   | true=>
    obtain ⟨l',e1,e2⟩:=h1 rfl
    exact ⟨l',e1,cJ cs ds l l'.toList hl (fun _=>e2) (fun e=>by cases e)⟩
   | false=>
    obtain ⟨l',e1,e2⟩:=h2 rfl
    exact ⟨l',e1,cJ cs ds l l'.toList hl (fun e=>by cases e) (fun _=>e2)⟩
 | .agg cs,y,v,u,h,h1,h2=>by
  cases y <;> simp only [cL,reduceCtorEq,Option.some.injEq] at h
  case any=>subst h;simp [af]
  case agg ds=>
   split at h
   case h_2=>cases h
   rename_i l hl
   cases h
   simp only [af] at h1 h2 ⊢
   cases p with
   | true=>
    obtain ⟨l',e1,e2⟩:=h1 rfl
    exact ⟨l',e1,cJ cs ds l l'.toList hl (fun _=>e2) (fun e=>by cases e)⟩
   | false=>
    obtain ⟨l',e1,e2⟩:=h2 rfl
    exact ⟨l',e1,cJ cs ds l l'.toList hl (fun e=>by cases e) (fun _=>e2)⟩
 | .tup cs,y,v,u,h,h1,h2=>by
  cases y <;> simp only [cL,reduceCtorEq,Option.some.injEq] at h
  case any=>subst h;simp [af]
  case tup ds=>
   split at h
   case h_2=>cases h
   rename_i l hl
   cases h
   simp only [af] at h1 h2 ⊢
   cases p with
   | true=>
    obtain ⟨l',e1,e2⟩:=h1 rfl
    exact ⟨l',e1,cJ cs ds l l'.toList hl (fun _=>e2) (fun e=>by cases e)⟩
   | false=>
    obtain ⟨l',e1,e2⟩:=h2 rfl
    exact ⟨l',e1,cJ cs ds l l'.toList hl (fun e=>by cases e) (fun _=>e2)⟩
theorem cJ {E:Env} {p:Bool} :∀ (xs ys l:List V) (us:List Value),ir p xs ys=some l→(p=true→ah E xs us)→(p=false→ah E ys us)→ah E l us
 | [],[],l,us,h,h1,h2=>by
  simp only [ir,Option.some.injEq] at h
  subst h
  cases p
  ·exact h2 rfl
  ·exact h1 rfl
 | _::_,[],l,us,h,_,_=>by simp [ir] at h
 | [],_::_,l,us,h,_,_=>by simp [ir] at h
 | x::xs,y::ys,l,us,h,h1,h2=>by
  simp only [ir] at h
  split at h
  case h_2=>cases h
  rename_i v hv
  split at h
  case h_2=>cases h
  rename_i l' hl
  cases h
  cases us with
  | nil=>
   cases p
   ·have:=h2 rfl;simp [ah] at this
   ·have:=h1 rfl;simp [ah] at this
  | cons u us=>
   simp only [ah] at h1 h2 ⊢
   exact ⟨rz x y v u hv (fun e=>(h1 e).1) (fun e=>(h2 e).1),cJ xs ys l' us hl (fun e=>(h1 e).2) (fun e=>(h2 e).2)⟩
end
theorem HRel.weak {B:Base} {E:Env} (hE:HRel B E) (H':bj) (h :∀ h k',H' h=some k'→∃ k,E.H h=some k∧(k'=k∨∃ cs cs',k = .cells cs∧k' = .cells cs'∧∀ l,ah E cs l→ah E cs' l)) :
  HRel B { E with H:=H' }∧Ext E { E with H:=H' }:=by
 have X:Ext E { E with H:=H' }:=by
  refine ⟨fun _ h=>h,fun _ h=>h,fun _ _=>rfl,fun hh cs _ hx=>?_,fun hh ver rw t xs _ _ hx=>?_,fun hh ver esz cs _ _ hx=>?_,fun hh es _ hx=>?_,fun hh kk t x _ hx=>?_⟩
  case refine_5=>
   obtain ⟨k,h1,h2⟩:=h _ _ hx
   rcases h2 with h2 |⟨cs1,cs2,h2,h3,_⟩
   ·subst h2;exact ⟨⟨x,h1⟩,rfl⟩
   ·cases h3
  ·obtain ⟨k,h1,h2⟩:=h _ _ hx
   rcases h2 with h2 |⟨cs1,cs2,h2,h3,_⟩
   ·subst h2;exact ⟨⟨_,h1⟩,rfl⟩
   ·subst h2;exact ⟨⟨_,h1⟩,rfl⟩
  ·obtain ⟨k,h1,h2⟩:=h _ _ hx
   rcases h2 with h2 |⟨cs1,cs2,h2,h3,_⟩
   ·subst h2;exact ⟨rw,xs,h1,rfl,rfl,fun b c T fr _ hw=>⟨c,T,fr,hw,rfl⟩⟩
   ·cases h3
  ·obtain ⟨k,h1,h2⟩:=h _ _ hx
   rcases h2 with h2 |⟨cs1,cs2,h2,h3,_⟩
   ·subst h2;exact ⟨cs,h1,rfl,rfl,fun b c T fr _ hw=>⟨c,T,fr,hw,rfl⟩⟩
   ·cases h3
  ·obtain ⟨k,h1,h2⟩:=h _ _ hx
   rcases h2 with h2 |⟨cs1,cs2,h2,h3,_⟩
   ·subst h2;exact ⟨⟨es,h1⟩,rfl⟩
   ·cases h3
 have tk :∀ {hh k b},H' hh=some k→Tch { E with H:=H' } hh k b→∃ k0,E.H hh=some k0∧Tch E hh k0 b:=fun hx ht=>by
  obtain ⟨k0,h1,h2⟩:=h _ _ hx
  rcases h2 with h2 |⟨cs1,cs2,h2,h3,_⟩
  ·subst h2;exact ⟨_,h1,ht⟩
  ·subst h2;subst h3;exact ⟨_,h1,.inl (ht.of rfl)⟩
 refine ⟨⟨fun hh b hx=>?_,hE.stab,fun hh k b hx hb=>?_,fun h1 h2 k1 k2 b x1 x2 b1 b2=>?_,fun hh k hx=>?_,hE.keeps,fun hh k b hx hb=>?_,hE.s0,hE.sb⟩,X⟩
 ·obtain ⟨k,h1,_⟩:=h _ _ hx;exact hE.used _ _ h1
 ·obtain ⟨k,h1,h2⟩:=tk hx hb;exact hE.lt' _ _ _ h1 h2
 ·obtain ⟨_,y1,z1⟩:=tk x1 b1
  obtain ⟨_,y2,z2⟩:=tk x2 b2
  exact hE.inj' _ _ _ _ _ y1 y2 z1 z2
 ·obtain ⟨k0,h1,h2⟩:=h _ _ hx
  rcases h2 with h2 |⟨cs1,cs2,h2,h3,h4⟩
  ·subst h2;exact dp X rfl (fun _ _=>rfl) (fun _ _ _ h=>h) (hE.blk _ _ h1)
  ·subst h2;subst h3
   obtain ⟨b,c,T,fr,g1,g2,g3,g4,g5⟩:=hE.blk _ _ h1
   exact ⟨b,c,T,fr,g1,g2,g3,g4,bD X _ _ (h4 _ g5)⟩
 ·obtain ⟨k,h1,h2⟩:=tk hx hb;exact hE.own' _ _ _ h1 h2
theorem eQ {α:Type} :∀ (l:List (Nat×α)) (acc:List Nat) (k:Nat),(k∈acc∨find l k≠none)→k∈lh l acc
 | [],acc,k,h=>by
  rcases h with h|h
  ·exact h
  ·simp [find] at h
 |(a,b)::l,acc,k,h=>by
  unfold lh
  cases hm:memN acc a with
  | true=>
   refine eQ l acc k ?_
   rcases h with h|h
   ·exact .inl h
   ·simp only [find] at h
    cases hb:Nat.beq a k with
    | true=>obtain rfl:=Nat.eq_of_beq_eq_true hb;exact .inl (memN_iff.1 hm)
    | false=>rw [hb] at h;exact .inr h
  | false=>
   refine eQ l (a::acc) k ?_
   rcases h with h|h
   ·exact .inl (List.mem_cons_of_mem _ h)
   ·simp only [find] at h
    cases hb:Nat.beq a k with
    | true=>obtain rfl:=Nat.eq_of_beq_eq_true hb;exact .inl List.mem_cons_self
    | false=>rw [hb] at h;exact .inr h
theorem ry {E:Env} {p:Bool} {x y v:V} {u:Value} (h:BG p x y=some v) (h1:p=true→af E x u) (h2:p=false→af E y u):af E v u:=by
 unfold BG at h
 cases hb:uP x||uP y with
 | true=>rw [hb] at h;simp only [cond_true,Option.some.injEq] at h;subst h;simp [af]
 | false=>rw [hb] at h;exact rz _ _ _ _ h h1 h2
theorem mg {p:Bool} {t1 t2:List (Nat×V)} :∀ {ks:List Nat} {l:List (Nat×V)},mf p t1 t2 ks=some l→∀ s v,find l s=some v→s∈ks∧BG p (fD t1 s) (fD t2 s)=some v
 | [],l,h,s,v,hf=>by simp only [mf,Option.some.injEq] at h;subst h;simp [find] at hf
 | k::ks,l,h,s,v,hf=>by
  simp only [mf] at h
  split at h
  case h_2=>cases h
  rename_i v0 hv
  split at h
  case h_2=>cases h
  rename_i l' hl
  cases h
  simp only [find] at hf
  cases hb:Nat.beq k s with
  | true=>
   obtain rfl:=Nat.eq_of_beq_eq_true hb
   rw [hb] at hf;simp only [cond_true,Option.some.injEq] at hf;subst hf
   exact ⟨List.mem_cons_self,hv⟩
  | false=>
   rw [hb] at hf
   obtain ⟨h1,h2⟩:=mg hl s v hf
   exact ⟨List.mem_cons_of_mem _ h1,h2⟩
theorem rv {p:Bool} {t1 t2:List (Nat×V)} :∀ {ks:List Nat} {l:List (Nat×V)},mf p t1 t2 ks=some l→∀ s,find l s=none→s∉ks
 | [],l,h,s,hf=>by simp
 | k::ks,l,h,s,hf=>by
  simp only [mf] at h
  split at h
  case h_2=>cases h
  split at h
  case h_2=>cases h
  rename_i l' hl
  cases h
  simp only [find] at hf
  cases hb:Nat.beq k s with
  | true=>rw [hb] at hf;cases hf
  | false=>
   rw [hb] at hf
   intro hm
   rcases List.mem_cons.1 hm with rfl|hm
   ·rw [Nat.beq_refl] at hb;cases hb
   ·exact rv hl s hf hm
theorem me {p:Bool} {H H1 H2:bj} :∀ {ks:List Nat} {l:List (Nat×Blk)},oV p H H1 H2 ks=some l→
  (∀ h b,find l h=some b→∃ b1 b2,H1 h=some b1∧H2 h=some b2∧BE p b1 b2=some b)∧(∀ h,find l h=none→h∈ks→H h=none)
 | [],l,h=>by simp only [oV,Option.some.injEq] at h;subst h;exact ⟨fun h b hf=>by simp [find] at hf,fun h _ hm=>by simp at hm⟩
 | k::ks,l,h=>by
  simp only [oV] at h
  split at h
  ·rename_i b1 b2 e1 e2
   split at h
   case h_2=>cases h
   rename_i b hb
   split at h
   case h_2=>cases h
   rename_i l' hl
   cases h
   obtain ⟨g1,g2⟩:=me hl
   refine ⟨fun h b' hf=>?_,fun h hf hm=>?_⟩
   ·simp only [find] at hf
    cases hbq:Nat.beq k h with
    | true=>
     obtain rfl:=Nat.eq_of_beq_eq_true hbq
     rw [hbq] at hf;simp only [cond_true,Option.some.injEq] at hf;subst hf
     exact ⟨b1,b2,e1,e2,hb⟩
    | false=>rw [hbq] at hf;exact g1 h b' hf
   ·simp only [find] at hf
    cases hbq:Nat.beq k h with
    | true=>rw [hbq] at hf;cases hf
    | false=>
     rw [hbq] at hf
     rcases List.mem_cons.1 hm with rfl|hm
     ·rw [Nat.beq_refl] at hbq;cases hbq
     ·exact g2 h hf hm
  ·split at h
   ·cases h
   ·rename_i hH
    obtain ⟨g1,g2⟩:=me h
    refine ⟨g1,fun h hf hm=>?_⟩
    rcases List.mem_cons.1 hm with rfl|hm
    ·exact hH
    ·exact g2 h hf hm
theorem ru {E:Env} {p:Bool} {b1 b2 b:Blk} (h:BE p b1 b2=some b) :
  (p=true→b=b1∨∃ cs cs',b1 = .cells cs∧b = .cells cs'∧∀ l,ah E cs l→ah E cs' l)∧(p=false→b=b2∨∃ cs cs',b2 = .cells cs∧b = .cells cs'∧∀ l,ah E cs l→ah E cs' l):=by
 unfold BE at h
 split at h
 ·rename_i cs ds
  split at h
  case h_2=>cases h
  rename_i l hl
  cases h
  exact ⟨fun e=> .inr ⟨cs,l,rfl,rfl,fun us hu=>cJ cs ds l us hl (fun _=>hu) (fun e'=>by rw [e] at e';cases e')⟩,fun e=> .inr ⟨ds,l,rfl,rfl,fun us hu=>cJ cs ds l us hl (fun e'=>by rw [e] at e';cases e') (fun _=>hu)⟩⟩
 ·split at h
  case isFalse=>cases h
  rename_i e
  subst e
  split at h
  case isFalse=>cases h
  rename_i e
  obtain ⟨rfl,rfl⟩:=e
  cases h
  exact ⟨fun e=> .inl (by subst e;rfl),fun e=> .inl (by subst e;rfl)⟩
 ·split at h
  case isFalse=>cases h
  rename_i e
  subst e
  split at h
  case isFalse=>cases h
  rename_i e
  subst e
  cases h
  exact ⟨fun e=> .inl (by subst e;rfl),fun e=> .inl (by subst e;rfl)⟩
 ·cases h
theorem SRel.weak {B:Base} {N:Nat} {T T':Nat→Option V} {H H':bj} {U U':Nat→Prop} {a:Act} {w:World} (hs:SRel B N T H U a w) (hU :∀ n,U n→U' n)
  (hH :∀ E:Env,E.H=H→∀ h k',H' h=some k'→∃ k,H h=some k∧(k'=k∨∃ cs cs',k = .cells cs∧k' = .cells cs'∧∀ l,ah E cs l→ah E cs' l))
  (hT :∀ E:Env,ju E T a→∀ s v,T' s=some v→af E v (a.tmps.getD s undef)):SRel B N T' H' U' a w:=by
 obtain ⟨⟨E,hE,rfl,hEH,⟨hG,hEU⟩,hET⟩,hsz,hd⟩:=hs
 obtain ⟨R,X⟩:=hE.weak H' (fun h k' hx=>by rw [hEH];exact hH E hEH h k' hx)
 exact ⟨⟨_,R,rfl,rfl,⟨B.clo _ _ hG X,fun n hn=>hU n (hEU n hn)⟩,fun s v hv=>cF X _ _ (hT E hET s v hv)⟩,hsz,hd⟩
theorem pJ {B:Base} {N:Nat} {p:Bool} {st:St} {d1 d2 d:Dl} (h:BF p st d1 d2=some d) {U U':Nat→Prop} (hU :∀ n,U n→U' n) {a:Act} {w:World} :
  (p=true→SRel B N (find (d1.tm++st.tm)) (aY st.H d1.hp) U a w→SRel B N (find (d.tm++st.tm)) (aY st.H d.hp) U' a w)∧
  (p=false→SRel B N (find (d2.tm++st.tm)) (aY st.H d2.hp) U a w→SRel B N (find (d.tm++st.tm)) (aY st.H d.hp) U' a w):=by
 unfold BF at h
 split at h
 case h_2=>cases h
 rename_i tm htm
 split at h
 case h_2=>cases h
 rename_i hp hhp
 cases h
 obtain ⟨g1,g2⟩:=me hhp
 have hTn :∀ s,find tm s=none→find d1.tm s=none∧find d2.tm s=none:=fun s hs=>by
  have hn:=rv htm s hs
  constructor
  ·cases hf:find d1.tm s with
   | none=>rfl
   | some v=>exact absurd (eQ _ _ _ (.inr (by rw [hf];simp))) hn
  ·cases hf:find d2.tm s with
   | none=>rfl
   | some v=>exact absurd (eQ _ _ _ (.inl (eQ _ _ _ (.inr (by rw [hf];simp))))) hn
 have hHn :∀ h,find hp h=none→(find d1.hp h=none∧find d2.hp h=none)∨st.H h=none:=fun h hs=>by
  by_cases hm:h∈lh d1.hp (lh d2.hp [])
  ·exact .inr (g2 h hs hm)
  ·left
   constructor
   ·cases hf:find d1.hp h with
    | none=>rfl
    | some v=>exact absurd (eQ _ _ _ (.inr (by rw [hf];simp))) hm
   ·cases hf:find d2.hp h with
    | none=>rfl
    | some v=>exact absurd (eQ _ _ _ (.inl (eQ _ _ _ (.inr (by rw [hf];simp))))) hm
 refine ⟨fun hp1 hs=>hs.weak hU (fun E hEH h k' hx=>?_) (fun E hE s v hv=>?_),fun hp1 hs=>hs.weak hU (fun E hEH h k' hx=>?_) (fun E hE s v hv=>?_)⟩
 ·simp only [aY] at hx ⊢
  cases hf:find hp h with
  | some b=>
   rw [hf] at hx
   simp only [Option.some.injEq] at hx
   subst hx
   obtain ⟨b1,b2,e1,e2,e3⟩:=g1 h b hf
   exact ⟨b1,by simpa [aY] using e1,(ru (E:=E) e3).1 hp1⟩
  | none=>
   rw [hf] at hx
   rcases hHn h hf with ⟨h1,h2⟩|h1
   ·rw [h1];exact ⟨k',hx,.inl rfl⟩
   ·simp only at hx;rw [h1] at hx;cases hx
 ·rw [cY] at hv
  cases hf:find tm s with
  | some x=>
   rw [hf] at hv
   simp only [Option.some.injEq] at hv
   subst hv
   exact ry (mg htm s x hf).2 (fun _=>du hE s) (fun e=>by rw [hp1] at e;cases e)
  | none=>
   rw [hf] at hv
   refine hE s v ?_
   rw [cY,(hTn s hf).1];exact hv
 ·simp only [aY] at hx ⊢
  cases hf:find hp h with
  | some b=>
   rw [hf] at hx
   simp only [Option.some.injEq] at hx
   subst hx
   obtain ⟨b1,b2,e1,e2,e3⟩:=g1 h b hf
   exact ⟨b2,by simpa [aY] using e2,(ru (E:=E) e3).2 hp1⟩
  | none=>
   rw [hf] at hx
   rcases hHn h hf with ⟨h1,h2⟩|h1
   ·rw [h2];exact ⟨k',hx,.inl rfl⟩
   ·simp only at hx;rw [h1] at hx;cases hx
 ·rw [cY] at hv
  cases hf:find tm s with
  | some x=>
   rw [hf] at hv
   simp only [Option.some.injEq] at hv
   subst hv
   exact ry (mg htm s x hf).2 (fun e=>by rw [hp1] at e;cases e) (fun _=>du hE s)
  | none=>
   rw [hf] at hv
   refine hE s v ?_
   rw [cY,(hTn s hf).2];exact hv
end
section
open Go.RowKit
variable {P:Program}
def at_ (B:Base) (N:Nat) (st:St) (d:Dl) (nx:Nat) (a:Act) (w:World):Prop:=SRel B N (find (d.tm++st.tm)) (aY st.H d.hp) (fun n=>n<nx) a w
def gB (B:Base) (N:Nat) (st:St) (a:Act) (w:World):Prop:=SRel B N (find st.tm) st.H (fun n=>n<st.nx) a w
theorem at_here {B:Base} {N:Nat} {st:St} {d:Dl} {nx:Nat} {a:Act} {w:World}:at_ B N st d nx a w↔gB B N (st.app d nx) a w:=by
 unfold at_ gB St.app St.H
 rw [dN]
theorem at_pre {B:Base} {N:Nat} {st:St} {d d':Dl} {nx nx':Nat} {a:Act} {w:World}:at_ B N (st.app d nx) d' nx' a w↔at_ B N st ⟨d'.tm++d.tm,d'.hp++d.hp⟩ nx' a w:=by
 unfold at_ St.app St.H
 simp only [dN,List.append_assoc]
def eK:Lf→Exit
 | .nrm=> .normal
 | .ext id=> .exit id
 | .ret=> .ret
theorem gH {Q:Lf→Dl→Nat→Prop} {d:Dl} :∀ {t:Tr},(t.pre d).sat Q↔t.sat fun e d' nx=>Q e ⟨d'.tm++d.tm,d'.hp++d.hp⟩ nx
 | .leaf _ _ _=>Iff.rfl
 | .br b t e=>by simp only [Tr.pre,Tr.sat,gH (t:=t),gH (t:=e)]
 | .need p t=>by simp only [Tr.pre,Tr.sat,gH (t:=t)]
 | .both t u=>by simp only [Tr.pre,Tr.sat,gH (t:=t),gH (t:=u)]
 | .when b t=>by simp only [Tr.pre,Tr.sat,gH (t:=t)]
 | .done=>Iff.rfl
 | .bad=>Iff.rfl
theorem Tr.sat_mono {Q Q':Lf→Dl→Nat→Prop} (h :∀ e d nx,Q e d nx→Q' e d nx) :∀ {t:Tr},t.sat Q→t.sat Q'
 | .leaf _ _ _,hs=>h _ _ _ hs
 | .br _ _ _,hs=>⟨fun hb=>sat_mono h (hs.1 hb),fun hb=>sat_mono h (hs.2 hb)⟩
 | .need _ _,hs=>⟨hs.1,sat_mono h hs.2⟩
 | .both _ _,hs=>⟨sat_mono h hs.1,sat_mono h hs.2⟩
 | .when _ _,hs=>fun hb=>sat_mono h (hs hb)
 | .done,hs=>hs
 | .bad,hs=>hs
def FO (Y:Dl→Nat→Prop) (Q:Lf→Dl→Nat→Prop):Lf→Dl→Nat→Prop
 | .nrm,d,nx=>Y d nx
 | e,d,nx=>Q e d nx
theorem gW {Q:Lf→Dl→Nat→Prop} {k:Dl→Nat→Tr} :∀ {t:Tr},(t.graft k).sat Q→t.sat (FO (fun d nx=>((k d nx).pre d).sat Q) Q)
 | .leaf .nrm _ _,h=>h
 | .leaf (.ext _) _ _,h=>h
 | .leaf .ret _ _,h=>h
 | .br _ _ _,h=>⟨fun hb=>gW (h.1 hb),fun hb=>gW (h.2 hb)⟩
 | .need _ _,h=>⟨h.1,gW h.2⟩
 | .both _ _,h=>⟨gW h.1,gW h.2⟩
 | .when _ _,h=>fun hb=>gW (h hb)
 | .done,h=>h
 | .bad,h=>h
theorem KB.ite_val (b:Bool) (x y:KB) :(KB.ite b x y).val=cond b x.val y.val:=by
 cases x <;> cases y <;> cases b <;> simp [KB.ite,KB.val]
theorem KB.or_val (x y:KB) :(KB.or x y).val =(x.val||y.val):=by
 cases x <;> cases y <;> simp [KB.or,KB.val]
theorem KB.and_val (b:Bool) (x:KB) :(KB.and b x).val =(b&&x.val):=by
 cases x <;> simp [KB.and,KB.val]
theorem fy {st:St} {Q:Lf→Dl→Nat→Prop} {Y:Dl→Nat→Prop} :∀ {t:Tr},t.mrg st=some none→t.cut.sat Q→t.sat (FO Y Q)
 | .leaf .nrm d nx,h,_=>by simp [Tr.mrg] at h
 | .leaf (.ext id) d nx,_,hs=>hs
 | .leaf .ret d nx,_,hs=>hs
 | .br b t e,h,hs=>by
  simp only [Tr.mrg] at h
  have h2:t.mrg st=some none∧e.mrg st=some none:=by
   split at h
   ·rename_i h1;exact ⟨h1,h⟩
   ·rename_i h1 _;exact ⟨h,h1⟩
   ·split at h <;> simp at h
   ·simp at h
  exact ⟨fun hb=>fy h2.1 (hs.1 hb),fun hb=>fy h2.2 (hs.2 hb)⟩
 | .need p t,h,hs=>⟨hs.1,fy (t:=t) h hs.2⟩
 | .both t u,h,hs=>by
  simp only [Tr.mrg] at h
  have h2:t.mrg st=some none∧u.mrg st=some none:=by
   split at h
   ·rename_i h1;exact ⟨h1,h⟩
   ·rename_i h1 _;exact ⟨h,h1⟩
   ·simp at h
  exact ⟨fy h2.1 hs.1,fy h2.2 hs.2⟩
 | .when b t,h,hs=>fun hb=>fy (t:=t) h (hs hb)
 | .done,_,hs=>hs
 | .bad,_,hs=>hs
theorem fA {B:Base} {N:Nat} {st:St} {Q:Lf→Dl→Nat→Prop} {Y:Act→World→Prop} :∀ {t:Tr} {d:Dl} {nx:Nat},t.mrg st=some (some (d,nx))→t.cut.sat Q→(t.isN.val=true→∀ a w,at_ B N st d nx a w→Y a w)→
  t.sat (FO (fun d nx=>∀ a w,at_ B N st d nx a w→Y a w) Q)
 | .leaf .nrm d' nx',d,nx,h,_,hy=>by
  simp only [Tr.mrg,Option.some.injEq,Prod.mk.injEq] at h
  obtain ⟨rfl,rfl⟩:=h
  exact hy rfl
 | .leaf (.ext id) _ _,d,nx,h,_,_=>by simp [Tr.mrg] at h
 | .leaf .ret _ _,d,nx,h,_,_=>by simp [Tr.mrg] at h
 | .br b t e,d,nx,h,hs,hy=>by
  simp only [Tr.isN,KB.ite_val] at hy
  simp only [Tr.mrg] at h
  split at h
  ·rename_i h1
   refine ⟨fun hb=>fy h1 (hs.1 hb),fun hb=>fA h (hs.2 hb) (fun hn=>hy (by rw [hb];exact hn))⟩
  ·rename_i h1 _
   refine ⟨fun hb=>fA h (hs.1 hb) (fun hn=>hy (by rw [hb];exact hn)),fun hb=>fy h1 (hs.2 hb)⟩
  ·rename_i d1 n1 d2 n2 e1 e2
   split at h
   case h_2=>cases h
   rename_i dm hm
   simp only [Option.some.injEq,Prod.mk.injEq] at h
   obtain ⟨rfl,rfl⟩:=h
   refine ⟨fun hb=>fA e1 (hs.1 hb) (fun hn a w ha=>?_),fun hb=>fA e2 (hs.2 hb) (fun hn a w ha=>?_)⟩
   ·refine hy (by rw [hb];exact hn) a w ?_
    exact (pJ hm (fun n h=>Nat.lt_of_lt_of_le h (Nat.le_max_left n1 n2))).1 hb ha
   ·refine hy (by rw [hb];exact hn) a w ?_
    exact (pJ hm (fun n h=>Nat.lt_of_lt_of_le h (Nat.le_max_right n1 n2))).2 hb ha
  ·simp at h
 | .need p t,d,nx,h,hs,hy=>⟨hs.1,fA (t:=t) h hs.2 hy⟩
 | .both t u,d,nx,h,hs,hy=>by
  simp only [Tr.isN,KB.or_val,Bool.or_eq_true] at hy
  simp only [Tr.mrg] at h
  split at h
  ·rename_i h1
   exact ⟨fy h1 hs.1,fA h hs.2 (fun hn=>hy (.inr hn))⟩
  ·rename_i h1 _
   exact ⟨fA h hs.1 (fun hn=>hy (.inl hn)),fy h1 hs.2⟩
  ·simp at h
 | .when b t,d,nx,h,hs,hy=>fun hb=>fA (t:=t) h (hs hb) (fun hn=>hy (by simp only [Tr.isN,KB.and_val,hb,hn,Bool.and_self]))
 | .done,_,_,h,_,_=>by simp [Tr.mrg] at h
 | .bad,_,_,_,hs,_=>hs.elim
theorem rX {Q:Lf→Dl→Nat→Prop} :∀ {t:Tr},t.clean=true→t.cut.sat Q
 | .leaf .nrm _ _,_=>trivial
 | .leaf (.ext _) _ _,h=>by simp [Tr.clean] at h
 | .leaf .ret _ _,h=>by simp [Tr.clean] at h
 | .br b t e,h=>by
  simp only [Tr.clean,Bool.and_eq_true] at h
  exact ⟨fun _=>rX h.1,fun _=>rX h.2⟩
 | .need _ _,h=>by simp [Tr.clean] at h
 | .both _ _,h=>by simp [Tr.clean] at h
 | .when _ _,h=>by simp [Tr.clean] at h
 | .done,h=>by simp [Tr.clean] at h
 | .bad,h=>by simp [Tr.clean] at h
theorem nZ {B:Base} {N:Nat} {st:St} {t:Tr} {k:Dl→Nat→Tr} {Q:Lf→Dl→Nat→Prop} {Y:Act→World→Prop} (h :(Ij st t k).sat Q)
  (hk :∀ d nx,((k d nx).pre d).sat Q→∀ a w,at_ B N st d nx a w→Y a w):t.sat (FO (fun d nx=>∀ a w,at_ B N st d nx a w→Y a w) Q):=by
 have byGraft :(t.graft k).sat Q→t.sat (FO (fun d nx=>∀ a w,at_ B N st d nx a w→Y a w) Q):=fun hg=>
  Tr.sat_mono (fun e d nx hq=>by
   cases e with
   | nrm=>exact hk d nx hq
   | ext id=>exact hq
   | ret=>exact hq) (gW hg)
 unfold Ij at h
 cases hb:Nat.ble t.nN 1 with
 | true=>rw [hb] at h;exact byGraft h
 | false=>
  rw [hb] at h
  simp only [cond_false] at h
  split at h
  ·rename_i d nx hm
   cases hc:t.clean with
   | true=>
    rw [hc] at h
    exact fA hm (rX hc) (fun _=>hk d nx h)
   | false=>
    rw [hc] at h
    simp only [cond_false,Tr.sat] at h
    exact fA hm h.1 (fun hn=>hk d nx (h.2 hn))
  ·exact byGraft h
theorem ee {Q:Lf→Dl→Nat→Prop} {id:Nat} :∀ {t:Tr},(t.catch id).sat Q→t.sat fun e d nx=>match e with | .ext id'=>if id'=id then Q .nrm d nx else Q (.ext id') d nx|e=>Q e d nx
 | .leaf .nrm d nx,h=>h
 | .leaf (.ext id') d nx,h=>by
  simp only [Tr.catch] at h
  simp only [Tr.sat]
  split
  ·rename_i e;rw [if_pos e] at h;exact h
  ·rename_i e;rw [if_neg e] at h;exact h
 | .leaf .ret d nx,h=>h
 | .br b t e,h=>⟨fun hb=>ee (h.1 hb),fun hb=>ee (h.2 hb)⟩
 | .need p t,h=>⟨h.1,ee h.2⟩
 | .both t u,h=>⟨ee h.1,ee h.2⟩
 | .when b t,h=>fun hb=>ee (h hb)
 | .done,h=>h
 | .bad,h=>h
def pV (P:Program) (N:Nat) (B:Base) (body:Code) (L:LoopSum):Prop:=
 ∀ (st:St) (Q:Lf→Dl→Nat→Prop) (CQ:Exit→Act→World→Prop),L.pre st→(L.T st).sat Q→(∀ e d nx a w,Q e d nx→at_ B N st d nx a w→CQ (eK e) a w)→∀ a w,gB B N st a w→(Code.loop body).wp P CQ a w
def Base.free (B:Base):Prop:=∀ E,B.G E
def LoopOK (P:Program) (N:Nat) (body:Code) (L:LoopSum):Prop:=∀ (B:Base),B.free→pV P N B body L
theorem LoopOK.at_free {N:Nat} {B:Base} {body:Code} {L:LoopSum} (h:LoopOK P N body L) (hB:B.free):pV P N B body L:=h B hB
theorem gC {B:Base} {N:Nat} {st:St} {a:Act} {w:World} (h:gB B N st a w):at_ B N st ⟨[],[]⟩ st.nx a w:=h
theorem gN {B:Base} {N:Nat} {b:Code} {f:St→Tr}
  (hb :∀ (st:St) (Q:Lf→Dl→Nat→Prop) (CQ:Exit→Act→World→Prop),(f st).sat Q→(∀ e d nx a w,Q e d nx→at_ B N st d nx a w→CQ (eK e) a w)→∀ a w,gB B N st a w→b.wp P CQ a w) :
  ∀ (n:Nat) (st:St) (Q:Lf→Dl→Nat→Prop) (CQ:Exit→Act→World→Prop),(qI f n st).sat Q→(∀ e d nx a w,Q e d nx→at_ B N st d nx a w→CQ (eK e) a w)→∀ a w,gB B N st a w→Code.rounds P b CQ n a w
 | 0,_,_,_,h,_,_,_,_=>h.elim
 | n+1,st,Q,CQ,h,hQ,a,w,hs=>by
  unfold qI at h
  have h2:=nZ (B:=B) (N:=N) (Y:=fun a w=>Code.rounds P b CQ n a w) h (fun d nx hk a w ha=>by
   rw [gH] at hk
   exact gN hb n (st.app d nx) _ CQ hk (fun e d' nx' a w hq hat=>hQ e _ _ a w hq (at_pre.1 hat)) a w (at_here.1 ha))
  rw [rounds_succ]
  refine hb st _ _ h2 (fun e d nx a w hq hat=>?_) a w hs
  cases e with
  | nrm=>exact hq a w hat
  | ext id=>exact hQ (.ext id) d nx a w hq hat
  | ret=>exact hQ .ret d nx a w hq hat
theorem dB {C:Cfg} (hC:CfgOK P C) (hP:P.follows .mixedOrders=true) {Λ:Nat→Option LoopSum} {B:Base} :∀ (c:Code),(∀ b∈bh Λ c,∀ L,Λ (rid b)=some L→pV P C.N B b L)→
  ∀ (st:St) (Q:Lf→Dl→Nat→Prop) (CQ:Exit→Act→World→Prop),(cU C Λ c st).sat Q→(∀ e d nx a w,Q e d nx→at_ B C.N st d nx a w→CQ (eK e) a w)→∀ a w,gB B C.N st a w→c.wp P CQ a w
 | .skip,_,st,Q,CQ,h,hQ,a,w,hs=>wp_skip (hQ .nrm _ _ a w h (gC hs))
 | .ret,_,st,Q,CQ,h,hQ,a,w,hs=>wp_ret (hQ .ret _ _ a w h (gC hs))
 | .exit id,_,st,Q,CQ,h,hQ,a,w,hs=>wp_exit (hQ (.ext id) _ _ a w h (gC hs))
 | .region id ops dr,_,st,Q,CQ,h,hQ,a,w,hs=>by
  simp only [cU] at h
  obtain ⟨df,rf,hrun,hc,hq⟩:=kn _ _ _ _ h
  have hfin :∀ a w,SRel B C.N (find (df.tm++st.tm)) (aY st.H df.hp) (fun n=>n<st.nx+ops.toList.length*C.K) a w→CQ .normal a w:=fun a w h'=>hQ .nrm _ _ a w hq h'
  cases dr with
  | false=>
   refine wp_region_list ?_
   have:=vb hC ops.toList 0 _ _ _ _ hrun (Q:=CQ) (B:=B) (fun a w h'=>hfin a w (by simpa using h')) a w (by simpa [gB,q7] using hs)
   simpa using this
  | true=>
   rcases hc with hc|hc
   ·cases hc
   ·have:=p0 hC hP hrun hc.1 hc.2 hfin hs id
    simpa using this
 | .seq x y,hL,st,Q,CQ,h,hQ,a,w,hs=>by
  simp only [cU] at h
  have hx:=dB hC hP (Λ:=Λ) (B:=B) x (fun b hb=>hL b (by simp [bh,hb]))
  have hy:=dB hC hP (Λ:=Λ) (B:=B) y (fun b hb=>hL b (by simp [bh,hb]))
  have h2:=nZ (B:=B) (N:=C.N) (Y:=fun a w=>y.wp P CQ a w) h (fun d nx hk a w ha=>by
   rw [gH] at hk
   exact hy (st.app d nx) _ CQ hk (fun e d' nx' a w hq hat=>hQ e _ _ a w hq (at_pre.1 hat)) a w (at_here.1 ha))
  refine wp_seq (hx st _ _ h2 (fun e d nx a w hq hat=>?_) a w hs)
  cases e with
  | nrm=>exact hq a w hat
  | ext id=>exact hQ (.ext id) d nx a w hq hat
  | ret=>exact hQ .ret d nx a w hq hat
 | .cond c x y,hL,st,Q,CQ,h,hQ,a,w,hs=>by
  simp only [cU] at h
  have hx:=dB hC hP (Λ:=Λ) (B:=B) x (fun b hb=>hL b (by simp [bh,hb]))
  have hy:=dB hC hP (Λ:=Λ) (B:=B) y (fun b hb=>hL b (by simp [bh,hb]))
  have hv :∃ E:Env,ju E (find st.tm) a:=by
   obtain ⟨⟨E,_,_,_,_,hT⟩,_⟩:=hs
   exact ⟨E,hT⟩
  obtain ⟨E,hT⟩:=hv
  have hc:=kc hT c
  split at h
  ·rename_i e;rw [e] at hc;simp only [af] at hc
   exact wp_cond_true hc (hx st Q CQ h hQ a w hs)
  ·rename_i e;rw [e] at hc;simp only [af] at hc
   exact wp_cond_false hc (hy st Q CQ h hQ a w hs)
  ·rename_i b e;rw [e] at hc;simp only [af] at hc
   cases b with
   | true=>exact wp_cond_true hc (hx st Q CQ h hQ a w hs)
   | false=>exact wp_cond_false hc (hy st Q CQ h hQ a w hs)
  ·rename_i q e;rw [e] at hc;simp only [af] at hc
   obtain ⟨b,hc,hq⟩:=hc
   exact wp_cond_split hc (fun hb=>hx st Q CQ (h.1 (hq hb)) hQ a w hs) (fun _=>hy st Q CQ h.2 hQ a w hs)
  ·rename_i q e;rw [e] at hc;simp only [af] at hc
   obtain ⟨b,hc,hq⟩:=hc
   exact wp_cond_split hc (fun _=>hx st Q CQ h.2 hQ a w hs) (fun hb=>hy st Q CQ (h.1 (hq hb)) hQ a w hs)
  ·exact h.elim
 | .block id b,hL,st,Q,CQ,h,hQ,a,w,hs=>by
  simp only [cU] at h
  refine wp_block (dB hC hP b (fun b' hb=>hL b' (by simpa [bh] using hb)) st _ _ (ee h) (fun e d nx a w hq hat=>?_) a w hs)
  cases e with
  | nrm=>exact hQ .nrm d nx a w hq hat
  | ret=>exact hQ .ret d nx a w hq hat
  | ext id'=>
   simp only [eK,Exit.inBlock]
   simp only at hq
   split
   ·rename_i e;rw [if_pos e] at hq;exact hQ .nrm d nx a w hq hat
   ·rename_i e;rw [if_neg e] at hq;exact hQ (.ext id') d nx a w hq hat
 | .loop b,hL,st,Q,CQ,h,hQ,a,w,hs=>by
  simp only [cU] at h
  split at h
  ·rename_i L hl
   exact hL b (by simp [bh]) L hl st Q CQ h.1 h.2 hQ a w hs
  ·rename_i hl
   have hb:=dB hC hP (Λ:=Λ) (B:=B) b (fun b' hb'=>hL b' (by simp [bh,hl,hb']))
   exact wp_loop_rounds rS (gN hb rS st Q CQ h hQ a w hs)
 | .rangeFunc _ _ _ _,_,_,_,_,h,_,_,_,_=>h.elim
 | .scope _,_,_,_,_,h,_,_,_,_=>h.elim
 | .label _,_,_,_,_,h,_,_,_,_=>h.elim
 | .goto _,_,_,_,_,h,_,_,_,_=>h.elim
 | .refuse _,_,_,_,_,h,_,_,_,_=>h.elim
theorem bQ {C:Cfg} (hC:CfgOK P C) (hP:P.follows .mixedOrders=true) {Λ:Nat→Option LoopSum} {B:Base} :∀ (c:Code),(∀ b∈bh Λ c,∀ L,Λ (rid b)=some L→pV P C.N B b L)→
  ∀ (st:St) (Q:Lf→Dl→Nat→Prop) (CQ:Exit→Act→World→Prop),(bL C Λ c st).sat Q→(∀ e d nx a w,Q e d nx→at_ B C.N st d nx a w→CQ (eK e) a w)→∀ a w,gB B C.N st a w→c.wp P CQ a w
 | .skip,_,st,Q,CQ,h,hQ,a,w,hs=>wp_skip (hQ .nrm _ _ a w h (gC hs))
 | .ret,_,st,Q,CQ,h,hQ,a,w,hs=>wp_ret (hQ .ret _ _ a w h (gC hs))
 | .exit id,_,st,Q,CQ,h,hQ,a,w,hs=>wp_exit (hQ (.ext id) _ _ a w h (gC hs))
 | .region id ops dr,_,st,Q,CQ,h,hQ,a,w,hs=>by
  simp only [bL] at h
  obtain ⟨df,rf,hrun,hc,hq⟩:=kn _ _ _ _ h
  have hfin :∀ a w,SRel B C.N (find (df.tm++st.tm)) (aY st.H df.hp) (fun n=>n<st.nx+ops.toList.length*C.K) a w→CQ .normal a w:=fun a w h'=>hQ .nrm _ _ a w hq h'
  cases dr with
  | false=>
   refine wp_region_list ?_
   have:=vb hC ops.toList 0 _ _ _ _ hrun (Q:=CQ) (B:=B) (fun a w h'=>hfin a w (by simpa using h')) a w (by simpa [gB,q7] using hs)
   simpa using this
  | true=>
   rcases hc with hc|hc
   ·cases hc
   ·have:=p0 hC hP hrun hc.1 hc.2 hfin hs id
    simpa using this
 | .seq x y,hL,st,Q,CQ,h,hQ,a,w,hs=>by
  simp only [bL] at h
  have hx:=bQ hC hP (Λ:=Λ) (B:=B) x (fun b hb=>hL b (by simp [bh,hb]))
  have hy:=bQ hC hP (Λ:=Λ) (B:=B) y (fun b hb=>hL b (by simp [bh,hb]))
  have h2:=nZ (B:=B) (N:=C.N) (Y:=fun a w=>y.wp P CQ a w) h (fun d nx hk a w ha=>by
   rw [gH] at hk
   exact hy (st.app d nx) _ CQ hk (fun e d' nx' a w hq hat=>hQ e _ _ a w hq (at_pre.1 hat)) a w (at_here.1 ha))
  refine wp_seq (hx st _ _ h2 (fun e d nx a w hq hat=>?_) a w hs)
  cases e with
  | nrm=>exact hq a w hat
  | ext id=>exact hQ (.ext id) d nx a w hq hat
  | ret=>exact hQ .ret d nx a w hq hat
 | .cond c x y,hL,st,Q,CQ,h,hQ,a,w,hs=>by
  simp only [bL] at h
  have hx:=bQ hC hP (Λ:=Λ) (B:=B) x (fun b hb=>hL b (by simp [bh,hb]))
  have hy:=bQ hC hP (Λ:=Λ) (B:=B) y (fun b hb=>hL b (by simp [bh,hb]))
  have hv :∃ E:Env,ju E (find st.tm) a:=by
   obtain ⟨⟨E,_,_,_,_,hT⟩,_⟩:=hs
   exact ⟨E,hT⟩
  obtain ⟨E,hT⟩:=hv
  have hc:=kc hT c
  split at h
  ·rename_i e;rw [e] at hc;simp only [af] at hc
   exact wp_cond_true hc (hx st Q CQ h hQ a w hs)
  ·rename_i e;rw [e] at hc;simp only [af] at hc
   exact wp_cond_false hc (hy st Q CQ h hQ a w hs)
  ·rename_i b e;rw [e] at hc;simp only [af] at hc
   exact wp_cond_split hc (fun hb=>hx st Q CQ (h.1 hb) hQ a w hs) (fun hb=>hy st Q CQ (h.2 hb) hQ a w hs)
  ·rename_i q e;rw [e] at hc;simp only [af] at hc
   obtain ⟨b,hc,hq⟩:=hc
   exact wp_cond_split hc (fun hb=>hx st Q CQ (h.1 (hq hb)) hQ a w hs) (fun _=>hy st Q CQ h.2 hQ a w hs)
  ·rename_i q e;rw [e] at hc;simp only [af] at hc
   obtain ⟨b,hc,hq⟩:=hc
   exact wp_cond_split hc (fun _=>hx st Q CQ h.2 hQ a w hs) (fun hb=>hy st Q CQ (h.1 (hq hb)) hQ a w hs)
  ·exact h.elim
 | .block id b,hL,st,Q,CQ,h,hQ,a,w,hs=>by
  simp only [bL] at h
  refine wp_block (bQ hC hP b (fun b' hb=>hL b' (by simpa [bh] using hb)) st _ _ (ee h) (fun e d nx a w hq hat=>?_) a w hs)
  cases e with
  | nrm=>exact hQ .nrm d nx a w hq hat
  | ret=>exact hQ .ret d nx a w hq hat
  | ext id'=>
   simp only [eK,Exit.inBlock]
   simp only at hq
   split
   ·rename_i e;rw [if_pos e] at hq;exact hQ .nrm d nx a w hq hat
   ·rename_i e;rw [if_neg e] at hq;exact hQ (.ext id') d nx a w hq hat
 | .loop b,hL,st,Q,CQ,h,hQ,a,w,hs=>by
  simp only [bL] at h
  split at h
  ·rename_i L hl
   exact hL b (by simp [bh]) L hl st Q CQ h.1 h.2 hQ a w hs
  ·rename_i hl
   have hb:=dB hC hP (Λ:=Λ) (B:=B) b (fun b' hb'=>hL b' (by simp [bh,hl,hb']))
   exact wp_loop_rounds rS (gN hb rS st Q CQ h hQ a w hs)
 | .rangeFunc _ _ _ _,_,_,_,_,h,_,_,_,_=>h.elim
 | .scope _,_,_,_,_,h,_,_,_,_=>h.elim
 | .label _,_,_,_,_,h,_,_,_,_=>h.elim
 | .goto _,_,_,_,_,h,_,_,_,_=>h.elim
 | .refuse _,_,_,_,_,h,_,_,_,_=>h.elim
end
section
open Go.RowKit
variable {P:Program}
structure RowD where
 t:Ty
 xs:List (Den t)
inductive RT where
 | ret (v:V) (rows:List RowD)
 | br (b:Bool) (t e:RT)
 | need (p:Prop) (t:RT)
 | both (t u:RT)
 | when (b:Bool) (t:RT)
 | done
 | bad
def RT.sat (Q:V→List RowD→Prop):RT→Prop
 | .ret v rows=>Q v rows
 | .br b t e=>(b=true→t.sat Q)∧(b=false→e.sat Q)
 | .need p t=>p∧t.sat Q
 | .both t u=>t.sat Q∧u.sat Q
 | .when b t=>b=true→t.sat Q
 | .done=>True
 | .bad=>False
mutual
def iz (H:bj):V→List (Nat×RowD)→Option (V×List (Nat×RowD))
 | .osl h ver,acc=>match H h with
  | some (.row ver' rw t xs)=>if ver=ver' then (bif rw then (bif memN (acc.map (·.1)) h then none else some (.osl acc.length acc.length,acc++[(h,⟨t,xs⟩)])) else some (.fsl t xs,acc)) else none
  | _=>none
 | .agg cs,acc=>match yP H cs acc with|some (l,acc')=>some (.agg l,acc')|none=>none
 | .tup cs,acc=>match yP H cs acc with|some (l,acc')=>some (.tup l,acc')|none=>none
 | .ptr _ _,_ | .rp _ _ _ _,_ | .fp _ _ _ _,_ | .fn _ _,_ | .hint _ _,_ | .gsl _ _ _ _ _,_ | .gp _ _ _,_ | .mpv _,_ | .av _ _,_=>none
 | v,acc=>some (v,acc)
def yP (H:bj):List V→List (Nat×RowD)→Option (List V×List (Nat×RowD))
 | [],acc=>some ([],acc)
 | v::vs,acc=>match iz H v acc with
  | some (v',acc')=>match yP H vs acc' with
   | some (l,acc'')=>some (v'::l,acc'')
   | none=>none
  | none=>none
end
def KJ (tb:Tbl) (tm:List (Nat×V)) (H:bj):ResultVar→Option V
 | .tmp t=>some (fD tm t)
 | .cell a t=>match tb t with
  | some td=>match sa td H (fD tm a) with
   | .val _ v _=>some v
   | _=>none
  | none=>none
def BZ (tb:Tbl) (tm:List (Nat×V)) (H:bj):List ResultVar→Option (List V)
 | []=>some []
 | r::rs=>match KJ tb tm H r with
  | some v=>match BZ tb tm H rs with
   | some l=>some (v::l)
   | none=>none
  | none=>none
def yz (tb:Tbl) (tm:List (Nat×V)) (H:bj) (rs:List ResultVar):Option V:=
 match BZ tb tm H rs with
 | some [v]=>some v
 | some l=>some (.tup l)
 | none=>none
def AO:Nat→Ty→List (Option Ty)
 | 0,_=> []
 | f+1,.prod a b=>AO f a++AO f b
 | f+1,.nm n=>AO f n.flds
 | _+1,.slice t=> [some t]
 | _+1,.unit=> []
 | _+1,_=> [none]
def sx:List (Option Ty)→List V→Nat→List V×List (Nat×Blk)
 | o::ts,v::vs,n=>match o,v with
  | some t,.nilsl=>(.osl n n ::(sx ts vs (n+1)).1,(sx ts vs (n+1)).2++[(n,.row n true t [])])
  | _,v=>(v ::(sx ts vs n).1,(sx ts vs n).2)
 | _,vs,_=>(vs,[])
def MF (o:Option Ty) (v:V) (n:Nat):V×List (Nat×Blk):=match o with
 | some ty=>match v with
  | .agg cs=>(.agg (sx (AO fP ty) cs n).1,(sx (AO fP ty) cs n).2)
  | .nilsl=>match ty with
   | .slice t=>(.osl n n,[(n,.row n true t [])])
   | _=>(.nilsl,[])
  | v=>(v,[])
 | none=>(v,[])
def TT (tb:Tbl) (t:TypeId):Option Ty:=match tb t with
 | some td=>td.ty
 | none=>none
def yp (tb:Tbl):List TypeId→List V→Nat→List V×List (Nat×Blk)
 | t::ts,v::vs,n=>let r:=MF (TT tb t) v n;let q:=yp tb ts vs (n+r.2.length);(r.1::q.1,q.2++r.2)
 | _,vs,_=>(vs,[])
def BD (tb:Tbl) (ts:List TypeId) (v:V) (n:Nat):V×List (Nat×Blk):=match ts with
 | [t]=>MF (TT tb t) v n
 | ts=>match v with
  | .tup vs=>(.tup (yp tb ts vs n).1,(yp tb ts vs n).2)
  | v=>(v,[])
def yJ (tb:Tbl) (rs:List ResultVar) (ts:List TypeId) (st:St):Tr→RT
 | .leaf (.ext _) _ _=> .bad
 | .leaf _ d nx=>match yz tb (d.tm++st.tm) (aY st.H d.hp) rs with
  | some v=>match iz (aY (aY st.H d.hp) (BD tb ts v nx).2) (BD tb ts v nx).1 [] with
   | some (v',acc)=> .ret v' (acc.map (·.2))
   | none=> .bad
  | none=> .bad
 | .br b t e=> .br b (yJ tb rs ts st t) (yJ tb rs ts st e)
 | .need p t=> .need p (yJ tb rs ts st t)
 | .both t u=> .both (yJ tb rs ts st t) (yJ tb rs ts st u)
 | .when b t=> .when b (yJ tb rs ts st t)
 | .done=> .done
 | .bad=> .bad
def fU {α:Type}:Nat→List α→List (Nat×α)
 | _,[]=> []
 | n,x::xs=>(n,x)::fU (n+1) xs
def mD (args:List V):St:=⟨fU 0 args,[],fun _=>none,0⟩
def evFn (C:Cfg) (Λ:Nat→Option LoopSum) (fn:Func) (args:List V):RT:=
 match fn.body with
 | some c=>yJ C.tb fn.results.toList fn.resultTypes.toList (mD args) (bL C Λ c (mD args))
 | none=> .bad
def gq :(t:Ty)→Den t→V
 | .int k,n=> .int k n
 | .bool,b=> .bool b
 | .str,s=> .str s
 | .slice t,xs=> .fsl t xs
 | .unit,_=> .agg []
 | .prod a b,x=> .agg (flat fP (.prod a b) x)
 | .nm n,x=> .agg (flat fP (.nm n) x)
def bF :(ps:Ty)→Den ps→List V
 | .prod a b,x=>gq a x.1::bF b x.2
 | _,_=> []
def lg:V→Bool
 | .agg _=>true
 | _=>false
def eb (H:bj) :(ps:Ty)→List V→Option (Den ps)
 | .prod a b,v::vs=>bif mZ a==lg v then (match cellsOf v with
  | some cs=>match uv H a cs with
   | some x=>match eb H b vs with
    | some y=>some (x,y)
    | none=>none
   | none=>none
  | none=>none) else none
 | .unit,[]=>some ()
 | _,_=>none
structure PRes where
 needs:List Prop
 v:V
 rows:List RowD
def Ty.flat0:Ty→Bool
 | .int _ | .bool | .str | .unit=>true
 | .prod a b=>Ty.flat0 a&&Ty.flat0 b
 | _=>false
def Ty.flat1:Ty→Bool
 | .int _ | .bool | .str | .unit=>true
 | .prod a b=>Ty.flat1 a&&Ty.flat1 b
 | .slice _=>false
 | .nm n=>n.flds.flat0
def Ty.flatB:Ty→Bool
 | .int _ | .bool | .str | .unit=>true
 | .prod a b=>a.flatB&&b.flatB
 | .slice _=>false
 | .nm n=>n.flds.flat1
theorem Rd.flat0 {S S':Nat→Prop} {w w':World} {t:Ty} {x:Den t} {cs:List Value} (h:Rd S w t x cs) (hf:t.flat0=true):Rd S' w' t x cs:=by
 induction h with
 | int h=>exact .int h
 | bool=>exact .bool
 | str h=>exact .str h
 | unit=>exact .unit
 | prod _ _ ih1 ih2=>
  simp only [Ty.flat0,Bool.and_eq_true] at hf
  exact .prod (ih1 hf.1) (ih2 hf.2)
 | nm _ _=>simp [Ty.flat0] at hf
 | nil=>simp [Ty.flat0] at hf
 | slice=>simp [Ty.flat0] at hf
theorem Rd.flat1 {S S':Nat→Prop} {w w':World} {t:Ty} {x:Den t} {cs:List Value} (h:Rd S w t x cs) (hf:t.flat1=true):Rd S' w' t x cs:=by
 induction h with
 | int h=>exact .int h
 | bool=>exact .bool
 | str h=>exact .str h
 | unit=>exact .unit
 | prod _ _ ih1 ih2=>
  simp only [Ty.flat1,Bool.and_eq_true] at hf
  exact .prod (ih1 hf.1) (ih2 hf.2)
 | nm h _=>exact .nm (h.flat0 hf)
 | nil=>simp [Ty.flat1] at hf
 | slice=>simp [Ty.flat1] at hf
theorem Rd.flatB {S S':Nat→Prop} {w w':World} {t:Ty} {x:Den t} {cs:List Value} (h:Rd S w t x cs) (hf:t.flatB=true):Rd S' w' t x cs:=by
 induction h with
 | int h=>exact .int h
 | bool=>exact .bool
 | str h=>exact .str h
 | unit=>exact .unit
 | prod _ _ ih1 ih2=>
  simp only [Ty.flatB,Bool.and_eq_true] at hf
  exact .prod (ih1 hf.1) (ih2 hf.2)
 | nm h _=>exact .nm (h.flat1 hf)
 | nil=>simp [Ty.flatB] at hf
 | slice=>simp [Ty.flatB] at hf
mutual
def V.noF:V→Bool
 | .fsl _ _ | .fp _ _ _ _=>false
 | .fn _ cs=>BM cs
 | .agg cs=>BM cs
 | .tup cs=>BM cs
 | _=>true
def BM:List V→Bool
 | []=>true
 | v::vs=>v.noF&&BM vs
end
mutual
def V.shift (m:Nat):V→V
 | .osl h ver=> .osl (m+h) (m+ver)
 | .agg cs=> .agg (lp m cs)
 | .tup cs=> .tup (lp m cs)
 | v=>v
def lp (m:Nat):List V→List V
 | []=> []
 | v::vs=>v.shift m::lp m vs
end
def kj (m:Nat):Nat→List RowD→List (Nat×Blk)
 | _,[]=> []
 | i,r::rs=>(m+i,.row (m+i) true r.t r.xs)::kj m (i+1) rs
def PRes.flat (r:PRes):Bool:=r.v.noF&&r.rows.all fun q=>q.t.flatB
def au (K:Nat) (ps:Ty) (spec:Den ps→PRes):Ctr:=fun args H m=>
 let L:=hss args
 match eb (roL H L) ps args with
 | some x=>
  let r:=spec x
  bif Nat.ble r.rows.length K then
   some (r.needs,r.v.shift m,kj m 0 r.rows ++(bif r.flat then [] else fJ H L))
  else none
 | none=>none
end
section
open Go.RowKit
variable {P:Program}
def wfD (t:Ty) (x:Den t):Prop:=∃ (S:Nat→Prop) (w:World) (cs:List Value),Rd S w t x cs
theorem Aj {v:Value} (h:v.oneCell'=true):v.cells=#[v]:=by cases v <;> first|rfl |(simp [Value.oneCell'] at h)
theorem gG {B:Base} {E:Env} (hE:HRel B E) {Ec:Env} (hS:Ec.S=E.S) (hw:Ec.w=E.w) :∀ {ps:Ty} {args:List V} {av:List Value} {x:Den ps},ah E args av→eb E.H ps args=some x→ah Ec (bF ps x) av∧∃ cs,Rd E.S E.w ps x cs
 | .unit,[],av,x,hv,_=>by
  cases av with
  | nil=>exact ⟨trivial,[],.unit⟩
  | cons=>simp [ah] at hv
 | .prod a b,v::vs,av,x,hv,h=>by
  simp only [eb] at h
  cases hg:mZ a==lg v with
  | false=>rw [hg] at h;cases h
  | true=>
   rw [hg] at h
   simp only [cond_true] at h
   split at h
   case h_2=>cases h
   rename_i cs hcs
   split at h
   case h_2=>cases h
   rename_i x1 hx1
   split at h
   case h_2=>cases h
   rename_i y1 hy1
   cases h
   cases av with
   | nil=>simp [ah] at hv
   | cons u us=>
    simp only [ah] at hv
    obtain ⟨ih,cs2,hrd2⟩:=gG hE hS hw hv.2 hy1
    have hrd:=db hE hx1 (cX hv.1 hcs)
    have hrdc:Rd Ec.S Ec.w a x1 u.cells.toList:=by rw [hS,hw];exact hrd
    refine ⟨?_,?_⟩
    ·simp only [bF,ah]
     refine ⟨?_,ih⟩
     simp only [beq_iff_eq] at hg
     have one:mZ a=false→u.cells.toList=[u]:=fun e=>by
      rw [e] at hg
      have h1:u.oneCell'=true:=by
       cases v <;> simp only [lg,Bool.false_eq_true] at hg <;> simp only [cellsOf,reduceCtorEq] at hcs <;> exact kM rfl hv.1
      rw [Aj h1]
     have agg:mZ a=true→∃ l,u = .agg l:=fun e=>by
      rw [e] at hg
      cases v <;> simp only [lg,Bool.true_eq_false] at hg
      have:=hv.1
      simp only [af] at this
      obtain ⟨l,hl,_⟩:=this
      exact ⟨l,hl⟩
     cases a with
     | int k=>rw [one rfl] at hrdc;cases hrdc with|int hk=>simp only [gq];exact jb hk
     | bool=>rw [one rfl] at hrdc;cases hrdc with|bool=>simp only [gq,af]
     | str=>rw [one rfl] at hrdc;cases hrdc with|str hk=>simp only [gq];exact LC hk
     | slice t=>rw [one rfl] at hrdc;simp only [gq,af];exact hrdc
     | unit=>
      obtain ⟨l,rfl⟩:=agg rfl
      simp only [gq,af]
      refine ⟨l,rfl,?_⟩
      have h0:l.toList=[]:=List.eq_nil_of_length_eq_zero hrdc.len
      rw [h0];simp [ah]
     | prod c d=>
      obtain ⟨l,rfl⟩:=agg rfl
      simp only [gq,af]
      exact ⟨l,rfl,hrdc.flat fP⟩
     | nm n=>
      obtain ⟨l,rfl⟩:=agg rfl
      simp only [gq,af]
      exact ⟨l,rfl,hrdc.flat fP⟩
    ·exact ⟨_,.prod hrd hrd2⟩
 | .int _,_,_,_,_,h=>by simp [eb] at h
 | .bool,_,_,_,_,h=>by simp [eb] at h
 | .str,_,_,_,_,h=>by simp [eb] at h
 | .slice _,_,_,_,_,h=>by simp [eb] at h
 | .nm _,_,_,_,_,h=>by simp [eb] at h
 | .unit,_::_,_,_,_,h=>by simp [eb] at h
 | .prod _ _,[],_,_,_,h=>by simp [eb] at h
end
section
open Go.RowKit
variable {P:Program}
abbrev Acc:=List (Nat×RowD)
structure AccOK (E:Env) (acc:Acc):Prop where
 nodup :(acc.map (·.1)).Nodup
 row :∀ h r,(h,r)∈acc→∃ ver,E.H h=some (.row ver true r.t r.xs)
def Ren (E E2:Env) (m:Nat) (acc:Acc):Prop:=∀ i h r,acc[i]?=some (h,r)→E2.U (m+i)∧E2.ρ (m+i)=E.ρ h∧E2.H (m+i)=some (.row (m+i) true r.t r.xs)
theorem Ren.front {E E2:Env} {m:Nat} {acc suf:Acc} (h:Ren E E2 m (acc++suf)):Ren E E2 m acc:=fun i hh r hi=>h i hh r (by
 have:i<acc.length:=by
  rcases Nat.lt_or_ge i acc.length with h1|h1
  ·exact h1
  ·rw [List.getElem?_eq_none h1] at hi;cases hi
 rw [List.getElem?_append_left this];exact hi)
structure CanOK (E:Env) (m:Nat) (acc acc':Acc) (v:V) (u:Value):Prop where
 pre :∃ suf,acc'=acc++suf
 acc:AccOK E acc→AccOK E acc'
 rel :∀ E2:Env,E2.w=E.w→((∀ b,E.S b→E2.S b)∨v.noF=true)→Ren E E2 m acc'→af E2 (v.shift m) u
structure CansOK (E:Env) (m:Nat) (acc acc':Acc) (v:List V) (u:List Value):Prop where
 pre :∃ suf,acc'=acc++suf
 acc:AccOK E acc→AccOK E acc'
 rel :∀ E2:Env,E2.w=E.w→((∀ b,E.S b→E2.S b)∨BM v=true)→Ren E E2 m acc'→ah E2 (lp m v) u
theorem dY {E:Env} {m:Nat} {acc:Acc} {v:V} {u:Value} (h :∀ E2:Env,E2.w=E.w→((∀ b,E.S b→E2.S b)∨v.noF=true)→af E2 (v.shift m) u):CanOK E m acc acc v u:=
 ⟨⟨[],by simp⟩,fun h=>h,fun E2 hw hs _=>h E2 hw hs⟩
mutual
theorem pY {B:Base} {E:Env} (hE:HRel B E) (m:Nat) :∀ (v0:V) (acc:Acc) (v:V) (acc':Acc) (u:Value),iz E.H v0 acc=some (v,acc')→af E v0 u→CanOK E m acc acc' v u
 | .osl h ver,acc,v,acc',u,hc,hv=>by
  simp only [iz] at hc
  split at hc
  case h_2=>cases hc
  rename_i ver' rw t xs hH
  split at hc
  case isFalse=>cases hc
  rename_i e
  subst e
  have hrow:=mo hE hH hv
  cases rw with
  | true=>
   simp only [cond_true] at hc
   cases hm:memN (acc.map (·.1)) h with
   | true=>rw [hm] at hc;cases hc
   | false=>
    rw [hm] at hc
    simp only [cond_false,Option.some.injEq,Prod.mk.injEq] at hc
    obtain ⟨rfl,rfl⟩:=hc
    have hnm:h∉acc.map (·.1):=fun hh=>by rw [memN_iff.2 hh] at hm;cases hm
    refine ⟨⟨_,rfl⟩,fun ha=>⟨?_,fun h2 r hr=>?_⟩,fun E2 hw _ hren=>?_⟩
    ·rw [List.map_append,List.nodup_append]
     refine ⟨ha.nodup,by simp,fun a ha' b hb=>?_⟩
     simp only [List.map_cons,List.map_nil,List.mem_singleton] at hb
     subst hb
     exact fun e=>hnm (e▸ha')
    ·rcases List.mem_append.1 hr with hr|hr
     ·exact ha.row _ _ hr
     ·simp only [List.mem_singleton,Prod.mk.injEq] at hr
      obtain ⟨rfl,rfl⟩:=hr
      exact ⟨_,hH⟩
    ·obtain ⟨h1,h2,h3⟩:=hren acc.length h ⟨t,xs⟩ (by simp)
     simp only [V.shift,af]
     refine ⟨h1,h1,?_,fun rw' t' xs' hx=>?_⟩
     ·rcases hrow with ⟨_,_,a,ha⟩ |⟨b,cap,c,T,fr,_,hh,_⟩
      ·exact ⟨_,_,_,ha⟩
      ·exact ⟨_,_,_,hh⟩
     ·rw [h3] at hx
      cases hx
      rw [h2,hw]
      rcases hrow with ⟨k1,_,k3⟩ |⟨b,cap,c,T,fr,k1,k2,k3,k4,k5,_⟩
      ·exact .inl ⟨k1,k3⟩
      ·exact .inr ⟨b,cap,c,T,fr,k1,k2,k3,k4,k5⟩
  | false=>
   simp only [cond_false,Option.some.injEq,Prod.mk.injEq] at hc
   obtain ⟨rfl,rfl⟩:=hc
   refine dY fun E2 hw hs=>?_
   rcases hs with hs|hs
   case inr=>simp [V.noF] at hs
   simp only [V.shift,af]
   rcases hrow with ⟨_,rfl,a,rfl⟩ |⟨b,cap,c,T,fr,_,rfl,k3,k4,k5,_,_,k8,k9,k10,k11⟩
   ·exact .nil
   ·exact .slice (hs _ (k8 rfl)) (by rw [hw];exact k3) (by simpa using k9) k5 k10 (fun i hi=>by
     have:=(k11 i hi).ext hs (w':=E2.w) (fun b _=>by rw [hw])
     simpa using this)
 | .agg cs,acc,v,acc',u,hc,hv=>by
  simp only [iz] at hc
  split at hc
  case h_2=>cases hc
  rename_i l acc2 hcs
  simp only [Option.some.injEq,Prod.mk.injEq] at hc
  obtain ⟨rfl,rfl⟩:=hc
  simp only [af] at hv
  obtain ⟨l',rfl,hv⟩:=hv
  obtain ⟨h1,h2,h3⟩:=m4 hE m cs acc l acc2 _ hcs hv
  refine ⟨h1,h2,fun E2 hw hs hren=>?_⟩
  simp only [V.shift,af]
  exact ⟨l',rfl,h3 E2 hw hs hren⟩
 | .tup cs,acc,v,acc',u,hc,hv=>by
  simp only [iz] at hc
  split at hc
  case h_2=>cases hc
  rename_i l acc2 hcs
  simp only [Option.some.injEq,Prod.mk.injEq] at hc
  obtain ⟨rfl,rfl⟩:=hc
  simp only [af] at hv
  obtain ⟨l',rfl,hv⟩:=hv
  obtain ⟨h1,h2,h3⟩:=m4 hE m cs acc l acc2 _ hcs hv
  refine ⟨h1,h2,fun E2 hw hs hren=>?_⟩
  simp only [V.shift,af]
  exact ⟨l',rfl,h3 E2 hw hs hren⟩
 | .ptr _ _,_,_,_,_,hc,_=>by simp [iz] at hc
 | .rp _ _ _ _,_,_,_,_,hc,_=>by simp [iz] at hc
 | .fp _ _ _ _,_,_,_,_,hc,_=>by simp [iz] at hc
 | .fn _ _,_,_,_,_,hc,_=>by simp [iz] at hc
 | .hint _ _,_,_,_,_,hc,_=>by simp [iz] at hc
 | .any,acc,v,acc',u,hc,hv=>by
  simp only [iz,Option.some.injEq,Prod.mk.injEq] at hc
  obtain ⟨rfl,rfl⟩:=hc
  exact dY fun E2 hw hs=>by simp [V.shift,af]
 | .int k n,acc,v,acc',u,hc,hv=>by
  simp only [iz,Option.some.injEq,Prod.mk.injEq] at hc
  obtain ⟨rfl,rfl⟩:=hc
  exact dY fun E2 hw hs=>by simpa [V.shift,af] using hv
 | .bool b,acc,v,acc',u,hc,hv=>by
  simp only [iz,Option.some.injEq,Prod.mk.injEq] at hc
  obtain ⟨rfl,rfl⟩:=hc
  exact dY fun E2 hw hs=>by simpa [V.shift,af] using hv
 | .kb b,acc,v,acc',u,hc,hv=>by
  simp only [iz,Option.some.injEq,Prod.mk.injEq] at hc
  obtain ⟨rfl,rfl⟩:=hc
  exact dY fun E2 hw hs=>by simpa [V.shift,af] using hv
 | .str s,acc,v,acc',u,hc,hv=>by
  simp only [iz,Option.some.injEq,Prod.mk.injEq] at hc
  obtain ⟨rfl,rfl⟩:=hc
  exact dY fun E2 hw hs=>by simpa [V.shift,af] using hv
 | .nilptr,acc,v,acc',u,hc,hv=>by
  simp only [iz,Option.some.injEq,Prod.mk.injEq] at hc
  obtain ⟨rfl,rfl⟩:=hc
  exact dY fun E2 hw hs=>by simpa [V.shift,af] using hv
 | .nilsl,acc,v,acc',u,hc,hv=>by
  simp only [iz,Option.some.injEq,Prod.mk.injEq] at hc
  obtain ⟨rfl,rfl⟩:=hc
  exact dY fun E2 hw hs=>by simpa [V.shift,af] using hv
 | .esl,acc,v,acc',u,hc,hv=>by
  simp only [iz,Option.some.injEq,Prod.mk.injEq] at hc
  obtain ⟨rfl,rfl⟩:=hc
  exact dY fun E2 hw hs=>by simpa [V.shift,af] using hv
 | .fsl t xs,acc,v,acc',u,hc,hv=>by
  simp only [iz,Option.some.injEq,Prod.mk.injEq] at hc
  obtain ⟨rfl,rfl⟩:=hc
  refine dY fun E2 hw hs=>?_
  rcases hs with hs|hs
  case inr=>simp [V.noF] at hs
  simp only [V.shift,af] at hv ⊢
  exact hv.ext hs (fun b _=>by rw [hw])
 | .nilfn,acc,v,acc',u,hc,hv=>by
  simp only [iz,Option.some.injEq,Prod.mk.injEq] at hc
  obtain ⟨rfl,rfl⟩:=hc
  exact dY fun E2 hw hs=>by simpa [V.shift,af] using hv
 | .nilmap,acc,v,acc',u,hc,hv=>by
  simp only [iz,Option.some.injEq,Prod.mk.injEq] at hc
  obtain ⟨rfl,rfl⟩:=hc
  exact dY fun E2 hw hs=>by simpa [V.shift,af] using hv
theorem m4 {B:Base} {E:Env} (hE:HRel B E) (m:Nat) :∀ (v0:List V) (acc:Acc) (v:List V) (acc':Acc) (u:List Value),yP E.H v0 acc=some (v,acc')→ah E v0 u→CansOK E m acc acc' v u
 | [],acc,v,acc',u,hc,hv=>by
  simp only [yP,Option.some.injEq,Prod.mk.injEq] at hc
  obtain ⟨rfl,rfl⟩:=hc
  exact ⟨⟨[],by simp⟩,fun h=>h,fun E2 hw hs _=>by cases u <;> simp_all [lp,ah]⟩
 | x::xs,acc,v,acc',u,hc,hv=>by
  simp only [yP] at hc
  split at hc
  case h_2=>cases hc
  rename_i v1 acc1 h1
  split at hc
  case h_2=>cases hc
  rename_i l2 acc2 h2
  simp only [Option.some.injEq,Prod.mk.injEq] at hc
  obtain ⟨rfl,rfl⟩:=hc
  cases u with
  | nil=>simp [ah] at hv
  | cons u us=>
   simp only [ah] at hv
   obtain ⟨⟨s1,e1⟩,a2,a3⟩:=pY hE m x acc v1 acc1 u h1 hv.1
   obtain ⟨⟨s2,e2⟩,b2,b3⟩:=m4 hE m xs acc1 l2 acc2 us h2 hv.2
   refine ⟨⟨s1++s2,by rw [e2,e1,List.append_assoc]⟩,fun h=>b2 (a2 h),fun E2 hw hs hren=>?_⟩
   simp only [lp,ah]
   simp only [BM,Bool.and_eq_true] at hs
   exact ⟨a3 E2 hw (hs.imp id (·.1)) (by rw [e2] at hren;exact hren.front),b3 E2 hw (hs.imp id (·.2)) hren⟩
end
def rd1 (tmps:Array Value):ResultVar→Sem Value
 | .tmp t=>pure (tmps.getD t undef)
 | .cell c t=>do loadVar t (←asAddr (tmps.getD c undef))
theorem xu (fn:Func) (tmps:Array Value):results fn tmps =((fn.results.mapM (rd1 tmps)) >>= fun (vs:Array Value)=>pure (if h:vs.size=1 then vs[0] else .tuple vs)):=by
 unfold results
 congr
theorem Ha {B:Base} {E:Env} (hE:HRel B E) {tb:Tbl} (hT:c8 P tb) {tm:List (Nat×V)} {a:Act} (ha:ju E (find tm) a) {r:ResultVar} {v:V} (h:KJ tb tm E.H r=some v) :
  ∃ v',(rd1 a.tmps r).run P E.w = .ok v' E.w∧af E v v':=by
 cases r with
 | tmp t=>
  simp only [KJ,Option.some.injEq] at h
  subst h
  exact ⟨_,rfl,du ha t⟩
 | cell c t=>
  simp only [KJ] at h
  split at h
  case h_2=>cases h
  rename_i td htd
  split at h
  case h_2=>cases h
  rename_i ps v2 dh hl
  simp only [Option.some.injEq] at h
  subst h
  obtain ⟨_,v',h1,h2⟩:=qO hE (hT _ _ htd) (du ha c) hl
  refine ⟨v',?_,h2⟩
  have :∀ x:Value,(Instr.loadAt t x).run P E.w = .ok v' E.w→((do loadVar t (←asAddr x):Sem Value).run P E.w = .ok v' E.w):=fun x hx=>by
   cases x with
   | pointer o=>
    cases o with
    | some ad=>simpa [Instr.loadAt,Instr.sureAddr,asAddr] using hx
    | none=>simp [Instr.loadAt,Instr.sureAddr] at hx
   | _=>simp [Instr.loadAt,Instr.sureAddr] at hx
  exact this _ h1
theorem rL {α:Type} {E:Env} {w:World} (f:α→Sem Value) (g:α→Option V) (hfg :∀ x v,g x=some v→∃ v',(f x).run P w = .ok v' w∧af E v v') :∀ (l:List α) (vs:List V),l.length=vs.length→(∀ (i:Nat) (x:α) (v:V),l[i]?=some x→vs[i]?=some v→g x=some v)→
  ∃ us,(l.mapM f).run P w = .ok us w∧ah E vs us
 | [],[],_,_=>⟨[],rfl,by simp [ah]⟩
 | [],_::_,h,_=>by simp at h
 | _::_,[],h,_=>by simp at h
 | x::l,v::vs,h,hg=>by
  obtain ⟨v',h1,h2⟩:=hfg x v (hg 0 x v rfl rfl)
  obtain ⟨us,h3,h4⟩:=rL f g hfg l vs (by simpa using h) (fun i y u hy hu=>hg (i+1) y u (by simpa using hy) (by simpa using hu))
  refine ⟨v'::us,?_,by simp only [ah];exact ⟨h2,h4⟩⟩
  simp [List.mapM_cons,h1,h3]
theorem EW {tb:Tbl} {tm:List (Nat×V)} {H:bj} :∀ {rs:List ResultVar} {l:List V},BZ tb tm H rs=some l→rs.length=l.length∧∀ (i:Nat) (x:ResultVar) (v:V),rs[i]?=some x→l[i]?=some v→KJ tb tm H x=some v
 | [],l,h=>by simp only [BZ,Option.some.injEq] at h;subst h;exact ⟨rfl,fun i x v hx=>by simp at hx⟩
 | r::rs,l,h=>by
  simp only [BZ] at h
  split at h
  case h_2=>cases h
  rename_i v1 h1
  split at h
  case h_2=>cases h
  rename_i l2 h2
  simp only [Option.some.injEq] at h
  subst h
  obtain ⟨k1,k2⟩:=EW h2
  refine ⟨by simp [k1],fun i x v hx hv=>?_⟩
  cases i with
  | zero=>simp only [List.getElem?_cons_zero,Option.some.injEq] at hx hv;subst hx;subst hv;exact h1
  | succ i=>exact k2 i x v (by simpa using hx) (by simpa using hv)
theorem xt {B:Base} {E:Env} (hE:HRel B E) {tb:Tbl} (hT:c8 P tb) {tm:List (Nat×V)} {a:Act} (ha:ju E (find tm) a) {fn:Func} {v:V} (h:yz tb tm E.H fn.results.toList=some v) :
  ∃ v',(results fn a.tmps).run P E.w = .ok v' E.w∧af E v v':=by
 unfold yz at h
 have key :∀ l,BZ tb tm E.H fn.results.toList=some l→∃ us,(fn.results.mapM (rd1 a.tmps)).run P E.w = .ok us E.w∧ah E l us.toList:=fun l hl=>by
  obtain ⟨k1,k2⟩:=EW hl
  obtain ⟨us,h1,h2⟩:=rL (P:=P) (E:=E) (w:=E.w) (rd1 a.tmps) (KJ tb tm E.H) (fun x v hx=>Ha hE hT ha hx) _ _ k1 k2
  refine ⟨us.toArray,?_,by simpa using h2⟩
  rw [Array.mapM_eq_mapM_toList,Sem.run_map,h1]
  rfl
 split at h
 ·rename_i v1 hl
  simp only [Option.some.injEq] at h
  subst h
  obtain ⟨us,h1,h2⟩:=key _ hl
  have hsz:us.size=1:=by have:=bu h2;simpa using this.symm
  refine ⟨us[0],?_,?_⟩
  ·rw [xu,Sem.run_bind,h1]
   simp [hsz]
  ·have:us.toList=[us[0]]:=by
    apply List.ext_getElem?
    intro i
    cases i with
    | zero=>simp [hsz]
    | succ i=>simp [hsz]
   rw [this] at h2
   simp only [ah] at h2
   exact h2.1
 ·rename_i l hne hl
  simp only [Option.some.injEq] at h
  subst h
  obtain ⟨us,h1,h2⟩:=key _ hl
  have hsz :¬ us.size=1:=fun hs=>by
   have:=bu h2
   have h3:l.length=1:=by simpa [hs] using this
   obtain ⟨x,rfl⟩:=List.length_eq_one_iff.1 h3
   exact hne x rfl
  refine ⟨.tuple us,?_,?_⟩
  ·rw [xu,Sem.run_bind,h1]
   simp [hsz]
  ·simp only [af];exact ⟨us,rfl,h2⟩
 ·cases h
end
section
open Go.RowKit
variable {P:Program}
theorem tv (m:Nat) :∀ (rows:List RowD) (i h:Nat),find (kj m i rows) h=if m+i≤h∧h<m+i+rows.length then (rows[h - (m+i)]?).map fun r=> .row h true r.t r.xs else none
 | [],i,h=>by simp [kj,find]
 | r::rs,i,h=>by
  simp only [kj,find]
  cases hb:Nat.beq (m+i) h with
  | true=>
   obtain rfl:=Nat.eq_of_beq_eq_true hb
   simp
  | false=>
   have hne:m+i≠h:=fun e=>by subst e;rw [Nat.beq_refl] at hb;cases hb
   simp only [cond_false]
   rw [tv m rs (i+1) h]
   by_cases hc:m+i≤h∧h<m+i +(r::rs).length
   ·have hc2:m +(i+1)≤h∧h<m +(i+1)+rs.length:=by simp at hc;omega
    rw [if_pos hc,if_pos hc2]
    have:h - (m+i) =(h - (m +(i+1)))+1:=by omega
    rw [this,List.getElem?_cons_succ]
   ·have hc2 :¬(m +(i+1)≤h∧h<m +(i+1)+rs.length):=by simp at hc;omega
    rw [if_neg hc,if_neg hc2]
theorem LI {B:Base} {Eb:Env} (hEb:HRel B Eb) {m K:Nat} (hm :∀ n,m≤n→n<m+K→¬ Eb.U n) {S1:Nat→Prop} (_ :∀ b,Eb.S b→S1 b) {Ec:Env} (hEc:HRel (Da Eb.w (fun _=>False) S1 hEb.glob0) Ec) {acc:Acc} (ha:AccOK Ec acc) (hK:acc.length≤K)
  (hfl :(∀ b,S1 b→Eb.S b)∨∀ q∈acc,q.2.t.flatB=true) :
  ∃ E',GoodK B Eb m K (kj m 0 (acc.map (·.2))) Ec.w E'∧Ren Ec E' m acc∧((∀ b,S1 b→Eb.S b)→∀ b,Ec.S b→E'.S b):=by
 classical
 let D:Nat→Prop:=fun h=>m≤h∧h<m+K
 let ρ':Nat→Option Nat:=fun h=>if D h then (match acc[h - m]? with|some q=>Ec.ρ q.1|none=>none) else Eb.ρ h
 let E':Env:=⟨fun n=>Eb.U n∨D n,ρ',fun b=>Eb.S b∨(Ec.S b∧Eb.w.heap.size≤b),Ec.w,aY Eb.H (kj m 0 (acc.map (·.2)))⟩
 have hfind :∀ h,find (kj m 0 (acc.map (·.2))) h=if m≤h∧h<m+acc.length then (acc[h - m]?).map fun q=>Blk.row h true q.2.t q.2.xs else none:=fun h=>by
  rw [tv]
  simp only [Nat.add_zero,List.length_map,List.getElem?_map,Option.map_map]
  rfl
 have hHn :∀ h,¬ D h→E'.H h=Eb.H h:=fun h hd=>by
  show aY Eb.H _ h=Eb.H h
  unfold aY
  rw [hfind,if_neg (fun hc=>hd ⟨hc.1,by omega⟩)]
 have hρn :∀ h,¬ D h→E'.ρ h=Eb.ρ h:=fun h hd=>if_neg hd
 have hHd :∀ h k,D h→E'.H h=some k→∃ h0 r,acc[h - m]?=some (h0,r)∧k = .row h true r.t r.xs:=fun h k hd hk=>by
  have hk':aY Eb.H (kj m 0 (acc.map (·.2))) h=some k:=hk
  unfold aY at hk'
  rw [hfind] at hk'
  by_cases hc:m≤h∧h<m+acc.length
  ·rw [if_pos hc] at hk'
   cases hq:acc[h - m]? with
   | none=>rw [List.getElem?_eq_none_iff] at hq;omega
   | some q=>
    obtain ⟨h0,r⟩:=q
    rw [hq] at hk'
    simp only [Option.map_some,Option.some.injEq] at hk'
    exact ⟨h0,r,rfl,hk'.symm⟩
  ·rw [if_neg hc] at hk'
   simp only at hk'
   exact absurd (hEb.used _ _ hk') (hm h hd.1 hd.2)
 have hρd :∀ h h0 r,D h→acc[h - m]?=some (h0,r)→E'.ρ h=Ec.ρ h0:=fun h h0 r hd hq=>by
  show (if D h then _ else _)=_
  rw [if_pos hd,hq]
 have used' :∀ h k,Eb.H h=some k→¬ D h:=fun h k hx hd=>hm h hd.1 hd.2 (hEb.used _ _ hx)
 have hw0:Eb.w.heap.size≤Ec.w.heap.size:=hEc.keeps.size
 have hB0:B.w0.heap.size≤Eb.w.heap.size:=hEb.keeps.size
 have same :∀ b,b<Eb.w.heap.size→Ec.w.heap[b]?=Eb.w.heap[b]?:=fun b hb=>hEc.keeps.block b hb (fun h=>h)
 have newb :∀ h0 r b,(h0,r)∈acc→Ec.ρ h0=some b→Eb.w.heap.size≤b:=fun h0 r b hq hb=>by
  obtain ⟨ver,hx⟩:=ha.row _ _ hq
  rcases hEc.own _ _ _ hx hb with h|h
  ·exact h.elim
  ·exact h
 have X:Ext Eb E':=by
  refine ⟨fun _ h=> .inl h,fun _ h=> .inl h,fun b hb=>same b (hEb.stab b hb),fun h cs hu hx=>?_,fun h ver rw t xs hu hv hx=>?_,fun h ver esz cs hu hv hx=>?_,fun h es hu hx=>?_,fun h kk t x hu hx=>?_⟩
  case refine_5=>
   have hd :¬ D h:=fun hd=>hm h hd.1 hd.2 hu
   rw [hHn h hd] at hx
   exact ⟨⟨x,hx⟩,hρn h hd⟩
  ·have hd :¬ D h:=fun hd=>hm h hd.1 hd.2 hu
   rw [hHn h hd] at hx
   exact ⟨⟨cs,hx⟩,hρn h hd⟩
  ·have hd :¬ D h:=fun hd=>hm h hd.1 hd.2 hu
   rw [hHn h hd] at hx
   exact ⟨rw,xs,hx,rfl,hρn h hd,fun b c T fr hb hw=>⟨c,T,fr,by rw [show E'.w=Ec.w from rfl,same b (hEb.lt _ _ _ hx hb)];exact hw,rfl⟩⟩
  ·have hd :¬ D h:=fun hd=>hm h hd.1 hd.2 hu
   rw [hHn h hd] at hx
   exact ⟨cs,hx,rfl,hρn h hd,fun b c T fr hb hw=>⟨c,T,fr,by rw [show E'.w=Ec.w from rfl,same b (hEb.lt _ _ _ hx hb)];exact hw,rfl⟩⟩
  ·have hd :¬ D h:=fun hd=>hm h hd.1 hd.2 hu
   rw [hHn h hd] at hx
   exact ⟨⟨es,hx⟩,hρn h hd⟩
 have tN :∀ {h k b},¬ D h→Eb.H h=some k→Tch E' h k b→Tch Eb h k b:=fun hd hx ht=>ht.mv (hρn _ hd) fun b hb=>same b (hEb.lt _ _ _ hx hb)
 have R:HRel B E':=by
  refine ⟨fun h k hx=>?_,fun b hs=>?_,fun h k b hx hb=>?_,fun h h' k k' b h1 h2 b1 b2=>?_,fun h k hx=>?_,?_,fun h k b hx hb=>?_,fun b hs=> .inl (hEb.s0 b hs),fun b hs=>?_⟩
  ·by_cases hd:D h
   ·exact .inr hd
   ·rw [hHn h hd] at hx;exact .inl (hEb.used _ _ hx)
  ·rcases hs with hs|hs
   ·exact Nat.lt_of_lt_of_le (hEb.stab b hs) hw0
   ·exact hEc.stab b hs.1
  ·by_cases hd:D h
   ·obtain ⟨h0,r,hq,rfl⟩:=hHd h k hd hx
    replace hb:=hb.of rfl
    rw [hρd h h0 r hd hq] at hb
    obtain ⟨ver,hx0⟩:=ha.row _ _ (List.mem_of_getElem? hq)
    exact hEc.lt _ _ _ hx0 hb
   ·rw [hHn h hd] at hx;exact Nat.lt_of_lt_of_le (hEb.lt' _ _ _ hx (tN hd hx hb)) hw0
  ·have mix :∀ h h' k k',D h→¬ D h'→E'.H h=some k→E'.H h'=some k'→Tch E' h k b→Tch E' h' k' b→False:=fun h h' k k' hd hd' h1 h2 b1 b2=>by
    obtain ⟨h0,r,hq,rfl⟩:=hHd h k hd h1
    replace b1:=b1.of rfl
    rw [hρd h h0 r hd hq] at b1;rw [hHn h' hd'] at h2
    have h3:=newb _ _ _ (List.mem_of_getElem? hq) b1
    have h4:=hEb.lt' _ _ _ h2 (tN hd' h2 b2)
    omega
   by_cases hd:D h <;> by_cases hd':D h'
   ·obtain ⟨a0,r,hq,rfl⟩:=hHd h k hd h1
    obtain ⟨a0',r',hq',rfl⟩:=hHd h' k' hd' h2
    replace b1:=b1.of rfl
    replace b2:=b2.of rfl
    rw [hρd h _ _ hd hq] at b1;rw [hρd h' _ _ hd' hq'] at b2
    obtain ⟨_,x1⟩:=ha.row _ _ (List.mem_of_getElem? hq)
    obtain ⟨_,x2⟩:=ha.row _ _ (List.mem_of_getElem? hq')
    have e:=hEc.inj _ _ _ _ _ x1 x2 b1 b2
    have n1 :(acc.map (·.1))[h - m]?=some a0:=by simp [hq]
    have n2 :(acc.map (·.1))[h' - m]?=some a0:=by simp [hq',e]
    have hl:h - m <(acc.map (·.1)).length:=by
     rcases Nat.lt_or_ge (h - m) (acc.map (·.1)).length with h1|h1
     ·exact h1
     ·rw [List.getElem?_eq_none h1] at n1;cases n1
    have:=(List.getElem?_inj hl ha.nodup).1 (n1.trans n2.symm)
    have:=hd.1;have:=hd'.1
    omega
   ·exact (mix h h' k k' hd hd' h1 h2 b1 b2).elim
   ·exact (mix h' h k' k hd' hd h2 h1 b2 b1).elim
   ·rw [hHn h hd] at h1;rw [hHn h' hd'] at h2
    exact hEb.inj' _ _ _ _ _ h1 h2 (tN hd h1 b1) (tN hd' h2 b2)
  ·by_cases hd:D h
   ·obtain ⟨h0,r,hq,rfl⟩:=hHd h k hd hx
    have hmem:=List.mem_of_getElem? hq
    obtain ⟨ver,hx0⟩:=ha.row _ _ hmem
    obtain ⟨_,hbl⟩:=hEc.blk _ _ hx0
    refine ⟨.inr hd,?_⟩
    rw [hρd h h0 r hd hq]
    rcases hbl with hbl |⟨b,c,T,fr,k1,k2,k3,k4,k5,k6,k7,k8⟩
    ·exact .inl hbl
    ·refine .inr ⟨b,c,T,fr,k1,k2,k3,fun _ hs=>?_,(fun h=>by cases h),k6,k7,fun i hi=>?_⟩
     ·rcases hs with hs|hs
      ·have h3:=hEb.stab b hs
       have h4:=newb _ _ _ hmem k1
       omega
      ·exact k4 rfl hs.1
     ·rcases hfl with hfl|hfl
      ·refine (k8 i hi).ext (fun b hs=>?_) (fun b _=>rfl)
       rcases hEc.sb b hs with h|h|h
       ·exact .inl (hfl b h)
       ·exact h.elim
       ·exact .inr ⟨hs,h⟩
      ·exact (k8 i hi).flatB (hfl _ hmem)
   ·have hx':=hx
    rw [hHn h hd] at hx'
    refine dp X (hρn h hd) (fun b hb=>same b (hEb.lt' _ _ _ hx' hb)) (fun b hb _ hs hs'=>?_) (hEb.blk _ _ hx')
    rcases hs' with hs'|hs'
    ·exact hs hs'
    ·have h4:=hEb.lt' _ _ _ hx' hb
     have:=hs'.2
     omega
  ·exact hEb.keeps.trans hEc.keeps (fun b h=>h.elim)
  ·by_cases hd:D h
   ·obtain ⟨h0,r,hq,rfl⟩:=hHd h k hd hx
    replace hb:=hb.of rfl
    rw [hρd h h0 r hd hq] at hb
    exact .inr (Nat.le_trans hB0 (newb _ _ _ (List.mem_of_getElem? hq) hb))
   ·rw [hHn h hd] at hx;exact hEb.own' _ _ _ hx (tN hd hx hb)
  ·rcases hs with hs|hs
   ·exact hEb.sb b hs
   ·exact .inr (.inr (Nat.le_trans hB0 hs.2))
 refine ⟨E',⟨R,X,rfl,rfl,fun n h=>h⟩,fun i h0 r hq=>?_,fun hs b hb=>?_⟩
 ·have hi:i<acc.length:=by
   rcases Nat.lt_or_ge i acc.length with h1|h1
   ·exact h1
   ·rw [List.getElem?_eq_none h1] at hq;cases hq
  have hd:D (m+i):=⟨by omega,by omega⟩
  refine ⟨.inr hd,hρd _ h0 r hd (by rw [Nat.add_sub_cancel_left];exact hq),?_⟩
  show aY Eb.H _ (m+i)=_
  unfold aY
  rw [hfind,if_pos ⟨by omega,by omega⟩,Nat.add_sub_cancel_left,hq]
  rfl
 ·rcases hEc.sb b hb with h|h|h
  ·exact .inl (hs b h)
  ·exact h.elim
  ·exact .inr ⟨hb,h⟩
theorem kF {α:Type} :∀ (l:List α) (n i:Nat),find (fU n l) i=if n≤i then l[i - n]? else none
 | [],n,i=>by simp [fU,find]
 | x::l,n,i=>by
  simp only [fU,find]
  cases hb:Nat.beq n i with
  | true=>obtain rfl:=Nat.eq_of_beq_eq_true hb;simp
  | false=>
   have hne:n≠i:=fun e=>by subst e;rw [Nat.beq_refl] at hb;cases hb
   simp only [cond_false]
   rw [kF l (n+1) i]
   by_cases hc:n≤i
   ·rw [if_pos hc,if_pos (by omega)]
    have:i - n =(i - (n+1))+1:=by omega
    rw [this,List.getElem?_cons_succ]
   ·rw [if_neg hc,if_neg (by omega)]
structure Mat (B:Base) (E:Env) (n:Nat) (dh:List (Nat×Blk)) (E':Env):Prop where
 rel:HRel B E'
 ext:Ext E E'
 w:E'.w=E.w
 h:E'.H=aY E.H dh
 u :∀ k,E'.U k→k<n+dh.length
theorem Mat.refl {B:Base} {E:Env} (hE:HRel B E) {n:Nat} (hn :∀ k,E.U k→k<n):Mat B E n [] E:=
 ⟨hE,Ext.refl E,rfl,by funext h;simp [aY,find],by simpa using hn⟩
theorem Mat.trans {B:Base} {E E1 E2:Env} {n:Nat} {d1 d2:List (Nat×Blk)} (h1:Mat B E n d1 E1) (h2:Mat B E1 (n+d1.length) d2 E2):Mat B E n (d2++d1) E2:=
 ⟨h2.rel,h1.ext.trans h2.ext,h2.w.trans h1.w,by rw [h2.h,h1.h,dN],fun k hk=>by have:=h2.u k hk;simp only [List.length_append];omega⟩
theorem Jk {B:Base} {E:Env} (hE:HRel B E) {n:Nat} (hn :∀ k,E.U k→k<n) (t:Ty) :∃ E',Mat B E n [(n,.row n true t [])] E'∧af E' (.osl n n) (.slice none 0 0):=by
 have hnot :¬ E.U n:=fun h=>Nat.lt_irrefl _ (hn n h)
 obtain ⟨R,X⟩:=kW hE n (.row n true t []) none E.w (fun k=>E.U k∨k=n) (fun _ h=> .inl h) (.inr rfl) (Keeps.refl _ _) (fun b h=>by cases h) (fun b h=>by cases h) (fun cs h=>by cases h) (fun _ _ _ _ _ h=>absurd h hnot)
  (fun _=>⟨.inr rfl,.inl ⟨aB _ _ _,rfl⟩⟩)
 refine ⟨_,⟨R,X,rfl,(cB _ _ _).symm,fun k hk=>?_⟩,?_⟩
 ·rcases hk with hk|rfl
  ·have:=hn k hk;simp only [List.length_cons,List.length_nil];omega
  ·simp
 ·simp only [af]
  exact ⟨.inr trivial,.inr trivial,⟨_,_,_,rfl⟩,fun rw t' xs hx=> .inl ⟨aB _ _ _,_,rfl⟩⟩
theorem qf {B:Base} :∀ (ts:List (Option Ty)) (cs:List V) (n:Nat) (E:Env) (vs:List Value),HRel B E→(∀ k,E.U k→k<n)→ah E cs vs→
  ∃ E',Mat B E n (sx ts cs n).2 E'∧ah E' (sx ts cs n).1 vs
 | [],cs,n,E,vs,hE,hn,hv=>⟨E,by simpa [sx] using Mat.refl hE hn,by simpa [sx] using hv⟩
 | _::_,[],n,E,vs,hE,hn,hv=>⟨E,by simpa [sx] using Mat.refl hE hn,by simpa [sx] using hv⟩
 | o::ts,c::cs,n,E,vs,hE,hn,hv=>by
  cases vs with
  | nil=>simp [ah] at hv
  | cons v vs=>
   simp only [ah] at hv
   simp only [sx]
   split
   ·rename_i t
    have hv1:=hv.1
    simp only [af] at hv1
    subst hv1
    obtain ⟨E1,M1,r1⟩:=Jk hE hn t
    obtain ⟨E2,M2,r2⟩:=qf ts cs (n+1) E1 vs M1.rel (fun k hk=>by simpa using M1.u k hk) (bD M1.ext _ _ hv.2)
    exact ⟨E2,M1.trans M2,by simp only [ah];exact ⟨cF M2.ext _ _ r1,r2⟩⟩
   ·obtain ⟨E2,M2,r2⟩:=qf ts cs n E vs hE hn hv.2
    exact ⟨E2,M2,by simp only [ah];exact ⟨cF M2.ext _ _ hv.1,r2⟩⟩
theorem wP {B:Base} {E:Env} (hE:HRel B E) {n:Nat} (hn :∀ k,E.U k→k<n) (o:Option Ty) {v:V} {u:Value} (hv:af E v u) :∃ E',Mat B E n (MF o v n).2 E'∧af E' (MF o v n).1 u:=by
 unfold MF
 split
 ·split
  ·rename_i ty _ cs
   simp only [af] at hv
   obtain ⟨l,rfl,hl⟩:=hv
   obtain ⟨E',M,r⟩:=qf (AO fP ty) cs n E l.toList hE hn hl
   exact ⟨E',M,by simp only [af];exact ⟨l,rfl,r⟩⟩
  ·split
   ·simp only [af] at hv
    subst hv
    exact Jk hE hn _
   ·exact ⟨E,Mat.refl hE hn,hv⟩
  ·exact ⟨E,Mat.refl hE hn,hv⟩
 ·exact ⟨E,Mat.refl hE hn,hv⟩
theorem wO {B:Base} (tb:Tbl) :∀ (ts:List TypeId) (vs:List V) (n:Nat) (E:Env) (us:List Value),HRel B E→(∀ k,E.U k→k<n)→ah E vs us→
  ∃ E',Mat B E n (yp tb ts vs n).2 E'∧ah E' (yp tb ts vs n).1 us
 | [],vs,n,E,us,hE,hn,hv=>⟨E,by simpa [yp] using Mat.refl hE hn,by simpa [yp] using hv⟩
 | _::_,[],n,E,us,hE,hn,hv=>⟨E,by simpa [yp] using Mat.refl hE hn,by simpa [yp] using hv⟩
 | t::ts,v::vs,n,E,us,hE,hn,hv=>by
  cases us with
  | nil=>simp [ah] at hv
  | cons u us=>
   simp only [ah] at hv
   simp only [yp]
   obtain ⟨E1,M1,r1⟩:=wP hE hn (TT tb t) hv.1
   obtain ⟨E2,M2,r2⟩:=wO tb ts vs _ E1 us M1.rel M1.u (bD M1.ext _ _ hv.2)
   exact ⟨E2,M1.trans M2,by simp only [ah];exact ⟨cF M2.ext _ _ r1,r2⟩⟩
theorem Gs {B:Base} {E:Env} (hE:HRel B E) {n:Nat} (hn :∀ k,E.U k→k<n) (tb:Tbl) (ts:List TypeId) {v:V} {u:Value} (hv:af E v u) :∃ E',Mat B E n (BD tb ts v n).2 E'∧af E' (BD tb ts v n).1 u:=by
 unfold BD
 split
 ·exact wP hE hn _ hv
 ·split
  ·rename_i vs
   simp only [af] at hv
   obtain ⟨l,rfl,hl⟩:=hv
   obtain ⟨E',M,r⟩:=wO tb ts vs n E l.toList hE hn hl
   exact ⟨E',M,by simp only [af];exact ⟨l,rfl,r⟩⟩
  ·exact ⟨E,Mat.refl hE hn,hv⟩
def VA (_:Base) (Q:V→List RowD→Prop) (tb:Tbl) (rs:List ResultVar) (ts:List TypeId) (st:St):Lf→Dl→Nat→Prop
 | .ext _,_,_=>False
 | _,d,nx=>∃ v0 v acc,yz tb (d.tm++st.tm) (aY st.H d.hp) rs=some v0∧iz (aY (aY st.H d.hp) (BD tb ts v0 nx).2) (BD tb ts v0 nx).1 []=some (v,acc)∧Q v (acc.map (·.2))
theorem kr {B:Base} {Q:V→List RowD→Prop} {tb:Tbl} {rs:List ResultVar} {ts:List TypeId} {st:St} :∀ {t:Tr},(yJ tb rs ts st t).sat Q→t.sat (VA B Q tb rs ts st)
 | .leaf (.ext _) _ _,h=>h.elim
 | .leaf .nrm d nx,h=>by
  simp only [yJ] at h
  split at h
  case h_2=>exact h.elim
  rename_i v0 hv
  split at h
  case h_2=>exact h.elim
  rename_i v acc hc
  exact ⟨v0,v,acc,hv,hc,h⟩
 | .leaf .ret d nx,h=>by
  simp only [yJ] at h
  split at h
  case h_2=>exact h.elim
  rename_i v0 hv
  split at h
  case h_2=>exact h.elim
  rename_i v acc hc
  exact ⟨v0,v,acc,hv,hc,h⟩
 | .br b t e,h=>⟨fun hb=>kr (h.1 hb),fun hb=>kr (h.2 hb)⟩
 | .need p t,h=>⟨h.1,kr h.2⟩
 | .both t u,h=>⟨kr h.1,kr h.2⟩
 | .when b t,h=>fun hb=>kr (h hb)
 | .done,h=>h
 | .bad,h=>h
theorem vL {C:Cfg} (hC:CfgOK P C) (hP:P.follows .mixedOrders=true) {Λ:Nat→Option LoopSum} {f:FuncId} {fn:Func} (hf:P.funcs[f]?=some fn) (hN:C.N=fn.ntmps)
  (hΛ :∀ c,fn.body=some c→∀ b∈bh Λ c,∀ L,Λ (rid b)=some L→LoopOK P C.N b L) {args:List V} {Q:V→List RowD→Prop} (h :(evFn C Λ fn args).sat Q)
  {B:Base} {E:Env} (hE:HRel B E) (hF:B.free) (hB:B.dfs=[]) (hH:E.H=fun _=>none) (hU :∀ n,¬ E.U n) {av:List Value} (hav:ah E args av) (hlen:av.length≤fn.ntmps) :
  Calls P f av.toArray E.w fun e w'=>∃ Ec v' v0 v acc,e = .returned v'∧HRel B Ec∧Ec.w=w'∧af Ec v0 v'∧iz Ec.H v0 []=some (v,acc)∧Q v (acc.map (·.2)):=by
 unfold evFn at h
 split at h
 case h_2=>exact h.elim
 rename_i c hc
 refine calls_of_wp hf hc ?_
 have hs:=kr (B:=B) h
 refine bQ hC hP (B:=B) c (fun b hb L hL=>LoopOK.at_free (hΛ c hc b hb L hL) hF) (mD args) _ _ hs (fun e d nx a w hq hat=>?_) _ _ ?_
 ·obtain ⟨⟨Ec,hEc,rfl,hHc,hUc,hT⟩,hsz,hdf⟩:=hat
  have fin :(∃ v0 v acc,yz C.tb (d.tm ++(mD args).tm) (aY (mD args).H d.hp) fn.results.toList=some v0∧iz (aY (aY (mD args).H d.hp) (BD C.tb fn.resultTypes.toList v0 nx).2) (BD C.tb fn.resultTypes.toList v0 nx).1 []=some (v,acc)∧Q v (acc.map (·.2)))→
    ∃ v',(results fn a.tmps).run P Ec.w = .ok v' Ec.w∧∃ Ec' v'' v0 v acc,(Ending.returned v') = .returned v''∧HRel B Ec'∧Ec'.w=Ec.w∧af Ec' v0 v''∧iz Ec'.H v0 []=some (v,acc)∧Q v (acc.map (·.2)):=fun ⟨v0,v,acc,h1,h2,h3⟩=>by
   rw [←hHc] at h1 h2
   obtain ⟨v',k1,k2⟩:=xt hEc hC.tb hT h1
   obtain ⟨Em,Mm,k3⟩:=Gs hEc hUc.2 C.tb fn.resultTypes.toList k2
   rw [←Mm.h] at h2
   exact ⟨v',k1,Em,v',_,v,acc,rfl,Mm.rel,Mm.w,k3,h2,h3⟩
  cases e with
  | ext id=>exact hq.elim
  | nrm=>exact ⟨hdf.trans hB,fin hq⟩
  | ret=>exact ⟨hdf.trans hB,fin hq⟩
 ·refine ⟨⟨E,hE,rfl,?_,⟨hF E,fun n hn=>absurd hn (hU n)⟩,fun s v hv=>?_⟩,?_,hB.symm⟩
  ·rw [hH];rfl
  ·simp only [mD,kF,Nat.zero_le,if_true,Nat.sub_zero] at hv
   obtain ⟨v',h1,h2⟩:=ia hav s v hv
   have :(av.toArray++Array.replicate (fn.ntmps - av.toArray.size) undef).getD s undef=v':=by
    rw [Array.getD_eq_getD_getElem?]
    have hl:s<av.toArray.size:=by
     rcases Nat.lt_or_ge s av.length with h3|h3
     ·simpa using h3
     ·rw [List.getElem?_eq_none h3] at h1;cases h1
    rw [Array.getElem?_append_left hl]
    simp [h1]
   rw [this]
   exact h2
  ·simp only [Array.size_append,Array.size_replicate,List.size_toArray];omega
def ifB (b:Bool) (p:Prop):Prop:=match b with|true=>p|false=>False
theorem ifB_iff {b:Bool} {p:Prop}:ifB b p↔b=true∧p:=by cases b <;> simp [ifB]
mutual
def leV:V→V→Prop
 | .any,.any=>True
 | .int k n,.int k' n'=>ifB (decide (k=k')) (n=n')
 | .bool b,.bool b'=>b=b'
 | .bool b,.kb b'=>b=b'
 | .kb b,.bool b'=>b=b'
 | .kb b,.kb b'=>b=b'
 | .str s,.str s'=>s=s'
 | .nilptr,.nilptr=>True
 | .nilfn,.nilfn=>True
 | .nilmap,.nilmap=>True
 | .nilsl,.nilsl=>True
 | .esl,.esl=>True
 | .nilsl,.fsl _ xs=>xs=[]
 | .esl,.fsl _ xs=>xs=[]
 | .fsl t xs,.fsl t' xs'=>RowD.mk t xs=RowD.mk t' xs'
 | .osl h ver,.osl h' ver'=>h=h'∧ver=ver'
 | .agg cs,.agg cs'=>wF cs cs'
 | .tup cs,.tup cs'=>wF cs cs'
 | _,_=>False
def wF:List V→List V→Prop
 | [],[]=>True
 | x::xs,y::ys=>leV x y∧wF xs ys
 | _,_=>False
end
mutual
theorem oS {E:Env} {m:Nat} :∀ (x y:V) (u:Value),leV x y→af E (x.shift m) u→af E (y.shift m) u
 | x,.any,u,h,hv=>by simp [V.shift,af]
 | x,.int k n,u,h,hv=>by
  cases x <;> simp only [leV] at h
  obtain ⟨h1,rfl⟩:=ifB_iff.1 h
  obtain rfl:=of_decide_eq_true h1
  exact hv
 | x,.bool b,u,h,hv=>by cases x <;> simp only [leV] at h <;> subst h <;> simpa [V.shift,af] using hv
 | x,.kb b,u,h,hv=>by cases x <;> simp only [leV] at h <;> subst h <;> simpa [V.shift,af] using hv
 | x,.str b,u,h,hv=>by cases x <;> simp only [leV] at h <;> subst h <;> exact hv
 | x,.nilptr,u,h,hv=>by cases x <;> simp only [leV] at h;exact hv
 | x,.nilfn,u,h,hv=>by cases x <;> simp only [leV] at h;exact hv
 | x,.nilmap,u,h,hv=>by cases x <;> simp only [leV] at h;exact hv
 | x,.nilsl,u,h,hv=>by cases x <;> simp only [leV] at h;exact hv
 | x,.esl,u,h,hv=>by cases x <;> simp only [leV] at h;exact hv
 | x,.fsl t xs,u,h,hv=>by
  cases x <;> simp only [leV] at h
  ·subst h;simp only [V.shift,af] at hv ⊢;subst hv;exact .nil
  ·subst h;simp only [V.shift,af] at hv ⊢;obtain ⟨a,rfl⟩:=hv;exact .nil
  ·cases h;exact hv
 | x,.osl t xs,u,h,hv=>by
  cases x <;> simp only [leV] at h
  obtain ⟨rfl,rfl⟩:=h;exact hv
 | x,.agg cs,u,h,hv=>by
  cases x <;> simp only [leV] at h
  simp only [V.shift,af] at hv ⊢
  obtain ⟨l,rfl,hl⟩:=hv
  exact ⟨l,rfl,qc _ _ _ h hl⟩
 | x,.tup cs,u,h,hv=>by
  cases x <;> simp only [leV] at h
  simp only [V.shift,af] at hv ⊢
  obtain ⟨l,rfl,hl⟩:=hv
  exact ⟨l,rfl,qc _ _ _ h hl⟩
 | x,.ptr _ _,u,h,hv=>by cases x <;> simp only [leV] at h
 | x,.fp _ _ _ _,u,h,hv=>by cases x <;> simp only [leV] at h
 | x,.rp _ _ _ _,u,h,hv=>by cases x <;> simp only [leV] at h
 | x,.fn _ _,u,h,hv=>by cases x <;> simp only [leV] at h
 | x,.hint _ _,u,h,hv=>by cases x <;> simp only [leV] at h
 | x,.gsl _ _ _ _ _,u,h,hv=>by cases x <;> simp only [leV] at h
 | x,.gp _ _ _,u,h,hv=>by cases x <;> simp only [leV] at h
 | x,.mpv _,u,h,hv=>by cases x <;> simp only [leV] at h
 | x,.av _ _,u,h,hv=>by cases x <;> simp only [leV] at h
theorem qc {E:Env} {m:Nat} :∀ (xs ys:List V) (us:List Value),wF xs ys→ah E (lp m xs) us→ah E (lp m ys) us
 | [],[],us,_,hv=>hv
 | [],_::_,_,h,_=>by simp [wF] at h
 | _::_,[],_,h,_=>by simp [wF] at h
 | x::xs,y::ys,us,h,hv=>by
  cases us with
  | nil=>simp [lp,ah] at hv
  | cons u us=>
   simp only [wF] at h
   simp only [lp,ah] at hv ⊢
   exact ⟨oS _ _ _ h.1 hv.1,qc _ _ _ h.2 hv.2⟩
end
mutual
theorem BA :∀ (x y:V),leV x y→y.noF=true→x.noF=true
 | x,.any,h,_=>by cases x <;> simp only [leV] at h;rfl
 | x,.int k n,h,_=>by cases x <;> simp only [leV] at h;rfl
 | x,.bool b,h,_=>by cases x <;> simp only [leV] at h <;> rfl
 | x,.kb b,h,_=>by cases x <;> simp only [leV] at h <;> rfl
 | x,.str b,h,_=>by cases x <;> simp only [leV] at h;rfl
 | x,.nilptr,h,_=>by cases x <;> simp only [leV] at h;rfl
 | x,.nilfn,h,_=>by cases x <;> simp only [leV] at h;rfl
 | x,.nilmap,h,_=>by cases x <;> simp only [leV] at h;rfl
 | x,.nilsl,h,_=>by cases x <;> simp only [leV] at h;rfl
 | x,.esl,h,_=>by cases x <;> simp only [leV] at h;rfl
 | x,.fsl t xs,h,hf=>by simp [V.noF] at hf
 | x,.osl t xs,h,_=>by cases x <;> simp only [leV] at h;rfl
 | x,.agg cs,h,hf=>by
  cases x <;> simp only [leV] at h
  simp only [V.noF] at hf ⊢
  exact wG _ _ h hf
 | x,.tup cs,h,hf=>by
  cases x <;> simp only [leV] at h
  simp only [V.noF] at hf ⊢
  exact wG _ _ h hf
 | x,.ptr _ _,h,_=>by cases x <;> simp only [leV] at h
 | x,.fp _ _ _ _,h,_=>by cases x <;> simp only [leV] at h
 | x,.rp _ _ _ _,h,_=>by cases x <;> simp only [leV] at h
 | x,.fn _ _,h,_=>by cases x <;> simp only [leV] at h
 | x,.hint _ _,h,_=>by cases x <;> simp only [leV] at h
 | x,.gsl _ _ _ _ _,h,_=>by cases x <;> simp only [leV] at h
 | x,.gp _ _ _,h,_=>by cases x <;> simp only [leV] at h
 | x,.mpv _,h,_=>by cases x <;> simp only [leV] at h
 | x,.av _ _,h,_=>by cases x <;> simp only [leV] at h
theorem wG :∀ (xs ys:List V),wF xs ys→BM ys=true→BM xs=true
 | [],[],_,_=>rfl
 | [],_::_,h,_=>by simp [wF] at h
 | _::_,[],h,_=>by simp [wF] at h
 | x::xs,y::ys,h,hf=>by
  simp only [wF] at h
  simp only [BM,Bool.and_eq_true] at hf ⊢
  exact ⟨BA _ _ h.1 hf.1,wG _ _ h.2 hf.2⟩
end
theorem aV {C:Cfg} (hC:CfgOK P C) (hP:P.follows .mixedOrders=true) {f:FuncId} {fn:Func} (hf:P.funcs[f]?=some fn) (hbody:fn.body.isSome=true) (hname :(fn.name == "runtime.NumGoroutine")=false) (hN:C.N=fn.ntmps)
  {ps:Ty} {spec:Den ps→PRes} {Λ:Den ps→Nat→Option LoopSum}
  (hΛ :∀ x:Den ps,wfD ps x→(∀ p∈(spec x).needs,p)→∀ c,fn.body=some c→∀ b∈bh (Λ x) c,∀ L,Λ x (rid b)=some L→LoopOK P C.N b L) (hlen :∀ x:Den ps,(bF ps x).length≤fn.ntmps)
  (h :∀ x:Den ps,wfD ps x→(∀ p∈(spec x).needs,p)→(evFn C (Λ x) fn (bF ps x)).sat fun v rows=>leV v (spec x).v∧rows =(spec x).rows):CtrOK P C.K f (au C.K ps spec):=by
 refine ⟨⟨fn,hf,hbody,hname⟩,fun B E hE args av hav m hm ps' v dh hct hps=>?_⟩
 unfold au at hct
 simp only at hct
 split at hct
 case h_2=>cases hct
 rename_i x hx
 cases hle:Nat.ble (spec x).rows.length C.K with
 | false=>rw [hle] at hct;cases hct
 | true=>
  rw [hle] at hct
  simp only [cond_true,Option.some.injEq,Prod.mk.injEq] at hct
  obtain ⟨rfl,rfl,rfl⟩:=hct
  obtain ⟨hSE,XS⟩:=dv hE (hss args)
  let E0:Env:=⟨fun _=>False,fun _=>none,(cE E (hss args)).S,E.w,fun _=>none⟩
  have hE0:HRel (Da E.w (fun _=>False) (cE E (hss args)).S hE.glob0) E0:=by
   refine ⟨fun h b hx=>?_,fun b hb=>hSE.stab b hb,fun h k b hx=>?_,fun h h' k k' b hx=>?_,fun h k hx=>?_,Keeps.refl _ _,fun h k b hx=>?_,fun _ h=>h,fun _ h=> .inl h⟩ <;> cases hx
  obtain ⟨hav0,cs,hrd⟩:=gG hSE (Ec:=E0) rfl rfl (bD XS _ _ hav) hx
  have hwf:wfD ps x:=⟨_,_,_,hrd⟩
  have hl0:av.length≤fn.ntmps:=by rw [←bu hav0];exact hlen x
  refine Calls.mono (vL hC hP hf hN (hΛ x hwf hps) (h x hwf hps) hE0 (fun _=>trivial) rfl rfl (fun _ h=>h) hav0 hl0) fun e w' hr=>?_
  obtain ⟨Ec,v',v0,v,acc,rfl,hEc,rfl,hv,hcan,hq1,hq2⟩:=hr
  have hcs:=pY hEc m v0 [] v acc v' hcan hv
  have hacc:=hcs.acc ⟨by simp,fun h r hr=>by simp at hr⟩
  have hlenK:acc.length≤C.K:=by
   have:=Nat.le_of_ble_eq_true hle
   rw [←hq2] at this
   simpa using this
  cases hfl :(spec x).flat with
  | true=>
   simp only [PRes.flat,Bool.and_eq_true,List.all_eq_true] at hfl
   obtain ⟨E',G,hren,_⟩:=LI hE hm (S1:=(cE E (hss args)).S) (fun b hb=> .inl hb) hEc hacc hlenK (.inr fun q hq=>hfl.2 _ (by rw [←hq2];exact List.mem_map_of_mem hq))
   refine ⟨E',v',rfl,?_,?_⟩
   ·simp only [cond_true,List.append_nil]
    rw [←hq2];exact G
   ·exact oS _ _ _ hq1 (hcs.rel E' G.w (.inr (BA _ _ hq1 hfl.1)) hren)
  | false=>
   have hm' :∀ n,m≤n→n<m+C.K→¬(cE E (hss args)).U n:=hm
   obtain ⟨E',G,hren,hs⟩:=LI hSE hm' (S1:=(cE E (hss args)).S) (fun b hb=>hb) hEc hacc hlenK (.inl fun b hb=>hb)
   refine ⟨E',v',rfl,⟨G.rel,XS.trans G.ext,G.w,?_,G.u⟩,?_⟩
   ·rw [G.h,hq2]
    simp only [cond_false]
    rw [dN]
    congr 1
    funext h
    exact (l7 E.H (hss args) h).symm
   ·exact oS _ _ _ hq1 (hcs.rel E' G.w (.inl (hs fun b hb=>hb)) hren)
end
section
open Go.RowKit
variable {P:Program}
structure Nam where
 σ:List (Nat×Nat)
 Z:List Nat
 nx:Nat
def Nam.at (M:Nam) (n:Nat):Nat:=match find M.σ n with|some k=>k|none=>n
def Nam.is (M:Nam) (n k:Nat):Bool:=Nat.blt n M.nx&&(Nat.beq (M.at n) k&&!memN M.Z n)
def Nam.vs (M:Nam) (n k:Nat):Bool:=Nat.blt n M.nx&&Nat.beq (M.at n) k
mutual
def dL (M:Nam):V→V→Prop
 | _,.any=>True
 | .int k n,.int k' n'=>ifB (decide (k=k')) (n=n')
 | .bool b,.bool b'=>b=b'
 | .bool b,.kb b'=>b=b'
 | .kb b,.bool b'=>b=b'
 | .kb b,.kb b'=>b=b'
 | .str s,.str s'=>s=s'
 | .nilptr,.nilptr=>True
 | .nilfn,.nilfn=>True
 | .nilmap,.nilmap=>True
 | .nilsl,.nilsl=>True
 | .esl,.esl=>True
 | .nilsl,.esl=>True
 | .nilsl,.fsl _ xs=>xs=[]
 | .esl,.fsl _ xs=>xs=[]
 | .fsl t xs,.fsl t' xs'=>RowD.mk t xs=RowD.mk t' xs'
 | .ptr h off,.ptr h' off'=>ifB (M.is h' h&&Nat.beq off off') True
 | .fp t xs i off,.fp t' xs' i' off'=>ifB (Nat.beq off off') (RowD.mk t xs=RowD.mk t' xs'∧i=i')
 | .rp h ver i off,.rp h' ver' i' off'=>ifB (M.is h' h&&M.vs ver' ver&&Nat.beq off off') (i=i')
 | .osl h ver,.osl h' ver'=>ifB (M.is h' h&&M.vs ver' ver) True
 | .gsl h ver e o l,.gsl h' ver' e' o' l'=>ifB (M.is h' h&&M.vs ver' ver&&(Nat.beq e e'&&Nat.beq o o'&&Nat.beq l l')) True
 | .nilsl,.osl h' ver'=>ifB (memN M.Z h'&&Nat.blt h' M.nx&&Nat.blt ver' M.nx) True
 | .esl,.osl h' ver'=>ifB (memN M.Z h'&&Nat.blt h' M.nx&&Nat.blt ver' M.nx) True
 | .av k h,.av k' h'=>ifB (M.is h' h&&Nat.beq k k') True
 | .fn f cs,.fn f' cs'=>ifB (Nat.beq f f') (gL M cs cs')
 | .agg cs,.agg cs'=>gL M cs cs'
 | .tup cs,.tup cs'=>gL M cs cs'
 | _,_=>False
def gL (M:Nam):List V→List V→Prop
 | [],[]=>True
 | x::xs,y::ys=>dL M x y∧gL M xs ys
 | _,_=>False
end
def hZ (M:Nam):Blk→Blk→Prop
 | .cells cs,.cells cs'=>gL M cs cs'
 | .row ver rw t xs,.row ver' rw' t' xs'=>ifB (M.vs ver' ver&&(rw==rw')) (RowD.mk t xs=RowD.mk t' xs')
 | .grow ver e cs,.grow ver' e' cs'=>ifB (M.vs ver' ver&&Nat.beq e e') (gL M cs cs')
 | .abs k t x,.abs k' t' x'=>ifB (Nat.beq k k') (AbsD.mk t x=AbsD.mk t' x')
 | _,_=>False
def JH (M:Nam) (tm:List (Nat×V)):List (Nat×V)→Prop
 | []=>True
 |(s,v)::r=>dL M (fD tm s) v∧JH M tm r
def ue (M:Nam):Blk→Prop
 | .row ver _ _ xs=>ifB (Nat.blt ver M.nx) (xs=[])
 | _=>False
def pR (M:Nam) (H:bj):List (Nat×Blk)→Prop
 | []=>True
 |(h,k)::r=>ifB (Nat.blt h M.nx) (match memN M.Z h with
   | true=>ue M k
   | false=>match H (M.at h) with
    | some k0=>hZ M k0 k
    | none=>False)∧pR M H r
def jX:List Nat→Bool
 | []=>true
 | x::xs=>!memN xs x&&jX xs
theorem nodupN_iff {l:List Nat}:jX l=true↔l.Nodup:=by
 induction l with
 | nil=>simp [jX]
 | cons x xs ih=>
  simp only [jX,Bool.and_eq_true,ih,List.nodup_cons,Bool.not_eq_true']
  constructor
  ·rintro ⟨h1,h2⟩;exact ⟨(fun h=>by rw [memN_iff.2 h] at h1;cases h1),h2⟩
  ·rintro ⟨h1,h2⟩;exact ⟨by cases h:memN xs x with|true=>exact absurd (memN_iff.1 h) h1|false=>rfl,h2⟩
theorem iu {α β:Type} {f:α→β} :∀ {l:List α},(l.map f).Nodup→∀ {x y:α},x∈l→y∈l→f x=f y→x=y
 | [],_,_,_,hx,_,_=>by simp at hx
 | a::l,h,x,y,hx,hy,e=>by
  simp only [List.map_cons,List.nodup_cons,List.mem_map,not_exists,not_and] at h
  rcases List.mem_cons.1 hx with h1|h1
  ·rcases List.mem_cons.1 hy with h2|h2
   ·rw [h1,h2]
   ·exact absurd (by rw [←e,h1]) (h.1 y h2)
  ·rcases List.mem_cons.1 hy with h2|h2
   ·exact absurd (by rw [e,h2]) (h.1 x h1)
   ·exact iu h.2 h1 h2 e
def Sub (M:Nam) (s:St) (tm:List (Nat×V)) (hp:List (Nat×Blk)):Prop:=
 ifB (jX (((hp.map (·.1)).filter fun h=>!memN M.Z h).map M.at)) (JH M s.tm tm∧pR M s.H hp)
def cd (M:Nam) (E:Env) (hp:List (Nat×Blk)):Env:=⟨fun n=>n<M.nx,fun h=>if memN M.Z h then none else E.ρ (M.at h),E.S,E.w,aY (fun _=>none) hp⟩
theorem fa {M:Nam} {H:bj} :∀ {hp:List (Nat×Blk)} {h:Nat} {k:Blk},pR M H hp→(h,k)∈hp→h<M.nx∧((memN M.Z h=true∧ue M k)∨(memN M.Z h=false∧∃ k0,H (M.at h)=some k0∧hZ M k0 k))
 | [],_,_,_,hm=>by simp at hm
 |(n,v)::r,h,k,hs,hm=>by
  simp only [pR] at hs
  rcases List.mem_cons.1 hm with hm|hm
  ·cases hm
   obtain ⟨h1,h2⟩:=ifB_iff.1 hs.1
   refine ⟨by simpa using h1,?_⟩
   cases hz:memN M.Z n with
   | true=>rw [hz] at h2;exact .inl ⟨rfl,h2⟩
   | false=>
    rw [hz] at h2
    simp only at h2
    split at h2
    ·rename_i k0 hk;exact .inr ⟨rfl,k0,hk,h2⟩
    ·exact h2.elim
  ·exact fa hs.2 hm
section
variable {M:Nam} {E:Env} {hp:List (Nat×Blk)}
theorem is_iff {n k:Nat}:M.is n k=true↔n<M.nx∧M.at n=k∧memN M.Z n=false:=by
 simp only [Nam.is,Bool.and_eq_true,Nat.blt_eq,Nat.beq_eq,Bool.not_eq_true']
theorem vs_iff {n k:Nat}:M.vs n k=true↔n<M.nx∧M.at n=k:=by
 simp only [Nam.vs,Bool.and_eq_true,Nat.blt_eq,Nat.beq_eq]
theorem OD (hh:pR M E.H hp) {h ver:Nat} {rw:Bool} {t:Ty} {xs:List (Den t)} (hx:aY (fun _=>none) hp h=some (.row ver rw t xs)) :
  (memN M.Z h=true∧xs=[])∨(memN M.Z h=false∧E.H (M.at h)=some (.row (M.at ver) rw t xs)):=by
 have hf:find hp h=some (.row ver rw t xs):=by unfold aY at hx;cases hf:find hp h with|some k=>rw [hf] at hx;exact hx|none=>rw [hf] at hx;cases hx
 obtain ⟨_,h2⟩:=fa hh (aD hf)
 rcases h2 with ⟨hz,h3⟩ |⟨hz,k0,h3,h4⟩
 ·simp only [ue] at h3
  exact .inl ⟨hz,(ifB_iff.1 h3).2⟩
 ·cases k0 with
  | cells=>simp [hZ] at h4
  | grow=>simp [hZ] at h4
  | mp=>simp [hZ] at h4
  | abs=>simp [hZ] at h4
  | row ver0 rw0 t0 xs0=>
   simp only [hZ] at h4
   obtain ⟨h5,h6⟩:=ifB_iff.1 h4
   simp only [Bool.and_eq_true,beq_iff_eq] at h5
   obtain ⟨_,h7⟩:=vs_iff.1 h5.1
   cases h6
   rw [h3,←h7,h5.2]
   exact .inr ⟨hz,rfl⟩
theorem xV (hh:pR M E.H hp) {h:Nat} {cs:List V} (hx:aY (fun _=>none) hp h=some (.cells cs)):memN M.Z h=false∧∃ cs0,E.H (M.at h)=some (.cells cs0)∧gL M cs0 cs:=by
 have hf:find hp h=some (.cells cs):=by unfold aY at hx;cases hf:find hp h with|some k=>rw [hf] at hx;exact hx|none=>rw [hf] at hx;cases hx
 obtain ⟨_,h2⟩:=fa hh (aD hf)
 rcases h2 with ⟨hz,h3⟩ |⟨hz,k0,h3,h4⟩
 ·simp [ue] at h3
 ·cases k0 with
  | cells cs0=>exact ⟨hz,cs0,h3,h4⟩
  | row=>simp [hZ] at h4
  | grow=>simp [hZ] at h4
  | mp=>simp [hZ] at h4
  | abs=>simp [hZ] at h4
theorem OC (hh:pR M E.H hp) {h k:Nat} {t:Ty} {x:Den t} (hx:aY (fun _=>none) hp h=some (.abs k t x)):memN M.Z h=false∧E.H (M.at h)=some (.abs k t x):=by
 have hf:find hp h=some (.abs k t x):=by unfold aY at hx;cases hf:find hp h with|some k=>rw [hf] at hx;exact hx|none=>rw [hf] at hx;cases hx
 obtain ⟨_,h2⟩:=fa hh (aD hf)
 rcases h2 with ⟨_,h3⟩ |⟨hz,k0,h3,h4⟩
 ·simp [ue] at h3
 ·cases k0 with
  | cells=>simp [hZ] at h4
  | row=>simp [hZ] at h4
  | grow=>simp [hZ] at h4
  | mp=>simp [hZ] at h4
  | abs k0 t0 x0=>
   simp only [hZ] at h4
   obtain ⟨h5,h6⟩:=ifB_iff.1 h4
   simp only [Nat.beq_eq] at h5
   subst h5
   cases h6
   exact ⟨hz,h3⟩
theorem LB (hh:pR M E.H hp) {h:Nat} {es:List (V×V)} (hx:aY (fun _=>none) hp h=some (.mp es)):False:=by
 have hf:find hp h=some (.mp es):=by unfold aY at hx;cases hf:find hp h with|some k=>rw [hf] at hx;exact hx|none=>rw [hf] at hx;cases hx
 obtain ⟨_,h2⟩:=fa hh (aD hf)
 rcases h2 with ⟨_,h3⟩ |⟨_,k0,_,h4⟩
 ·simp [ue] at h3
 ·cases k0 <;> simp [hZ] at h4
theorem AV (hh:pR M E.H hp) {h ver esz:Nat} {cs:List V} (hx:aY (fun _=>none) hp h=some (.grow ver esz cs)):memN M.Z h=false∧ver<M.nx∧∃ cs0,E.H (M.at h)=some (.grow (M.at ver) esz cs0)∧gL M cs0 cs:=by
 have hf:find hp h=some (.grow ver esz cs):=by unfold aY at hx;cases hf:find hp h with|some k=>rw [hf] at hx;exact hx|none=>rw [hf] at hx;cases hx
 obtain ⟨_,h2⟩:=fa hh (aD hf)
 rcases h2 with ⟨hz,h3⟩ |⟨hz,k0,h3,h4⟩
 ·simp [ue] at h3
 ·cases k0 with
  | cells=>simp [hZ] at h4
  | row=>simp [hZ] at h4
  | mp=>simp [hZ] at h4
  | abs=>simp [hZ] at h4
  | grow ver0 esz0 cs0=>
   simp only [hZ] at h4
   obtain ⟨h5,h6⟩:=ifB_iff.1 h4
   simp only [Bool.and_eq_true,Nat.beq_eq] at h5
   obtain ⟨h7,h8⟩:=vs_iff.1 h5.1
   rw [h3,h8,←h5.2]
   exact ⟨hz,h7,cs0,rfl,h6⟩
structure HSub0 (M:Nam) (E:Env) (hp:List (Nat×Blk)):Prop where
 lt :∀ h k,find hp h=some k→h<M.nx
 row :∀ (h ver:Nat) (rw:Bool) (t:Ty) (xs:List (Den t)),find hp h=some (.row ver rw t xs)→ver<M.nx∧((memN M.Z h=true∧xs=[])∨(memN M.Z h=false∧E.H (M.at h)=some (.row (M.at ver) rw t xs)))
 cells :∀ h cs,find hp h=some (.cells cs)→memN M.Z h=false∧∃ cs0,E.H (M.at h)=some (.cells cs0)
 grow :∀ h ver esz cs,find hp h=some (.grow ver esz cs)→memN M.Z h=false∧ver<M.nx∧∃ cs0,E.H (M.at h)=some (.grow (M.at ver) esz cs0)∧cs0.length=cs.length
 nomp :∀ h es,find hp h=some (.mp es)→False
 abs :∀ (h k:Nat) (t:Ty) (x:Den t),find hp h=some (.abs k t x)→memN M.Z h=false∧E.H (M.at h)=some (.abs k t x)
theorem bd {hp:List (Nat×Blk)} {h:Nat} {k:Blk} (hx:aY (fun _=>none) hp h=some k):find hp h=some k:=by
 unfold aY at hx;cases hf:find hp h with|some k=>rw [hf] at hx;exact hx|none=>rw [hf] at hx;cases hx
theorem dq {hp:List (Nat×Blk)} {h:Nat} {k:Blk} (hx:find hp h=some k):aY (fun _=>none) hp h=some k:=by
 unfold aY;rw [hx]
theorem JI (hh:HSub0 M E hp) {h ver:Nat} {rw:Bool} {t:Ty} {xs:List (Den t)} (hx:aY (fun _=>none) hp h=some (.row ver rw t xs)) :
  (memN M.Z h=true∧xs=[])∨(memN M.Z h=false∧E.H (M.at h)=some (.row (M.at ver) rw t xs)):=(hh.row _ _ _ _ _ (bd hx)).2
theorem LA (hh:HSub0 M E hp) {h:Nat} {cs:List V} (hx:aY (fun _=>none) hp h=some (.cells cs)):memN M.Z h=false∧∃ cs0,E.H (M.at h)=some (.cells cs0):=hh.cells _ _ (bd hx)
theorem QB (hh:HSub0 M E hp) {h k:Nat} {t:Ty} {x:Den t} (hx:aY (fun _=>none) hp h=some (.abs k t x)):memN M.Z h=false∧E.H (M.at h)=some (.abs k t x):=hh.abs _ _ _ _ (bd hx)
theorem Ov (hh:HSub0 M E hp) {h ver esz:Nat} {cs:List V} (hx:aY (fun _=>none) hp h=some (.grow ver esz cs)):memN M.Z h=false∧ver<M.nx∧∃ cs0,E.H (M.at h)=some (.grow (M.at ver) esz cs0)∧cs0.length=cs.length:=hh.grow _ _ _ _ (bd hx)
theorem AR {M:Nam} :∀ {xs ys:List V},gL M xs ys→xs.length=ys.length
 | [],[],_=>rfl
 | _::_,[],h=>by simp [gL] at h
 | [],_::_,h=>by simp [gL] at h
 | x::xs,y::ys,h=>by simp only [gL] at h;simp [AR h.2]
mutual
theorem mF (hh:HSub0 M E hp) :∀ (x v:V) (u:Value),dL M x v→af E x u→af (cd M E hp) v u
 | x,.any,u,_,_=>by simp [af]
 | x,.int k n,u,h,hv=>by
  cases x <;> simp only [dL] at h
  obtain ⟨h1,rfl⟩:=ifB_iff.1 h
  obtain rfl:=of_decide_eq_true h1
  simpa [af] using hv
 | x,.bool b,u,h,hv=>by
  cases x <;> simp only [dL] at h
  all_goals subst h;simpa [af] using hv
 | x,.kb b,u,h,hv=>by
  cases x <;> simp only [dL] at h
  all_goals subst h;simpa [af] using hv
 | x,.str s,u,h,hv=>by
  cases x <;> simp only [dL] at h
  subst h;simpa [af] using hv
 | x,.nilptr,u,h,hv=>by cases x <;> simp only [dL] at h;simpa [af] using hv
 | x,.hint _ _,u,h,hv=>by cases x <;> simp only [dL] at h
 | x,.nilfn,u,h,hv=>by cases x <;> simp only [dL] at h;simpa [af] using hv
 | x,.nilmap,u,h,hv=>by cases x <;> simp only [dL] at h;simpa [af] using hv
 | x,.nilsl,u,h,hv=>by cases x <;> simp only [dL] at h;simpa [af] using hv
 | x,.esl,u,h,hv=>by
  cases x <;> simp only [dL] at h
  ·simp only [af] at hv ⊢;exact ⟨_,hv⟩
  ·simpa [af] using hv
 | x,.fsl t xs,u,h,hv=>by
  cases x <;> simp only [dL] at h
  ·subst h;simp only [af] at hv ⊢;subst hv;exact .nil
  ·subst h;simp only [af] at hv ⊢;obtain ⟨a,rfl⟩:=hv;exact .nil
  ·cases h;simpa [af,cd] using hv
 | x,.ptr h0 off,u,h,hv=>by
  cases x <;> simp only [dL] at h
  obtain ⟨h1,_⟩:=ifB_iff.1 h
  simp only [Bool.and_eq_true,Nat.beq_eq] at h1
  obtain ⟨h2,rfl⟩:=h1
  obtain ⟨h3,rfl,hz⟩:=is_iff.1 h2
  simp only [af] at hv ⊢
  refine ⟨h3,hv.2.1,fun cs hx=>?_⟩
  obtain ⟨_,cs0,hx0⟩:=LA hh hx
  obtain ⟨b,hb,hu⟩:=hv.2.2 _ hx0
  exact ⟨b,by simp only [cd,hz,Bool.false_eq_true,if_false];exact hb,hu⟩
 | x,.fp t xs i off,u,h,hv=>by
  cases x <;> simp only [dL] at h
  obtain ⟨h1,h2,rfl⟩:=ifB_iff.1 h
  simp only [Nat.beq_eq] at h1
  subst h1
  cases h2
  simpa [af,cd] using hv
 | x,.rp h0 ver i off,u,h,hv=>by
  cases x <;> simp only [dL] at h
  obtain ⟨h1,rfl⟩:=ifB_iff.1 h
  simp only [Bool.and_eq_true,Nat.beq_eq] at h1
  obtain ⟨⟨h2,h4⟩,rfl⟩:=h1
  obtain ⟨h3,rfl,hz⟩:=is_iff.1 h2
  obtain ⟨h5,rfl⟩:=vs_iff.1 h4
  simp only [af] at hv ⊢
  refine ⟨h3,h5,hv.2.2.1,fun rw t xs hx=>?_⟩
  rcases JI hh hx with ⟨hz',_⟩ |⟨_,hx0⟩
  ·rw [hz] at hz';cases hz'
  ·obtain ⟨b,hb,hu⟩:=hv.2.2.2 _ _ _ hx0
   exact ⟨b,by simp only [cd,hz,Bool.false_eq_true,if_false];exact hb,hu⟩
 | x,.osl h0 ver,u,h,hv=>by
  have zero :∀ (a:Option Addr),u = .slice a 0 0→(memN M.Z h0&&Nat.blt h0 M.nx&&Nat.blt ver M.nx)=true→af (cd M E hp) (.osl h0 ver) u:=fun a hu h1=>by
   simp only [Bool.and_eq_true,Nat.blt_eq] at h1
   simp only [af]
   refine ⟨h1.1.2,h1.2,⟨_,_,_,hu⟩,fun rw t xs hx=> .inl ⟨by simp only [cd,h1.1.1,if_true],a,hu⟩⟩
  cases x <;> simp only [dL] at h
  ·simp only [af] at hv;exact zero none hv (ifB_iff.1 h).1
  ·simp only [af] at hv;obtain ⟨a,hv⟩:=hv;exact zero a hv (ifB_iff.1 h).1
  ·obtain ⟨h1,_⟩:=ifB_iff.1 h
   simp only [Bool.and_eq_true] at h1
   obtain ⟨h3,rfl,hz⟩:=is_iff.1 h1.1
   obtain ⟨h5,rfl⟩:=vs_iff.1 h1.2
   simp only [af] at hv ⊢
   refine ⟨h3,h5,hv.2.2.1,fun rw t xs hx=>?_⟩
   rcases JI hh hx with ⟨hz',_⟩ |⟨_,hx0⟩
   ·rw [hz] at hz';cases hz'
   ·have e :(cd M E hp).ρ h0=E.ρ (M.at h0):=by simp only [cd,hz,Bool.false_eq_true,if_false]
    rw [e]
    exact hv.2.2.2 _ _ _ hx0
 | x,.fn f cs,u,h,hv=>by
  cases x <;> simp only [dL] at h
  obtain ⟨h1,h2⟩:=ifB_iff.1 h
  simp only [Nat.beq_eq] at h1
  subst h1
  simp only [af] at hv ⊢
  obtain ⟨l,rfl,hl⟩:=hv
  exact ⟨l,rfl,gl hh _ _ _ h2 hl⟩
 | x,.agg cs,u,h,hv=>by
  cases x <;> simp only [dL] at h
  simp only [af] at hv ⊢
  obtain ⟨l,rfl,hl⟩:=hv
  exact ⟨l,rfl,gl hh _ _ _ h hl⟩
 | x,.tup cs,u,h,hv=>by
  cases x <;> simp only [dL] at h
  simp only [af] at hv ⊢
  obtain ⟨l,rfl,hl⟩:=hv
  exact ⟨l,rfl,gl hh _ _ _ h hl⟩
 | x,.gsl h0 ver e o l,u,h,hv=>by
  cases x <;> simp only [dL] at h
  obtain ⟨h1,_⟩:=ifB_iff.1 h
  simp only [Bool.and_eq_true,Nat.beq_eq] at h1
  obtain ⟨⟨h2,h4⟩,⟨rfl,rfl⟩,rfl⟩:=h1
  obtain ⟨h3,rfl,hz⟩:=is_iff.1 h2
  obtain ⟨h5,rfl⟩:=vs_iff.1 h4
  simp only [af] at hv ⊢
  refine ⟨h3,h5,hv.2.2.1,fun cs hx=>?_⟩
  obtain ⟨_,_,cs0,hx0,hs⟩:=Ov hh hx
  obtain ⟨b,cap,c,T,fr,q1,q2,q3,q4,q5,q6⟩:=hv.2.2.2 _ hx0
  exact ⟨b,cap,c,T,fr,by simp only [cd,hz,Bool.false_eq_true,if_false];exact q1,q2,q3,q4,q5,by rw [←hs];exact q6⟩
 | x,.gp _ _ _,u,h,hv=>by cases x <;> simp only [dL] at h
 | x,.mpv _,u,h,hv=>by cases x <;> simp only [dL] at h
 | x,.av k h0,u,h,hv=>by
  cases x <;> simp only [dL] at h
  obtain ⟨h1,_⟩:=ifB_iff.1 h
  simp only [Bool.and_eq_true,Nat.beq_eq] at h1
  obtain ⟨h2,rfl⟩:=h1
  obtain ⟨h3,rfl,hz⟩:=is_iff.1 h2
  simp only [af] at hv ⊢
  refine ⟨h3,hv.2.1,fun t x hx=>?_⟩
  obtain ⟨_,hx0⟩:=QB hh hx
  obtain ⟨b,hb,hu⟩:=hv.2.2 _ _ hx0
  exact ⟨b,by simp only [cd,hz,Bool.false_eq_true,if_false];exact hb,hu⟩
theorem gl (hh:HSub0 M E hp) :∀ (xs vs:List V) (us:List Value),gL M xs vs→ah E xs us→ah (cd M E hp) vs us
 | [],[],us,_,hv=>by cases us <;> simp_all [ah]
 | [],_::_,_,h,_=>by simp [gL] at h
 | _::_,[],_,h,_=>by simp [gL] at h
 | x::xs,v::vs,us,h,hv=>by
  cases us with
  | nil=>simp [ah] at hv
  | cons u us=>
   simp only [gL] at h
   simp only [ah] at hv ⊢
   exact ⟨mF hh _ _ _ h.1 hv.1,gl hh _ _ _ h.2 hv.2⟩
end
theorem xT {tm:List (Nat×V)} :∀ {tm':List (Nat×V)} {s:Nat} {v:V},JH M tm tm'→(s,v)∈tm'→dL M (fD tm s) v
 | [],_,_,_,hm=>by simp at hm
 |(n,x)::r,s,v,h,hm=>by
  simp only [JH] at h
  rcases List.mem_cons.1 hm with hm|hm
  ·cases hm;exact h.1
  ·exact xT h.2 hm
structure HSub (M:Nam) (E:Env) (hp:List (Nat×Blk)):Prop extends HSub0 M E hp where
 rcells :∀ h cs cs0,find hp h=some (.cells cs)→E.H (M.at h)=some (.cells cs0)→∀ l,ah E cs0 l→ah (cd M E hp) cs l
 rgrow :∀ h ver esz cs cs0,find hp h=some (.grow ver esz cs)→E.H (M.at h)=some (.grow (M.at ver) esz cs0)→∀ l,ah E cs0 l→ah (cd M E hp) cs l
theorem Lz (hh:pR M E.H hp):HSub M E hp:=by
 have h0:HSub0 M E hp:=by
  refine ⟨fun h k hf=>(fa hh (aD hf)).1,fun h ver rw t xs hf=>⟨?_,OD hh (dq hf)⟩,fun h cs hf=>?_,fun h ver esz cs hf=>?_,fun h es hf=>LB hh (dq hf),fun h k t x hf=>OC hh (dq hf)⟩
  ·obtain ⟨_,h2⟩:=fa hh (aD hf)
   rcases h2 with ⟨_,h3⟩ |⟨_,k0,_,h4⟩
   ·simp only [ue] at h3;simpa using (ifB_iff.1 h3).1
   ·cases k0 with
    | cells=>simp [hZ] at h4
    | grow=>simp [hZ] at h4
    | mp=>simp [hZ] at h4
    | abs=>simp [hZ] at h4
    | row=>
     simp only [hZ] at h4
     have:=(ifB_iff.1 h4).1
     simp only [Bool.and_eq_true] at this
     exact (vs_iff.1 this.1).1
  ·obtain ⟨hz,cs0,hx,_⟩:=xV hh (dq hf)
   exact ⟨hz,cs0,hx⟩
  ·obtain ⟨hz,hv,cs0,hx,hs⟩:=AV hh (dq hf)
   exact ⟨hz,hv,cs0,hx,AR hs⟩
 refine ⟨h0,fun h cs cs0 hf hx l hl=>?_,fun h ver esz cs cs0 hf hx l hl=>?_⟩
 ·obtain ⟨_,cs1,hx1,hs⟩:=xV hh (dq hf)
  rw [hx] at hx1;cases hx1
  exact gl h0 _ _ _ hs hl
 ·obtain ⟨_,_,cs1,hx1,hs⟩:=AV hh (dq hf)
  rw [hx] at hx1;cases hx1
  exact gl h0 _ _ _ hs hl
theorem FN (hh:HSub0 M E hp) {h b:Nat} {k:Blk} (hf:find hp h=some k) (hb:Tch (cd M E hp) h k b):memN M.Z h=false∧∃ k0,E.H (M.at h)=some k0∧Tch E (M.at h) k0 b:=by
 cases ha:k.isAbs with
 | true=>
  cases k <;> cases ha
  rename_i kk t x
  obtain ⟨hz,h0⟩:=hh.abs _ _ _ _ hf
  exact ⟨hz,_,h0,Tch.mv (E':=cd M E hp) (by simp only [cd,hz,Bool.false_eq_true,if_false]) (fun _ _=>rfl) hb⟩
 | false=>
  replace hb:=hb.of ha
  have hz:memN M.Z h=false:=by
   cases hz:memN M.Z h with
   | false=>rfl
   | true=>simp only [cd,hz,if_true] at hb;cases hb
  simp only [cd,hz,Bool.false_eq_true,if_false] at hb
  refine ⟨hz,?_⟩
  cases k with
  | cells cs=>obtain ⟨_,cs0,h⟩:=hh.cells _ _ hf;exact ⟨_,h,.inl hb⟩
  | row ver rw t xs=>
   rcases (hh.row _ _ _ _ _ hf).2 with ⟨hz',_⟩ |⟨_,h⟩
   ·rw [hz] at hz';cases hz'
   ·exact ⟨_,h,.inl hb⟩
  | grow ver esz cs=>obtain ⟨_,_,cs0,h,_⟩:=hh.grow _ _ _ _ hf;exact ⟨_,h,.inl hb⟩
  | mp es=>exact (hh.nomp _ _ hf).elim
  | abs=>cases ha
theorem rN {B:Base} (hE:HRel B E) (hh:HSub M E hp) (hn:jX (((hp.map (·.1)).filter fun h=>!memN M.Z h).map M.at)=true):HRel B (cd M E hp):=by
 have hfind :∀ h k,(cd M E hp).H h=some k→find hp h=some k:=fun h k hx=>bd hx
 have old :∀ h k b,(cd M E hp).H h=some k→Tch (cd M E hp) h k b→memN M.Z h=false∧∃ k0,E.H (M.at h)=some k0∧Tch E (M.at h) k0 b:=fun h k b hx hb=>FN hh.toHSub0 (hfind _ _ hx) hb
 refine ⟨fun h k hx=>hh.lt _ _ (hfind _ _ hx),hE.stab,fun h k b hx hb=>?_,fun h h' k k' b h1 h2 b1 b2=>?_,fun h k hx=>?_,hE.keeps,fun h k b hx hb=>?_,hE.s0,hE.sb⟩
 ·obtain ⟨_,k0,h1,h2⟩:=old h k b hx hb
  exact hE.lt' _ _ _ h1 h2
 ·obtain ⟨z1,q1,x1,y1⟩:=old h k b h1 b1
  obtain ⟨z2,q2,x2,y2⟩:=old h' k' b h2 b2
  have e:=hE.inj' _ _ _ _ _ x1 x2 y1 y2
  have nd:=nodupN_iff.1 hn
  have mem :∀ {h k},(h,k)∈hp→memN M.Z h=false→h∈((hp.map (·.1)).filter fun h=>!memN M.Z h):=fun {h k} hm hz=>by
   rw [List.mem_filter]
   exact ⟨List.mem_map.2 ⟨_,hm,rfl⟩,by simp [hz]⟩
  exact iu nd (mem (aD (hfind _ _ h1)) z1) (mem (aD (hfind _ _ h2)) z2) e
 ·cases k with
  | cells cs=>
   obtain ⟨hz,cs0,hx0⟩:=hh.cells _ _ (hfind _ _ hx)
   obtain ⟨b,c,T,fr,h1,h2,h3,h4,h5⟩:=hE.blk _ _ hx0
   exact ⟨b,c,T,fr,by simp only [cd,hz,Bool.false_eq_true,if_false];exact h1,h2,h3,h4,hh.rcells _ _ _ (hfind _ _ hx) hx0 _ h5⟩
  | row ver rw t xs=>
   obtain ⟨hv,hr⟩:=hh.row _ _ _ _ _ (hfind _ _ hx)
   refine ⟨hv,?_⟩
   rcases hr with ⟨hz,rfl⟩ |⟨hz,hx0⟩
   ·exact .inl ⟨by simp only [cd,hz,if_true],rfl⟩
   ·have e :(cd M E hp).ρ h=E.ρ (M.at h):=by simp only [cd,hz,Bool.false_eq_true,if_false]
    rw [e]
    exact (hE.blk _ _ hx0).2
  | grow ver esz cs=>
   obtain ⟨hz,hv,cs0,hx0,hl⟩:=hh.grow _ _ _ _ (hfind _ _ hx)
   obtain ⟨_,b,c,T,fr,h1,h2,h3,h4,h5⟩:=hE.blk _ _ hx0
   exact ⟨hv,b,c,T,fr,by simp only [cd,hz,Bool.false_eq_true,if_false];exact h1,h2,h3,h4,by rw [←hl];exact hh.rgrow _ _ _ _ _ (hfind _ _ hx) hx0 _ h5⟩
  | mp=>exact (hh.nomp _ _ (hfind _ _ hx)).elim
  | abs kk t x=>
   obtain ⟨hz,hx0⟩:=hh.abs _ _ _ _ (hfind _ _ hx)
   obtain ⟨b,h1,h2,h3,h4⟩:=hE.blk _ _ hx0
   exact ⟨b,by simp only [cd,hz,Bool.false_eq_true,if_false];exact h1,h2,h3,h4⟩
 ·obtain ⟨_,k0,h1,h2⟩:=old h k b hx hb
  exact hE.own' _ _ _ h1 h2
def IY (M:Nam) (n:Nat):Bool:=Nat.beq (M.at n) n&&!memN M.Z n
def OI:Blk→Option Nat
 | .row v _ _ _=>some v
 | .grow v _ _=>some v
 | _=>none
def BW:List (Nat×Blk)→List (Nat×Option Nat)
 | []=> []
 |(h,b)::l=>(h,OI b)::BW l
def xe (p:Nat) (M:Nam) (h:Nat):Option Nat→Bool
 | none=>IY M h
 | some v=>bif Nat.blt v p then IY M h&&Nat.beq (M.at v) v else true
def kf (p:Nat) (M:Nam):List (Nat×Option Nat)→Bool
 | []=>Nat.ble p M.nx
 |(h,o)::l=>bif (bif Nat.blt h p then xe p M h o else true) then kf p M l else false
theorem Aq {p:Nat} {M:Nam} :∀ {l:List (Nat×Option Nat)},kf p M l=true→p≤M.nx
 | [],h=>Nat.le_of_ble_eq_true h
 |(n,o)::l,h=>by
  simp only [kf] at h
  cases hb :(bif Nat.blt n p then xe p M n o else true) with
  | true=>rw [hb] at h;exact Aq (l:=l) h
  | false=>rw [hb] at h;cases h
theorem qw {p:Nat} {M:Nam} :∀ {l:List (Nat×Option Nat)},kf p M l=true→∀ {n:Nat} {o:Option Nat},(n,o)∈l→n<p→xe p M n o=true
 |(k,o')::l,h,n,o,hm,hn=>by
  simp only [kf] at h
  cases hb :(bif Nat.blt k p then xe p M k o' else true) with
  | true=>
   rw [hb] at h
   rcases List.mem_cons.1 hm with he|hm
   ·obtain ⟨h1,h2⟩:=Prod.mk.inj he
    subst h1 h2
    rw [show Nat.blt _ p=true from by simpa [Nat.blt_eq] using hn] at hb
    exact hb
   ·exact qw (l:=l) h hm hn
  | false=>rw [hb] at h;cases h
theorem sq {M:Nam} {n:Nat} (h:IY M n=true):M.at n=n∧memN M.Z n=false:=by
 simpa [IY,Nat.beq_eq] using h
theorem EI {hp:List (Nat×Blk)} {h:Nat} {b:Blk} (hm :(h,b)∈hp) :(h,OI b)∈BW hp:=by
 induction hp with
 | nil=>cases hm
 | cons z l ih=>
  simp only [BW]
  rcases List.mem_cons.1 hm with he|hm
  ·subst he;exact List.mem_cons_self
  ·exact List.mem_cons_of_mem _ (ih hm)
theorem EL {p:Nat} {M:Nam} {hp:List (Nat×Blk)} (h:kf p M (BW hp)=true) {n v:Nat} {b:Blk} (hm :(n,b)∈hp) (hb:OI b=some v) (hn:n<p) (hv:v<p):M.at n=n∧memN M.Z n=false∧M.at v=v:=by
 have h1:=qw h (EI hm) hn
 rw [hb] at h1
 simp only [xe,show Nat.blt v p=true from by simpa [Nat.blt_eq] using hv,cond_true,Bool.and_eq_true,Nat.beq_eq] at h1
 exact ⟨(sq h1.1).1,(sq h1.1).2,h1.2⟩
theorem xf {p:Nat} {M:Nam} {hp:List (Nat×Blk)} (h:kf p M (BW hp)=true) {n:Nat} {b:Blk} (hm :(n,b)∈hp) (hb:OI b=none) (hn:n<p):M.at n=n∧memN M.Z n=false:=by
 have h1:=qw h (EI hm) hn
 rw [hb] at h1
 exact sq h1
def Base.pins (p:Nat) (B:Base):Prop:=∀ M E hp,kf p M (BW hp)=true→HSub M E hp→B.G E→B.G (cd M E hp)
theorem Base.free.pins {B:Base} (h:B.free) (p:Nat):B.pins p:=fun _ _ _ _ _ _=>h _
theorem xU {B:Base} (hB:B.free) {N:Nat} {s:St} {tm:List (Nat×V)} (h:Sub M s tm hp) {a:Act} {w:World} (hs:gB B N s a w):gB B N ⟨tm,hp,fun _=>none,M.nx⟩ a w:=by
 obtain ⟨hn,ht,hh⟩:=ifB_iff.1 h
 obtain ⟨⟨E,hE,rfl,hH,_,hT⟩,hsz,hdf⟩:=hs
 rw [←hH] at hh
 have hs:=Lz hh
 refine ⟨⟨cd M E hp,rN hE hs hn,rfl,rfl,⟨hB _,fun n hn=>hn⟩,fun sl v hv=>?_⟩,hsz,hdf⟩
 exact mF hs.toHSub0 _ _ _ (xT ht (aD hv)) (du hT sl)
end
end
section
open Go.RowKit
variable {P:Program}
def mc:List (Nat×V)→List (Nat×V)
 | []=> []
 |(s,_)::r=>(s,.any)::mc r
def jV (n:Nat):List (Nat×Blk)→List (Nat×Blk)
 | []=> []
 |(h,_)::r=>(h,.row n true .unit [])::jV n r
def pI (st:St):Tr→Tr
 | .leaf e d nx=> .leaf e ⟨d.tm++mc st.tm,d.hp++jV (Nat.max nx st.nx) st.hp⟩ (Nat.max nx st.nx+1)
 | .br b t e=> .br b (pI st t) (pI st e)
 | .need p t=> .need p (pI st t)
 | .both t u=> .both (pI st t) (pI st u)
 | .when b t=> .when b (pI st t)
 | .done=> .done
 | .bad=> .bad
theorem fg {st:St} {Q:Lf→Dl→Nat→Prop} :∀ {t:Tr},(pI st t).sat Q→t.sat fun e d nx=>Q e ⟨d.tm++mc st.tm,d.hp++jV (Nat.max nx st.nx) st.hp⟩ (Nat.max nx st.nx+1)
 | .leaf _ _ _,h=>h
 | .br _ _ _,h=>⟨fun hb=>fg (h.1 hb),fun hb=>fg (h.2 hb)⟩
 | .need _ _,h=>⟨h.1,fg h.2⟩
 | .both _ _,h=>⟨fg h.1,fg h.2⟩
 | .when _ _,h=>fun hb=>fg (h hb)
 | .done,h=>h
 | .bad,h=>h
def wL (n:Nat):List (Nat×Blk)→Bool
 | []=>true
 |(h,_)::r=>Nat.blt h n&&wL n r
theorem wM {n:Nat} :∀ {l:List (Nat×Blk)} {h:Nat} {k:Blk},wL n l=true→find l h=some k→h<n
 | [],_,_,_,hf=>by simp [find] at hf
 |(x,v)::r,h,k,hl,hf=>by
  simp only [wL,Bool.and_eq_true,Nat.blt_eq] at hl
  simp only [find] at hf
  cases hb:Nat.beq x h with
  | true=>obtain rfl:=Nat.eq_of_beq_eq_true hb;exact hl.1
  | false=>rw [hb] at hf;exact wM hl.2 hf
theorem tt :∀ {l:List (Nat×V)} {s:Nat},find (mc l) s =(find l s).map fun _=> .any
 | [],s=>rfl
 |(x,v)::r,s=>by
  simp only [mc,find]
  cases Nat.beq x s with
  | true=>rfl
  | false=>exact tt
theorem tq {n:Nat} :∀ {l:List (Nat×Blk)} {s:Nat},find (jV n l) s =(find l s).map fun _=>Blk.row n true .unit []
 | [],s=>rfl
 |(x,v)::r,s=>by
  simp only [jV,find]
  cases Nat.beq x s with
  | true=>rfl
  | false=>exact tq
def cZ (H:bj):Prop:=H=fun _=>none
def ck (M:Nam) (J:St) (T:Tr):LoopSum:=
 ⟨fun st=>cZ st.H0∧ifB (wL st.nx st.hp) (Sub M st J.tm J.hp),fun st=>pI st T⟩
theorem uY {B:Base} {N:Nat} {st:St} (h0:st.H0=fun _=>none) (hl:wL st.nx st.hp=true) {tm:List (Nat×V)} {hp:List (Nat×Blk)} {nx:Nat} {a:Act} {w:World} (hs:gB B N ⟨tm,hp,fun _=>none,nx⟩ a w) :
  at_ B N st ⟨tm++mc st.tm,hp++jV (Nat.max nx st.nx) st.hp⟩ (Nat.max nx st.nx+1) a w:=by
 obtain ⟨⟨E,hE,rfl,hH,hU,hT⟩,hsz,hdf⟩:=hs
 let m:=Nat.max nx st.nx
 have hm1:nx≤m:=Nat.le_max_left _ _
 have hm2:st.nx≤m:=Nat.le_max_right _ _
 have hH:E.H=aY (fun _=>none) hp:=hH
 have hG:=hU.1
 have hU :∀ n,E.U n→n<nx:=hU.2
 have hT :∀ s v,find tm s=some v→af E v (a.tmps.getD s undef):=hT
 let E':Env:=⟨fun n=>n<m+1,fun h=>match find hp h with|some _=>E.ρ h|none=>none,E.S,E.w,aY st.H (hp++jV m st.hp)⟩
 have hnew :∀ h,E'.H h=match find hp h with|some k=>some k|none=>(match find st.hp h with|some _=>some (.row m true .unit [])|none=>none):=fun h=>by
  show aY st.H (hp++jV m st.hp) h=_
  unfold aY
  rw [cY,tq]
  cases find hp h with
  | some k=>rfl
  | none=>
   simp only
   cases hf:find st.hp h with
   | some k=>rfl
   | none=>
    simp only [Option.map_none]
    unfold St.H aY
    rw [hf,h0]
 have hold :∀ h k,find hp h=some k→E.H h=some k:=fun h k hf=>by rw [hH];unfold aY;rw [hf]
 have cases' :∀ h k,E'.H h=some k→(find hp h=some k∧E'.ρ h=E.ρ h)∨(k = .row m true .unit []∧E'.ρ h=none∧h<st.nx):=fun h k hk=>by
  rw [hnew h] at hk
  cases hf:find hp h with
  | some k'=>
   rw [hf] at hk
   simp only [Option.some.injEq] at hk
   subst hk
   exact .inl ⟨rfl,by show (match find hp h with|some _=>E.ρ h|none=>none)=_;rw [hf]⟩
  | none=>
   rw [hf] at hk
   simp only at hk
   cases hg:find st.hp h with
   | none=>rw [hg] at hk;cases hk
   | some k'=>
    rw [hg] at hk
    simp only [Option.some.injEq] at hk
    exact .inr ⟨hk.symm,by show (match find hp h with|some _=>E.ρ h|none=>none)=_;rw [hf],wM hl hg⟩
 have X:Ext E E':=by
  refine ⟨fun n hn=>?_,fun _ h=>h,fun _ _=>rfl,fun h cs hu hx=>?_,fun h ver rw t xs hu hv hx=>?_,fun h ver esz cs hu hv hx=>?_,fun h es hu hx=>?_,fun h kk t x hu hx=>?_⟩
  case refine_6=>
   rcases cases' _ _ hx with ⟨h1,h2⟩ |⟨h1,_⟩
   ·exact ⟨⟨x,hold _ _ h1⟩,h2⟩
   ·cases h1
  ·have:=hU n hn;show n<m+1;omega
  ·rcases cases' _ _ hx with ⟨h1,h2⟩ |⟨h1,_⟩
   ·exact ⟨⟨cs,hold _ _ h1⟩,h2⟩
   ·cases h1
  ·rcases cases' _ _ hx with ⟨h1,h2⟩ |⟨h1,_⟩
   ·exact ⟨rw,xs,hold _ _ h1,rfl,h2,fun b c T fr _ hw=>⟨c,T,fr,hw,rfl⟩⟩
   ·cases h1
    have:=hU _ hv
    omega
  ·rcases cases' _ _ hx with ⟨h1,h2⟩ |⟨h1,_⟩
   ·exact ⟨cs,hold _ _ h1,rfl,h2,fun b c T fr _ hw=>⟨c,T,fr,hw,rfl⟩⟩
   ·cases h1
  ·rcases cases' _ _ hx with ⟨h1,h2⟩ |⟨h1,_⟩
   ·exact ⟨⟨es,hold _ _ h1⟩,h2⟩
   ·cases h1
 have tno :∀ {h k b},E'.ρ h=none→Tch E' h k b→False:=fun h0 ht=>by
  rcases ht with h1 |⟨b0,h1,_⟩ <;> rw [h0] at h1 <;> cases h1
 have R:HRel B E':=by
  refine ⟨fun h k hx=>?_,hE.stab,fun h k b hx hb=>?_,fun h h' k k' b h1 h2 b1 b2=>?_,fun h k hx=>?_,hE.keeps,fun h k b hx hb=>?_,hE.s0,hE.sb⟩
  ·rcases cases' _ _ hx with ⟨h1,_⟩ |⟨_,_,h3⟩
   ·exact X.u _ (hE.used _ _ (hold _ _ h1))
   ·show h<m+1;omega
  ·rcases cases' _ _ hx with ⟨h1,h2⟩ |⟨_,h2,_⟩
   ·exact hE.lt' _ _ _ (hold _ _ h1) (hb.mv h2 fun _ _=>rfl)
   ·exact (tno h2 hb).elim
  ·rcases cases' _ _ h1 with ⟨x1,x2⟩ |⟨_,x2,_⟩
   ·rcases cases' _ _ h2 with ⟨y1,y2⟩ |⟨_,y2,_⟩
    ·exact hE.inj' _ _ _ _ _ (hold _ _ x1) (hold _ _ y1) (b1.mv x2 fun _ _=>rfl) (b2.mv y2 fun _ _=>rfl)
    ·exact (tno y2 b2).elim
   ·exact (tno x2 b1).elim
  ·rcases cases' _ _ hx with ⟨h1,h2⟩ |⟨rfl,h2,_⟩
   ·exact dp X h2 (fun _ _=>rfl) (fun _ _ _ h=>h) (hE.blk _ _ (hold _ _ h1))
   ·exact ⟨Nat.lt_succ_self m,.inl ⟨h2,rfl⟩⟩
  ·rcases cases' _ _ hx with ⟨h1,h2⟩ |⟨_,h2,_⟩
   ·exact hE.own' _ _ _ (hold _ _ h1) (hb.mv h2 fun _ _=>rfl)
   ·exact (tno h2 hb).elim
 refine ⟨⟨E',R,rfl,rfl,⟨B.clo _ _ hG X,fun n hn=>hn⟩,fun s v hv=>?_⟩,hsz,hdf⟩
 simp only [List.append_assoc] at hv
 rw [cY] at hv
 cases hf:find tm s with
 | some v'=>
  rw [hf] at hv
  simp only [Option.some.injEq] at hv
  subst hv
  exact cF X _ _ (hT _ _ hf)
 | none=>
  rw [hf] at hv
  simp only at hv
  rw [cY,tt] at hv
  cases hg:find st.tm s with
  | none=>rw [hg] at hv;simp at hv
  | some v'=>
   rw [hg] at hv
   simp only [Option.map_some,Option.some.injEq] at hv
   subst hv
   simp [af]
theorem O5 {C:Cfg} (hC:CfgOK P C) (hP:P.follows .mixedOrders=true) {body:Code} {α:Type} (I:α→St) (hI :∀ a,(I a).H0=fun _=>none) (inv:α→Prop) (μ:α→Nat) (Λ:α→Nat→Option LoopSum)
  (hΛ :∀ a,inv a→∀ b∈bh (Λ a) body,∀ L,Λ a (rid b)=some L→LoopOK P C.N b L) {T:Tr} {M0:Nam} {a0:α} (h0:inv a0) (hM:M0.nx =(I a0).nx)
  (step :∀ a,inv a→(bL C (Λ a) body (I a)).sat fun e d nx=>match e with
   | .nrm=>∃ (a':α) (M:Nam),inv a'∧μ a'<μ a∧M.nx =(I a').nx∧Sub M ((I a).app d nx) (I a').tm (I a').hp
   | e=>∃ (M:Nam) (tm:List (Nat×V)) (hp:List (Nat×Blk)),Sub M ((I a).app d nx) tm hp∧∀ Q:Lf→Dl→Nat→Prop,T.sat Q→Q e ⟨tm,hp⟩ M.nx) :
  LoopOK P C.N body (ck M0 (I a0) T):=by
 intro B hB st Q CQ hpre hT hQ a w hs
 obtain ⟨hH0,hpre⟩:=hpre
 obtain ⟨hl,hsub⟩:=ifB_iff.1 hpre
 have hT:=fg hT
 have eqI :∀ (x:α) (M:Nam),M.nx =(I x).nx→(⟨(I x).tm,(I x).hp,fun _=>none,M.nx⟩:St)=I x:=fun x M hx=>by rw [hx,←hI x]
 have start:gB B C.N (I a0) a w:=by have:=xU hB hsub hs;rw [eqI a0 M0 hM] at this;exact this
 have key :∀ n x a w,inv x→μ x<n→gB B C.N (I x) a w→Code.rounds P body CQ n a w:=by
  intro n
  induction n with
  | zero=>intro x a w _ hlt _;omega
  | succ n ih=>
   intro x a w hx hlt hs
   rw [rounds_succ]
   refine bQ hC hP (B:=B) body (fun b hb L hL=>(hΛ x hx b hb L hL).at_free hB) (I x) _ _ (step x hx) (fun e d nx a w hq hat=>?_) a w hs
   have hat:=at_here.1 hat
   have out :∀ e:Lf,(∃ (M:Nam) (tm:List (Nat×V)) (hp:List (Nat×Blk)),Sub M ((I x).app d nx) tm hp∧∀ Q:Lf→Dl→Nat→Prop,T.sat Q→Q e ⟨tm,hp⟩ M.nx)→CQ (eK e) a w:=fun e ⟨M,tm,hp,h1,h2⟩=>
    hQ e _ _ a w (h2 (fun e d nx=>Q e ⟨d.tm++mc st.tm,d.hp++jV (Nat.max nx st.nx) st.hp⟩ (Nat.max nx st.nx+1)) hT) (uY hH0 hl (xU hB h1 hat))
   cases e with
   | nrm=>
    obtain ⟨x',M,h1,h2,h3,h4⟩:=hq
    have:=xU hB h4 hat
    rw [eqI x' M h3] at this
    exact ih x' a w h1 (by omega) this
   | ext id=>exact out (.ext id) hq
   | ret=>exact out .ret hq
 exact wp_loop_rounds (μ a0+1) (key _ a0 a w h0 (Nat.lt_succ_self _) start)
end
end Go.Mir
