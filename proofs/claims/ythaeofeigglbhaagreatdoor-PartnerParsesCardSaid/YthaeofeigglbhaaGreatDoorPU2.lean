/- Texts of the mirror and contracts, put together. -/
import Derived.Test.YthaeofeigglbhaaGreatDoorPU1
import Derived.LoopN
import Derived.Test.YthaeofeigglbhaaGreatDoorPU0
import Derived.Test.YthaeofeigglbhaaGreatDoorChecked
namespace Go.Mir
open Go.RowKit
variable {P:Program}
section
variable {H1 H2:ai}
theorem si {td:TD} {v:V} (h :∀ k∈v.hs,H1 k=H2 k):dA td H1 v=dA td H2 v:=by
 cases v with
 | ptr a o=>simp only [dA,je,h a (by simp [V.hs])]
 | gp a v o=>simp only [dA,h a (by simp [V.hs])]
 | rp a v i o=>simp only [dA,je,h a (by simp [V.hs])]
 | _=>rfl
theorem pL {tb:Tbl} {td:TD} {v i:V} (h :∀ k∈v.hs,H1 k=H2 k):cx tb td H1 v i=cx tb td H2 v i:=by
 cases v with
 | gsl a v e o l=>simp only [cx,h a (by simp [V.hs])]
 | osl a v=>simp only [cx,ll,h a (by simp [V.hs])]
 | _=>rfl
theorem pO {tb:Tbl} {td:TD} {v:V} {lo hi mx:Option V} (h :∀ k∈v.hs,H1 k=H2 k):dB tb td H1 v lo hi mx=dB tb td H2 v lo hi mx:=by
 cases v with
 | gsl a v e o l=>simp only [dB,h a (by simp [V.hs])]
 | osl a v=>simp only [dB,nz,Fl,h a (by simp [V.hs])]
 | _=>rfl
theorem tY {td:TD} {v:V} (h :∀ k∈v.hs,H1 k=H2 k):gj td H1 v=gj td H2 v:=by
 obtain ⟨kd,a1,a2,a3,a4⟩:=td
 cases v with
 | gsl a v e o l=>cases kd <;> first|rfl|simp only [gj,h a (by simp [V.hs])]
 | osl a v=>cases kd <;> first|rfl|simp only [gj,qn,h a (by simp [V.hs])]
 | _=>cases kd <;> rfl
theorem uj {n:Nat} {v:V} (h :∀ k∈v.hs,H1 k=H2 k):gk H1 n v=gk H2 n v:=by
 cases v with
 | gsl a v e o l=>simp only [gk,h a (by simp [V.hs])]
 | fsl t xs=>cases xs <;> rfl
 | _=>rfl
theorem uN {t:Ty} {v:V} (h :∀ k∈v.hs,H1 k=H2 k):my H1 t v=my H2 t v:=by
 cases v with
 | osl a v=>simp only [my,h a (by simp [V.hs])]
 | _=>rfl
theorem pH {tb:Tbl} {td:TD} {m:Nat} {s x:V} (h :∀ k∈s.hs,H1 k=H2 k) (h' :∀ k∈x.hs,H1 k=H2 k):gG tb td H1 m s x=gG tb td H2 m s x:=by
 unfold gG
 simp only [uN h']
 cases s with
 | osl a v=>simp only [h a (by simp [V.hs])]
 | _=>rfl
theorem nT {tb:Tbl} {td:TD} {m:Nat} {s x:V} (h :∀ k∈s.hs,H1 k=H2 k) (h' :∀ k∈x.hs,H1 k=H2 k):cG tb td H1 m s x=cG tb td H2 m s x:=by
 unfold cG
 simp only [uj h',pH h h']
 cases s with
 | gsl a v e o l=>simp only [h a (by simp [V.hs])]
 | _=>rfl
end
theorem tQ {C:Cfg} {m:Nat} {H1 H2:ai} {ev:Operand→V} {op:Op} (hd:lh ev op=true) (h :∀ x∈op.operands.toList,∀ k∈(ev x).hs,H1 k=H2 k):aq C m H1 ev op=aq C m H2 ev op:=by
 cases op with
 | load t a=>
  have h1:=h a (by simp [Op.operands])
  simp only [aq,bq,bj,si h1]
 | indexAddr t x i=>
  have h1:=h x (by simp [Op.operands])
  simp only [aq,bq,bj,pL h1]
 | slice t x lo hi mx=>
  have h1:=h x (by simp [Op.operands])
  simp only [aq,bq,bj,pO h1]
 | makeFunc fn first caps=>cases fn <;> rfl
 | store t a x=>
  have ha:=h a (by simp [Op.operands])
  simp only [lh] at hd
  generalize hva:ev a=va at hd ha
  cases va with
  | ptr k o=>
   have e1:=ha k (by simp [V.hs])
   simp only [aq,bq,bj,hva,dC,cd,lq,e1]
  | gp k v o=>
   have e1:=ha k (by simp [V.hs])
   simp only [aq,bq,bj,hva,dC,cd,e1]
  | _=>simp only [Bool.false_eq_true] at hd
 | call c=>
  simp only [lh] at hd
  split at hd
  ·rename_i hc
   have key:bj C.tb C.Γ m H1 ev (.call c)=bj C.tb C.Γ m H2 ev (.call c):=by
    simp only [bj,hc]
    generalize hat:c.argTypes.toList=tl
    generalize hx:c.args.toList=xl
    match tl,xl,hx with
    | [t],[x],hx=>
     have h1:=h x (by simp [Op.operands,Call.operands,hx])
     simp only
     cases C.tb t with
     | none=>rfl
     | some td=>exact tY h1
    | [],_,_=>rfl
    | [_],[],_=>rfl
    | [_],_::_::_,_=>rfl
    | _::_::_,_,_=>rfl
   simp only [aq,bq,key]
  ·rename_i hc
   have key:bj C.tb C.Γ m H1 ev (.call c)=bj C.tb C.Γ m H2 ev (.call c):=by
    simp only [bj,hc]
    generalize hat:c.argTypes.toList=tl
    generalize hx:c.args.toList=xl
    match tl,xl,hx with
    | [t,t2],[s,x],hx=>
     have h1:=h s (by simp [Op.operands,Call.operands,hx])
     have h2:=h x (by simp [Op.operands,Call.operands,hx])
     simp only [nT h1 h2]
    | [],_,_=>rfl
    | [_],_,_=>rfl
    | [_,_],[],_=>rfl
    | [_,_],[_],_=>rfl
    | [_,_],_::_::_::_,_=>rfl
    | _::_::_::_,_,_=>rfl
   simp only [aq,bq,key]
  ·cases hd
 | _=>first|rfl |(simp only [lh,Bool.false_eq_true] at hd)
theorem qk {C:Cfg} {m:Nat} {H1 H2:ai} {ev:Operand→V} {op:Op} (hd:lh ev op=true) (h :∀ k∈EW ev op,H1 k=H2 k):aq C m H1 ev op=aq C m H2 ev op:=by
 have key :(∀ k∈op.operands.toList.flatMap (fun x=>(ev x).hs),H1 k=H2 k)→aq C m H1 ev op=aq C m H2 ev op:=fun h=>tQ hd fun x hx k hk=>h k (List.mem_flatMap.2 ⟨x,hx,hk⟩)
 cases op with
 | move a=>rfl
 | assign a=>rfl
 | nilCheck a=>rfl
 | fieldAddr t a i=>rfl
 | _=>exact key h
theorem Ext.restr (E:Env) (R:List Nat):Ext E { E with H:=Mir.restr E.H R }:=by
 have get :∀ h k,Mir.restr E.H R h=some k→E.H h=some k:=fun h k hh=>by
  unfold Mir.restr at hh
  cases hm:memN R h with
  | false=>rw [hm] at hh;cases hh
  | true=>rw [hm] at hh;exact hh
 exact ⟨fun _ h=>h,fun _ h=>h,fun _ _=>rfl,fun h cs _ hx=>⟨⟨cs,get _ _ hx⟩,rfl⟩,fun h ver rw t xs _ _ hx=>⟨rw,xs,get _ _ hx,rfl,rfl,fun b c T fr _ hw=>⟨c,T,fr,hw,rfl⟩⟩,fun h ver esz cs _ _ hx=>⟨cs,get _ _ hx,rfl,rfl,fun b c T fr _ hw=>⟨c,T,fr,hw,rfl⟩⟩,fun h es _ hx=>⟨⟨es,get _ _ hx⟩,rfl⟩⟩
theorem cS {α:Type} {l:List (Nat×α)} {k:Nat} (h:find l k≠none):k∈l.map (·.1):=by
 induction l with
 | nil=>simp [find] at h
 | cons x l ih=>
  obtain ⟨a,v⟩:=x
  simp only [find] at h
  cases hb:Nat.beq a k with
  | true=>simp [Nat.eq_of_beq_eq_true hb]
  | false=>rw [hb] at h;simp only [cond_false] at h;simp only [List.map_cons,List.mem_cons];exact .inr (ih h)
theorem af {α:Type} {l:List (Nat×α)} {k:Nat} {v:α} (h:find l k=some v) :(k,v)∈l:=by
 induction l with
 | nil=>simp [find] at h
 | cons q l ih=>
  obtain ⟨a,b⟩:=q
  simp only [find] at h
  cases hb:Nat.beq a k with
  | true=>rw [hb] at h;simp only [cond_true,Option.some.injEq] at h;simp [Nat.eq_of_beq_eq_true hb,h]
  | false=>rw [hb] at h;simp only [cond_false] at h;exact List.mem_cons_of_mem _ (ih h)
theorem gX {r:Rec} {k:Nat} (h:find (cX r) k≠none):k∈r.dst.toList:=by
 unfold cX at h
 cases hd:r.dst with
 | none=>rw [hd] at h;simp [bB,find] at h
 | some d=>
  rw [hd] at h
  have:=cS h
  simpa [bB] using this
theorem dq {R:List Nat} {m K:Nat} {l:List Nat} (h:ka R m K l=true) :∀ x∈l,x∈R∨(m≤x∧x<m+K):=fun x hx=>by
 have:=List.all_eq_true.1 h x hx
 simp only [Bool.or_eq_true,Bool.and_eq_true,memN_iff,Nat.blt_eq] at this
 exact this.imp id fun h=>⟨Nat.le_of_ble_eq_true h.1,h.2⟩
theorem bt {E:Env} {all:List Oper} {tm:List (Nat×V)} {a:Act} {o:Oper} {b:Bool} (hT :∀ s∈ae all o,aa E (bT tm s) (a.tmps.getD s undef)) (h:dE all tm o=some b) :
  Region.wanted o (yielded all.toArray a.tmps)=b:=by
 refine jk (E:=E) (T:=fun s=>bif memN (ae all o) s then bT tm s else .any) (fun s=>?_) ?_
 ·cases hm:memN (ae all o) s with
  | true=>simpa using hT s (memN_iff.1 hm)
  | false=>simp [aa]
 ·unfold dE at h
  cases hg:o.guard with
  | none=>rw [hg] at h;exact h
  | some q=>
   obtain ⟨j,want⟩:=q
   rw [hg] at h
   simp only at h ⊢
   cases hj:all[j]? with
   | none=>rw [hj] at h;exact h
   | some oj=>
    rw [hj] at h
    simp only at h ⊢
    cases hd:oj.dst with
    | none=>rw [hd] at h;exact h
    | some dj=>
     rw [hd] at h
     have hm:memN (ae all o) dj=true:=by
      rw [memN_iff]
      unfold ae
      rw [hg]
      simp [hj,hd]
     simp only [hm,cond_true]
     exact h
structure Inv (C:Cfg) (B:Base) (E0:Env) (st:St) (rf:List Rec) (L:Nat→Bool) (a:Act) (w:World):Prop where
 ex :∃ E,HRel B E∧E.w=w∧Ext E0 E∧E.H=ba L st.H 0 (rf.map Rec.dh)∧(∀ n,E.U n→E0.U n∨∃ i,i<rf.length∧L i=true∧st.nx+i*C.K≤n∧n<st.nx+i*C.K+C.K)∧cW E (ba L (find st.tm) 0 (rf.map cX)) a
 size:a.tmps.size=C.N
 defers:a.defers=[]
theorem AQ {C:Cfg} (hC:CfgOK P C) {B:Base} {E0:Env} {all:List Oper} {st:St} {rf:List Rec} (hfr0 :∀ n,st.nx≤n→n<st.nx+rf.length*C.K→¬ E0.U n) {L L':Nat→Bool} {i:Nat} {o:Oper} {r:Rec} (ho:all[i]?=some o) (hr:rf[i]?=some r) (hLi:L i=false) (hL' :∀ j,L' j=if j=i then true else L j)
  {tm:List (Nat×V)} {H:ai} (hdo:Does C true all tm H (st.nx+i*C.K) o r) (htm:find tm=ba (fun j=>Nat.blt j i) (find st.tm) 0 (rf.map cX)) (hH:H=ba (fun j=>Nat.blt j i) st.H 0 (rf.map Rec.dh))
  (hcomm :∀ j s,rf[j]?=some s→(j<i∧L j=false)∨(i<j∧L j=true)→Comm r s) {Q:Exit→Act→World→Prop} {a:Act} {w:World} (hI:Inv C B E0 st rf L a w) {K:Act→World→Prop} (hK :∀ a w,Inv C B E0 st rf L' a w→K a w) :
  wpOp P all.toArray Q i K a w:=by
 obtain ⟨⟨E,hE,rfl,hX,hEH,hU,hT⟩,hsz,hdf⟩:=hI
 obtain ⟨hd,he,hrs⟩:=hdo.dstIn
 have hiL:i<rf.length:=(List.getElem?_eq_some_iff.1 hr).1
 have hLsel :∀ {α:Type} (us:List (List (Nat×α))) (f:Nat→Option α) (k:Nat) (g:Rec→List (Nat×α)),us=rf.map g→(∀ j s,rf[j]?=some s→find (g s) k≠none→j≠i→Comm r s→False)→ba L f 0 us k=ba (fun j=>Nat.blt j i) f 0 us k:=by
  intro α us f k g hus hno
  refine eb us 0 f f rfl (fun j u hj hu=>?_)
  rw [Nat.zero_add]
  subst hus
  rw [List.getElem?_map] at hj
  cases hs:rf[j]? with
  | none=>rw [hs] at hj;simp at hj
  | some s=>
   rw [hs] at hj
   simp only [Option.map_some,Option.some.injEq] at hj
   subst hj
   by_cases hji:j=i
   ·subst hji
    rw [hLi]
    cases hb:Nat.blt j j with
    | false=>rfl
    | true=>rw [Nat.blt_eq] at hb;omega
   ·rcases Nat.lt_or_gt_of_ne hji with hlt|hgt
    ·have hb:Nat.blt j i=true:=by rw [Nat.blt_eq];exact hlt
     rw [hb]
     cases hLj:L j with
     | true=>rfl
     | false=>exact (hno j s hs hu hji (hcomm j s hs (.inl ⟨hlt,hLj⟩))).elim
    ·have hb:Nat.blt j i=false:=by cases hb:Nat.blt j i with|false=>rfl|true=>rw [Nat.blt_eq] at hb;omega
     rw [hb]
     cases hLj:L j with
     | false=>rfl
     | true=>exact (hno j s hs hu hji (hcomm j s hs (.inr ⟨hgt,hLj⟩))).elim
 have hslot :∀ s∈ae all o,ba L (find st.tm) 0 (rf.map cX) s=find tm s:=fun s hs=>by
  rw [htm]
  refine hLsel _ _ s cX rfl (fun j s' hs' hne hji hc=>?_)
  exact hc.sd s (gX hne) (by rw [hrs];exact hs)
 have hlook :∀ s∈ae all o,aa E (bT tm s) (a.tmps.getD s undef):=fun s hs=>by
  unfold bT
  cases hf:find tm s with
  | none=>simp [aa]
  | some v=>exact hT s v (by rw [hslot s hs];exact hf)
 have hL0 :∀ {α:Type} (us:List (List (Nat×α))) (f:Nat→Option α) (g:Rec→List (Nat×α)),us=rf.map g→(∀ j s,i<j→rf[j]?=some s→Comm r s→∀ k,find (g r) k≠none→find (g s) k=none)→ba L' f 0 us=cp (ba L f 0 us) (g r):=by
  intro α us f g hus hno
  subst hus
  refine vE (rf.map g) f i (g r) (by rw [List.getElem?_map,hr];rfl) hL' (fun j u hj hu hLj k hk=>?_)
  rw [List.getElem?_map] at hu
  cases hs:rf[j]? with
  | none=>rw [hs] at hu;simp at hu
  | some s=>
   rw [hs] at hu
   simp only [Option.map_some,Option.some.injEq] at hu
   subst hu
   exact hno j s hj hs (hcomm j s hs (.inr ⟨hj,hLj⟩)) k hk
 have none_of :∀ {α:Type} {l:List (Nat×α)} {k:Nat},(k∈l.map (·.1)→False)→find l k=none:=fun {α l k} h=>by
  cases hf:find l k with
  | none=>rfl
  | some v=>exact (h (cS (by rw [hf];simp))).elim
 have hT':ba L' (find st.tm) 0 (rf.map cX)=cp (ba L (find st.tm) 0 (rf.map cX)) (cX r):=hL0 _ _ cX rfl (fun j s _ _ hc k hk=>by
  cases hf:find (cX s) k with
  | none=>rfl
  | some v=>exact (hc.d k (gX hk) (gX (by rw [hf];simp))).elim)
 have hH':ba L' st.H 0 (rf.map Rec.dh)=cp (ba L st.H 0 (rf.map Rec.dh)) r.dh:=hL0 _ _ Rec.dh rfl (fun j s _ _ hc k hk=>none_of fun hm=>hc.k k (cS hk) hm)
 have after :∀ (E':Env) (v':Value),GoodK B E (st.nx+i*C.K) C.K r.dh E'.w E'→aa E' r.v v'→Inv C B E0 st rf L' (a.put o.dst v') E'.w:=fun E' v' G hv=>by
  refine ⟨⟨E',G.rel,rfl,hX.trans G.ext,by rw [G.h,hH',hEH,jK],fun n hn=>?_,?_⟩,by rw [jv];exact hsz,by rw [fL];exact hdf⟩
  ·rcases G.u n hn with h|h
   ·rcases hU n h with h1 |⟨j,h1,h2,h3⟩
    ·exact .inl h1
    ·refine .inr ⟨j,h1,?_,h3⟩
     rw [hL']
     split
     ·rfl
     ·exact h2
   ·exact .inr ⟨i,hiL,by rw [hL',if_pos rfl],h.1,h.2⟩
  ·rw [hT']
   exact sY G.ext hT hsz hd (v:=r.v) hv (fun s u hu=>by
    unfold cp cX at hu
    rw [he] at hu
    cases hf:find (bB o.dst r.v) s with
    | some x=>rw [hf] at hu;exact .inl hu
    | none=>rw [hf] at hu;exact .inr ⟨rfl,hu⟩)
 unfold wpOp
 simp only [List.getElem?_toArray,ho]
 cases hdo with
 | skip _ hg=>
  rw [bt hlook hg]
  simp only [Bool.false_eq_true,if_false]
  exact hK _ _ (after E undef ⟨hE,Ext.refl E,rfl,rfl,fun n h=> .inl h⟩ (by simp [aa,undef,ab]))
 | @dir ps v v' dh _ _ hg hdr hev hps hv=>
  rw [bt hlook hg]
  simp only [if_true]
  left
  have hfresh :∀ n,st.nx+i*C.K≤n→n<st.nx+i*C.K+C.K→¬ E.U n:=fun n h1 h2 hu=>by
   have hiK:=Nat.mul_le_mul_right C.K (show i+1≤rf.length from hiL)
   rw [Nat.add_mul] at hiK
   rcases hU n hu with h3 |⟨j,h3,h4,h5,h6⟩
   ·exact hfr0 n (by omega) (by omega) h3
   ·have hji:j≠i:=fun e=>by subst e;rw [hLi] at h4;cases h4
    rcases Nat.lt_or_gt_of_ne hji with hlt|hgt
    ·have:=Nat.mul_le_mul_right C.K (show j+1≤i from hlt)
     rw [Nat.add_mul] at this
     omega
    ·have:=Nat.mul_le_mul_right C.K (show i+1≤j from hgt)
     rw [Nat.add_mul] at this
     omega
  have hev2:=qk (C:=C) (m:=st.nx+i*C.K) (H1:=E.H) (H2:=H) hdr fun k hk=>by
   rw [hEH,hH]
   refine hLsel _ _ k Rec.dh rfl (fun j s hs hne hji hc=>?_)
   exact hc.sk k (cS hne) hk
  rw [hev] at hev2
  have hevm :∀ x,aa E (aJ (ae all o) tm x) (a.eval x):=fun x=>by
   cases x with
   | tmp t=>
    simp only [aJ]
    cases hm:memN (ae all o) t with
    | false=>simp [aa]
    | true=>exact hlook t (memN_iff.1 hm)
   | const v=>exact eC v
   | func f=>simp only [aJ,aa,Act.eval];exact ⟨#[],rfl,by simp [ab]⟩
   | _=>simp [aJ,aa]
  exact cw hE hC.tb hC.K hC.Γ hfresh hevm hev2 hps fun v'' E' G hv'=>hK _ _ (after E' _ G (zK hv hv'))
 | @run ps v v' dh R _ hg hst hps hv=>
  rw [bt hlook hg]
  simp only [if_true]
  left
  simp only [jC] at hst
  split at hst
  case h_2=>cases hst
  rename_i ps' v2 dh' hev
  cases hfr:fi H (ko H 8 (o.op.operands.toList.flatMap fun x=>(aJ (ae all o) tm x).hs) []) (st.nx+i*C.K) C.K v2 dh' with
  | false=>rw [hfr] at hst;cases hst
  | true=>
   rw [hfr] at hst
   simp only [cond_true,Option.some.injEq,Prod.mk.injEq] at hst
   obtain ⟨rfl,rfl,rfl,hR⟩:=hst
   rw [hR] at hfr hev
   have hHR :∀ h∈R,E.H h=H h:=fun h hh=>by
    rw [hEH,hH]
    refine hLsel _ _ h Rec.dh rfl (fun j s hs hne hji hc=>?_)
    exact hc.sk h (cS hne) hh
   have hrest:restr H R=restr E.H R:=by
    funext h
    unfold restr
    cases hm:memN R h with
    | false=>rfl
    | true=>simp only [cond_true];exact (hHR h (memN_iff.1 hm)).symm
   simp only [fi,Bool.and_eq_true] at hfr
   obtain ⟨⟨f1,f2⟩,f3⟩:=hfr
   have fR :∀ h∈R,∃ b,H h=some b∧ka R (st.nx+i*C.K) C.K b.hs=true:=fun h hh=>by
    have:=List.all_eq_true.1 f1 h hh
    split at this
    ·rename_i b hb;exact ⟨b,hb,this⟩
    ·cases this
   have hfresh :∀ n,st.nx+i*C.K≤n→n<st.nx+i*C.K+C.K→¬ E.U n:=fun n h1 h2 hu=>by
    have hiK:=Nat.mul_le_mul_right C.K (show i+1≤rf.length from hiL)
    rw [Nat.add_mul] at hiK
    rcases hU n hu with h3 |⟨j,h3,h4,h5,h6⟩
    ·exact hfr0 n (by omega) (by omega) h3
    ·have hji:j≠i:=fun e=>by subst e;rw [hLi] at h4;cases h4
     rcases Nat.lt_or_gt_of_ne hji with hlt|hgt
     ·have:=Nat.mul_le_mul_right C.K (show j+1≤i from hlt)
      rw [Nat.add_mul] at this
      omega
     ·have:=Nat.mul_le_mul_right C.K (show i+1≤j from hgt)
      rw [Nat.add_mul] at this
      omega
   have hEs:=hE.restr R
   have Xs:=Ext.restr E R
   rw [hrest] at hev
   have hevm :∀ x,aa { E with H:=Mir.restr E.H R } (aJ (ae all o) tm x) (a.eval x):=fun x=>by
    cases x with
    | tmp t=>
     simp only [aJ]
     cases hm:memN (ae all o) t with
     | false=>simp [aa]
     | true=>exact aU Xs _ _ (hlook t (memN_iff.1 hm))
    | const v=>exact eC v
    | func f=>simp only [aJ,aa,Act.eval];exact ⟨#[],rfl,by simp [ab]⟩
    | _=>simp [aJ,aa]
   exact cw (E:={ E with H:=Mir.restr E.H R }) hEs hC.tb hC.K hC.Γ hfresh hevm hev hps fun v'' Es G hv'=>by
    obtain ⟨E',G',tr⟩:=DS hE hfresh G (fun h hh=>by obtain ⟨b,hb,_⟩:=fR h hh;exact ⟨b,by rw [hHR h hh];exact hb⟩)
     (fun h hh k hk x hx=>by
      obtain ⟨b,hb,hb2⟩:=fR h hh
      rw [hHR h hh,hb] at hk
      cases hk
      exact dq hb2 x hx)
     (fun h k hk=>by
      have hq:=af hk
      have:=List.all_eq_true.1 f2 _ hq
      simp only [Bool.and_eq_true] at this
      exact ⟨dq this.1 h (by simp),dq this.2⟩)
    have hw:E'.w=Es.w:=G'.w
    have hv2:aa E' v2 v'':=tr _ _ (dq f3) hv'
    have:=hK _ _ (after E' _ (by rw [hw];exact G') (zK hv hv2))
    rw [hw] at this
    exact this
def unl (n:Nat) (listed:Array Bool):Nat:=((List.range n).filter fun i=>!listed.getD i true).length
theorem kH {p q:Nat→Bool} {i:Nat} (hp:p i=true) (hq:q i=false) (hs :∀ j,j≠i→q j=p j) :∀ (l:List Nat),l.Nodup→i∈l→(l.filter q).length+1 =(l.filter p).length
 | [],_,h=>by simp at h
 | x::l,hn,hm=>by
  have hn':=List.nodup_cons.1 hn
  by_cases e:x=i
  ·subst e
   have:l.filter q=l.filter p:=List.filter_congr fun y hy=>hs y (fun e=>by subst e;exact hn'.1 hy)
   simp [hp,hq,this]
  ·have hm':i∈l:=by
    rcases List.mem_cons.1 hm with h|h
    ·exact absurd h.symm e
    ·exact h
   have ih:=kH hp hq hs l hn'.2 hm'
   simp only [List.filter_cons,hs x e]
   split
   ·simp [ih]
   ·exact ih
theorem Ak {C:Cfg} (hC:CfgOK P C) {B:Base} {E0:Env} {all:List Oper} {st:St} {df:Dl} {rf:List Rec} (hrun:Run C true all st 0 all ⟨[],[]⟩ [] df rf) (hE:b8 0 all=true) (hck:c7 (bm all []) 0 rf=true) {Q:Exit→Act→World→Prop}
  (hfr0 :∀ n,st.nx≤n→n<st.nx+all.length*C.K→¬ E0.U n)
  (hQ :∀ E a,HRel B E→Ext E0 E→E.H=aj st.H df.hp→(∀ n,E.U n→E0.U n∨(st.nx≤n∧n<st.nx+all.length*C.K))→cW E (find (df.tm++st.tm)) a→a.tmps.size=C.N→a.defers=[]→Q .normal a E.w) :
  ∀ (fuel:Nat) (listed:Array Bool) (a:Act) (w:World),listed.size=all.length→unl all.length listed=fuel→
   (∀ j oj,all[j]?=some oj→listed.getD j false=true→∀ e∈oj.after,Region.binds .any e=true→listed.getD e.on false=true)→
   Inv C B E0 st rf (fun i=>listed.getD i false) a w→wpAny P .any all.toArray Q fuel listed a w:=by
 obtain ⟨⟨more,e1,e2⟩,g1,g2,g3⟩:=vz all 0 ⟨[],[]⟩ [] df rf hrun rfl rfl rfl
 have hlen:rf.length=all.length:=by rw [e1];simpa using e2
 have full :∀ (listed:Array Bool),listed.size=all.length→Region.ready .any all.toArray listed=[]→∀ i,i<all.length→listed.getD i false=true:=by
  intro listed hsz hrd i
  induction i using Nat.strongRecOn with
  | _ i ih=>
   intro hi
   cases hb:listed.getD i false with
   | true=>rfl
   | false=>
    have hun:listed.getD i true=false:=by
     have:i<listed.size:=by omega
     simp [this] at hb ⊢
     exact hb
    have hoi:all[i]?=some all[i]:=List.getElem?_eq_getElem hi
    have:i∈Region.ready .any all.toArray listed:=mem_ready.2 ⟨hun,all[i],by simp,fun e he hbd=>by
     have:=dz all 0 hE i _ hoi e he hbd
     exact ih e.on (by omega) (by omega)⟩
    rw [hrd] at this
    cases this
 have close :∀ (listed:Array Bool) (a:Act) (w:World),listed.size=all.length→(∀ i,i<all.length→listed.getD i false=true)→Inv C B E0 st rf (fun i=>listed.getD i false) a w→Q .normal a w:=by
  intro listed a w hsz hall hI
  obtain ⟨⟨E,hE',rfl,hX,hEH,hU,hT⟩,hs,hd⟩:=hI
  have hsel :∀ {α:Type} (us:List (List (Nat×α))) (f:Nat→Option α),us.length=all.length→ba (fun i=>listed.getD i false) f 0 us=us.foldl cp f:=fun us f hl=>by
   have h1:=iB us f 0 us.length
   rw [List.take_of_length_le (Nat.le_refl _)] at h1
   rw [←h1]
   funext k
   refine eb us 0 f f rfl (fun j u hj _=>?_)
   have hjl:j<us.length:=(List.getElem?_eq_some_iff.1 hj).1
   rw [Nat.zero_add,hall j (by omega)]
   exact (by rw [Nat.blt_eq];omega:Nat.blt j (0+us.length)=true).symm
  refine hQ E a hE' hX ?_ (fun n hn=>?_) (fun s v hv=>?_) hs hd
  ·rw [hEH,hsel _ _ (by simp [hlen]),g2]
  ·rcases hU n hn with h |⟨i,h1,_,h3,h4⟩
   ·exact .inl h
   ·have:=Nat.mul_le_mul_right C.K (show i+1≤all.length by omega)
    rw [Nat.add_mul] at this
    exact .inr ⟨by omega,by omega⟩
  ·refine hT s v ?_
   rw [hsel _ _ (by simp [hlen]),←g1]
   exact hv
 intro fuel
 induction fuel with
 | zero=>
  intro listed a w hsz hun _ hI
  have hall :∀ i,i<all.length→listed.getD i false=true:=fun i hi=>by
   have h0 :(List.range all.length).filter (fun i=>!listed.getD i true)=[]:=List.eq_nil_of_length_eq_zero hun
   have:=List.filter_eq_nil_iff.1 h0 i (List.mem_range.2 hi)
   have hi':i<listed.size:=by omega
   simp [hi'] at this ⊢
   exact this
  refine ⟨?_,close listed a w hsz hall hI⟩
  cases hr:Region.ready .any all.toArray listed with
  | nil=>rfl
  | cons i l=>
   have hm:i∈Region.ready .any all.toArray listed:=by rw [hr];exact List.mem_cons_self
   obtain ⟨h1,o,h2,_⟩:=mem_ready.1 hm
   have hi:i<all.length:=by
    have:=(Array.getElem?_eq_some_iff.1 h2).1
    simpa using this
   have h3:=hall i hi
   have hi':i<listed.size:=by omega
   simp [hi'] at h1 h3
   rw [h1] at h3;cases h3
 | succ fuel ih=>
  intro listed a w hsz hun hclosed hI
  refine ⟨fun hr=>close listed a w hsz (full listed hsz hr) hI,fun i hi=>?_⟩
  obtain ⟨h1,o,h2,hdir⟩:=mem_ready.1 hi
  have ho:all[i]?=some o:=by simpa using h2
  have hil:i<all.length:=(List.getElem?_eq_some_iff.1 ho).1
  have his:i<listed.size:=by omega
  have hLi:listed.getD i false=false:=by simp [his] at h1 ⊢;exact h1
  obtain ⟨r,tm,H,k1,k2,k3,k4⟩:=g3 i o ho
  simp only [Nat.zero_add] at k1 k2 k3 k4
  have hget :∀ j,(listed.setIfInBounds i true).getD j false=if j=i then true else listed.getD j false:=fun j=>by
   by_cases e:j=i
   ·subst e;simp [his]
   ·simp [e,Array.getElem?_setIfInBounds_ne (Ne.symm e),Array.getD_eq_getD_getElem?]
  have hgetT :∀ j,j≠i→(listed.setIfInBounds i true).getD j true=listed.getD j true:=fun j e=>by
   simp [Array.getElem?_setIfInBounds_ne (Ne.symm e),Array.getD_eq_getD_getElem?]
  refine AQ hC (E0:=E0) (by rw [hlen];exact hfr0) (L:=fun i=>listed.getD i false) (L':=fun j=>(listed.setIfInBounds i true).getD j false) ho k1 hLi hget k2 ?_ ?_ (fun j s hs hor=>?_) hI (fun a w hI'=>ih _ a w (by simpa using hsz) ?_ ?_ hI')
  ·rw [k3]
   have:=iB (rf.map cX) (find st.tm) 0 i
   rw [←List.map_take,] at this
   simpa using this.symm
  ·rw [k4]
   have:=iB (rf.map Rec.dh) st.H 0 i
   rw [←List.map_take] at this
   simpa using this.symm
  ·rcases hor with ⟨hlt,hLj⟩ |⟨hgt,hLj⟩
   ·rcases eB rf 0 hck j i s r hlt hs k1 with h|h
    ·simp only [Nat.zero_add] at h
     have:=b7 hE hclosed i i (Nat.le_refl _) o ho hdir j h
     rw [this] at hLj;cases hLj
    ·exact h.symm
   ·rcases eB rf 0 hck i j r s hgt k1 hs with h|h
    ·simp only [Nat.zero_add] at h
     have hjl:j<all.length:=by rw [←hlen];exact (List.getElem?_eq_some_iff.1 hs).1
     have hoj:all[j]?=some all[j]:=List.getElem?_eq_getElem hjl
     have:=b7 hE hclosed j j (Nat.le_refl _) _ hoj (hclosed j _ hoj hLj) i h
     rw [this] at hLi;cases hLi
    ·exact h
  ·have:=kH (p:=fun j=>!listed.getD j true) (q:=fun j=>!(listed.setIfInBounds i true).getD j true) (i:=i) (by simp [h1]) (by simp [his]) (fun j e=>by simp [hgetT j e]) (List.range all.length) List.nodup_range (List.mem_range.2 hil)
   unfold unl at hun ⊢
   omega
  ·intro j oj hj hlj e he hb
   rw [hget] at hlj ⊢
   by_cases e1:e.on=i
   ·rw [if_pos e1]
   ·rw [if_neg e1]
    by_cases e2:j=i
    ·subst e2
     rw [ho] at hj;cases hj
     exact hdir e he hb
    ·rw [if_neg e2] at hlj
     exact hclosed j oj hj hlj e he hb
theorem Al {C:Cfg} (hC:CfgOK P C) (hP:P.follows .mixedOrders=true) {B:Base} {all:List Oper} {st:St} {df:Dl} {rf:List Rec} (hrun:Run C true all st 0 all ⟨[],[]⟩ [] df rf) (hE:b8 0 all=true) (hck:c7 (bm all []) 0 rf=true) {Q:Exit→Act→World→Prop}
  {E:Env} (hE':HRel B E) (hH:E.H=st.H) {a:Act} (hT:cW E (find st.tm) a) (hsz:a.tmps.size=C.N) (hdf:a.defers=[])
  (hfr0 :∀ n,st.nx≤n→n<st.nx+all.length*C.K→¬ E.U n)
  (hQ :∀ E' a,HRel B E'→Ext E E'→E'.H=aj st.H df.hp→(∀ n,E'.U n→E.U n∨(st.nx≤n∧n<st.nx+all.length*C.K))→cW E' (find (df.tm++st.tm)) a→a.tmps.size=C.N→a.defers=[]→Q .normal a E'.w) (id:Nat) :
  (Code.region id all.toArray true).wp P Q a E.w:=by
 refine wp_region_any hP ?_
 obtain ⟨R,X⟩:=re hE' { E.w with drawn:=E.w.drawn+1 } rfl rfl rfl rfl
 have hfalse :∀ i,(Array.replicate all.toArray.size false).getD i false=false:=fun i=>by
  rcases Nat.lt_or_ge i all.length with h|h
  ·simp [h]
  ·simp [h]
 have hno :∀ {α:Type} (us:List (List (Nat×α))) (f:Nat→Option α) (i:Nat),ba (fun i=>(Array.replicate all.toArray.size false).getD i false) f i us=f:=by
  intro α us
  induction us with
  | nil=>intro f i;rfl
  | cons u us ih=>intro f i;unfold ba;rw [hfalse];simp only [Bool.false_eq_true,if_false];exact ih f _
 refine Ak hC (E0:={ E with w:={ E.w with drawn:=E.w.drawn+1 } }) hrun hE hck hfr0 (fun E1 a1 r1 x1 h1 u1 t1 s1 d1=>hQ E1 a1 r1 (X.trans x1) h1 u1 t1 s1 d1) _ _ a _ (by simp) ?_ (fun j oj hj hl=>by rw [hfalse] at hl;cases hl) ⟨⟨_,R,rfl,Ext.refl _,?_,fun n hn=> .inl hn,fun s v hv=>?_⟩,hsz,hdf⟩
 ·unfold unl
  have :(List.range all.length).filter (fun i=>!(Array.replicate all.toArray.size false).getD i true)=List.range all.length:=List.filter_eq_self.2 fun i hi=>by
   have:=List.mem_range.1 hi
   simp [this]
  rw [this]
  simp
 ·rw [hno _ _ _];exact hH
 ·rw [hno] at hv
  exact aU X _ _ (hT s v hv)
theorem kB {C:Cfg} (hC:CfgOK P C) (hP:P.follows .mixedOrders=true) {B:Base} {all:List Oper} {st:St} {df:Dl} {rf:List Rec} (hrun:Run C true all st 0 all ⟨[],[]⟩ [] df rf) (hE:b8 0 all=true) (hck:c7 (bm all []) 0 rf=true) {Q:Exit→Act→World→Prop}
  (hQ :∀ a w,SRel B C.N (find (df.tm++st.tm)) (aj st.H df.hp) (fun n=>n<st.nx+all.length*C.K) a w→Q .normal a w) {a:Act} {w:World} (hs:SRel B C.N (find st.tm) st.H (fun n=>n<st.nx) a w) (id:Nat) :
  (Code.region id all.toArray true).wp P Q a w:=by
 obtain ⟨⟨E,hE',rfl,hH,⟨hG,hU⟩,hT⟩,hsz,hdf⟩:=hs
 refine Al hC hP hrun hE hck hE' hH hT hsz hdf (fun n h1 _ hu=>?_) (fun E1 a1 r1 x1 h1 u1 t1 s1 d1=>hQ _ _ ⟨⟨E1,r1,rfl,h1,⟨B.clo _ _ hG x1,fun n hn=>?_⟩,t1⟩,s1,d1⟩) id
 ·have:=hU n hu;omega
 ·rcases u1 n hn with h|h
  ·have:=hU n h;omega
  ·exact h.2
end Go.Mir
namespace Go.Mir
open Go.RowKit
variable {P:Program}
def Tr.pre (d:Dl):Tr→Tr
 | .leaf e d' nx=> .leaf e ⟨d'.tm++d.tm,d'.hp++d.hp⟩ nx
 | .br b t e=> .br b (t.pre d) (e.pre d)
 | .need p t=> .need p (t.pre d)
 | .both t u=> .both (t.pre d) (u.pre d)
 | .when b t=> .when b (t.pre d)
 | .done=> .done
 | .bad=> .bad
def Tr.graft (k:Dl→Nat→Tr):Tr→Tr
 | .leaf .nrm d nx=>(k d nx).pre d
 | .leaf e d nx=> .leaf e d nx
 | .br b t e=> .br b (t.graft k) (e.graft k)
 | .need p t=> .need p (t.graft k)
 | .both t u=> .both (t.graft k) (u.graft k)
 | .when b t=> .when b (t.graft k)
 | .done=> .done
 | .bad=> .bad
def Tr.nN:Tr→Nat
 | .leaf .nrm _ _=>1
 | .leaf _ _ _=>0
 | .br _ t e=>t.nN+e.nN
 | .need _ t=>t.nN
 | .both t u=>t.nN+u.nN
 | .when _ t=>t.nN
 | .done | .bad=>0
def Tr.cut:Tr→Tr
 | .leaf .nrm _ _=> .done
 | .leaf e d nx=> .leaf e d nx
 | .br b t e=> .br b t.cut e.cut
 | .need p t=> .need p t.cut
 | .both t u=> .both t.cut u.cut
 | .when b t=> .when b t.cut
 | .done=> .done
 | .bad=> .bad
def Tr.clean:Tr→Bool
 | .leaf .nrm _ _=>true
 | .br _ t e=>t.clean&&e.clean
 | _=>false
inductive KB where
 | yes|no|is (b:Bool)
def KB.val:KB→Bool
 | .yes=>true
 | .no=>false
 | .is b=>b
def KB.ite (b:Bool):KB→KB→KB
 | .yes,.yes=> .yes
 | .no,.no=> .no
 | .yes,.no=> .is b
 | .no,.yes=> .is (!b)
 | x,y=> .is (cond b x.val y.val)
def KB.or:KB→KB→KB
 | .yes,_=> .yes
 | _,.yes=> .yes
 | .no,y=>y
 | x,.no=>x
 | x,y=> .is (x.val||y.val)
def KB.and (b:Bool):KB→KB
 | .yes=> .is b
 | .no=> .no
 | .is c=> .is (b&&c)
def Tr.isN:Tr→KB
 | .leaf .nrm _ _=> .yes
 | .leaf _ _ _=> .no
 | .br b t e=>KB.ite b t.isN e.isN
 | .need _ t=>t.isN
 | .both t u=>KB.or t.isN u.isN
 | .when b t=>KB.and b t.isN
 | .done | .bad=> .no
mutual
def bc (p:Bool):V→V→Option V
 | .any,_=>some .any
 | .hint _ _,_=>some .any
 | .int k a,y=>match y with | .int k' b=>(if k=k' then some (.int k (cond p a b)) else none) | .any=>some .any|_=>none
 | .bool a,y=>match y with | .bool b=>some (.bool (cond p a b)) | .kb b=>some (.bool (cond p a b)) | .any=>some .any|_=>none
 | .kb a,y=>match y with
  | .bool b=>some (.bool (cond p a b))
  | .kb b=>(match a,b with|true,true=>some (.kb true)|false,false=>some (.kb false)|true,false=>some (.bool p)|false,true=>some (.bool (!p)))
  | .any=>some .any
  | _=>none
 | .str a,y=>match y with | .str b=>some (.str (cond p a b)) | .any=>some .any|_=>none
 | .nilptr,y=>match y with | .nilptr=>some .nilptr | .any=>some .any|_=>none
 | .ptr h o,y=>match y with | .ptr h' o'=>(if h=h'∧o=o' then some (.ptr h o) else none) | .any=>some .any|_=>none
 | .fp t xs i o,y=>match y with | .fp t' ys j o'=>(if e:t'=t then (if o=o' then some (.fp t (cond p xs (e▸ys)) (cond p i j) o) else none) else none) | .any=>some .any|_=>none
 | .rp h ver i o,y=>match y with | .rp h' ver' j o'=>(if h=h'∧ver=ver'∧o=o' then some (.rp h ver (cond p i j) o) else none) | .any=>some .any|_=>none
 | .nilsl,y=>match y with | .nilsl=>some .nilsl | .fsl t ys=>some (.fsl t (cond p [] ys)) | .any=>some .any|_=>none
 | .esl,y=>match y with | .esl=>some .esl | .any=>some .any|_=>none
 | .osl h ver,y=>match y with | .osl h' ver'=>(if h=h'∧ver=ver' then some (.osl h ver) else none) | .any=>some .any|_=>none
 | .fsl t xs,y=>match y with | .fsl t' ys=>(if e:t'=t then some (.fsl t (cond p xs (e▸ys))) else none) | .nilsl=>some (.fsl t (cond p xs [])) | .any=>some .any|_=>none
 | .gsl h ver e o l,y=>match y with | .gsl h' ver' e' o' l'=>(if h=h'∧ver=ver'∧e=e'∧o=o'∧l=l' then some (.gsl h ver e o l) else none) | .any=>some .any|_=>none
 | .gp h ver o,y=>match y with | .gp h' ver' o'=>(if h=h'∧ver=ver'∧o=o' then some (.gp h ver o) else none) | .any=>some .any|_=>none
 | .mpv h,y=>match y with | .mpv h'=>(if h=h' then some (.mpv h) else none) | .any=>some .any|_=>none
 | .nilfn,y=>match y with | .nilfn=>some .nilfn | .any=>some .any|_=>none
 | .nilmap,y=>match y with | .nilmap=>some .nilmap | .any=>some .any|_=>none
 | .fn f cs,y=>match y with | .fn f' ds=>(if f=f' then (match eo p cs ds with|some l=>some (.fn f l)|none=>none) else none) | .any=>some .any|_=>none
 | .agg cs,y=>match y with | .agg ds=>(match eo p cs ds with|some l=>some (.agg l)|none=>none) | .any=>some .any|_=>none
 | .tup cs,y=>match y with | .tup ds=>(match eo p cs ds with|some l=>some (.tup l)|none=>none) | .any=>some .any|_=>none
def eo (p:Bool):List V→List V→Option (List V)
 | [],[]=>some []
 | x::xs,y::ys=>match bc p x y with
  | some v=>match eo p xs ys with
   | some l=>some (v::l)
   | none=>none
  | none=>none
 | _,_=>none
end
def nB:V→Bool
 | .tup []=>true
 | _=>false
def sM (p:Bool) (x y:V):Option V:=bif nB x||nB y then some .any else bc p x y
def sK (p:Bool):Blk→Blk→Option Blk
 | .cells cs,.cells ds=>match eo p cs ds with|some l=>some (.cells l)|none=>none
 | .row ver rw t xs,.row ver' rw' t' ys=>if e:t'=t then (if ver=ver'∧rw=rw' then some (.row ver rw t (cond p xs (e▸ys))) else none) else none
 | _,_=>none
def gn {α:Type}:List (Nat×α)→List Nat→List Nat
 | [],acc=>acc
 |(k,_)::r,acc=>bif memN acc k then gn r acc else gn r (k::acc)
def im (p:Bool) (t1 t2:List (Nat×V)):List Nat→Option (List (Nat×V))
 | []=>some []
 | k::ks=>match sM p (bT t1 k) (bT t2 k) with
  | some v=>match im p t1 t2 ks with
   | some l=>some ((k,v)::l)
   | none=>none
  | none=>none
def jN (p:Bool) (H H1 H2:ai):List Nat→Option (List (Nat×Blk))
 | []=>some []
 | k::ks=>match H1 k,H2 k with
  | some b1,some b2=>match sK p b1 b2 with
   | some b=>match jN p H H1 H2 ks with
    | some l=>some ((k,b)::l)
    | none=>none
   | none=>none
  | _,_=>match H k with
   | some _=>none
   | none=>jN p H H1 H2 ks
def sL (p:Bool) (st:St) (d1 d2:Dl):Option Dl:=
 match im p (d1.tm++st.tm) (d2.tm++st.tm) (gn d1.tm (gn d2.tm [])) with
 | some tm=>match jN p st.H (aj st.H d1.hp) (aj st.H d2.hp) (gn d1.hp (gn d2.hp [])) with
  | some hp=>some ⟨tm,hp⟩
  | none=>none
 | none=>none
def Tr.mrg (st:St):Tr→Option (Option (Dl×Nat))
 | .leaf .nrm d nx=>some (some (d,nx))
 | .leaf _ _ _=>some none
 | .br b t e=>match t.mrg st,e.mrg st with
  | some none,r=>r
  | r,some none=>r
  | some (some (d1,n1)),some (some (d2,n2))=>match sL b st d1 d2 with
   | some d=>some (some (d,Nat.max n1 n2))
   | none=>none
  | _,_=>none
 | .need _ t=>t.mrg st
 | .both t u=>match t.mrg st,u.mrg st with
  | some none,r=>r
  | r,some none=>r
  | _,_=>none
 | .when _ t=>t.mrg st
 | .done | .bad=>some none
def zA (st:St) (t:Tr) (k:Dl→Nat→Tr):Tr:=
 bif Nat.ble t.nN 1 then t.graft k
 else match t.mrg st with
  | some (some (d,nx))=>bif t.clean then (k d nx).pre d else .both t.cut (.when t.isN.val ((k d nx).pre d))
  | _=>t.graft k
def Tr.catch (id:Nat):Tr→Tr
 | .leaf (.ext id') d nx=>if id'=id then .leaf .nrm d nx else .leaf (.ext id') d nx
 | .leaf e d nx=> .leaf e d nx
 | .br b t e=> .br b (t.catch id) (e.catch id)
 | .need p t=> .need p (t.catch id)
 | .both t u=> .both (t.catch id) (u.catch id)
 | .when b t=> .when b (t.catch id)
 | .done=> .done
 | .bad=> .bad
def xh:Code→Option Nat
 | .region id _ _=>some id
 | .seq a b=>match xh a with|some n=>some n|none=>xh b
 | .cond _ a b=>match xh a with|some n=>some n|none=>xh b
 | .block _ b=>xh b
 | .loop b=>xh b
 | _=>none
def rid (c:Code):Nat:=match xh c with|some n=>n|none=>0
structure LoopSum where
 pre:St→Prop
 T:St→Tr
def kZ (f:St→Tr):Nat→St→Tr
 | 0,_=> .bad
 | n+1,st=>zA st (f st) fun d nx=>kZ f n (st.app d nx)
def gd:Nat:=100000
def bh (C:Cfg) (Λ:Nat→Option LoopSum):Code→St→Tr
 | .skip,st=> .leaf .nrm ⟨[],[]⟩ st.nx
 | .region _ ops dr,st=>mP C dr ops.toList st 0 ops.toList ⟨[],[]⟩ []
 | .seq a b,st=>zA st (bh C Λ a st) fun d nx=>bh C Λ b (st.app d nx)
 | .cond c x y,st=>match wX st.tm c with
  | .kb true=>bh C Λ x st
  | .kb false=>bh C Λ y st
  | .bool b=>match b with|true=>bh C Λ x st|false=>bh C Λ y st
  | .hint q true=> .both (.when q (bh C Λ x st)) (bh C Λ y st)
  | .hint q false=> .both (.when q (bh C Λ y st)) (bh C Λ x st)
  | _=> .bad
 | .block id b,st=>(bh C Λ b st).catch id
 | .loop b,st=>match Λ (rid b) with
  | some L=> .need (L.pre st) (L.T st)
  | none=>kZ (bh C Λ b) gd st
 | .exit id,st=> .leaf (.ext id) ⟨[],[]⟩ st.nx
 | .ret,st=> .leaf .ret ⟨[],[]⟩ st.nx
 | _,_=> .bad
def bI (C:Cfg) (Λ:Nat→Option LoopSum):Code→St→Tr
 | .skip,st=> .leaf .nrm ⟨[],[]⟩ st.nx
 | .region _ ops dr,st=>mP C dr ops.toList st 0 ops.toList ⟨[],[]⟩ []
 | .seq a b,st=>zA st (bI C Λ a st) fun d nx=>bI C Λ b (st.app d nx)
 | .cond c x y,st=>match wX st.tm c with
  | .kb true=>bI C Λ x st
  | .kb false=>bI C Λ y st
  | .bool b=> .br b (bI C Λ x st) (bI C Λ y st)
  | .hint q true=> .both (.when q (bI C Λ x st)) (bI C Λ y st)
  | .hint q false=> .both (.when q (bI C Λ y st)) (bI C Λ x st)
  | _=> .bad
 | .block id b,st=>(bI C Λ b st).catch id
 | .loop b,st=>match Λ (rid b) with
  | some L=> .need (L.pre st) (L.T st)
  | none=>kZ (bh C Λ b) gd st
 | .exit id,st=> .leaf (.ext id) ⟨[],[]⟩ st.nx
 | .ret,st=> .leaf .ret ⟨[],[]⟩ st.nx
 | _,_=> .bad
def ax (Λ:Nat→Option LoopSum):Code→List Code
 | .seq a b=>ax Λ a++ax Λ b
 | .cond _ a b=>ax Λ a++ax Λ b
 | .block _ b=>ax Λ b
 | .loop b=>b ::(match Λ (rid b) with|some _=> []|none=>ax Λ b)
 | _=> []
def ig:Code→List Code
 | .seq a b=>ig a++ig b
 | .cond _ a b=>ig a++ig b
 | .block _ b=>ig b
 | .loop b=> [b]
 | _=> []
end Go.Mir
namespace Go.Mir
open Go.RowKit
variable {P:Program}
set_option maxHeartbeats 1000000 in
mutual
theorem lG {E:Env} {p:Bool} :∀ (x y v:V) (u:Value),bc p x y=some v→(p=true→aa E x u)→(p=false→aa E y u)→aa E v u
 | .any,y,v,u,h,_,_=>by simp only [bc,Option.some.injEq] at h;subst h;simp [aa]
 | .int k a,y,v,u,h,h1,h2=>by
  cases y <;> simp only [bc,reduceCtorEq,Option.some.injEq] at h
  case any=>subst h;simp [aa]
  case int k' b=>
   split at h
   case isFalse=>cases h
   rename_i e;subst e
   cases h
   cases p
   ·exact h2 rfl
   ·exact h1 rfl
 | .bool a,y,v,u,h,h1,h2=>by
  cases y <;> simp only [bc,reduceCtorEq,Option.some.injEq] at h
  case any=>subst h;simp [aa]
  all_goals (subst h;cases p <;> first|exact h1 rfl |(have:=h2 rfl;simpa [aa] using this))
 | .kb a,y,v,u,h,h1,h2=>by
  cases y <;> simp only [bc,reduceCtorEq,Option.some.injEq] at h
  case any=>subst h;simp [aa]
  case bool b=>subst h;cases p <;> first |(have:=h1 rfl;simpa [aa] using this) |(have:=h2 rfl;simpa [aa] using this)
  case kb b=>
   cases a <;> cases b <;> simp only [Option.some.injEq] at h <;> subst h <;> cases p <;> first |(have:=h1 rfl;simpa [aa] using this) |(have:=h2 rfl;simpa [aa] using this)
 | .str a,y,v,u,h,h1,h2=>by
  cases y <;> simp only [bc,reduceCtorEq,Option.some.injEq] at h
  case any=>subst h;simp [aa]
  case str b=>subst h;cases p <;> first|exact h1 rfl|exact h2 rfl
 | .nilptr,y,v,u,h,h1,h2=>by
  cases y <;> simp only [bc,reduceCtorEq,Option.some.injEq] at h
  case any=>subst h;simp [aa]
  case nilptr=>subst h;cases p <;> first|exact h1 rfl|exact h2 rfl
 | .ptr hh o,y,v,u,h,h1,h2=>by
  cases y <;> simp only [bc,reduceCtorEq,Option.some.injEq] at h
  case any=>subst h;simp [aa]
  case ptr h' o'=>
   split at h
   case isFalse=>cases h
   rename_i e;obtain ⟨rfl,rfl⟩:=e
   cases h
   cases p <;> first|exact h1 rfl|exact h2 rfl
 | .fp t xs i o,y,v,u,h,h1,h2=>by
  cases y <;> simp only [bc,reduceCtorEq,Option.some.injEq] at h
  case any=>subst h;simp [aa]
  case fp t' ys j o'=>
   split at h
   case isFalse=>cases h
   rename_i e;subst e
   split at h
   case isFalse=>cases h
   rename_i e;subst e
   cases h
   cases p <;> first|exact h1 rfl|exact h2 rfl
 | .rp hh ver i o,y,v,u,h,h1,h2=>by
  cases y <;> simp only [bc,reduceCtorEq,Option.some.injEq] at h
  case any=>subst h;simp [aa]
  case rp h' ver' j o'=>
   split at h
   case isFalse=>cases h
   rename_i e;obtain ⟨rfl,rfl,rfl⟩:=e
   cases h
   cases p <;> first|exact h1 rfl|exact h2 rfl
 | .nilsl,y,v,u,h,h1,h2=>by
  cases y <;> simp only [bc,reduceCtorEq,Option.some.injEq] at h
  case any=>subst h;simp [aa]
  case nilsl=>subst h;cases p <;> first|exact h1 rfl|exact h2 rfl
  case fsl t ys=>
   subst h
   cases p
   ·exact h2 rfl
   ·have:=h1 rfl
    simp only [aa] at this ⊢
    subst this
    exact .nil
 | .esl,y,v,u,h,h1,h2=>by
  cases y <;> simp only [bc,reduceCtorEq,Option.some.injEq] at h
  case any=>subst h;simp [aa]
  case esl=>subst h;cases p <;> first|exact h1 rfl|exact h2 rfl
 | .osl hh ver,y,v,u,h,h1,h2=>by
  cases y <;> simp only [bc,reduceCtorEq,Option.some.injEq] at h
  case any=>subst h;simp [aa]
  case osl h' ver'=>
   split at h
   case isFalse=>cases h
   rename_i e;obtain ⟨rfl,rfl⟩:=e
   cases h
   cases p <;> first|exact h1 rfl|exact h2 rfl
 | .fsl t xs,y,v,u,h,h1,h2=>by
  cases y <;> simp only [bc,reduceCtorEq,Option.some.injEq] at h
  case any=>subst h;simp [aa]
  case fsl t' ys=>
   split at h
   case isFalse=>cases h
   rename_i e;subst e
   cases h
   cases p <;> first|exact h1 rfl|exact h2 rfl
  case nilsl=>
   subst h
   cases p
   ·have:=h2 rfl
    simp only [aa] at this ⊢
    subst this
    exact .nil
   ·exact h1 rfl
 | .hint _ _,y,v,u,h,h1,h2=>by
  simp only [bc,Option.some.injEq] at h
  subst h;simp [aa]
 | .gsl hh ver e o l,y,v,u,h,h1,h2=>by
  cases y <;> simp only [bc,reduceCtorEq,Option.some.injEq] at h
  case any=>subst h;simp [aa]
  case gsl h' ver' e' o' l'=>
   split at h
   case isFalse=>cases h
   rename_i e;obtain ⟨rfl,rfl,rfl,rfl,rfl⟩:=e
   cases h
   cases p <;> first|exact h1 rfl|exact h2 rfl
 | .gp hh ver o,y,v,u,h,h1,h2=>by
  cases y <;> simp only [bc,reduceCtorEq,Option.some.injEq] at h
  case any=>subst h;simp [aa]
  case gp h' ver' o'=>
   split at h
   case isFalse=>cases h
   rename_i e;obtain ⟨rfl,rfl,rfl⟩:=e
   cases h
   cases p <;> first|exact h1 rfl|exact h2 rfl
 | .mpv hh,y,v,u,h,h1,h2=>by
  cases y <;> simp only [bc,reduceCtorEq,Option.some.injEq] at h
  case any=>subst h;simp [aa]
  case mpv h'=>
   split at h
   case isFalse=>cases h
   rename_i e;subst e
   cases h
   cases p <;> first|exact h1 rfl|exact h2 rfl
 | .nilfn,y,v,u,h,h1,h2=>by
  cases y <;> simp only [bc,reduceCtorEq,Option.some.injEq] at h
  case any=>subst h;simp [aa]
  case nilfn=>subst h;cases p <;> first|exact h1 rfl|exact h2 rfl
 | .nilmap,y,v,u,h,h1,h2=>by
  cases y <;> simp only [bc,reduceCtorEq,Option.some.injEq] at h
  case any=>subst h;simp [aa]
  case nilmap=>subst h;cases p <;> first|exact h1 rfl|exact h2 rfl
 | .fn f cs,y,v,u,h,h1,h2=>by
  cases y <;> simp only [bc,reduceCtorEq,Option.some.injEq] at h
  case any=>subst h;simp [aa]
  case fn f' ds=>
   split at h
   case isFalse=>cases h
   rename_i e;subst e
   split at h
   case h_2=>cases h
   rename_i l hl
   cases h
   simp only [aa] at h1 h2 ⊢
   cases p with
   | true=>
    obtain ⟨l',e1,e2⟩:=h1 rfl
    exact ⟨l',e1,a8 cs ds l l'.toList hl (fun _=>e2) (fun e=>by cases e)⟩
   | false=>
    obtain ⟨l',e1,e2⟩:=h2 rfl
    exact ⟨l',e1,a8 cs ds l l'.toList hl (fun e=>by cases e) (fun _=>e2)⟩
 | .agg cs,y,v,u,h,h1,h2=>by
  cases y <;> simp only [bc,reduceCtorEq,Option.some.injEq] at h
  case any=>subst h;simp [aa]
  case agg ds=>
   split at h
   case h_2=>cases h
   rename_i l hl
   cases h
   simp only [aa] at h1 h2 ⊢
   cases p with
   | true=>
    obtain ⟨l',e1,e2⟩:=h1 rfl
    exact ⟨l',e1,a8 cs ds l l'.toList hl (fun _=>e2) (fun e=>by cases e)⟩
   | false=>
    obtain ⟨l',e1,e2⟩:=h2 rfl
    exact ⟨l',e1,a8 cs ds l l'.toList hl (fun e=>by cases e) (fun _=>e2)⟩
 | .tup cs,y,v,u,h,h1,h2=>by
  cases y <;> simp only [bc,reduceCtorEq,Option.some.injEq] at h
  case any=>subst h;simp [aa]
  case tup ds=>
   split at h
   case h_2=>cases h
   rename_i l hl
   cases h
   simp only [aa] at h1 h2 ⊢
   cases p with
   | true=>
    obtain ⟨l',e1,e2⟩:=h1 rfl
    exact ⟨l',e1,a8 cs ds l l'.toList hl (fun _=>e2) (fun e=>by cases e)⟩
   | false=>
    obtain ⟨l',e1,e2⟩:=h2 rfl
    exact ⟨l',e1,a8 cs ds l l'.toList hl (fun e=>by cases e) (fun _=>e2)⟩
theorem a8 {E:Env} {p:Bool} :∀ (xs ys l:List V) (us:List Value),eo p xs ys=some l→(p=true→ab E xs us)→(p=false→ab E ys us)→ab E l us
 | [],[],l,us,h,h1,h2=>by
  simp only [eo,Option.some.injEq] at h
  subst h
  cases p
  ·exact h2 rfl
  ·exact h1 rfl
 | _::_,[],l,us,h,_,_=>by simp [eo] at h
 | [],_::_,l,us,h,_,_=>by simp [eo] at h
 | x::xs,y::ys,l,us,h,h1,h2=>by
  simp only [eo] at h
  split at h
  case h_2=>cases h
  rename_i v hv
  split at h
  case h_2=>cases h
  rename_i l' hl
  cases h
  cases us with
  | nil=>
   cases p
   ·have:=h2 rfl;simp [ab] at this
   ·have:=h1 rfl;simp [ab] at this
  | cons u us=>
   simp only [ab] at h1 h2 ⊢
   exact ⟨lG x y v u hv (fun e=>(h1 e).1) (fun e=>(h2 e).1),a8 xs ys l' us hl (fun e=>(h1 e).2) (fun e=>(h2 e).2)⟩
end
theorem HRel.weak {B:Base} {E:Env} (hE:HRel B E) (H':ai) (h :∀ h k',H' h=some k'→∃ k,E.H h=some k∧(k'=k∨∃ cs cs',k = .cells cs∧k' = .cells cs'∧∀ l,ab E cs l→ab E cs' l)) :
  HRel B { E with H:=H' }∧Ext E { E with H:=H' }:=by
 have X:Ext E { E with H:=H' }:=by
  refine ⟨fun _ h=>h,fun _ h=>h,fun _ _=>rfl,fun hh cs _ hx=>?_,fun hh ver rw t xs _ _ hx=>?_,fun hh ver esz cs _ _ hx=>?_,fun hh es _ hx=>?_⟩
  ·obtain ⟨k,h1,h2⟩:=h _ _ hx
   rcases h2 with h2 |⟨cs1,cs2,h2,h3,_⟩
   ·subst h2;exact ⟨⟨_,h1⟩,rfl⟩
   ·subst h2;exact ⟨⟨_,h1⟩,rfl⟩
  ·obtain ⟨k,h1,h2⟩:=h _ _ hx
   rcases h2 with h2 |⟨cs1,cs2,h2,h3,_⟩
   ·subst h2;exact ⟨rw,xs,h1,rfl,rfl,fun b c T fr _ hw=>⟨c,T,fr,hw,rfl⟩⟩
   ·cases h3
  ·obtain ⟨k,h1,h2⟩:=h _ _ hx
   rcases h2 with h2 |⟨cs1,cs2,h2,h3,_⟩
   ·subst h2;exact ⟨cs,h1,rfl,rfl,fun b c T fr _ hw=>⟨c,T,fr,hw,rfl⟩⟩
   ·cases h3
  ·obtain ⟨k,h1,h2⟩:=h _ _ hx
   rcases h2 with h2 |⟨cs1,cs2,h2,h3,_⟩
   ·subst h2;exact ⟨⟨es,h1⟩,rfl⟩
   ·cases h3
 refine ⟨⟨fun hh b hx=>?_,hE.stab,fun hh k b hx hb=>?_,fun h1 h2 k1 k2 b x1 x2 b1 b2=>?_,fun hh k hx=>?_,hE.keeps,fun hh k b hx hb=>?_,hE.s0,hE.sb⟩,X⟩
 ·obtain ⟨k,h1,_⟩:=h _ _ hx;exact hE.used _ _ h1
 ·obtain ⟨k,h1,_⟩:=h _ _ hx;exact hE.lt _ _ _ h1 hb
 ·obtain ⟨_,y1,_⟩:=h _ _ x1
  obtain ⟨_,y2,_⟩:=h _ _ x2
  exact hE.inj _ _ _ _ _ y1 y2 b1 b2
 ·obtain ⟨k0,h1,h2⟩:=h _ _ hx
  rcases h2 with h2 |⟨cs1,cs2,h2,h3,h4⟩
  ·subst h2;exact bQ X rfl (fun _ _=>rfl) (fun _ _ _ h=>h) (hE.blk _ _ h1)
  ·subst h2;subst h3
   obtain ⟨b,c,T,fr,g1,g2,g3,g4,g5⟩:=hE.blk _ _ h1
   exact ⟨b,c,T,fr,g1,g2,g3,g4,aC X _ _ (h4 _ g5)⟩
 ·obtain ⟨k,h1,_⟩:=h _ _ hx;exact hE.own _ _ _ h1 hb
theorem cz {α:Type} :∀ (l:List (Nat×α)) (acc:List Nat) (k:Nat),(k∈acc∨find l k≠none)→k∈gn l acc
 | [],acc,k,h=>by
  rcases h with h|h
  ·exact h
  ·simp [find] at h
 |(a,b)::l,acc,k,h=>by
  unfold gn
  cases hm:memN acc a with
  | true=>
   refine cz l acc k ?_
   rcases h with h|h
   ·exact .inl h
   ·simp only [find] at h
    cases hb:Nat.beq a k with
    | true=>obtain rfl:=Nat.eq_of_beq_eq_true hb;exact .inl (memN_iff.1 hm)
    | false=>rw [hb] at h;exact .inr h
  | false=>
   refine cz l (a::acc) k ?_
   rcases h with h|h
   ·exact .inl (List.mem_cons_of_mem _ h)
   ·simp only [find] at h
    cases hb:Nat.beq a k with
    | true=>obtain rfl:=Nat.eq_of_beq_eq_true hb;exact .inl List.mem_cons_self
    | false=>rw [hb] at h;exact .inr h
theorem lF {E:Env} {p:Bool} {x y v:V} {u:Value} (h:sM p x y=some v) (h1:p=true→aa E x u) (h2:p=false→aa E y u):aa E v u:=by
 unfold sM at h
 cases hb:nB x||nB y with
 | true=>rw [hb] at h;simp only [cond_true,Option.some.injEq] at h;subst h;simp [aa]
 | false=>rw [hb] at h;exact lG _ _ _ _ h h1 h2
theorem iq {p:Bool} {t1 t2:List (Nat×V)} :∀ {ks:List Nat} {l:List (Nat×V)},im p t1 t2 ks=some l→∀ s v,find l s=some v→s∈ks∧sM p (bT t1 s) (bT t2 s)=some v
 | [],l,h,s,v,hf=>by simp only [im,Option.some.injEq] at h;subst h;simp [find] at hf
 | k::ks,l,h,s,v,hf=>by
  simp only [im] at h
  split at h
  case h_2=>cases h
  rename_i v0 hv
  split at h
  case h_2=>cases h
  rename_i l' hl
  cases h
  simp only [find] at hf
  cases hb:Nat.beq k s with
  | true=>
   obtain rfl:=Nat.eq_of_beq_eq_true hb
   rw [hb] at hf;simp only [cond_true,Option.some.injEq] at hf;subst hf
   exact ⟨List.mem_cons_self,hv⟩
  | false=>
   rw [hb] at hf
   obtain ⟨h1,h2⟩:=iq hl s v hf
   exact ⟨List.mem_cons_of_mem _ h1,h2⟩
theorem lE {p:Bool} {t1 t2:List (Nat×V)} :∀ {ks:List Nat} {l:List (Nat×V)},im p t1 t2 ks=some l→∀ s,find l s=none→s∉ks
 | [],l,h,s,hf=>by simp
 | k::ks,l,h,s,hf=>by
  simp only [im] at h
  split at h
  case h_2=>cases h
  split at h
  case h_2=>cases h
  rename_i l' hl
  cases h
  simp only [find] at hf
  cases hb:Nat.beq k s with
  | true=>rw [hb] at hf;cases hf
  | false=>
   rw [hb] at hf
   intro hm
   rcases List.mem_cons.1 hm with rfl|hm
   ·rw [Nat.beq_refl] at hb;cases hb
   ·exact lE hl s hf hm
theorem il {p:Bool} {H H1 H2:ai} :∀ {ks:List Nat} {l:List (Nat×Blk)},jN p H H1 H2 ks=some l→
  (∀ h b,find l h=some b→∃ b1 b2,H1 h=some b1∧H2 h=some b2∧sK p b1 b2=some b)∧(∀ h,find l h=none→h∈ks→H h=none)
 | [],l,h=>by simp only [jN,Option.some.injEq] at h;subst h;exact ⟨fun h b hf=>by simp [find] at hf,fun h _ hm=>by simp at hm⟩
 | k::ks,l,h=>by
  simp only [jN] at h
  split at h
  ·rename_i b1 b2 e1 e2
   split at h
   case h_2=>cases h
   rename_i b hb
   split at h
   case h_2=>cases h
   rename_i l' hl
   cases h
   obtain ⟨g1,g2⟩:=il hl
   refine ⟨fun h b' hf=>?_,fun h hf hm=>?_⟩
   ·simp only [find] at hf
    cases hbq:Nat.beq k h with
    | true=>
     obtain rfl:=Nat.eq_of_beq_eq_true hbq
     rw [hbq] at hf;simp only [cond_true,Option.some.injEq] at hf;subst hf
     exact ⟨b1,b2,e1,e2,hb⟩
    | false=>rw [hbq] at hf;exact g1 h b' hf
   ·simp only [find] at hf
    cases hbq:Nat.beq k h with
    | true=>rw [hbq] at hf;cases hf
    | false=>
     rw [hbq] at hf
     rcases List.mem_cons.1 hm with rfl|hm
     ·rw [Nat.beq_refl] at hbq;cases hbq
     ·exact g2 h hf hm
  ·split at h
   ·cases h
   ·rename_i hH
    obtain ⟨g1,g2⟩:=il h
    refine ⟨g1,fun h hf hm=>?_⟩
    rcases List.mem_cons.1 hm with rfl|hm
    ·exact hH
    ·exact g2 h hf hm
theorem lD {E:Env} {p:Bool} {b1 b2 b:Blk} (h:sK p b1 b2=some b) :
  (p=true→b=b1∨∃ cs cs',b1 = .cells cs∧b = .cells cs'∧∀ l,ab E cs l→ab E cs' l)∧(p=false→b=b2∨∃ cs cs',b2 = .cells cs∧b = .cells cs'∧∀ l,ab E cs l→ab E cs' l):=by
 unfold sK at h
 split at h
 ·rename_i cs ds
  split at h
  case h_2=>cases h
  rename_i l hl
  cases h
  exact ⟨fun e=> .inr ⟨cs,l,rfl,rfl,fun us hu=>a8 cs ds l us hl (fun _=>hu) (fun e'=>by rw [e] at e';cases e')⟩,fun e=> .inr ⟨ds,l,rfl,rfl,fun us hu=>a8 cs ds l us hl (fun e'=>by rw [e] at e';cases e') (fun _=>hu)⟩⟩
 ·split at h
  case isFalse=>cases h
  rename_i e
  subst e
  split at h
  case isFalse=>cases h
  rename_i e
  obtain ⟨rfl,rfl⟩:=e
  cases h
  exact ⟨fun e=> .inl (by subst e;rfl),fun e=> .inl (by subst e;rfl)⟩
 ·cases h
theorem SRel.weak {B:Base} {N:Nat} {T T':Nat→Option V} {H H':ai} {U U':Nat→Prop} {a:Act} {w:World} (hs:SRel B N T H U a w) (hU :∀ n,U n→U' n)
  (hH :∀ E:Env,E.H=H→∀ h k',H' h=some k'→∃ k,H h=some k∧(k'=k∨∃ cs cs',k = .cells cs∧k' = .cells cs'∧∀ l,ab E cs l→ab E cs' l))
  (hT :∀ E:Env,cW E T a→∀ s v,T' s=some v→aa E v (a.tmps.getD s undef)):SRel B N T' H' U' a w:=by
 obtain ⟨⟨E,hE,rfl,hEH,⟨hG,hEU⟩,hET⟩,hsz,hd⟩:=hs
 obtain ⟨R,X⟩:=hE.weak H' (fun h k' hx=>by rw [hEH];exact hH E hEH h k' hx)
 exact ⟨⟨_,R,rfl,rfl,⟨B.clo _ _ hG X,fun n hn=>hU n (hEU n hn)⟩,fun s v hv=>aU X _ _ (hT E hET s v hv)⟩,hsz,hd⟩
theorem kn {B:Base} {N:Nat} {p:Bool} {st:St} {d1 d2 d:Dl} (h:sL p st d1 d2=some d) {U U':Nat→Prop} (hU :∀ n,U n→U' n) {a:Act} {w:World} :
  (p=true→SRel B N (find (d1.tm++st.tm)) (aj st.H d1.hp) U a w→SRel B N (find (d.tm++st.tm)) (aj st.H d.hp) U' a w)∧
  (p=false→SRel B N (find (d2.tm++st.tm)) (aj st.H d2.hp) U a w→SRel B N (find (d.tm++st.tm)) (aj st.H d.hp) U' a w):=by
 unfold sL at h
 split at h
 case h_2=>cases h
 rename_i tm htm
 split at h
 case h_2=>cases h
 rename_i hp hhp
 cases h
 obtain ⟨g1,g2⟩:=il hhp
 have hTn :∀ s,find tm s=none→find d1.tm s=none∧find d2.tm s=none:=fun s hs=>by
  have hn:=lE htm s hs
  constructor
  ·cases hf:find d1.tm s with
   | none=>rfl
   | some v=>exact absurd (cz _ _ _ (.inr (by rw [hf];simp))) hn
  ·cases hf:find d2.tm s with
   | none=>rfl
   | some v=>exact absurd (cz _ _ _ (.inl (cz _ _ _ (.inr (by rw [hf];simp))))) hn
 have hHn :∀ h,find hp h=none→(find d1.hp h=none∧find d2.hp h=none)∨st.H h=none:=fun h hs=>by
  by_cases hm:h∈gn d1.hp (gn d2.hp [])
  ·exact .inr (g2 h hs hm)
  ·left
   constructor
   ·cases hf:find d1.hp h with
    | none=>rfl
    | some v=>exact absurd (cz _ _ _ (.inr (by rw [hf];simp))) hm
   ·cases hf:find d2.hp h with
    | none=>rfl
    | some v=>exact absurd (cz _ _ _ (.inl (cz _ _ _ (.inr (by rw [hf];simp))))) hm
 refine ⟨fun hp1 hs=>hs.weak hU (fun E hEH h k' hx=>?_) (fun E hE s v hv=>?_),fun hp1 hs=>hs.weak hU (fun E hEH h k' hx=>?_) (fun E hE s v hv=>?_)⟩
 ·simp only [aj] at hx ⊢
  cases hf:find hp h with
  | some b=>
   rw [hf] at hx
   simp only [Option.some.injEq] at hx
   subst hx
   obtain ⟨b1,b2,e1,e2,e3⟩:=g1 h b hf
   exact ⟨b1,by simpa [aj] using e1,(lD (E:=E) e3).1 hp1⟩
  | none=>
   rw [hf] at hx
   rcases hHn h hf with ⟨h1,h2⟩|h1
   ·rw [h1];exact ⟨k',hx,.inl rfl⟩
   ·simp only at hx;rw [h1] at hx;cases hx
 ·rw [bl] at hv
  cases hf:find tm s with
  | some x=>
   rw [hf] at hv
   simp only [Option.some.injEq] at hv
   subst hv
   exact lF (iq htm s x hf).2 (fun _=>bZ hE s) (fun e=>by rw [hp1] at e;cases e)
  | none=>
   rw [hf] at hv
   refine hE s v ?_
   rw [bl,(hTn s hf).1];exact hv
 ·simp only [aj] at hx ⊢
  cases hf:find hp h with
  | some b=>
   rw [hf] at hx
   simp only [Option.some.injEq] at hx
   subst hx
   obtain ⟨b1,b2,e1,e2,e3⟩:=g1 h b hf
   exact ⟨b2,by simpa [aj] using e2,(lD (E:=E) e3).2 hp1⟩
  | none=>
   rw [hf] at hx
   rcases hHn h hf with ⟨h1,h2⟩|h1
   ·rw [h2];exact ⟨k',hx,.inl rfl⟩
   ·simp only at hx;rw [h1] at hx;cases hx
 ·rw [bl] at hv
  cases hf:find tm s with
  | some x=>
   rw [hf] at hv
   simp only [Option.some.injEq] at hv
   subst hv
   exact lF (iq htm s x hf).2 (fun e=>by rw [hp1] at e;cases e) (fun _=>bZ hE s)
  | none=>
   rw [hf] at hv
   refine hE s v ?_
   rw [bl,(hTn s hf).2];exact hv
end Go.Mir
namespace Go.Mir
open Go.RowKit
variable {P:Program}
def at_ (B:Base) (N:Nat) (st:St) (d:Dl) (nx:Nat) (a:Act) (w:World):Prop:=SRel B N (find (d.tm++st.tm)) (aj st.H d.hp) (fun n=>n<nx) a w
def gm (B:Base) (N:Nat) (st:St) (a:Act) (w:World):Prop:=SRel B N (find st.tm) st.H (fun n=>n<st.nx) a w
theorem at_here {B:Base} {N:Nat} {st:St} {d:Dl} {nx:Nat} {a:Act} {w:World}:at_ B N st d nx a w↔gm B N (st.app d nx) a w:=by
 unfold at_ gm St.app St.H
 rw [bF]
theorem at_pre {B:Base} {N:Nat} {st:St} {d d':Dl} {nx nx':Nat} {a:Act} {w:World}:at_ B N (st.app d nx) d' nx' a w↔at_ B N st ⟨d'.tm++d.tm,d'.hp++d.hp⟩ nx' a w:=by
 unfold at_ St.app St.H
 simp only [bF,List.append_assoc]
def dD:Lf→Exit
 | .nrm=> .normal
 | .ext id=> .exit id
 | .ret=> .ret
theorem ep {Q:Lf→Dl→Nat→Prop} {d:Dl} :∀ {t:Tr},(t.pre d).sat Q↔t.sat fun e d' nx=>Q e ⟨d'.tm++d.tm,d'.hp++d.hp⟩ nx
 | .leaf _ _ _=>Iff.rfl
 | .br b t e=>by simp only [Tr.pre,Tr.sat,ep (t:=t),ep (t:=e)]
 | .need p t=>by simp only [Tr.pre,Tr.sat,ep (t:=t)]
 | .both t u=>by simp only [Tr.pre,Tr.sat,ep (t:=t),ep (t:=u)]
 | .when b t=>by simp only [Tr.pre,Tr.sat,ep (t:=t)]
 | .done=>Iff.rfl
 | .bad=>Iff.rfl
theorem Tr.sat_mono {Q Q':Lf→Dl→Nat→Prop} (h :∀ e d nx,Q e d nx→Q' e d nx) :∀ {t:Tr},t.sat Q→t.sat Q'
 | .leaf _ _ _,hs=>h _ _ _ hs
 | .br _ _ _,hs=>⟨fun hb=>sat_mono h (hs.1 hb),fun hb=>sat_mono h (hs.2 hb)⟩
 | .need _ _,hs=>⟨hs.1,sat_mono h hs.2⟩
 | .both _ _,hs=>⟨sat_mono h hs.1,sat_mono h hs.2⟩
 | .when _ _,hs=>fun hb=>sat_mono h (hs hb)
 | .done,hs=>hs
 | .bad,hs=>hs
def vI (Y:Dl→Nat→Prop) (Q:Lf→Dl→Nat→Prop):Lf→Dl→Nat→Prop
 | .nrm,d,nx=>Y d nx
 | e,d,nx=>Q e d nx
theorem dV {Q:Lf→Dl→Nat→Prop} {k:Dl→Nat→Tr} :∀ {t:Tr},(t.graft k).sat Q→t.sat (vI (fun d nx=>((k d nx).pre d).sat Q) Q)
 | .leaf .nrm _ _,h=>h
 | .leaf (.ext _) _ _,h=>h
 | .leaf .ret _ _,h=>h
 | .br _ _ _,h=>⟨fun hb=>dV (h.1 hb),fun hb=>dV (h.2 hb)⟩
 | .need _ _,h=>⟨h.1,dV h.2⟩
 | .both _ _,h=>⟨dV h.1,dV h.2⟩
 | .when _ _,h=>fun hb=>dV (h hb)
 | .done,h=>h
 | .bad,h=>h
theorem KB.ite_val (b:Bool) (x y:KB) :(KB.ite b x y).val=cond b x.val y.val:=by
 cases x <;> cases y <;> cases b <;> simp [KB.ite,KB.val]
theorem KB.or_val (x y:KB) :(KB.or x y).val =(x.val||y.val):=by
 cases x <;> cases y <;> simp [KB.or,KB.val]
theorem KB.and_val (b:Bool) (x:KB) :(KB.and b x).val =(b&&x.val):=by
 cases x <;> simp [KB.and,KB.val]
theorem cN {st:St} {Q:Lf→Dl→Nat→Prop} {Y:Dl→Nat→Prop} :∀ {t:Tr},t.mrg st=some none→t.cut.sat Q→t.sat (vI Y Q)
 | .leaf .nrm d nx,h,_=>by simp [Tr.mrg] at h
 | .leaf (.ext id) d nx,_,hs=>hs
 | .leaf .ret d nx,_,hs=>hs
 | .br b t e,h,hs=>by
  simp only [Tr.mrg] at h
  have h2:t.mrg st=some none∧e.mrg st=some none:=by
   split at h
   ·rename_i h1;exact ⟨h1,h⟩
   ·rename_i h1 _;exact ⟨h,h1⟩
   ·split at h <;> simp at h
   ·simp at h
  exact ⟨fun hb=>cN h2.1 (hs.1 hb),fun hb=>cN h2.2 (hs.2 hb)⟩
 | .need p t,h,hs=>⟨hs.1,cN (t:=t) h hs.2⟩
 | .both t u,h,hs=>by
  simp only [Tr.mrg] at h
  have h2:t.mrg st=some none∧u.mrg st=some none:=by
   split at h
   ·rename_i h1;exact ⟨h1,h⟩
   ·rename_i h1 _;exact ⟨h,h1⟩
   ·simp at h
  exact ⟨cN h2.1 hs.1,cN h2.2 hs.2⟩
 | .when b t,h,hs=>fun hb=>cN (t:=t) h (hs hb)
 | .done,_,hs=>hs
 | .bad,_,hs=>hs
theorem cO {B:Base} {N:Nat} {st:St} {Q:Lf→Dl→Nat→Prop} {Y:Act→World→Prop} :∀ {t:Tr} {d:Dl} {nx:Nat},t.mrg st=some (some (d,nx))→t.cut.sat Q→(t.isN.val=true→∀ a w,at_ B N st d nx a w→Y a w)→
  t.sat (vI (fun d nx=>∀ a w,at_ B N st d nx a w→Y a w) Q)
 | .leaf .nrm d' nx',d,nx,h,_,hy=>by
  simp only [Tr.mrg,Option.some.injEq,Prod.mk.injEq] at h
  obtain ⟨rfl,rfl⟩:=h
  exact hy rfl
 | .leaf (.ext id) _ _,d,nx,h,_,_=>by simp [Tr.mrg] at h
 | .leaf .ret _ _,d,nx,h,_,_=>by simp [Tr.mrg] at h
 | .br b t e,d,nx,h,hs,hy=>by
  simp only [Tr.isN,KB.ite_val] at hy
  simp only [Tr.mrg] at h
  split at h
  ·rename_i h1
   refine ⟨fun hb=>cN h1 (hs.1 hb),fun hb=>cO h (hs.2 hb) (fun hn=>hy (by rw [hb];exact hn))⟩
  ·rename_i h1 _
   refine ⟨fun hb=>cO h (hs.1 hb) (fun hn=>hy (by rw [hb];exact hn)),fun hb=>cN h1 (hs.2 hb)⟩
  ·rename_i d1 n1 d2 n2 e1 e2
   split at h
   case h_2=>cases h
   rename_i dm hm
   simp only [Option.some.injEq,Prod.mk.injEq] at h
   obtain ⟨rfl,rfl⟩:=h
   refine ⟨fun hb=>cO e1 (hs.1 hb) (fun hn a w ha=>?_),fun hb=>cO e2 (hs.2 hb) (fun hn a w ha=>?_)⟩
   ·refine hy (by rw [hb];exact hn) a w ?_
    exact (kn hm (fun n h=>Nat.lt_of_lt_of_le h (Nat.le_max_left n1 n2))).1 hb ha
   ·refine hy (by rw [hb];exact hn) a w ?_
    exact (kn hm (fun n h=>Nat.lt_of_lt_of_le h (Nat.le_max_right n1 n2))).2 hb ha
  ·simp at h
 | .need p t,d,nx,h,hs,hy=>⟨hs.1,cO (t:=t) h hs.2 hy⟩
 | .both t u,d,nx,h,hs,hy=>by
  simp only [Tr.isN,KB.or_val,Bool.or_eq_true] at hy
  simp only [Tr.mrg] at h
  split at h
  ·rename_i h1
   exact ⟨cN h1 hs.1,cO h hs.2 (fun hn=>hy (.inr hn))⟩
  ·rename_i h1 _
   exact ⟨cO h hs.1 (fun hn=>hy (.inl hn)),cN h1 hs.2⟩
  ·simp at h
 | .when b t,d,nx,h,hs,hy=>fun hb=>cO (t:=t) h (hs hb) (fun hn=>hy (by simp only [Tr.isN,KB.and_val,hb,hn,Bool.and_self]))
 | .done,_,_,h,_,_=>by simp [Tr.mrg] at h
 | .bad,_,_,_,hs,_=>hs.elim
theorem l9 {Q:Lf→Dl→Nat→Prop} :∀ {t:Tr},t.clean=true→t.cut.sat Q
 | .leaf .nrm _ _,_=>trivial
 | .leaf (.ext _) _ _,h=>by simp [Tr.clean] at h
 | .leaf .ret _ _,h=>by simp [Tr.clean] at h
 | .br b t e,h=>by
  simp only [Tr.clean,Bool.and_eq_true] at h
  exact ⟨fun _=>l9 h.1,fun _=>l9 h.2⟩
 | .need _ _,h=>by simp [Tr.clean] at h
 | .both _ _,h=>by simp [Tr.clean] at h
 | .when _ _,h=>by simp [Tr.clean] at h
 | .done,h=>by simp [Tr.clean] at h
 | .bad,h=>by simp [Tr.clean] at h
theorem lP {B:Base} {N:Nat} {st:St} {t:Tr} {k:Dl→Nat→Tr} {Q:Lf→Dl→Nat→Prop} {Y:Act→World→Prop} (h :(zA st t k).sat Q)
  (hk :∀ d nx,((k d nx).pre d).sat Q→∀ a w,at_ B N st d nx a w→Y a w):t.sat (vI (fun d nx=>∀ a w,at_ B N st d nx a w→Y a w) Q):=by
 have byGraft :(t.graft k).sat Q→t.sat (vI (fun d nx=>∀ a w,at_ B N st d nx a w→Y a w) Q):=fun hg=>
  Tr.sat_mono (fun e d nx hq=>by
   cases e with
   | nrm=>exact hk d nx hq
   | ext id=>exact hq
   | ret=>exact hq) (dV hg)
 unfold zA at h
 cases hb:Nat.ble t.nN 1 with
 | true=>rw [hb] at h;exact byGraft h
 | false=>
  rw [hb] at h
  simp only [cond_false] at h
  split at h
  ·rename_i d nx hm
   cases hc:t.clean with
   | true=>
    rw [hc] at h
    exact cO hm (l9 hc) (fun _=>hk d nx h)
   | false=>
    rw [hc] at h
    simp only [cond_false,Tr.sat] at h
    exact cO hm h.1 (fun hn=>hk d nx (h.2 hn))
  ·exact byGraft h
theorem cE {Q:Lf→Dl→Nat→Prop} {id:Nat} :∀ {t:Tr},(t.catch id).sat Q→t.sat fun e d nx=>match e with | .ext id'=>if id'=id then Q .nrm d nx else Q (.ext id') d nx|e=>Q e d nx
 | .leaf .nrm d nx,h=>h
 | .leaf (.ext id') d nx,h=>by
  simp only [Tr.catch] at h
  simp only [Tr.sat]
  split
  ·rename_i e;rw [if_pos e] at h;exact h
  ·rename_i e;rw [if_neg e] at h;exact h
 | .leaf .ret d nx,h=>h
 | .br b t e,h=>⟨fun hb=>cE (h.1 hb),fun hb=>cE (h.2 hb)⟩
 | .need p t,h=>⟨h.1,cE h.2⟩
 | .both t u,h=>⟨cE h.1,cE h.2⟩
 | .when b t,h=>fun hb=>cE (h hb)
 | .done,h=>h
 | .bad,h=>h
def nG (P:Program) (N:Nat) (B:Base) (body:Code) (L:LoopSum):Prop:=
 ∀ (st:St) (Q:Lf→Dl→Nat→Prop) (CQ:Exit→Act→World→Prop),L.pre st→(L.T st).sat Q→(∀ e d nx a w,Q e d nx→at_ B N st d nx a w→CQ (dD e) a w)→∀ a w,gm B N st a w→(Code.loop body).wp P CQ a w
def Base.free (B:Base):Prop:=∀ E,B.G E
def ry (P:Program) (N:Nat) (body:Code) (L:LoopSum):Prop:=∀ (B:Base),B.free→nG P N B body L
theorem dF {B:Base} {N:Nat} {st:St} {a:Act} {w:World} (h:gm B N st a w):at_ B N st ⟨[],[]⟩ st.nx a w:=h
theorem dL {B:Base} {N:Nat} {b:Code} {f:St→Tr}
  (hb :∀ (st:St) (Q:Lf→Dl→Nat→Prop) (CQ:Exit→Act→World→Prop),(f st).sat Q→(∀ e d nx a w,Q e d nx→at_ B N st d nx a w→CQ (dD e) a w)→∀ a w,gm B N st a w→b.wp P CQ a w) :
  ∀ (n:Nat) (st:St) (Q:Lf→Dl→Nat→Prop) (CQ:Exit→Act→World→Prop),(kZ f n st).sat Q→(∀ e d nx a w,Q e d nx→at_ B N st d nx a w→CQ (dD e) a w)→∀ a w,gm B N st a w→Code.rounds P b CQ n a w
 | 0,_,_,_,h,_,_,_,_=>h.elim
 | n+1,st,Q,CQ,h,hQ,a,w,hs=>by
  unfold kZ at h
  have h2:=lP (B:=B) (N:=N) (Y:=fun a w=>Code.rounds P b CQ n a w) h (fun d nx hk a w ha=>by
   rw [ep] at hk
   exact dL hb n (st.app d nx) _ CQ hk (fun e d' nx' a w hq hat=>hQ e _ _ a w hq (at_pre.1 hat)) a w (at_here.1 ha))
  rw [rounds_succ]
  refine hb st _ _ h2 (fun e d nx a w hq hat=>?_) a w hs
  cases e with
  | nrm=>exact hq a w hat
  | ext id=>exact hQ (.ext id) d nx a w hq hat
  | ret=>exact hQ .ret d nx a w hq hat
theorem bK {C:Cfg} (hC:CfgOK P C) (hP:P.follows .mixedOrders=true) {Λ:Nat→Option LoopSum} {B:Base} :∀ (c:Code),(∀ b∈ax Λ c,∀ L,Λ (rid b)=some L→nG P C.N B b L)→
  ∀ (st:St) (Q:Lf→Dl→Nat→Prop) (CQ:Exit→Act→World→Prop),(bh C Λ c st).sat Q→(∀ e d nx a w,Q e d nx→at_ B C.N st d nx a w→CQ (dD e) a w)→∀ a w,gm B C.N st a w→c.wp P CQ a w
 | .skip,_,st,Q,CQ,h,hQ,a,w,hs=>wp_skip (hQ .nrm _ _ a w h (dF hs))
 | .ret,_,st,Q,CQ,h,hQ,a,w,hs=>wp_ret (hQ .ret _ _ a w h (dF hs))
 | .exit id,_,st,Q,CQ,h,hQ,a,w,hs=>wp_exit (hQ (.ext id) _ _ a w h (dF hs))
 | .region id ops dr,_,st,Q,CQ,h,hQ,a,w,hs=>by
  simp only [bh] at h
  obtain ⟨df,rf,hrun,hc,hq⟩:=fN _ _ _ _ h
  have hfin :∀ a w,SRel B C.N (find (df.tm++st.tm)) (aj st.H df.hp) (fun n=>n<st.nx+ops.toList.length*C.K) a w→CQ .normal a w:=fun a w h'=>hQ .nrm _ _ a w hq h'
  cases dr with
  | false=>
   refine wp_region_list ?_
   have:=nD hC ops.toList 0 _ _ _ _ hrun (Q:=CQ) (B:=B) (fun a w h'=>hfin a w (by simpa using h')) a w (by simpa [gm,jl] using hs)
   simpa using this
  | true=>
   rcases hc with hc|hc
   ·cases hc
   ·have:=kB hC hP hrun hc.1 hc.2 hfin hs id
    simpa using this
 | .seq x y,hL,st,Q,CQ,h,hQ,a,w,hs=>by
  simp only [bh] at h
  have hx:=bK hC hP (Λ:=Λ) (B:=B) x (fun b hb=>hL b (by simp [ax,hb]))
  have hy:=bK hC hP (Λ:=Λ) (B:=B) y (fun b hb=>hL b (by simp [ax,hb]))
  have h2:=lP (B:=B) (N:=C.N) (Y:=fun a w=>y.wp P CQ a w) h (fun d nx hk a w ha=>by
   rw [ep] at hk
   exact hy (st.app d nx) _ CQ hk (fun e d' nx' a w hq hat=>hQ e _ _ a w hq (at_pre.1 hat)) a w (at_here.1 ha))
  refine wp_seq (hx st _ _ h2 (fun e d nx a w hq hat=>?_) a w hs)
  cases e with
  | nrm=>exact hq a w hat
  | ext id=>exact hQ (.ext id) d nx a w hq hat
  | ret=>exact hQ .ret d nx a w hq hat
 | .cond c x y,hL,st,Q,CQ,h,hQ,a,w,hs=>by
  simp only [bh] at h
  have hx:=bK hC hP (Λ:=Λ) (B:=B) x (fun b hb=>hL b (by simp [ax,hb]))
  have hy:=bK hC hP (Λ:=Λ) (B:=B) y (fun b hb=>hL b (by simp [ax,hb]))
  have hv :∃ E:Env,cW E (find st.tm) a:=by
   obtain ⟨⟨E,_,_,_,_,hT⟩,_⟩:=hs
   exact ⟨E,hT⟩
  obtain ⟨E,hT⟩:=hv
  have hc:=iu hT c
  split at h
  ·rename_i e;rw [e] at hc;simp only [aa] at hc
   exact wp_cond_true hc (hx st Q CQ h hQ a w hs)
  ·rename_i e;rw [e] at hc;simp only [aa] at hc
   exact wp_cond_false hc (hy st Q CQ h hQ a w hs)
  ·rename_i b e;rw [e] at hc;simp only [aa] at hc
   cases b with
   | true=>exact wp_cond_true hc (hx st Q CQ h hQ a w hs)
   | false=>exact wp_cond_false hc (hy st Q CQ h hQ a w hs)
  ·rename_i q e;rw [e] at hc;simp only [aa] at hc
   obtain ⟨b,hc,hq⟩:=hc
   exact wp_cond_split hc (fun hb=>hx st Q CQ (h.1 (hq hb)) hQ a w hs) (fun _=>hy st Q CQ h.2 hQ a w hs)
  ·rename_i q e;rw [e] at hc;simp only [aa] at hc
   obtain ⟨b,hc,hq⟩:=hc
   exact wp_cond_split hc (fun _=>hx st Q CQ h.2 hQ a w hs) (fun hb=>hy st Q CQ (h.1 (hq hb)) hQ a w hs)
  ·exact h.elim
 | .block id b,hL,st,Q,CQ,h,hQ,a,w,hs=>by
  simp only [bh] at h
  refine wp_block (bK hC hP b (fun b' hb=>hL b' (by simpa [ax] using hb)) st _ _ (cE h) (fun e d nx a w hq hat=>?_) a w hs)
  cases e with
  | nrm=>exact hQ .nrm d nx a w hq hat
  | ret=>exact hQ .ret d nx a w hq hat
  | ext id'=>
   simp only [dD,Exit.inBlock]
   simp only at hq
   split
   ·rename_i e;rw [if_pos e] at hq;exact hQ .nrm d nx a w hq hat
   ·rename_i e;rw [if_neg e] at hq;exact hQ (.ext id') d nx a w hq hat
 | .loop b,hL,st,Q,CQ,h,hQ,a,w,hs=>by
  simp only [bh] at h
  split at h
  ·rename_i L hl
   exact hL b (by simp [ax]) L hl st Q CQ h.1 h.2 hQ a w hs
  ·rename_i hl
   have hb:=bK hC hP (Λ:=Λ) (B:=B) b (fun b' hb'=>hL b' (by simp [ax,hl,hb']))
   exact wp_loop_rounds gd (dL hb gd st Q CQ h hQ a w hs)
 | .rangeFunc _ _ _ _,_,_,_,_,h,_,_,_,_=>h.elim
 | .scope _,_,_,_,_,h,_,_,_,_=>h.elim
 | .label _,_,_,_,_,h,_,_,_,_=>h.elim
 | .goto _,_,_,_,_,h,_,_,_,_=>h.elim
 | .refuse _,_,_,_,_,h,_,_,_,_=>h.elim
theorem ca {C:Cfg} (hC:CfgOK P C) (hP:P.follows .mixedOrders=true) {Λ:Nat→Option LoopSum} {B:Base} :∀ (c:Code),(∀ b∈ax Λ c,∀ L,Λ (rid b)=some L→nG P C.N B b L)→
  ∀ (st:St) (Q:Lf→Dl→Nat→Prop) (CQ:Exit→Act→World→Prop),(bI C Λ c st).sat Q→(∀ e d nx a w,Q e d nx→at_ B C.N st d nx a w→CQ (dD e) a w)→∀ a w,gm B C.N st a w→c.wp P CQ a w
 | .skip,_,st,Q,CQ,h,hQ,a,w,hs=>wp_skip (hQ .nrm _ _ a w h (dF hs))
 | .ret,_,st,Q,CQ,h,hQ,a,w,hs=>wp_ret (hQ .ret _ _ a w h (dF hs))
 | .exit id,_,st,Q,CQ,h,hQ,a,w,hs=>wp_exit (hQ (.ext id) _ _ a w h (dF hs))
 | .region id ops dr,_,st,Q,CQ,h,hQ,a,w,hs=>by
  simp only [bI] at h
  obtain ⟨df,rf,hrun,hc,hq⟩:=fN _ _ _ _ h
  have hfin :∀ a w,SRel B C.N (find (df.tm++st.tm)) (aj st.H df.hp) (fun n=>n<st.nx+ops.toList.length*C.K) a w→CQ .normal a w:=fun a w h'=>hQ .nrm _ _ a w hq h'
  cases dr with
  | false=>
   refine wp_region_list ?_
   have:=nD hC ops.toList 0 _ _ _ _ hrun (Q:=CQ) (B:=B) (fun a w h'=>hfin a w (by simpa using h')) a w (by simpa [gm,jl] using hs)
   simpa using this
  | true=>
   rcases hc with hc|hc
   ·cases hc
   ·have:=kB hC hP hrun hc.1 hc.2 hfin hs id
    simpa using this
 | .seq x y,hL,st,Q,CQ,h,hQ,a,w,hs=>by
  simp only [bI] at h
  have hx:=ca hC hP (Λ:=Λ) (B:=B) x (fun b hb=>hL b (by simp [ax,hb]))
  have hy:=ca hC hP (Λ:=Λ) (B:=B) y (fun b hb=>hL b (by simp [ax,hb]))
  have h2:=lP (B:=B) (N:=C.N) (Y:=fun a w=>y.wp P CQ a w) h (fun d nx hk a w ha=>by
   rw [ep] at hk
   exact hy (st.app d nx) _ CQ hk (fun e d' nx' a w hq hat=>hQ e _ _ a w hq (at_pre.1 hat)) a w (at_here.1 ha))
  refine wp_seq (hx st _ _ h2 (fun e d nx a w hq hat=>?_) a w hs)
  cases e with
  | nrm=>exact hq a w hat
  | ext id=>exact hQ (.ext id) d nx a w hq hat
  | ret=>exact hQ .ret d nx a w hq hat
 | .cond c x y,hL,st,Q,CQ,h,hQ,a,w,hs=>by
  simp only [bI] at h
  have hx:=ca hC hP (Λ:=Λ) (B:=B) x (fun b hb=>hL b (by simp [ax,hb]))
  have hy:=ca hC hP (Λ:=Λ) (B:=B) y (fun b hb=>hL b (by simp [ax,hb]))
  have hv :∃ E:Env,cW E (find st.tm) a:=by
   obtain ⟨⟨E,_,_,_,_,hT⟩,_⟩:=hs
   exact ⟨E,hT⟩
  obtain ⟨E,hT⟩:=hv
  have hc:=iu hT c
  split at h
  ·rename_i e;rw [e] at hc;simp only [aa] at hc
   exact wp_cond_true hc (hx st Q CQ h hQ a w hs)
  ·rename_i e;rw [e] at hc;simp only [aa] at hc
   exact wp_cond_false hc (hy st Q CQ h hQ a w hs)
  ·rename_i b e;rw [e] at hc;simp only [aa] at hc
   exact wp_cond_split hc (fun hb=>hx st Q CQ (h.1 hb) hQ a w hs) (fun hb=>hy st Q CQ (h.2 hb) hQ a w hs)
  ·rename_i q e;rw [e] at hc;simp only [aa] at hc
   obtain ⟨b,hc,hq⟩:=hc
   exact wp_cond_split hc (fun hb=>hx st Q CQ (h.1 (hq hb)) hQ a w hs) (fun _=>hy st Q CQ h.2 hQ a w hs)
  ·rename_i q e;rw [e] at hc;simp only [aa] at hc
   obtain ⟨b,hc,hq⟩:=hc
   exact wp_cond_split hc (fun _=>hx st Q CQ h.2 hQ a w hs) (fun hb=>hy st Q CQ (h.1 (hq hb)) hQ a w hs)
  ·exact h.elim
 | .block id b,hL,st,Q,CQ,h,hQ,a,w,hs=>by
  simp only [bI] at h
  refine wp_block (ca hC hP b (fun b' hb=>hL b' (by simpa [ax] using hb)) st _ _ (cE h) (fun e d nx a w hq hat=>?_) a w hs)
  cases e with
  | nrm=>exact hQ .nrm d nx a w hq hat
  | ret=>exact hQ .ret d nx a w hq hat
  | ext id'=>
   simp only [dD,Exit.inBlock]
   simp only at hq
   split
   ·rename_i e;rw [if_pos e] at hq;exact hQ .nrm d nx a w hq hat
   ·rename_i e;rw [if_neg e] at hq;exact hQ (.ext id') d nx a w hq hat
 | .loop b,hL,st,Q,CQ,h,hQ,a,w,hs=>by
  simp only [bI] at h
  split at h
  ·rename_i L hl
   exact hL b (by simp [ax]) L hl st Q CQ h.1 h.2 hQ a w hs
  ·rename_i hl
   have hb:=bK hC hP (Λ:=Λ) (B:=B) b (fun b' hb'=>hL b' (by simp [ax,hl,hb']))
   exact wp_loop_rounds gd (dL hb gd st Q CQ h hQ a w hs)
 | .rangeFunc _ _ _ _,_,_,_,_,h,_,_,_,_=>h.elim
 | .scope _,_,_,_,_,h,_,_,_,_=>h.elim
 | .label _,_,_,_,_,h,_,_,_,_=>h.elim
 | .goto _,_,_,_,_,h,_,_,_,_=>h.elim
 | .refuse _,_,_,_,_,h,_,_,_,_=>h.elim
end Go.Mir
namespace Go.Mir
open Go.RowKit
variable {P:Program}
structure RowD where
 t:Ty
 xs:List (Den t)
inductive RT where
 | ret (v:V) (rows:List RowD)
 | br (b:Bool) (t e:RT)
 | need (p:Prop) (t:RT)
 | both (t u:RT)
 | when (b:Bool) (t:RT)
 | done
 | bad
def RT.sat (Q:V→List RowD→Prop):RT→Prop
 | .ret v rows=>Q v rows
 | .br b t e=>(b=true→t.sat Q)∧(b=false→e.sat Q)
 | .need p t=>p∧t.sat Q
 | .both t u=>t.sat Q∧u.sat Q
 | .when b t=>b=true→t.sat Q
 | .done=>True
 | .bad=>False
mutual
def Gq (H:ai):V→List (Nat×RowD)→Option (V×List (Nat×RowD))
 | .osl h ver,acc=>match H h with
  | some (.row ver' rw t xs)=>if ver=ver' then (bif rw then (bif memN (acc.map (·.1)) h then none else some (.osl acc.length acc.length,acc++[(h,⟨t,xs⟩)])) else some (.fsl t xs,acc)) else none
  | _=>none
 | .agg cs,acc=>match Ag H cs acc with|some (l,acc')=>some (.agg l,acc')|none=>none
 | .tup cs,acc=>match Ag H cs acc with|some (l,acc')=>some (.tup l,acc')|none=>none
 | .ptr _ _,_ | .rp _ _ _ _,_ | .fp _ _ _ _,_ | .fn _ _,_ | .hint _ _,_ | .gsl _ _ _ _ _,_ | .gp _ _ _,_ | .mpv _,_=>none
 | v,acc=>some (v,acc)
def Ag (H:ai):List V→List (Nat×RowD)→Option (List V×List (Nat×RowD))
 | [],acc=>some ([],acc)
 | v::vs,acc=>match Gq H v acc with
  | some (v',acc')=>match Ag H vs acc' with
   | some (l,acc'')=>some (v'::l,acc'')
   | none=>none
  | none=>none
end
def s8 (tb:Tbl) (tm:List (Nat×V)) (H:ai):ResultVar→Option V
 | .tmp t=>some (bT tm t)
 | .cell a t=>match tb t with
  | some td=>match je td H (bT tm a) with
   | .val _ v _=>some v
   | _=>none
  | none=>none
def kW (tb:Tbl) (tm:List (Nat×V)) (H:ai):List ResultVar→Option (List V)
 | []=>some []
 | r::rs=>match s8 tb tm H r with
  | some v=>match kW tb tm H rs with
   | some l=>some (v::l)
   | none=>none
  | none=>none
def nr (tb:Tbl) (tm:List (Nat×V)) (H:ai) (rs:List ResultVar):Option V:=
 match kW tb tm H rs with
 | some [v]=>some v
 | some l=>some (.tup l)
 | none=>none
def vG:Nat→Ty→List (Option Ty)
 | 0,_=> []
 | f+1,.prod a b=>vG f a++vG f b
 | f+1,.nm n=>vG f n.flds
 | _+1,.slice t=> [some t]
 | _+1,.unit=> []
 | _+1,_=> [none]
def zj:List (Option Ty)→List V→Nat→List V×List (Nat×Blk)
 | o::ts,v::vs,n=>match o,v with
  | some t,.nilsl=>(.osl n n ::(zj ts vs (n+1)).1,(zj ts vs (n+1)).2++[(n,.row n true t [])])
  | _,v=>(v ::(zj ts vs n).1,(zj ts vs n).2)
 | _,vs,_=>(vs,[])
def GR (o:Option Ty) (v:V) (n:Nat):V×List (Nat×Blk):=match o with
 | some ty=>match v with
  | .agg cs=>(.agg (zj (vG eV ty) cs n).1,(zj (vG eV ty) cs n).2)
  | .nilsl=>match ty with
   | .slice t=>(.osl n n,[(n,.row n true t [])])
   | _=>(.nilsl,[])
  | v=>(v,[])
 | none=>(v,[])
def G7 (tb:Tbl) (t:TypeId):Option Ty:=match tb t with
 | some td=>td.ty
 | none=>none
def Fw (tb:Tbl):List TypeId→List V→Nat→List V×List (Nat×Blk)
 | t::ts,v::vs,n=>let r:=GR (G7 tb t) v n;let q:=Fw tb ts vs (n+r.2.length);(r.1::q.1,q.2++r.2)
 | _,vs,_=>(vs,[])
def GQ (tb:Tbl) (ts:List TypeId) (v:V) (n:Nat):V×List (Nat×Blk):=match ts with
 | [t]=>GR (G7 tb t) v n
 | ts=>match v with
  | .tup vs=>(.tup (Fw tb ts vs n).1,(Fw tb ts vs n).2)
  | v=>(v,[])
def xz (tb:Tbl) (rs:List ResultVar) (ts:List TypeId) (st:St):Tr→RT
 | .leaf (.ext _) _ _=> .bad
 | .leaf _ d nx=>match nr tb (d.tm++st.tm) (aj st.H d.hp) rs with
  | some v=>match Gq (aj (aj st.H d.hp) (GQ tb ts v nx).2) (GQ tb ts v nx).1 [] with
   | some (v',acc)=> .ret v' (acc.map (·.2))
   | none=> .bad
  | none=> .bad
 | .br b t e=> .br b (xz tb rs ts st t) (xz tb rs ts st e)
 | .need p t=> .need p (xz tb rs ts st t)
 | .both t u=> .both (xz tb rs ts st t) (xz tb rs ts st u)
 | .when b t=> .when b (xz tb rs ts st t)
 | .done=> .done
 | .bad=> .bad
def bC {α:Type}:Nat→List α→List (Nat×α)
 | _,[]=> []
 | n,x::xs=>(n,x)::bC (n+1) xs
def yt (args:List V):St:=⟨bC 0 args,[],fun _=>none,0⟩
def evFn (C:Cfg) (Λ:Nat→Option LoopSum) (fn:Func) (args:List V):RT:=
 match fn.body with
 | some c=>xz C.tb fn.results.toList fn.resultTypes.toList (yt args) (bI C Λ c (yt args))
 | none=> .bad
def cZ :(t:Ty)→Den t→V
 | .int k,n=> .int k n
 | .bool,b=> .bool b
 | .str,s=> .str s
 | .slice t,xs=> .fsl t xs
 | .unit,_=> .agg []
 | .prod a b,x=> .agg (flat eV (.prod a b) x)
 | .nm n,x=> .agg (flat eV (.nm n) x)
def fW :(ps:Ty)→Den ps→List V
 | .prod a b,x=>cZ a x.1::fW b x.2
 | _,_=> []
def iP:Ty→Bool
 | .prod _ _ | .nm _ | .unit=>true
 | _=>false
def dG:V→Bool
 | .agg _=>true
 | _=>false
def bV (H:ai) :(ps:Ty)→List V→Option (Den ps)
 | .prod a b,v::vs=>bif iP a==dG v then (match cellsOf v with
  | some cs=>match oL H a cs with
   | some x=>match bV H b vs with
    | some y=>some (x,y)
    | none=>none
   | none=>none
  | none=>none) else none
 | .unit,[]=>some ()
 | _,_=>none
structure PRes where
 needs:List Prop
 v:V
 rows:List RowD
def Ty.flat0:Ty→Bool
 | .int _ | .bool | .str | .unit=>true
 | .prod a b=>Ty.flat0 a&&Ty.flat0 b
 | _=>false
def Ty.flat1:Ty→Bool
 | .int _ | .bool | .str | .unit=>true
 | .prod a b=>Ty.flat1 a&&Ty.flat1 b
 | .slice _=>false
 | .nm n=>n.flds.flat0
def Ty.flatB:Ty→Bool
 | .int _ | .bool | .str | .unit=>true
 | .prod a b=>a.flatB&&b.flatB
 | .slice _=>false
 | .nm n=>n.flds.flat1
theorem Rd.flat0 {S S':Nat→Prop} {w w':World} {t:Ty} {x:Den t} {cs:List Value} (h:Rd S w t x cs) (hf:t.flat0=true):Rd S' w' t x cs:=by
 induction h with
 | int h=>exact .int h
 | bool=>exact .bool
 | str h=>exact .str h
 | unit=>exact .unit
 | prod _ _ ih1 ih2=>
  simp only [Ty.flat0,Bool.and_eq_true] at hf
  exact .prod (ih1 hf.1) (ih2 hf.2)
 | nm _ _=>simp [Ty.flat0] at hf
 | nil=>simp [Ty.flat0] at hf
 | slice=>simp [Ty.flat0] at hf
theorem Rd.flat1 {S S':Nat→Prop} {w w':World} {t:Ty} {x:Den t} {cs:List Value} (h:Rd S w t x cs) (hf:t.flat1=true):Rd S' w' t x cs:=by
 induction h with
 | int h=>exact .int h
 | bool=>exact .bool
 | str h=>exact .str h
 | unit=>exact .unit
 | prod _ _ ih1 ih2=>
  simp only [Ty.flat1,Bool.and_eq_true] at hf
  exact .prod (ih1 hf.1) (ih2 hf.2)
 | nm h _=>exact .nm (h.flat0 hf)
 | nil=>simp [Ty.flat1] at hf
 | slice=>simp [Ty.flat1] at hf
theorem Rd.flatB {S S':Nat→Prop} {w w':World} {t:Ty} {x:Den t} {cs:List Value} (h:Rd S w t x cs) (hf:t.flatB=true):Rd S' w' t x cs:=by
 induction h with
 | int h=>exact .int h
 | bool=>exact .bool
 | str h=>exact .str h
 | unit=>exact .unit
 | prod _ _ ih1 ih2=>
  simp only [Ty.flatB,Bool.and_eq_true] at hf
  exact .prod (ih1 hf.1) (ih2 hf.2)
 | nm h _=>exact .nm (h.flat1 hf)
 | nil=>simp [Ty.flatB] at hf
 | slice=>simp [Ty.flatB] at hf
mutual
def V.noF:V→Bool
 | .fsl _ _ | .fp _ _ _ _=>false
 | .fn _ cs=>Bh cs
 | .agg cs=>Bh cs
 | .tup cs=>Bh cs
 | _=>true
def Bh:List V→Bool
 | []=>true
 | v::vs=>v.noF&&Bh vs
end
mutual
def V.shift (m:Nat):V→V
 | .osl h ver=> .osl (m+h) (m+ver)
 | .agg cs=> .agg (tp m cs)
 | .tup cs=> .tup (tp m cs)
 | v=>v
def tp (m:Nat):List V→List V
 | []=> []
 | v::vs=>v.shift m::tp m vs
end
def fa (m:Nat):Nat→List RowD→List (Nat×Blk)
 | _,[]=> []
 | i,r::rs=>(m+i,.row (m+i) true r.t r.xs)::fa m (i+1) rs
def PRes.flat (r:PRes):Bool:=r.v.noF&&r.rows.all fun q=>q.t.flatB
def bb (K:Nat) (ps:Ty) (spec:Den ps→PRes):Ctr:=fun args H m=>
 let L:=hss args
 match bV (roL H L) ps args with
 | some x=>
  let r:=spec x
  bif Nat.ble r.rows.length K then
   some (r.needs,r.v.shift m,fa m 0 r.rows ++(bif r.flat then [] else dw H L))
  else none
 | none=>none
end Go.Mir
namespace Go.Mir
open Go.RowKit
variable {P:Program}
def wfD (t:Ty) (x:Den t):Prop:=∃ (S:Nat→Prop) (w:World) (cs:List Value),Rd S w t x cs
theorem mE {v:Value} (h:v.oneCell'=true):v.cells=#[v]:=by cases v <;> first|rfl |(simp [Value.oneCell'] at h)
theorem dI {B:Base} {E:Env} (hE:HRel B E) {Ec:Env} (hS:Ec.S=E.S) (hw:Ec.w=E.w) :∀ {ps:Ty} {args:List V} {av:List Value} {x:Den ps},ab E args av→bV E.H ps args=some x→ab Ec (fW ps x) av∧∃ cs,Rd E.S E.w ps x cs
 | .unit,[],av,x,hv,_=>by
  cases av with
  | nil=>exact ⟨trivial,[],.unit⟩
  | cons=>simp [ab] at hv
 | .prod a b,v::vs,av,x,hv,h=>by
  simp only [bV] at h
  cases hg:iP a==dG v with
  | false=>rw [hg] at h;cases h
  | true=>
   rw [hg] at h
   simp only [cond_true] at h
   split at h
   case h_2=>cases h
   rename_i cs hcs
   split at h
   case h_2=>cases h
   rename_i x1 hx1
   split at h
   case h_2=>cases h
   rename_i y1 hy1
   cases h
   cases av with
   | nil=>simp [ab] at hv
   | cons u us=>
    simp only [ab] at hv
    obtain ⟨ih,cs2,hrd2⟩:=dI hE hS hw hv.2 hy1
    have hrd:=bL hE hx1 (aZ hv.1 hcs)
    have hrdc:Rd Ec.S Ec.w a x1 u.cells.toList:=by rw [hS,hw];exact hrd
    refine ⟨?_,?_⟩
    ·simp only [fW,ab]
     refine ⟨?_,ih⟩
     simp only [beq_iff_eq] at hg
     have one:iP a=false→u.cells.toList=[u]:=fun e=>by
      rw [e] at hg
      have h1:u.oneCell'=true:=by
       cases v <;> simp only [dG,Bool.false_eq_true] at hg <;> simp only [cellsOf,reduceCtorEq] at hcs <;> exact eI rfl hv.1
      rw [mE h1]
     have agg:iP a=true→∃ l,u = .agg l:=fun e=>by
      rw [e] at hg
      cases v <;> simp only [dG,Bool.true_eq_false] at hg
      have:=hv.1
      simp only [aa] at this
      obtain ⟨l,hl,_⟩:=this
      exact ⟨l,hl⟩
     cases a with
     | int k=>rw [one rfl] at hrdc;cases hrdc with|int hk=>simp only [cZ];exact fm hk
     | bool=>rw [one rfl] at hrdc;cases hrdc with|bool=>simp only [cZ,aa]
     | str=>rw [one rfl] at hrdc;cases hrdc with|str hk=>simp only [cZ];exact zL hk
     | slice t=>rw [one rfl] at hrdc;simp only [cZ,aa];exact hrdc
     | unit=>
      obtain ⟨l,rfl⟩:=agg rfl
      simp only [cZ,aa]
      refine ⟨l,rfl,?_⟩
      have h0:l.toList=[]:=List.eq_nil_of_length_eq_zero hrdc.len
      rw [h0];simp [ab]
     | prod c d=>
      obtain ⟨l,rfl⟩:=agg rfl
      simp only [cZ,aa]
      exact ⟨l,rfl,hrdc.flat eV⟩
     | nm n=>
      obtain ⟨l,rfl⟩:=agg rfl
      simp only [cZ,aa]
      exact ⟨l,rfl,hrdc.flat eV⟩
    ·exact ⟨_,.prod hrd hrd2⟩
 | .int _,_,_,_,_,h=>by simp [bV] at h
 | .bool,_,_,_,_,h=>by simp [bV] at h
 | .str,_,_,_,_,h=>by simp [bV] at h
 | .slice _,_,_,_,_,h=>by simp [bV] at h
 | .nm _,_,_,_,_,h=>by simp [bV] at h
 | .unit,_::_,_,_,_,h=>by simp [bV] at h
 | .prod _ _,[],_,_,_,h=>by simp [bV] at h
end Go.Mir
namespace Go.Mir
open Go.RowKit
variable {P:Program}
abbrev Acc:=List (Nat×RowD)
structure AccOK (E:Env) (acc:Acc):Prop where
 nodup :(acc.map (·.1)).Nodup
 row :∀ h r,(h,r)∈acc→∃ ver,E.H h=some (.row ver true r.t r.xs)
def Ren (E E2:Env) (m:Nat) (acc:Acc):Prop:=∀ i h r,acc[i]?=some (h,r)→E2.U (m+i)∧E2.ρ (m+i)=E.ρ h∧E2.H (m+i)=some (.row (m+i) true r.t r.xs)
structure CanOK (E:Env) (m:Nat) (acc acc':Acc) (v:V) (u:Value):Prop where
 pre :∃ suf,acc'=acc++suf
 acc:AccOK E acc→AccOK E acc'
 rel :∀ E2:Env,E2.w=E.w→((∀ b,E.S b→E2.S b)∨v.noF=true)→Ren E E2 m acc'→aa E2 (v.shift m) u
structure CansOK (E:Env) (m:Nat) (acc acc':Acc) (v:List V) (u:List Value):Prop where
 pre :∃ suf,acc'=acc++suf
 acc:AccOK E acc→AccOK E acc'
 rel :∀ E2:Env,E2.w=E.w→((∀ b,E.S b→E2.S b)∨Bh v=true)→Ren E E2 m acc'→ab E2 (tp m v) u
def rd1 (tmps:Array Value):ResultVar→Sem Value
 | .tmp t=>pure (tmps.getD t undef)
 | .cell c t=>do loadVar t (←asAddr (tmps.getD c undef))
theorem oU (fn:Func) (tmps:Array Value):results fn tmps =((fn.results.mapM (rd1 tmps)) >>= fun (vs:Array Value)=>pure (if h:vs.size=1 then vs[0] else .tuple vs)):=by
 unfold results
 congr
theorem xg {B:Base} {E:Env} (hE:HRel B E) {tb:Tbl} (hT:aK P tb) {tm:List (Nat×V)} {a:Act} (ha:cW E (find tm) a) {r:ResultVar} {v:V} (h:s8 tb tm E.H r=some v) :
  ∃ v',(rd1 a.tmps r).run P E.w = .ok v' E.w∧aa E v v':=by
 cases r with
 | tmp t=>
  simp only [s8,Option.some.injEq] at h
  subst h
  exact ⟨_,rfl,bZ ha t⟩
 | cell c t=>
  simp only [s8] at h
  split at h
  case h_2=>cases h
  rename_i td htd
  split at h
  case h_2=>cases h
  rename_i ps v2 dh hl
  simp only [Option.some.injEq] at h
  subst h
  obtain ⟨_,v',h1,h2⟩:=ln hE (hT _ _ htd) (bZ ha c) hl
  refine ⟨v',?_,h2⟩
  have :∀ x:Value,(Instr.loadAt t x).run P E.w = .ok v' E.w→((do loadVar t (←asAddr x):Sem Value).run P E.w = .ok v' E.w):=fun x hx=>by
   cases x with
   | pointer o=>
    cases o with
    | some ad=>simpa [Instr.loadAt,Instr.sureAddr,asAddr] using hx
    | none=>simp [Instr.loadAt,Instr.sureAddr] at hx
   | _=>simp [Instr.loadAt,Instr.sureAddr] at hx
  exact this _ h1
theorem lO {α:Type} {E:Env} {w:World} (f:α→Sem Value) (g:α→Option V) (hfg :∀ x v,g x=some v→∃ v',(f x).run P w = .ok v' w∧aa E v v') :∀ (l:List α) (vs:List V),l.length=vs.length→(∀ (i:Nat) (x:α) (v:V),l[i]?=some x→vs[i]?=some v→g x=some v)→
  ∃ us,(l.mapM f).run P w = .ok us w∧ab E vs us
 | [],[],_,_=>⟨[],rfl,by simp [ab]⟩
 | [],_::_,h,_=>by simp at h
 | _::_,[],h,_=>by simp at h
 | x::l,v::vs,h,hg=>by
  obtain ⟨v',h1,h2⟩:=hfg x v (hg 0 x v rfl rfl)
  obtain ⟨us,h3,h4⟩:=lO f g hfg l vs (by simpa using h) (fun i y u hy hu=>hg (i+1) y u (by simpa using hy) (by simpa using hu))
  refine ⟨v'::us,?_,by simp only [ab];exact ⟨h2,h4⟩⟩
  simp [List.mapM_cons,h1,h3]
theorem vx {tb:Tbl} {tm:List (Nat×V)} {H:ai} :∀ {rs:List ResultVar} {l:List V},kW tb tm H rs=some l→rs.length=l.length∧∀ (i:Nat) (x:ResultVar) (v:V),rs[i]?=some x→l[i]?=some v→s8 tb tm H x=some v
 | [],l,h=>by simp only [kW,Option.some.injEq] at h;subst h;exact ⟨rfl,fun i x v hx=>by simp at hx⟩
 | r::rs,l,h=>by
  simp only [kW] at h
  split at h
  case h_2=>cases h
  rename_i v1 h1
  split at h
  case h_2=>cases h
  rename_i l2 h2
  simp only [Option.some.injEq] at h
  subst h
  obtain ⟨k1,k2⟩:=vx h2
  refine ⟨by simp [k1],fun i x v hx hv=>?_⟩
  cases i with
  | zero=>simp only [List.getElem?_cons_zero,Option.some.injEq] at hx hv;subst hx;subst hv;exact h1
  | succ i=>exact k2 i x v (by simpa using hx) (by simpa using hv)
theorem oT {B:Base} {E:Env} (hE:HRel B E) {tb:Tbl} (hT:aK P tb) {tm:List (Nat×V)} {a:Act} (ha:cW E (find tm) a) {fn:Func} {v:V} (h:nr tb tm E.H fn.results.toList=some v) :
  ∃ v',(results fn a.tmps).run P E.w = .ok v' E.w∧aa E v v':=by
 unfold nr at h
 have key :∀ l,kW tb tm E.H fn.results.toList=some l→∃ us,(fn.results.mapM (rd1 a.tmps)).run P E.w = .ok us E.w∧ab E l us.toList:=fun l hl=>by
  obtain ⟨k1,k2⟩:=vx hl
  obtain ⟨us,h1,h2⟩:=lO (P:=P) (E:=E) (w:=E.w) (rd1 a.tmps) (s8 tb tm E.H) (fun x v hx=>xg hE hT ha hx) _ _ k1 k2
  refine ⟨us.toArray,?_,by simpa using h2⟩
  rw [Array.mapM_eq_mapM_toList,Sem.run_map,h1]
  rfl
 split at h
 ·rename_i v1 hl
  simp only [Option.some.injEq] at h
  subst h
  obtain ⟨us,h1,h2⟩:=key _ hl
  have hsz:us.size=1:=by have:=au h2;simpa using this.symm
  refine ⟨us[0],?_,?_⟩
  ·rw [oU,Sem.run_bind,h1]
   simp [hsz]
  ·have:us.toList=[us[0]]:=by
    apply List.ext_getElem?
    intro i
    cases i with
    | zero=>simp [hsz]
    | succ i=>simp [hsz]
   rw [this] at h2
   simp only [ab] at h2
   exact h2.1
 ·rename_i l hne hl
  simp only [Option.some.injEq] at h
  subst h
  obtain ⟨us,h1,h2⟩:=key _ hl
  have hsz :¬ us.size=1:=fun hs=>by
   have:=au h2
   have h3:l.length=1:=by simpa [hs] using this
   obtain ⟨x,rfl⟩:=List.length_eq_one_iff.1 h3
   exact hne x rfl
  refine ⟨.tuple us,?_,?_⟩
  ·rw [oU,Sem.run_bind,h1]
   simp [hsz]
  ·simp only [aa];exact ⟨us,rfl,h2⟩
 ·cases h
end Go.Mir
namespace Go.Mir
open Go.RowKit
variable {P:Program}
theorem mT (m:Nat) :∀ (rows:List RowD) (i h:Nat),find (fa m i rows) h=if m+i≤h∧h<m+i+rows.length then (rows[h - (m+i)]?).map fun r=> .row h true r.t r.xs else none
 | [],i,h=>by simp [fa,find]
 | r::rs,i,h=>by
  simp only [fa,find]
  cases hb:Nat.beq (m+i) h with
  | true=>
   obtain rfl:=Nat.eq_of_beq_eq_true hb
   simp
  | false=>
   have hne:m+i≠h:=fun e=>by subst e;rw [Nat.beq_refl] at hb;cases hb
   simp only [cond_false]
   rw [mT m rs (i+1) h]
   by_cases hc:m+i≤h∧h<m+i +(r::rs).length
   ·have hc2:m +(i+1)≤h∧h<m +(i+1)+rs.length:=by simp at hc;omega
    rw [if_pos hc,if_pos hc2]
    have:h - (m+i) =(h - (m +(i+1)))+1:=by omega
    rw [this,List.getElem?_cons_succ]
   ·have hc2 :¬(m +(i+1)≤h∧h<m +(i+1)+rs.length):=by simp at hc;omega
    rw [if_neg hc,if_neg hc2]
theorem Gf {B:Base} {Eb:Env} (hEb:HRel B Eb) {m K:Nat} (hm :∀ n,m≤n→n<m+K→¬ Eb.U n) {S1:Nat→Prop} (_ :∀ b,Eb.S b→S1 b) {Ec:Env} (hEc:HRel (xH Eb.w (fun _=>False) S1 hEb.glob0) Ec) {acc:Acc} (ha:AccOK Ec acc) (hK:acc.length≤K)
  (hfl :(∀ b,S1 b→Eb.S b)∨∀ q∈acc,q.2.t.flatB=true) :
  ∃ E',GoodK B Eb m K (fa m 0 (acc.map (·.2))) Ec.w E'∧Ren Ec E' m acc∧((∀ b,S1 b→Eb.S b)→∀ b,Ec.S b→E'.S b):=by
 classical
 let D:Nat→Prop:=fun h=>m≤h∧h<m+K
 let ρ':Nat→Option Nat:=fun h=>if D h then (match acc[h - m]? with|some q=>Ec.ρ q.1|none=>none) else Eb.ρ h
 let E':Env:=⟨fun n=>Eb.U n∨D n,ρ',fun b=>Eb.S b∨(Ec.S b∧Eb.w.heap.size≤b),Ec.w,aj Eb.H (fa m 0 (acc.map (·.2)))⟩
 have hfind :∀ h,find (fa m 0 (acc.map (·.2))) h=if m≤h∧h<m+acc.length then (acc[h - m]?).map fun q=>Blk.row h true q.2.t q.2.xs else none:=fun h=>by
  rw [mT]
  simp only [Nat.add_zero,List.length_map,List.getElem?_map,Option.map_map]
  rfl
 have hHn :∀ h,¬ D h→E'.H h=Eb.H h:=fun h hd=>by
  show aj Eb.H _ h=Eb.H h
  unfold aj
  rw [hfind,if_neg (fun hc=>hd ⟨hc.1,by omega⟩)]
 have hρn :∀ h,¬ D h→E'.ρ h=Eb.ρ h:=fun h hd=>if_neg hd
 have hHd :∀ h k,D h→E'.H h=some k→∃ h0 r,acc[h - m]?=some (h0,r)∧k = .row h true r.t r.xs:=fun h k hd hk=>by
  have hk':aj Eb.H (fa m 0 (acc.map (·.2))) h=some k:=hk
  unfold aj at hk'
  rw [hfind] at hk'
  by_cases hc:m≤h∧h<m+acc.length
  ·rw [if_pos hc] at hk'
   cases hq:acc[h - m]? with
   | none=>rw [List.getElem?_eq_none_iff] at hq;omega
   | some q=>
    obtain ⟨h0,r⟩:=q
    rw [hq] at hk'
    simp only [Option.map_some,Option.some.injEq] at hk'
    exact ⟨h0,r,rfl,hk'.symm⟩
  ·rw [if_neg hc] at hk'
   simp only at hk'
   exact absurd (hEb.used _ _ hk') (hm h hd.1 hd.2)
 have hρd :∀ h h0 r,D h→acc[h - m]?=some (h0,r)→E'.ρ h=Ec.ρ h0:=fun h h0 r hd hq=>by
  show (if D h then _ else _)=_
  rw [if_pos hd,hq]
 have used' :∀ h k,Eb.H h=some k→¬ D h:=fun h k hx hd=>hm h hd.1 hd.2 (hEb.used _ _ hx)
 have hw0:Eb.w.heap.size≤Ec.w.heap.size:=hEc.keeps.size
 have hB0:B.w0.heap.size≤Eb.w.heap.size:=hEb.keeps.size
 have same :∀ b,b<Eb.w.heap.size→Ec.w.heap[b]?=Eb.w.heap[b]?:=fun b hb=>hEc.keeps.block b hb (fun h=>h)
 have newb :∀ h0 r b,(h0,r)∈acc→Ec.ρ h0=some b→Eb.w.heap.size≤b:=fun h0 r b hq hb=>by
  obtain ⟨ver,hx⟩:=ha.row _ _ hq
  rcases hEc.own _ _ _ hx hb with h|h
  ·exact h.elim
  ·exact h
 have X:Ext Eb E':=by
  refine ⟨fun _ h=> .inl h,fun _ h=> .inl h,fun b hb=>same b (hEb.stab b hb),fun h cs hu hx=>?_,fun h ver rw t xs hu hv hx=>?_,fun h ver esz cs hu hv hx=>?_,fun h es hu hx=>?_⟩
  ·have hd :¬ D h:=fun hd=>hm h hd.1 hd.2 hu
   rw [hHn h hd] at hx
   exact ⟨⟨cs,hx⟩,hρn h hd⟩
  ·have hd :¬ D h:=fun hd=>hm h hd.1 hd.2 hu
   rw [hHn h hd] at hx
   exact ⟨rw,xs,hx,rfl,hρn h hd,fun b c T fr hb hw=>⟨c,T,fr,by rw [show E'.w=Ec.w from rfl,same b (hEb.lt _ _ _ hx hb)];exact hw,rfl⟩⟩
  ·have hd :¬ D h:=fun hd=>hm h hd.1 hd.2 hu
   rw [hHn h hd] at hx
   exact ⟨cs,hx,rfl,hρn h hd,fun b c T fr hb hw=>⟨c,T,fr,by rw [show E'.w=Ec.w from rfl,same b (hEb.lt _ _ _ hx hb)];exact hw,rfl⟩⟩
  ·have hd :¬ D h:=fun hd=>hm h hd.1 hd.2 hu
   rw [hHn h hd] at hx
   exact ⟨⟨es,hx⟩,hρn h hd⟩
 have R:HRel B E':=by
  refine ⟨fun h k hx=>?_,fun b hs=>?_,fun h k b hx hb=>?_,fun h h' k k' b h1 h2 b1 b2=>?_,fun h k hx=>?_,?_,fun h k b hx hb=>?_,fun b hs=> .inl (hEb.s0 b hs),fun b hs=>?_⟩
  ·by_cases hd:D h
   ·exact .inr hd
   ·rw [hHn h hd] at hx;exact .inl (hEb.used _ _ hx)
  ·rcases hs with hs|hs
   ·exact Nat.lt_of_lt_of_le (hEb.stab b hs) hw0
   ·exact hEc.stab b hs.1
  ·by_cases hd:D h
   ·obtain ⟨h0,r,hq,rfl⟩:=hHd h k hd hx
    rw [hρd h h0 r hd hq] at hb
    obtain ⟨ver,hx0⟩:=ha.row _ _ (List.mem_of_getElem? hq)
    exact hEc.lt _ _ _ hx0 hb
   ·rw [hHn h hd] at hx;rw [hρn h hd] at hb;exact Nat.lt_of_lt_of_le (hEb.lt _ _ _ hx hb) hw0
  ·have mix :∀ h h' k k',D h→¬ D h'→E'.H h=some k→E'.H h'=some k'→E'.ρ h=some b→E'.ρ h'=some b→False:=fun h h' k k' hd hd' h1 h2 b1 b2=>by
    obtain ⟨h0,r,hq,rfl⟩:=hHd h k hd h1
    rw [hρd h h0 r hd hq] at b1;rw [hHn h' hd'] at h2;rw [hρn h' hd'] at b2
    have h3:=newb _ _ _ (List.mem_of_getElem? hq) b1
    have h4:=hEb.lt _ _ _ h2 b2
    omega
   by_cases hd:D h <;> by_cases hd':D h'
   ·obtain ⟨a0,r,hq,rfl⟩:=hHd h k hd h1
    obtain ⟨a0',r',hq',rfl⟩:=hHd h' k' hd' h2
    rw [hρd h _ _ hd hq] at b1;rw [hρd h' _ _ hd' hq'] at b2
    obtain ⟨_,x1⟩:=ha.row _ _ (List.mem_of_getElem? hq)
    obtain ⟨_,x2⟩:=ha.row _ _ (List.mem_of_getElem? hq')
    have e:=hEc.inj _ _ _ _ _ x1 x2 b1 b2
    have n1 :(acc.map (·.1))[h - m]?=some a0:=by simp [hq]
    have n2 :(acc.map (·.1))[h' - m]?=some a0:=by simp [hq',e]
    have hl:h - m <(acc.map (·.1)).length:=by
     rcases Nat.lt_or_ge (h - m) (acc.map (·.1)).length with h1|h1
     ·exact h1
     ·rw [List.getElem?_eq_none h1] at n1;cases n1
    have:=(List.getElem?_inj hl ha.nodup).1 (n1.trans n2.symm)
    have:=hd.1;have:=hd'.1
    omega
   ·exact (mix h h' k k' hd hd' h1 h2 b1 b2).elim
   ·exact (mix h' h k' k hd' hd h2 h1 b2 b1).elim
   ·rw [hHn h hd] at h1;rw [hρn h hd] at b1;rw [hHn h' hd'] at h2;rw [hρn h' hd'] at b2
    exact hEb.inj _ _ _ _ _ h1 h2 b1 b2
  ·by_cases hd:D h
   ·obtain ⟨h0,r,hq,rfl⟩:=hHd h k hd hx
    have hmem:=List.mem_of_getElem? hq
    obtain ⟨ver,hx0⟩:=ha.row _ _ hmem
    obtain ⟨_,hbl⟩:=hEc.blk _ _ hx0
    refine ⟨.inr hd,?_⟩
    rw [hρd h h0 r hd hq]
    rcases hbl with hbl |⟨b,c,T,fr,k1,k2,k3,k4,k5,k6,k7,k8⟩
    ·exact .inl hbl
    ·refine .inr ⟨b,c,T,fr,k1,k2,k3,fun _ hs=>?_,(fun h=>by cases h),k6,k7,fun i hi=>?_⟩
     ·rcases hs with hs|hs
      ·have h3:=hEb.stab b hs
       have h4:=newb _ _ _ hmem k1
       omega
      ·exact k4 rfl hs.1
     ·rcases hfl with hfl|hfl
      ·refine (k8 i hi).ext (fun b hs=>?_) (fun b _=>rfl)
       rcases hEc.sb b hs with h|h|h
       ·exact .inl (hfl b h)
       ·exact h.elim
       ·exact .inr ⟨hs,h⟩
      ·exact (k8 i hi).flatB (hfl _ hmem)
   ·have hx':=hx
    rw [hHn h hd] at hx'
    refine bQ X (hρn h hd) (fun b hb=>same b (hEb.lt _ _ _ hx' hb)) (fun b hb _ hs hs'=>?_) (hEb.blk _ _ hx')
    rcases hs' with hs'|hs'
    ·exact hs hs'
    ·have h4:=hEb.lt _ _ _ hx' hb
     have:=hs'.2
     omega
  ·exact hEb.keeps.trans hEc.keeps (fun b h=>h.elim)
  ·by_cases hd:D h
   ·obtain ⟨h0,r,hq,rfl⟩:=hHd h k hd hx
    rw [hρd h h0 r hd hq] at hb
    exact .inr (Nat.le_trans hB0 (newb _ _ _ (List.mem_of_getElem? hq) hb))
   ·rw [hHn h hd] at hx;rw [hρn h hd] at hb;exact hEb.own _ _ _ hx hb
  ·rcases hs with hs|hs
   ·exact hEb.sb b hs
   ·exact .inr (.inr (Nat.le_trans hB0 hs.2))
 refine ⟨E',⟨R,X,rfl,rfl,fun n h=>h⟩,fun i h0 r hq=>?_,fun hs b hb=>?_⟩
 ·have hi:i<acc.length:=by
   rcases Nat.lt_or_ge i acc.length with h1|h1
   ·exact h1
   ·rw [List.getElem?_eq_none h1] at hq;cases hq
  have hd:D (m+i):=⟨by omega,by omega⟩
  refine ⟨.inr hd,hρd _ h0 r hd (by rw [Nat.add_sub_cancel_left];exact hq),?_⟩
  show aj Eb.H _ (m+i)=_
  unfold aj
  rw [hfind,if_pos ⟨by omega,by omega⟩,Nat.add_sub_cancel_left,hq]
  rfl
 ·rcases hEc.sb b hb with h|h|h
  ·exact .inl (hs b h)
  ·exact h.elim
  ·exact .inr ⟨hb,h⟩
theorem eD {α:Type} :∀ (l:List α) (n i:Nat),find (bC n l) i=if n≤i then l[i - n]? else none
 | [],n,i=>by simp [bC,find]
 | x::l,n,i=>by
  simp only [bC,find]
  cases hb:Nat.beq n i with
  | true=>obtain rfl:=Nat.eq_of_beq_eq_true hb;simp
  | false=>
   have hne:n≠i:=fun e=>by subst e;rw [Nat.beq_refl] at hb;cases hb
   simp only [cond_false]
   rw [eD l (n+1) i]
   by_cases hc:n≤i
   ·rw [if_pos hc,if_pos (by omega)]
    have:i - n =(i - (n+1))+1:=by omega
    rw [this,List.getElem?_cons_succ]
   ·rw [if_neg hc,if_neg (by omega)]
structure Mat (B:Base) (E:Env) (n:Nat) (dh:List (Nat×Blk)) (E':Env):Prop where
 rel:HRel B E'
 ext:Ext E E'
 w:E'.w=E.w
 h:E'.H=aj E.H dh
 u :∀ k,E'.U k→k<n+dh.length
theorem Mat.refl {B:Base} {E:Env} (hE:HRel B E) {n:Nat} (hn :∀ k,E.U k→k<n):Mat B E n [] E:=
 ⟨hE,Ext.refl E,rfl,by funext h;simp [aj,find],by simpa using hn⟩
theorem Mat.trans {B:Base} {E E1 E2:Env} {n:Nat} {d1 d2:List (Nat×Blk)} (h1:Mat B E n d1 E1) (h2:Mat B E1 (n+d1.length) d2 E2):Mat B E n (d2++d1) E2:=
 ⟨h2.rel,h1.ext.trans h2.ext,h2.w.trans h1.w,by rw [h2.h,h1.h,bF],fun k hk=>by have:=h2.u k hk;simp only [List.length_append];omega⟩
def ifB (b:Bool) (p:Prop):Prop:=match b with|true=>p|false=>False
theorem ifB_iff {b:Bool} {p:Prop}:ifB b p↔b=true∧p:=by cases b <;> simp [ifB]
end Go.Mir
namespace Go.Mir
open Go.RowKit
variable {P:Program}
structure Nam where
 σ:List (Nat×Nat)
 Z:List Nat
 nx:Nat
def Nam.at (M:Nam) (n:Nat):Nat:=match find M.σ n with|some k=>k|none=>n
def Nam.is (M:Nam) (n k:Nat):Bool:=Nat.blt n M.nx&&(Nat.beq (M.at n) k&&!memN M.Z n)
def Nam.vs (M:Nam) (n k:Nat):Bool:=Nat.blt n M.nx&&Nat.beq (M.at n) k
mutual
def cu (M:Nam):V→V→Prop
 | _,.any=>True
 | .int k n,.int k' n'=>ifB (decide (k=k')) (n=n')
 | .bool b,.bool b'=>b=b'
 | .bool b,.kb b'=>b=b'
 | .kb b,.bool b'=>b=b'
 | .kb b,.kb b'=>b=b'
 | .str s,.str s'=>s=s'
 | .nilptr,.nilptr=>True
 | .nilfn,.nilfn=>True
 | .nilmap,.nilmap=>True
 | .nilsl,.nilsl=>True
 | .esl,.esl=>True
 | .nilsl,.esl=>True
 | .nilsl,.fsl _ xs=>xs=[]
 | .esl,.fsl _ xs=>xs=[]
 | .fsl t xs,.fsl t' xs'=>RowD.mk t xs=RowD.mk t' xs'
 | .ptr h off,.ptr h' off'=>ifB (M.is h' h&&Nat.beq off off') True
 | .fp t xs i off,.fp t' xs' i' off'=>ifB (Nat.beq off off') (RowD.mk t xs=RowD.mk t' xs'∧i=i')
 | .rp h ver i off,.rp h' ver' i' off'=>ifB (M.is h' h&&M.vs ver' ver&&Nat.beq off off') (i=i')
 | .osl h ver,.osl h' ver'=>ifB (M.is h' h&&M.vs ver' ver) True
 | .gsl h ver e o l,.gsl h' ver' e' o' l'=>ifB (M.is h' h&&M.vs ver' ver&&(Nat.beq e e'&&Nat.beq o o'&&Nat.beq l l')) True
 | .nilsl,.osl h' ver'=>ifB (memN M.Z h'&&Nat.blt h' M.nx&&Nat.blt ver' M.nx) True
 | .esl,.osl h' ver'=>ifB (memN M.Z h'&&Nat.blt h' M.nx&&Nat.blt ver' M.nx) True
 | .fn f cs,.fn f' cs'=>ifB (Nat.beq f f') (gU M cs cs')
 | .agg cs,.agg cs'=>gU M cs cs'
 | .tup cs,.tup cs'=>gU M cs cs'
 | _,_=>False
def gU (M:Nam):List V→List V→Prop
 | [],[]=>True
 | x::xs,y::ys=>cu M x y∧gU M xs ys
 | _,_=>False
end
def HG (M:Nam):Blk→Blk→Prop
 | .cells cs,.cells cs'=>gU M cs cs'
 | .row ver rw t xs,.row ver' rw' t' xs'=>ifB (M.vs ver' ver&&(rw==rw')) (RowD.mk t xs=RowD.mk t' xs')
 | .grow ver e cs,.grow ver' e' cs'=>ifB (M.vs ver' ver&&Nat.beq e e') (gU M cs cs')
 | _,_=>False
def Ek (M:Nam) (tm:List (Nat×V)):List (Nat×V)→Prop
 | []=>True
 |(s,v)::r=>cu M (bT tm s) v∧Ek M tm r
def pC (M:Nam):Blk→Prop
 | .row ver _ _ xs=>ifB (Nat.blt ver M.nx) (xs=[])
 | _=>False
def Ej (M:Nam) (H:ai):List (Nat×Blk)→Prop
 | []=>True
 |(h,k)::r=>ifB (Nat.blt h M.nx) (match memN M.Z h with
   | true=>pC M k
   | false=>match H (M.at h) with
    | some k0=>HG M k0 k
    | none=>False)∧Ej M H r
def fI:List Nat→Bool
 | []=>true
 | x::xs=>!memN xs x&&fI xs
theorem nodupN_iff {l:List Nat}:fI l=true↔l.Nodup:=by
 induction l with
 | nil=>simp [fI]
 | cons x xs ih=>
  simp only [fI,Bool.and_eq_true,ih,List.nodup_cons,Bool.not_eq_true']
  constructor
  ·rintro ⟨h1,h2⟩;exact ⟨(fun h=>by rw [memN_iff.2 h] at h1;cases h1),h2⟩
  ·rintro ⟨h1,h2⟩;exact ⟨by cases h:memN xs x with|true=>exact absurd (memN_iff.1 h) h1|false=>rfl,h2⟩
theorem cV {α β:Type} {f:α→β} :∀ {l:List α},(l.map f).Nodup→∀ {x y:α},x∈l→y∈l→f x=f y→x=y
 | [],_,_,_,hx,_,_=>by simp at hx
 | a::l,h,x,y,hx,hy,e=>by
  simp only [List.map_cons,List.nodup_cons,List.mem_map,not_exists,not_and] at h
  rcases List.mem_cons.1 hx with h1|h1
  ·rcases List.mem_cons.1 hy with h2|h2
   ·rw [h1,h2]
   ·exact absurd (by rw [←e,h1]) (h.1 y h2)
  ·rcases List.mem_cons.1 hy with h2|h2
   ·exact absurd (by rw [e,h2]) (h.1 x h1)
   ·exact cV h.2 h1 h2 e
def Sub (M:Nam) (s:St) (tm:List (Nat×V)) (hp:List (Nat×Blk)):Prop:=
 ifB (fI (((hp.map (·.1)).filter fun h=>!memN M.Z h).map M.at)) (Ek M s.tm tm∧Ej M s.H hp)
def aR (M:Nam) (E:Env) (hp:List (Nat×Blk)):Env:=⟨fun n=>n<M.nx,fun h=>if memN M.Z h then none else E.ρ (M.at h),E.S,E.w,aj (fun _=>none) hp⟩
section
variable {M:Nam} {E:Env} {hp:List (Nat×Blk)}
theorem is_iff {n k:Nat}:M.is n k=true↔n<M.nx∧M.at n=k∧memN M.Z n=false:=by
 simp only [Nam.is,Bool.and_eq_true,Nat.blt_eq,Nat.beq_eq,Bool.not_eq_true']
theorem vs_iff {n k:Nat}:M.vs n k=true↔n<M.nx∧M.at n=k:=by
 simp only [Nam.vs,Bool.and_eq_true,Nat.blt_eq,Nat.beq_eq]
structure HSub0 (M:Nam) (E:Env) (hp:List (Nat×Blk)):Prop where
 lt :∀ h k,find hp h=some k→h<M.nx
 row :∀ (h ver:Nat) (rw:Bool) (t:Ty) (xs:List (Den t)),find hp h=some (.row ver rw t xs)→ver<M.nx∧((memN M.Z h=true∧xs=[])∨(memN M.Z h=false∧E.H (M.at h)=some (.row (M.at ver) rw t xs)))
 cells :∀ h cs,find hp h=some (.cells cs)→memN M.Z h=false∧∃ cs0,E.H (M.at h)=some (.cells cs0)
 grow :∀ h ver esz cs,find hp h=some (.grow ver esz cs)→memN M.Z h=false∧ver<M.nx∧∃ cs0,E.H (M.at h)=some (.grow (M.at ver) esz cs0)∧cs0.length=cs.length
 nomp :∀ h es,find hp h=some (.mp es)→False
theorem aw {hp:List (Nat×Blk)} {h:Nat} {k:Blk} (hx:aj (fun _=>none) hp h=some k):find hp h=some k:=by
 unfold aj at hx;cases hf:find hp h with|some k=>rw [hf] at hx;exact hx|none=>rw [hf] at hx;cases hx
theorem sE {hp:List (Nat×Blk)} {h:Nat} {k:Blk} (hx:find hp h=some k):aj (fun _=>none) hp h=some k:=by
 unfold aj;rw [hx]
theorem yz (hh:HSub0 M E hp) {h ver:Nat} {rw:Bool} {t:Ty} {xs:List (Den t)} (hx:aj (fun _=>none) hp h=some (.row ver rw t xs)) :
  (memN M.Z h=true∧xs=[])∨(memN M.Z h=false∧E.H (M.at h)=some (.row (M.at ver) rw t xs)):=(hh.row _ _ _ _ _ (aw hx)).2
theorem zD (hh:HSub0 M E hp) {h:Nat} {cs:List V} (hx:aj (fun _=>none) hp h=some (.cells cs)):memN M.Z h=false∧∃ cs0,E.H (M.at h)=some (.cells cs0):=hh.cells _ _ (aw hx)
theorem BX (hh:HSub0 M E hp) {h ver esz:Nat} {cs:List V} (hx:aj (fun _=>none) hp h=some (.grow ver esz cs)):memN M.Z h=false∧ver<M.nx∧∃ cs0,E.H (M.at h)=some (.grow (M.at ver) esz cs0)∧cs0.length=cs.length:=hh.grow _ _ _ _ (aw hx)
mutual
theorem kX (hh:HSub0 M E hp) :∀ (x v:V) (u:Value),cu M x v→aa E x u→aa (aR M E hp) v u
 | x,.any,u,_,_=>by simp [aa]
 | x,.int k n,u,h,hv=>by
  cases x <;> simp only [cu] at h
  obtain ⟨h1,rfl⟩:=ifB_iff.1 h
  obtain rfl:=of_decide_eq_true h1
  simpa [aa] using hv
 | x,.bool b,u,h,hv=>by
  cases x <;> simp only [cu] at h
  all_goals subst h;simpa [aa] using hv
 | x,.kb b,u,h,hv=>by
  cases x <;> simp only [cu] at h
  all_goals subst h;simpa [aa] using hv
 | x,.str s,u,h,hv=>by
  cases x <;> simp only [cu] at h
  subst h;simpa [aa] using hv
 | x,.nilptr,u,h,hv=>by cases x <;> simp only [cu] at h;simpa [aa] using hv
 | x,.hint _ _,u,h,hv=>by cases x <;> simp only [cu] at h
 | x,.nilfn,u,h,hv=>by cases x <;> simp only [cu] at h;simpa [aa] using hv
 | x,.nilmap,u,h,hv=>by cases x <;> simp only [cu] at h;simpa [aa] using hv
 | x,.nilsl,u,h,hv=>by cases x <;> simp only [cu] at h;simpa [aa] using hv
 | x,.esl,u,h,hv=>by
  cases x <;> simp only [cu] at h
  ·simp only [aa] at hv ⊢;exact ⟨_,hv⟩
  ·simpa [aa] using hv
 | x,.fsl t xs,u,h,hv=>by
  cases x <;> simp only [cu] at h
  ·subst h;simp only [aa] at hv ⊢;subst hv;exact .nil
  ·subst h;simp only [aa] at hv ⊢;obtain ⟨a,rfl⟩:=hv;exact .nil
  ·cases h;simpa [aa,aR] using hv
 | x,.ptr h0 off,u,h,hv=>by
  cases x <;> simp only [cu] at h
  obtain ⟨h1,_⟩:=ifB_iff.1 h
  simp only [Bool.and_eq_true,Nat.beq_eq] at h1
  obtain ⟨h2,rfl⟩:=h1
  obtain ⟨h3,rfl,hz⟩:=is_iff.1 h2
  simp only [aa] at hv ⊢
  refine ⟨h3,hv.2.1,fun cs hx=>?_⟩
  obtain ⟨_,cs0,hx0⟩:=zD hh hx
  obtain ⟨b,hb,hu⟩:=hv.2.2 _ hx0
  exact ⟨b,by simp only [aR,hz,Bool.false_eq_true,if_false];exact hb,hu⟩
 | x,.fp t xs i off,u,h,hv=>by
  cases x <;> simp only [cu] at h
  obtain ⟨h1,h2,rfl⟩:=ifB_iff.1 h
  simp only [Nat.beq_eq] at h1
  subst h1
  cases h2
  simpa [aa,aR] using hv
 | x,.rp h0 ver i off,u,h,hv=>by
  cases x <;> simp only [cu] at h
  obtain ⟨h1,rfl⟩:=ifB_iff.1 h
  simp only [Bool.and_eq_true,Nat.beq_eq] at h1
  obtain ⟨⟨h2,h4⟩,rfl⟩:=h1
  obtain ⟨h3,rfl,hz⟩:=is_iff.1 h2
  obtain ⟨h5,rfl⟩:=vs_iff.1 h4
  simp only [aa] at hv ⊢
  refine ⟨h3,h5,hv.2.2.1,fun rw t xs hx=>?_⟩
  rcases yz hh hx with ⟨hz',_⟩ |⟨_,hx0⟩
  ·rw [hz] at hz';cases hz'
  ·obtain ⟨b,hb,hu⟩:=hv.2.2.2 _ _ _ hx0
   exact ⟨b,by simp only [aR,hz,Bool.false_eq_true,if_false];exact hb,hu⟩
 | x,.osl h0 ver,u,h,hv=>by
  have zero :∀ (a:Option Addr),u = .slice a 0 0→(memN M.Z h0&&Nat.blt h0 M.nx&&Nat.blt ver M.nx)=true→aa (aR M E hp) (.osl h0 ver) u:=fun a hu h1=>by
   simp only [Bool.and_eq_true,Nat.blt_eq] at h1
   simp only [aa]
   refine ⟨h1.1.2,h1.2,⟨_,_,_,hu⟩,fun rw t xs hx=> .inl ⟨by simp only [aR,h1.1.1,if_true],a,hu⟩⟩
  cases x <;> simp only [cu] at h
  ·simp only [aa] at hv;exact zero none hv (ifB_iff.1 h).1
  ·simp only [aa] at hv;obtain ⟨a,hv⟩:=hv;exact zero a hv (ifB_iff.1 h).1
  ·obtain ⟨h1,_⟩:=ifB_iff.1 h
   simp only [Bool.and_eq_true] at h1
   obtain ⟨h3,rfl,hz⟩:=is_iff.1 h1.1
   obtain ⟨h5,rfl⟩:=vs_iff.1 h1.2
   simp only [aa] at hv ⊢
   refine ⟨h3,h5,hv.2.2.1,fun rw t xs hx=>?_⟩
   rcases yz hh hx with ⟨hz',_⟩ |⟨_,hx0⟩
   ·rw [hz] at hz';cases hz'
   ·have e :(aR M E hp).ρ h0=E.ρ (M.at h0):=by simp only [aR,hz,Bool.false_eq_true,if_false]
    rw [e]
    exact hv.2.2.2 _ _ _ hx0
 | x,.fn f cs,u,h,hv=>by
  cases x <;> simp only [cu] at h
  obtain ⟨h1,h2⟩:=ifB_iff.1 h
  simp only [Nat.beq_eq] at h1
  subst h1
  simp only [aa] at hv ⊢
  obtain ⟨l,rfl,hl⟩:=hv
  exact ⟨l,rfl,gb hh _ _ _ h2 hl⟩
 | x,.agg cs,u,h,hv=>by
  cases x <;> simp only [cu] at h
  simp only [aa] at hv ⊢
  obtain ⟨l,rfl,hl⟩:=hv
  exact ⟨l,rfl,gb hh _ _ _ h hl⟩
 | x,.tup cs,u,h,hv=>by
  cases x <;> simp only [cu] at h
  simp only [aa] at hv ⊢
  obtain ⟨l,rfl,hl⟩:=hv
  exact ⟨l,rfl,gb hh _ _ _ h hl⟩
 | x,.gsl h0 ver e o l,u,h,hv=>by
  cases x <;> simp only [cu] at h
  obtain ⟨h1,_⟩:=ifB_iff.1 h
  simp only [Bool.and_eq_true,Nat.beq_eq] at h1
  obtain ⟨⟨h2,h4⟩,⟨rfl,rfl⟩,rfl⟩:=h1
  obtain ⟨h3,rfl,hz⟩:=is_iff.1 h2
  obtain ⟨h5,rfl⟩:=vs_iff.1 h4
  simp only [aa] at hv ⊢
  refine ⟨h3,h5,hv.2.2.1,fun cs hx=>?_⟩
  obtain ⟨_,_,cs0,hx0,hs⟩:=BX hh hx
  obtain ⟨b,cap,c,T,fr,q1,q2,q3,q4,q5,q6⟩:=hv.2.2.2 _ hx0
  exact ⟨b,cap,c,T,fr,by simp only [aR,hz,Bool.false_eq_true,if_false];exact q1,q2,q3,q4,q5,by rw [←hs];exact q6⟩
 | x,.gp _ _ _,u,h,hv=>by cases x <;> simp only [cu] at h
 | x,.mpv _,u,h,hv=>by cases x <;> simp only [cu] at h
theorem gb (hh:HSub0 M E hp) :∀ (xs vs:List V) (us:List Value),gU M xs vs→ab E xs us→ab (aR M E hp) vs us
 | [],[],us,_,hv=>by cases us <;> simp_all [ab]
 | [],_::_,_,h,_=>by simp [gU] at h
 | _::_,[],_,h,_=>by simp [gU] at h
 | x::xs,v::vs,us,h,hv=>by
  cases us with
  | nil=>simp [ab] at hv
  | cons u us=>
   simp only [gU] at h
   simp only [ab] at hv ⊢
   exact ⟨kX hh _ _ _ h.1 hv.1,gb hh _ _ _ h.2 hv.2⟩
end
structure HSub (M:Nam) (E:Env) (hp:List (Nat×Blk)):Prop extends HSub0 M E hp where
 rcells :∀ h cs cs0,find hp h=some (.cells cs)→E.H (M.at h)=some (.cells cs0)→∀ l,ab E cs0 l→ab (aR M E hp) cs l
 rgrow :∀ h ver esz cs cs0,find hp h=some (.grow ver esz cs)→E.H (M.at h)=some (.grow (M.at ver) esz cs0)→∀ l,ab E cs0 l→ab (aR M E hp) cs l
theorem lR {B:Base} (hE:HRel B E) (hh:HSub M E hp) (hn:fI (((hp.map (·.1)).filter fun h=>!memN M.Z h).map M.at)=true):HRel B (aR M E hp):=by
 have hfind :∀ h k,(aR M E hp).H h=some k→find hp h=some k:=fun h k hx=>aw hx
 have old :∀ h k b,(aR M E hp).H h=some k→(aR M E hp).ρ h=some b→memN M.Z h=false∧(∃ k0,E.H (M.at h)=some k0)∧E.ρ (M.at h)=some b:=fun h k b hx hb=>by
  have hf:=hfind _ _ hx
  have hz:memN M.Z h=false:=by
   cases hz:memN M.Z h with
   | false=>rfl
   | true=>simp only [aR,hz,if_true] at hb;cases hb
  simp only [aR,hz,Bool.false_eq_true,if_false] at hb
  refine ⟨hz,?_,hb⟩
  cases k with
  | cells cs=>obtain ⟨_,cs0,h⟩:=hh.cells _ _ hf;exact ⟨_,h⟩
  | row ver rw t xs=>
   rcases (hh.row _ _ _ _ _ hf).2 with ⟨hz',_⟩ |⟨_,h⟩
   ·rw [hz] at hz';cases hz'
   ·exact ⟨_,h⟩
  | grow ver esz cs=>obtain ⟨_,_,cs0,h,_⟩:=hh.grow _ _ _ _ hf;exact ⟨_,h⟩
  | mp es=>exact (hh.nomp _ _ hf).elim
 refine ⟨fun h k hx=>hh.lt _ _ (hfind _ _ hx),hE.stab,fun h k b hx hb=>?_,fun h h' k k' b h1 h2 b1 b2=>?_,fun h k hx=>?_,hE.keeps,fun h k b hx hb=>?_,hE.s0,hE.sb⟩
 ·obtain ⟨_,⟨k0,h1⟩,h2⟩:=old h k b hx hb
  exact hE.lt _ _ _ h1 h2
 ·obtain ⟨z1,⟨q1,x1⟩,y1⟩:=old h k b h1 b1
  obtain ⟨z2,⟨q2,x2⟩,y2⟩:=old h' k' b h2 b2
  have e:=hE.inj _ _ _ _ _ x1 x2 y1 y2
  have nd:=nodupN_iff.1 hn
  have mem :∀ {h k},(h,k)∈hp→memN M.Z h=false→h∈((hp.map (·.1)).filter fun h=>!memN M.Z h):=fun {h k} hm hz=>by
   rw [List.mem_filter]
   exact ⟨List.mem_map.2 ⟨_,hm,rfl⟩,by simp [hz]⟩
  exact cV nd (mem (af (hfind _ _ h1)) z1) (mem (af (hfind _ _ h2)) z2) e
 ·cases k with
  | cells cs=>
   obtain ⟨hz,cs0,hx0⟩:=hh.cells _ _ (hfind _ _ hx)
   obtain ⟨b,c,T,fr,h1,h2,h3,h4,h5⟩:=hE.blk _ _ hx0
   exact ⟨b,c,T,fr,by simp only [aR,hz,Bool.false_eq_true,if_false];exact h1,h2,h3,h4,hh.rcells _ _ _ (hfind _ _ hx) hx0 _ h5⟩
  | row ver rw t xs=>
   obtain ⟨hv,hr⟩:=hh.row _ _ _ _ _ (hfind _ _ hx)
   refine ⟨hv,?_⟩
   rcases hr with ⟨hz,rfl⟩ |⟨hz,hx0⟩
   ·exact .inl ⟨by simp only [aR,hz,if_true],rfl⟩
   ·have e :(aR M E hp).ρ h=E.ρ (M.at h):=by simp only [aR,hz,Bool.false_eq_true,if_false]
    rw [e]
    exact (hE.blk _ _ hx0).2
  | grow ver esz cs=>
   obtain ⟨hz,hv,cs0,hx0,hl⟩:=hh.grow _ _ _ _ (hfind _ _ hx)
   obtain ⟨_,b,c,T,fr,h1,h2,h3,h4,h5⟩:=hE.blk _ _ hx0
   exact ⟨hv,b,c,T,fr,by simp only [aR,hz,Bool.false_eq_true,if_false];exact h1,h2,h3,h4,by rw [←hl];exact hh.rgrow _ _ _ _ _ (hfind _ _ hx) hx0 _ h5⟩
  | mp=>exact (hh.nomp _ _ (hfind _ _ hx)).elim
 ·obtain ⟨_,⟨k0,h1⟩,h2⟩:=old h k b hx hb
  exact hE.own _ _ _ h1 h2
def xZ (M:Nam) (n:Nat):Bool:=Nat.beq (M.at n) n&&!memN M.Z n
def B9:Blk→Option Nat
 | .row v _ _ _=>some v
 | .grow v _ _=>some v
 | _=>none
def sW:List (Nat×Blk)→List (Nat×Option Nat)
 | []=> []
 |(h,b)::l=>(h,B9 b)::sW l
def oP (p:Nat) (M:Nam) (h:Nat):Option Nat→Bool
 | none=>xZ M h
 | some v=>bif Nat.blt v p then xZ M h&&Nat.beq (M.at v) v else true
def fK (p:Nat) (M:Nam):List (Nat×Option Nat)→Bool
 | []=>Nat.ble p M.nx
 |(h,o)::l=>bif (bif Nat.blt h p then oP p M h o else true) then fK p M l else false
theorem qX {p:Nat} {M:Nam} :∀ {l:List (Nat×Option Nat)},fK p M l=true→p≤M.nx
 | [],h=>Nat.le_of_ble_eq_true h
 |(n,o)::l,h=>by
  simp only [fK] at h
  cases hb :(bif Nat.blt n p then oP p M n o else true) with
  | true=>rw [hb] at h;exact qX (l:=l) h
  | false=>rw [hb] at h;cases h
theorem kV {p:Nat} {M:Nam} :∀ {l:List (Nat×Option Nat)},fK p M l=true→∀ {n:Nat} {o:Option Nat},(n,o)∈l→n<p→oP p M n o=true
 |(k,o')::l,h,n,o,hm,hn=>by
  simp only [fK] at h
  cases hb :(bif Nat.blt k p then oP p M k o' else true) with
  | true=>
   rw [hb] at h
   rcases List.mem_cons.1 hm with he|hm
   ·obtain ⟨h1,h2⟩:=Prod.mk.inj he
    subst h1 h2
    rw [show Nat.blt _ p=true from by simpa [Nat.blt_eq] using hn] at hb
    exact hb
   ·exact kV (l:=l) h hm hn
  | false=>rw [hb] at h;cases h
theorem mw {M:Nam} {n:Nat} (h:xZ M n=true):M.at n=n∧memN M.Z n=false:=by
 simpa [xZ,Nat.beq_eq] using h
theorem vh {hp:List (Nat×Blk)} {h:Nat} {b:Blk} (hm :(h,b)∈hp) :(h,B9 b)∈sW hp:=by
 induction hp with
 | nil=>cases hm
 | cons z l ih=>
  simp only [sW]
  rcases List.mem_cons.1 hm with he|hm
  ·subst he;exact List.mem_cons_self
  ·exact List.mem_cons_of_mem _ (ih hm)
theorem vk {p:Nat} {M:Nam} {hp:List (Nat×Blk)} (h:fK p M (sW hp)=true) {n v:Nat} {b:Blk} (hm :(n,b)∈hp) (hb:B9 b=some v) (hn:n<p) (hv:v<p):M.at n=n∧memN M.Z n=false∧M.at v=v:=by
 have h1:=kV h (vh hm) hn
 rw [hb] at h1
 simp only [oP,show Nat.blt v p=true from by simpa [Nat.blt_eq] using hv,cond_true,Bool.and_eq_true,Nat.beq_eq] at h1
 exact ⟨(mw h1.1).1,(mw h1.1).2,h1.2⟩
theorem w3 {p:Nat} {M:Nam} {hp:List (Nat×Blk)} (h:fK p M (sW hp)=true) {n:Nat} {b:Blk} (hm :(n,b)∈hp) (hb:B9 b=none) (hn:n<p):M.at n=n∧memN M.Z n=false:=by
 have h1:=kV h (vh hm) hn
 rw [hb] at h1
 exact mw h1
def Base.pins (p:Nat) (B:Base):Prop:=∀ M E hp,fK p M (sW hp)=true→HSub M E hp→B.G E→B.G (aR M E hp)
theorem Base.free.pins {B:Base} (h:B.free) (p:Nat):B.pins p:=fun _ _ _ _ _ _=>h _
end
end Go.Mir
namespace Go.Mir
open Go.RowKit
variable {P:Program}
def kL:List (Nat×V)→List (Nat×V)
 | []=> []
 |(s,_)::r=>(s,.any)::kL r
def ij (n:Nat):List (Nat×Blk)→List (Nat×Blk)
 | []=> []
 |(h,_)::r=>(h,.row n true .unit [])::ij n r
def mZ (st:St):Tr→Tr
 | .leaf e d nx=> .leaf e ⟨d.tm++kL st.tm,d.hp++ij (Nat.max nx st.nx) st.hp⟩ (Nat.max nx st.nx+1)
 | .br b t e=> .br b (mZ st t) (mZ st e)
 | .need p t=> .need p (mZ st t)
 | .both t u=> .both (mZ st t) (mZ st u)
 | .when b t=> .when b (mZ st t)
 | .done=> .done
 | .bad=> .bad
theorem dY {st:St} {Q:Lf→Dl→Nat→Prop} :∀ {t:Tr},(mZ st t).sat Q→t.sat fun e d nx=>Q e ⟨d.tm++kL st.tm,d.hp++ij (Nat.max nx st.nx) st.hp⟩ (Nat.max nx st.nx+1)
 | .leaf _ _ _,h=>h
 | .br _ _ _,h=>⟨fun hb=>dY (h.1 hb),fun hb=>dY (h.2 hb)⟩
 | .need _ _,h=>⟨h.1,dY h.2⟩
 | .both _ _,h=>⟨dY h.1,dY h.2⟩
 | .when _ _,h=>fun hb=>dY (h hb)
 | .done,h=>h
 | .bad,h=>h
def uO (n:Nat):List (Nat×Blk)→Bool
 | []=>true
 |(h,_)::r=>Nat.blt h n&&uO n r
theorem oB {n:Nat} :∀ {l:List (Nat×Blk)} {h:Nat} {k:Blk},uO n l=true→find l h=some k→h<n
 | [],_,_,_,hf=>by simp [find] at hf
 |(x,v)::r,h,k,hl,hf=>by
  simp only [uO,Bool.and_eq_true,Nat.blt_eq] at hl
  simp only [find] at hf
  cases hb:Nat.beq x h with
  | true=>obtain rfl:=Nat.eq_of_beq_eq_true hb;exact hl.1
  | false=>rw [hb] at hf;exact oB hl.2 hf
theorem mR :∀ {l:List (Nat×V)} {s:Nat},find (kL l) s =(find l s).map fun _=> .any
 | [],s=>rfl
 |(x,v)::r,s=>by
  simp only [kL,find]
  cases Nat.beq x s with
  | true=>rfl
  | false=>exact mR
theorem mQ {n:Nat} :∀ {l:List (Nat×Blk)} {s:Nat},find (ij n l) s =(find l s).map fun _=>Blk.row n true .unit []
 | [],s=>rfl
 |(x,v)::r,s=>by
  simp only [ij,find]
  cases Nat.beq x s with
  | true=>rfl
  | false=>exact mQ
def uU (H:ai):Prop:=H=fun _=>none
theorem CZ {B:Base} {N:Nat} {st:St} (h0:st.H0=fun _=>none) (hl:uO st.nx st.hp=true) {tm:List (Nat×V)} {hp:List (Nat×Blk)} {nx:Nat} {a:Act} {w:World} (hs:gm B N ⟨tm,hp,fun _=>none,nx⟩ a w) :
  at_ B N st ⟨tm++kL st.tm,hp++ij (Nat.max nx st.nx) st.hp⟩ (Nat.max nx st.nx+1) a w:=by
 obtain ⟨⟨E,hE,rfl,hH,hU,hT⟩,hsz,hdf⟩:=hs
 let m:=Nat.max nx st.nx
 have hm1:nx≤m:=Nat.le_max_left _ _
 have hm2:st.nx≤m:=Nat.le_max_right _ _
 have hH:E.H=aj (fun _=>none) hp:=hH
 have hG:=hU.1
 have hU :∀ n,E.U n→n<nx:=hU.2
 have hT :∀ s v,find tm s=some v→aa E v (a.tmps.getD s undef):=hT
 let E':Env:=⟨fun n=>n<m+1,fun h=>match find hp h with|some _=>E.ρ h|none=>none,E.S,E.w,aj st.H (hp++ij m st.hp)⟩
 have hnew :∀ h,E'.H h=match find hp h with|some k=>some k|none=>(match find st.hp h with|some _=>some (.row m true .unit [])|none=>none):=fun h=>by
  show aj st.H (hp++ij m st.hp) h=_
  unfold aj
  rw [bl,mQ]
  cases find hp h with
  | some k=>rfl
  | none=>
   simp only
   cases hf:find st.hp h with
   | some k=>rfl
   | none=>
    simp only [Option.map_none]
    unfold St.H aj
    rw [hf,h0]
 have hold :∀ h k,find hp h=some k→E.H h=some k:=fun h k hf=>by rw [hH];unfold aj;rw [hf]
 have cases' :∀ h k,E'.H h=some k→(find hp h=some k∧E'.ρ h=E.ρ h)∨(k = .row m true .unit []∧E'.ρ h=none∧h<st.nx):=fun h k hk=>by
  rw [hnew h] at hk
  cases hf:find hp h with
  | some k'=>
   rw [hf] at hk
   simp only [Option.some.injEq] at hk
   subst hk
   exact .inl ⟨rfl,by show (match find hp h with|some _=>E.ρ h|none=>none)=_;rw [hf]⟩
  | none=>
   rw [hf] at hk
   simp only at hk
   cases hg:find st.hp h with
   | none=>rw [hg] at hk;cases hk
   | some k'=>
    rw [hg] at hk
    simp only [Option.some.injEq] at hk
    exact .inr ⟨hk.symm,by show (match find hp h with|some _=>E.ρ h|none=>none)=_;rw [hf],oB hl hg⟩
 have X:Ext E E':=by
  refine ⟨fun n hn=>?_,fun _ h=>h,fun _ _=>rfl,fun h cs hu hx=>?_,fun h ver rw t xs hu hv hx=>?_,fun h ver esz cs hu hv hx=>?_,fun h es hu hx=>?_⟩
  ·have:=hU n hn;show n<m+1;omega
  ·rcases cases' _ _ hx with ⟨h1,h2⟩ |⟨h1,_⟩
   ·exact ⟨⟨cs,hold _ _ h1⟩,h2⟩
   ·cases h1
  ·rcases cases' _ _ hx with ⟨h1,h2⟩ |⟨h1,_⟩
   ·exact ⟨rw,xs,hold _ _ h1,rfl,h2,fun b c T fr _ hw=>⟨c,T,fr,hw,rfl⟩⟩
   ·cases h1
    have:=hU _ hv
    omega
  ·rcases cases' _ _ hx with ⟨h1,h2⟩ |⟨h1,_⟩
   ·exact ⟨cs,hold _ _ h1,rfl,h2,fun b c T fr _ hw=>⟨c,T,fr,hw,rfl⟩⟩
   ·cases h1
  ·rcases cases' _ _ hx with ⟨h1,h2⟩ |⟨h1,_⟩
   ·exact ⟨⟨es,hold _ _ h1⟩,h2⟩
   ·cases h1
 have R:HRel B E':=by
  refine ⟨fun h k hx=>?_,hE.stab,fun h k b hx hb=>?_,fun h h' k k' b h1 h2 b1 b2=>?_,fun h k hx=>?_,hE.keeps,fun h k b hx hb=>?_,hE.s0,hE.sb⟩
  ·rcases cases' _ _ hx with ⟨h1,_⟩ |⟨_,_,h3⟩
   ·exact X.u _ (hE.used _ _ (hold _ _ h1))
   ·show h<m+1;omega
  ·rcases cases' _ _ hx with ⟨h1,h2⟩ |⟨_,h2,_⟩
   ·rw [h2] at hb;exact hE.lt _ _ _ (hold _ _ h1) hb
   ·rw [h2] at hb;cases hb
  ·rcases cases' _ _ h1 with ⟨x1,x2⟩ |⟨_,x2,_⟩
   ·rcases cases' _ _ h2 with ⟨y1,y2⟩ |⟨_,y2,_⟩
    ·rw [x2] at b1;rw [y2] at b2;exact hE.inj _ _ _ _ _ (hold _ _ x1) (hold _ _ y1) b1 b2
    ·rw [y2] at b2;cases b2
   ·rw [x2] at b1;cases b1
  ·rcases cases' _ _ hx with ⟨h1,h2⟩ |⟨rfl,h2,_⟩
   ·exact bQ X h2 (fun _ _=>rfl) (fun _ _ _ h=>h) (hE.blk _ _ (hold _ _ h1))
   ·exact ⟨Nat.lt_succ_self m,.inl ⟨h2,rfl⟩⟩
  ·rcases cases' _ _ hx with ⟨h1,h2⟩ |⟨_,h2,_⟩
   ·rw [h2] at hb;exact hE.own _ _ _ (hold _ _ h1) hb
   ·rw [h2] at hb;cases hb
 refine ⟨⟨E',R,rfl,rfl,⟨B.clo _ _ hG X,fun n hn=>hn⟩,fun s v hv=>?_⟩,hsz,hdf⟩
 simp only [List.append_assoc] at hv
 rw [bl] at hv
 cases hf:find tm s with
 | some v'=>
  rw [hf] at hv
  simp only [Option.some.injEq] at hv
  subst hv
  exact aU X _ _ (hT _ _ hf)
 | none=>
  rw [hf] at hv
  simp only at hv
  rw [bl,mR] at hv
  cases hg:find st.tm s with
  | none=>rw [hg] at hv;simp at hv
  | some v'=>
   rw [hg] at hv
   simp only [Option.map_some,Option.some.injEq] at hv
   subst hv
   simp [aa]
end Go.Mir
namespace Go.Mir
def G6:List (Option TD):= [
 none,
 none,
 some { kind:= .int .i64,size:=1,bytes:=8,zero:= [.int .i64 0],ty:=some (.int .i64) },
 some { kind:= .int .i64,size:=1,bytes:=8,zero:= [.int .i64 0],ty:=some (.int .i64) },
 some { kind:= .bool,size:=1,bytes:=1,zero:= [.kb false],ty:=some (.bool) },
 some { kind:= .int .u8,size:=1,bytes:=1,zero:= [.int .u8 0],ty:=some (.int .u8) },
 none,
 none,
 none,
 some { kind:= .str,size:=1,bytes:=16,zero:= [.str ByteArray.empty],ty:=some (.str) },
 none,
 none,
 some { kind:= .int .u64,size:=1,bytes:=8,zero:= [.int .u64 0],ty:=some (.int .u64) },
 none,
 none,
 none,
 none,
 none,
 none,
 none,
 none,
 some { kind:= .int .i32,size:=1,bytes:=4,zero:= [.int .i32 0],ty:=some (.int .i32) },
 some { kind:= .slice 223,size:=1,bytes:=24,zero:= [.nilsl],ty:=some (.slice (.nm .Phase)) },
 some { kind:= .struct [(0,9),(1,3),(2,3),(3,3),(4,3),(5,3),(6,3),(7,3),(8,4),(9,3),(10,3),(11,3),(12,3),(13,22)],size:=14,bytes:=136,zero:= [.str ByteArray.empty,.int .i64 0,.int .i64 0,.int .i64 0,.int .i64 0,.int .i64 0,.int .i64 0,.int .i64 0,.kb false,.int .i64 0,.int .i64 0,.int .i64 0,.int .i64 0,.nilsl],ty:=some (.prod (.str) (.prod (.int .i64) (.prod (.int .i64) (.prod (.int .i64) (.prod (.int .i64) (.prod (.int .i64) (.prod (.int .i64) (.prod (.int .i64) (.prod (.bool) (.prod (.int .i64) (.prod (.int .i64) (.prod (.int .i64) (.prod (.int .i64) (.prod (.slice (.nm .Phase)) (.unit))))))))))))))) },
 some { kind:= .struct [(0,9),(1,3),(2,3),(3,3),(4,3),(5,3),(6,3),(7,3),(8,4),(9,3),(10,3),(11,3),(12,3),(13,22)],size:=14,bytes:=136,zero:= [.str ByteArray.empty,.int .i64 0,.int .i64 0,.int .i64 0,.int .i64 0,.int .i64 0,.int .i64 0,.int .i64 0,.kb false,.int .i64 0,.int .i64 0,.int .i64 0,.int .i64 0,.nilsl],ty:=some (.nm .Rules) },
 some { kind:= .int .u8,size:=1,bytes:=1,zero:= [.int .u8 0],ty:=some (.int .u8) },
 some { kind:= .int .u8,size:=1,bytes:=1,zero:= [.int .u8 0],ty:=some (.int .u8) },
 some { kind:= .int .u8,size:=1,bytes:=1,zero:= [.int .u8 0],ty:=some (.int .u8) },
 some { kind:= .int .u8,size:=1,bytes:=1,zero:= [.int .u8 0],ty:=some (.int .u8) },
 some { kind:= .struct [(0,26),(1,27),(2,3),(3,3),(4,3),(5,4),(6,28),(7,3),(8,3),(9,3),(10,4),(11,3)],size:=12,bytes:=80,zero:= [.int .u8 0,.int .u8 0,.int .i64 0,.int .i64 0,.int .i64 0,.kb false,.int .u8 0,.int .i64 0,.int .i64 0,.int .i64 0,.kb false,.int .i64 0],ty:=some (.prod (.int .u8) (.prod (.int .u8) (.prod (.int .i64) (.prod (.int .i64) (.prod (.int .i64) (.prod (.bool) (.prod (.int .u8) (.prod (.int .i64) (.prod (.int .i64) (.prod (.int .i64) (.prod (.bool) (.prod (.int .i64) (.unit))))))))))))) },
 some { kind:= .struct [(0,26),(1,27),(2,3),(3,3),(4,3),(5,4),(6,28),(7,3),(8,3),(9,3),(10,4),(11,3)],size:=12,bytes:=80,zero:= [.int .u8 0,.int .u8 0,.int .i64 0,.int .i64 0,.int .i64 0,.kb false,.int .u8 0,.int .i64 0,.int .i64 0,.int .i64 0,.kb false,.int .i64 0],ty:=some (.nm .Delivery) },
 some { kind:= .struct [(0,25),(1,3),(2,3),(3,3),(4,4),(5,3),(6,3),(7,30)],size:=19,bytes:=136,zero:= [.int .u8 0,.int .i64 0,.int .i64 0,.int .i64 0,.kb false,.int .i64 0,.int .i64 0,.int .u8 0,.int .u8 0,.int .i64 0,.int .i64 0,.int .i64 0,.kb false,.int .u8 0,.int .i64 0,.int .i64 0,.int .i64 0,.kb false,.int .i64 0],ty:=some (.prod (.int .u8) (.prod (.int .i64) (.prod (.int .i64) (.prod (.int .i64) (.prod (.bool) (.prod (.int .i64) (.prod (.int .i64) (.prod (.nm .Delivery) (.unit))))))))) },
 some { kind:= .struct [(0,25),(1,3),(2,3),(3,3),(4,4),(5,3),(6,3),(7,30)],size:=19,bytes:=136,zero:= [.int .u8 0,.int .i64 0,.int .i64 0,.int .i64 0,.kb false,.int .i64 0,.int .i64 0,.int .u8 0,.int .u8 0,.int .i64 0,.int .i64 0,.int .i64 0,.kb false,.int .u8 0,.int .i64 0,.int .i64 0,.int .i64 0,.kb false,.int .i64 0],ty:=some (.nm .Event) },
 none,
 some { kind:= .ptr 111,size:=1,bytes:=8,zero:= [.nilptr],ty:=none },
 some { kind:= .ptr 117,size:=1,bytes:=8,zero:= [.nilptr],ty:=none },
 some { kind:= .int .i64,size:=1,bytes:=8,zero:= [.int .i64 0],ty:=some (.int .i64) },
 none,
 none,
 some { kind:= .slice 32,size:=1,bytes:=24,zero:= [.nilsl],ty:=some (.slice (.nm .Event)) },
 some { kind:= .struct [(0,3),(1,3),(2,3),(3,39)],size:=4,bytes:=48,zero:= [.int .i64 0,.int .i64 0,.int .i64 0,.nilsl],ty:=some (.prod (.int .i64) (.prod (.int .i64) (.prod (.int .i64) (.prod (.slice (.nm .Event)) (.unit))))) },
 some { kind:= .struct [(0,3),(1,3),(2,3),(3,39)],size:=4,bytes:=48,zero:= [.int .i64 0,.int .i64 0,.int .i64 0,.nilsl],ty:=some (.nm .Message) },
 some { kind:= .int .i64,size:=1,bytes:=8,zero:= [.int .i64 0],ty:=some (.int .i64) },
 none,
 none,
 none,
 none,
 none,
 none,
 none,
 none,
 none,
 some { kind:= .int .u8,size:=1,bytes:=1,zero:= [.int .u8 0],ty:=some (.int .u8) },
 some { kind:= .slice 243,size:=1,bytes:=24,zero:= [.nilsl],ty:=some (.slice (.nm .Innings)) },
 some { kind:= .arr 2 3,size:=2,bytes:=16,zero:= [.int .i64 0,.int .i64 0],ty:=some (.prod (.int .i64) (.prod (.int .i64) (.unit))) },
 some { kind:= .int .u8,size:=1,bytes:=1,zero:= [.int .u8 0],ty:=some (.int .u8) },
 some { kind:= .struct [(0,55),(1,3),(2,3)],size:=3,bytes:=24,zero:= [.int .u8 0,.int .i64 0,.int .i64 0],ty:=some (.prod (.int .u8) (.prod (.int .i64) (.prod (.int .i64) (.unit)))) },
 some { kind:= .struct [(0,55),(1,3),(2,3)],size:=3,bytes:=24,zero:= [.int .u8 0,.int .i64 0,.int .i64 0],ty:=some (.nm .Result) },
 some { kind:= .struct [(0,24),(14,52),(15,3),(16,4),(17,53),(18,54),(20,57)],size:=23,bytes:=224,zero:= [.str ByteArray.empty,.int .i64 0,.int .i64 0,.int .i64 0,.int .i64 0,.int .i64 0,.int .i64 0,.int .i64 0,.kb false,.int .i64 0,.int .i64 0,.int .i64 0,.int .i64 0,.nilsl,.int .u8 0,.int .i64 0,.kb false,.nilsl,.int .i64 0,.int .i64 0,.int .u8 0,.int .i64 0,.int .i64 0],ty:=some (.prod (.nm .Rules) (.prod (.int .u8) (.prod (.int .i64) (.prod (.bool) (.prod (.slice (.nm .Innings)) (.prod (.prod (.int .i64) (.prod (.int .i64) (.unit))) (.prod (.nm .Result) (.unit)))))))) },
 some { kind:= .struct [(0,24),(14,52),(15,3),(16,4),(17,53),(18,54),(20,57)],size:=23,bytes:=224,zero:= [.str ByteArray.empty,.int .i64 0,.int .i64 0,.int .i64 0,.int .i64 0,.int .i64 0,.int .i64 0,.int .i64 0,.kb false,.int .i64 0,.int .i64 0,.int .i64 0,.int .i64 0,.nilsl,.int .u8 0,.int .i64 0,.kb false,.nilsl,.int .i64 0,.int .i64 0,.int .u8 0,.int .i64 0,.int .i64 0],ty:=some (.nm .Match) },
 none,
 none,
 none,
 none,
 none,
 some { kind:= .struct [(0,3),(1,3),(2,3),(3,3)],size:=4,bytes:=32,zero:= [.int .i64 0,.int .i64 0,.int .i64 0,.int .i64 0],ty:=some (.prod (.int .i64) (.prod (.int .i64) (.prod (.int .i64) (.prod (.int .i64) (.unit))))) },
 some { kind:= .struct [(0,3),(1,3),(2,3),(3,3)],size:=4,bytes:=32,zero:= [.int .i64 0,.int .i64 0,.int .i64 0,.int .i64 0],ty:=some (.nm .Mark) },
 none,
 none,
 none,
 none,
 none,
 some { kind:= .slice 75,size:=1,bytes:=24,zero:= [.nilsl],ty:=some (.slice (.nm .Fall)) },
 none,
 some { kind:= .struct [(0,3),(1,3),(2,3),(3,3)],size:=4,bytes:=32,zero:= [.int .i64 0,.int .i64 0,.int .i64 0,.int .i64 0],ty:=some (.prod (.int .i64) (.prod (.int .i64) (.prod (.int .i64) (.prod (.int .i64) (.unit))))) },
 some { kind:= .struct [(0,3),(1,3),(2,3),(3,3)],size:=4,bytes:=32,zero:= [.int .i64 0,.int .i64 0,.int .i64 0,.int .i64 0],ty:=some (.nm .Fall) },
 none,
 none,
 none,
 none,
 none,
 none,
 some { kind:= .slice 89,size:=1,bytes:=24,zero:= [.nilsl],ty:=some (.slice (.nm .Row)) },
 none,
 none,
 none,
 none,
 none,
 some { kind:= .struct [(0,3),(1,3),(2,3),(3,3),(4,3),(5,3),(6,9),(7,3),(8,3)],size:=9,bytes:=80,zero:= [.int .i64 0,.int .i64 0,.int .i64 0,.int .i64 0,.int .i64 0,.int .i64 0,.str ByteArray.empty,.int .i64 0,.int .i64 0],ty:=some (.prod (.int .i64) (.prod (.int .i64) (.prod (.int .i64) (.prod (.int .i64) (.prod (.int .i64) (.prod (.int .i64) (.prod (.str) (.prod (.int .i64) (.prod (.int .i64) (.unit)))))))))) },
 some { kind:= .struct [(0,3),(1,3),(2,3),(3,3),(4,3),(5,3),(6,9),(7,3),(8,3)],size:=9,bytes:=80,zero:= [.int .i64 0,.int .i64 0,.int .i64 0,.int .i64 0,.int .i64 0,.int .i64 0,.str ByteArray.empty,.int .i64 0,.int .i64 0],ty:=some (.nm .Row) },
 none,
 some { kind:= .slice 184,size:=1,bytes:=24,zero:= [.nilsl],ty:=some (.slice (.nm .Box)) },
 some { kind:= .slice 186,size:=1,bytes:=24,zero:= [.nilsl],ty:=some (.slice (.nm .Strip)) },
 some { kind:= .struct [(0,3),(1,3),(2,3),(3,3),(4,3)],size:=5,bytes:=40,zero:= [.int .i64 0,.int .i64 0,.int .i64 0,.int .i64 0,.int .i64 0],ty:=some (.prod (.int .i64) (.prod (.int .i64) (.prod (.int .i64) (.prod (.int .i64) (.prod (.int .i64) (.unit)))))) },
 some { kind:= .struct [(0,3),(1,3),(2,3),(3,3),(4,3)],size:=5,bytes:=40,zero:= [.int .i64 0,.int .i64 0,.int .i64 0,.int .i64 0,.int .i64 0],ty:=some (.nm .Extras) },
 some { kind:= .struct [(0,3),(1,91),(2,92),(3,94),(8,3),(9,3)],size:=10,bytes:=112,zero:= [.int .i64 0,.nilsl,.nilsl,.int .i64 0,.int .i64 0,.int .i64 0,.int .i64 0,.int .i64 0,.int .i64 0,.int .i64 0],ty:=some (.prod (.int .i64) (.prod (.slice (.nm .Box)) (.prod (.slice (.nm .Strip)) (.prod (.nm .Extras) (.prod (.int .i64) (.prod (.int .i64) (.unit))))))) },
 some { kind:= .struct [(0,3),(1,91),(2,92),(3,94),(8,3),(9,3)],size:=10,bytes:=112,zero:= [.int .i64 0,.nilsl,.nilsl,.int .i64 0,.int .i64 0,.int .i64 0,.int .i64 0,.int .i64 0,.int .i64 0,.int .i64 0],ty:=some (.nm .Book) },
 none,
 none,
 none,
 none,
 none,
 none,
 none,
 none,
 none,
 none,
 none,
 none,
 none,
 some { kind:= .struct [(0,24),(14,3),(15,39),(16,59)],size:=39,bytes:=392,zero:= [.str ByteArray.empty,.int .i64 0,.int .i64 0,.int .i64 0,.int .i64 0,.int .i64 0,.int .i64 0,.int .i64 0,.kb false,.int .i64 0,.int .i64 0,.int .i64 0,.int .i64 0,.nilsl,.int .i64 0,.nilsl,.str ByteArray.empty,.int .i64 0,.int .i64 0,.int .i64 0,.int .i64 0,.int .i64 0,.int .i64 0,.int .i64 0,.kb false,.int .i64 0,.int .i64 0,.int .i64 0,.int .i64 0,.nilsl,.int .u8 0,.int .i64 0,.kb false,.nilsl,.int .i64 0,.int .i64 0,.int .u8 0,.int .i64 0,.int .i64 0],ty:=some (.prod (.nm .Rules) (.prod (.int .i64) (.prod (.slice (.nm .Event)) (.prod (.nm .Match) (.unit))))) },
 some { kind:= .struct [(0,24),(14,3),(15,39),(16,59)],size:=39,bytes:=392,zero:= [.str ByteArray.empty,.int .i64 0,.int .i64 0,.int .i64 0,.int .i64 0,.int .i64 0,.int .i64 0,.int .i64 0,.kb false,.int .i64 0,.int .i64 0,.int .i64 0,.int .i64 0,.nilsl,.int .i64 0,.nilsl,.str ByteArray.empty,.int .i64 0,.int .i64 0,.int .i64 0,.int .i64 0,.int .i64 0,.int .i64 0,.int .i64 0,.kb false,.int .i64 0,.int .i64 0,.int .i64 0,.int .i64 0,.nilsl,.int .u8 0,.int .i64 0,.kb false,.nilsl,.int .i64 0,.int .i64 0,.int .u8 0,.int .i64 0,.int .i64 0],ty:=some (.nm .live_Server) },
 none,
 none,
 none,
 some { kind:= .slice 41,size:=1,bytes:=24,zero:= [.nilsl],ty:=some (.slice (.nm .Message)) },
 some { kind:= .struct [(0,59),(23,3),(24,3),(25,59),(48,3),(49,3),(50,115)],size:=51,bytes:=504,zero:= [.str ByteArray.empty,.int .i64 0,.int .i64 0,.int .i64 0,.int .i64 0,.int .i64 0,.int .i64 0,.int .i64 0,.kb false,.int .i64 0,.int .i64 0,.int .i64 0,.int .i64 0,.nilsl,.int .u8 0,.int .i64 0,.kb false,.nilsl,.int .i64 0,.int .i64 0,.int .u8 0,.int .i64 0,.int .i64 0,.int .i64 0,.int .i64 0,.str ByteArray.empty,.int .i64 0,.int .i64 0,.int .i64 0,.int .i64 0,.int .i64 0,.int .i64 0,.int .i64 0,.kb false,.int .i64 0,.int .i64 0,.int .i64 0,.int .i64 0,.nilsl,.int .u8 0,.int .i64 0,.kb false,.nilsl,.int .i64 0,.int .i64 0,.int .u8 0,.int .i64 0,.int .i64 0,.int .i64 0,.int .i64 0,.nilsl],ty:=some (.prod (.nm .Match) (.prod (.int .i64) (.prod (.int .i64) (.prod (.nm .Match) (.prod (.int .i64) (.prod (.int .i64) (.prod (.slice (.nm .Message)) (.unit)))))))) },
 some { kind:= .struct [(0,59),(23,3),(24,3),(25,59),(48,3),(49,3),(50,115)],size:=51,bytes:=504,zero:= [.str ByteArray.empty,.int .i64 0,.int .i64 0,.int .i64 0,.int .i64 0,.int .i64 0,.int .i64 0,.int .i64 0,.kb false,.int .i64 0,.int .i64 0,.int .i64 0,.int .i64 0,.nilsl,.int .u8 0,.int .i64 0,.kb false,.nilsl,.int .i64 0,.int .i64 0,.int .u8 0,.int .i64 0,.int .i64 0,.int .i64 0,.int .i64 0,.str ByteArray.empty,.int .i64 0,.int .i64 0,.int .i64 0,.int .i64 0,.int .i64 0,.int .i64 0,.int .i64 0,.kb false,.int .i64 0,.int .i64 0,.int .i64 0,.int .i64 0,.nilsl,.int .u8 0,.int .i64 0,.kb false,.nilsl,.int .i64 0,.int .i64 0,.int .u8 0,.int .i64 0,.int .i64 0,.int .i64 0,.int .i64 0,.nilsl],ty:=some (.nm .live_Follower) },
 none,
 none,
 none,
 none,
 none,
 none,
 none,
 none,
 none,
 some { kind:= .slice 66,size:=1,bytes:=24,zero:= [.nilsl],ty:=some (.slice (.nm .Mark)) },
 none,
 none,
 none,
 some { kind:= .struct [(0,3),(1,3),(2,3),(3,3)],size:=4,bytes:=32,zero:= [.int .i64 0,.int .i64 0,.int .i64 0,.int .i64 0],ty:=some (.prod (.int .i64) (.prod (.int .i64) (.prod (.int .i64) (.prod (.int .i64) (.unit))))) },
 some { kind:= .struct [(0,3),(1,3),(2,3),(3,3)],size:=4,bytes:=32,zero:= [.int .i64 0,.int .i64 0,.int .i64 0,.int .i64 0],ty:=some (.nm .milestone_Steps) },
 none,
 none,
 none,
 some { kind:= .slice 9,size:=1,bytes:=24,zero:= [.nilsl],ty:=some (.slice (.str)) },
 none,
 some { kind:= .slice 3,size:=1,bytes:=24,zero:= [.nilsl],ty:=some (.slice (.int .i64)) },
 none,
 none,
 some { kind:= .arr 3 3,size:=3,bytes:=24,zero:= [.int .i64 0,.int .i64 0,.int .i64 0],ty:=some (.prod (.int .i64) (.prod (.int .i64) (.prod (.int .i64) (.unit)))) },
 none,
 none,
 none,
 some { kind:= .slice 151,size:=1,bytes:=24,zero:= [.nilsl],ty:=some (.slice (.nm .Stand)) },
 none,
 none,
 none,
 none,
 some { kind:= .struct [(0,3),(1,3),(2,3),(3,3),(4,3),(5,4)],size:=6,bytes:=48,zero:= [.int .i64 0,.int .i64 0,.int .i64 0,.int .i64 0,.int .i64 0,.kb false],ty:=some (.prod (.int .i64) (.prod (.int .i64) (.prod (.int .i64) (.prod (.int .i64) (.prod (.int .i64) (.prod (.bool) (.unit))))))) },
 some { kind:= .struct [(0,3),(1,3),(2,3),(3,3),(4,3),(5,4)],size:=6,bytes:=48,zero:= [.int .i64 0,.int .i64 0,.int .i64 0,.int .i64 0,.int .i64 0,.kb false],ty:=some (.nm .Stand) },
 none,
 none,
 none,
 none,
 none,
 none,
 none,
 none,
 none,
 some { kind:= .ptr 164,size:=1,bytes:=8,zero:= [.nilptr],ty:=none },
 some { kind:= .slice 5,size:=1,bytes:=24,zero:= [.nilsl],ty:=some (.slice (.int .u8)) },
 some { kind:= .struct [(0,161),(1,162)],size:=2,bytes:=32,zero:= [.nilptr,.nilsl],ty:=none },
 some { kind:= .struct [(0,161),(1,162)],size:=2,bytes:=32,zero:= [.nilptr,.nilsl],ty:=none },
 none,
 none,
 none,
 none,
 none,
 none,
 none,
 none,
 none,
 none,
 none,
 none,
 none,
 none,
 some { kind:= .arr 9 3,size:=9,bytes:=72,zero:= [.int .i64 0,.int .i64 0,.int .i64 0,.int .i64 0,.int .i64 0,.int .i64 0,.int .i64 0,.int .i64 0,.int .i64 0],ty:=none },
 some { kind:= .slice 96,size:=1,bytes:=24,zero:= [.nilsl],ty:=some (.slice (.nm .Book)) },
 none,
 none,
 some { kind:= .struct [(0,3),(1,3),(2,136)],size:=3,bytes:=40,zero:= [.int .i64 0,.int .i64 0,.nilsl],ty:=some (.prod (.int .i64) (.prod (.int .i64) (.prod (.slice (.str)) (.unit)))) },
 some { kind:= .struct [(0,3),(1,3),(2,136)],size:=3,bytes:=40,zero:= [.int .i64 0,.int .i64 0,.nilsl],ty:=some (.nm .Box) },
 some { kind:= .struct [(0,3),(1,136),(2,28),(3,3)],size:=4,bytes:=48,zero:= [.int .i64 0,.nilsl,.int .u8 0,.int .i64 0],ty:=some (.prod (.int .i64) (.prod (.slice (.str)) (.prod (.int .u8) (.prod (.int .i64) (.unit))))) },
 some { kind:= .struct [(0,3),(1,136),(2,28),(3,3)],size:=4,bytes:=48,zero:= [.int .i64 0,.nilsl,.int .u8 0,.int .i64 0],ty:=some (.nm .Strip) },
 none,
 none,
 none,
 none,
 none,
 none,
 none,
 none,
 none,
 some { kind:= .ptr 96,size:=1,bytes:=8,zero:= [.nilptr],ty:=none },
 none,
 none,
 none,
 none,
 none,
 none,
 none,
 none,
 none,
 none,
 none,
 none,
 none,
 none,
 some { kind:= .slice 219,size:=1,bytes:=24,zero:= [.nilsl],ty:=some (.slice (.nm .LineA)) },
 some { kind:= .slice 322,size:=1,bytes:=24,zero:= [.nilsl],ty:=some (.slice (.nm .Diag)) },
 none,
 none,
 some { kind:= .ptr 326,size:=1,bytes:=8,zero:= [.nilptr],ty:=none },
 none,
 some { kind:= .slice 319,size:=1,bytes:=24,zero:= [.nilsl],ty:=some (.slice (.nm .FieldA)) },
 some { kind:= .struct [(0,3),(1,217)],size:=2,bytes:=32,zero:= [.int .i64 0,.nilsl],ty:=some (.prod (.int .i64) (.prod (.slice (.nm .FieldA)) (.unit))) },
 some { kind:= .struct [(0,3),(1,217)],size:=2,bytes:=32,zero:= [.int .i64 0,.nilsl],ty:=some (.nm .LineA) },
 none,
 none,
 some { kind:= .struct [(0,3),(1,3),(2,3)],size:=3,bytes:=24,zero:= [.int .i64 0,.int .i64 0,.int .i64 0],ty:=some (.prod (.int .i64) (.prod (.int .i64) (.prod (.int .i64) (.unit)))) },
 some { kind:= .struct [(0,3),(1,3),(2,3)],size:=3,bytes:=24,zero:= [.int .i64 0,.int .i64 0,.int .i64 0],ty:=some (.nm .Phase) },
 some { kind:= .slice 253,size:=1,bytes:=24,zero:= [.nilsl],ty:=some (.slice (.nm .Delivered)) },
 none,
 none,
 none,
 none,
 none,
 some { kind:= .ptr 59,size:=1,bytes:=8,zero:= [.nilptr],ty:=none },
 none,
 some { kind:= .slice 236,size:=1,bytes:=24,zero:= [.nilsl],ty:=some (.slice (.nm .Score)) },
 none,
 some { kind:= .int .u8,size:=1,bytes:=1,zero:= [.int .u8 0],ty:=some (.int .u8) },
 some { kind:= .struct [(0,3),(1,3),(2,3),(3,3),(4,94),(9,234)],size:=10,bytes:=80,zero:= [.int .i64 0,.int .i64 0,.int .i64 0,.int .i64 0,.int .i64 0,.int .i64 0,.int .i64 0,.int .i64 0,.int .i64 0,.int .u8 0],ty:=some (.prod (.int .i64) (.prod (.int .i64) (.prod (.int .i64) (.prod (.int .i64) (.prod (.nm .Extras) (.prod (.int .u8) (.unit))))))) },
 some { kind:= .struct [(0,3),(1,3),(2,3),(3,3),(4,94),(9,234)],size:=10,bytes:=80,zero:= [.int .i64 0,.int .i64 0,.int .i64 0,.int .i64 0,.int .i64 0,.int .i64 0,.int .i64 0,.int .i64 0,.int .i64 0,.int .u8 0],ty:=some (.nm .Score) },
 none,
 none,
 none,
 some { kind:= .slice 348,size:=1,bytes:=24,zero:= [.nilsl],ty:=some (.slice (.int .u8)) },
 some { kind:= .slice 4,size:=1,bytes:=24,zero:= [.nilsl],ty:=some (.slice (.bool)) },
 some { kind:= .struct [(0,3),(1,3),(2,3),(3,3),(4,3),(5,94),(10,3),(11,3),(12,3),(13,3),(14,240),(15,3),(16,138),(17,138),(18,4),(19,138),(20,4),(21,3),(22,3),(23,3),(24,241),(25,54),(27,234)],size:=28,bytes:=304,zero:= [.int .i64 0,.int .i64 0,.int .i64 0,.int .i64 0,.int .i64 0,.int .i64 0,.int .i64 0,.int .i64 0,.int .i64 0,.int .i64 0,.int .i64 0,.int .i64 0,.int .i64 0,.int .i64 0,.nilsl,.int .i64 0,.nilsl,.nilsl,.kb false,.nilsl,.kb false,.int .i64 0,.int .i64 0,.int .i64 0,.nilsl,.int .i64 0,.int .i64 0,.int .u8 0],ty:=some (.prod (.int .i64) (.prod (.int .i64) (.prod (.int .i64) (.prod (.int .i64) (.prod (.int .i64) (.prod (.nm .Extras) (.prod (.int .i64) (.prod (.int .i64) (.prod (.int .i64) (.prod (.int .i64) (.prod (.slice (.int .u8)) (.prod (.int .i64) (.prod (.slice (.int .i64)) (.prod (.slice (.int .i64)) (.prod (.bool) (.prod (.slice (.int .i64)) (.prod (.bool) (.prod (.int .i64) (.prod (.int .i64) (.prod (.int .i64) (.prod (.slice (.bool)) (.prod (.prod (.int .i64) (.prod (.int .i64) (.unit))) (.prod (.int .u8) (.unit)))))))))))))))))))))))) },
 some { kind:= .struct [(0,3),(1,3),(2,3),(3,3),(4,3),(5,94),(10,3),(11,3),(12,3),(13,3),(14,240),(15,3),(16,138),(17,138),(18,4),(19,138),(20,4),(21,3),(22,3),(23,3),(24,241),(25,54),(27,234)],size:=28,bytes:=304,zero:= [.int .i64 0,.int .i64 0,.int .i64 0,.int .i64 0,.int .i64 0,.int .i64 0,.int .i64 0,.int .i64 0,.int .i64 0,.int .i64 0,.int .i64 0,.int .i64 0,.int .i64 0,.int .i64 0,.nilsl,.int .i64 0,.nilsl,.nilsl,.kb false,.nilsl,.kb false,.int .i64 0,.int .i64 0,.int .i64 0,.nilsl,.int .i64 0,.int .i64 0,.int .u8 0],ty:=some (.nm .Innings) },
 none,
 none,
 none,
 none,
 some { kind:= .map 257 3,size:=1,bytes:=8,zero:= [.nilmap],ty:=none },
 some { kind:= .map 3 3,size:=1,bytes:=8,zero:= [.nilmap],ty:=none },
 some { kind:= .struct [(0,3),(1,3),(2,3),(3,3),(4,3),(5,3),(6,4),(7,4),(8,4),(9,4)],size:=10,bytes:=56,zero:= [.int .i64 0,.int .i64 0,.int .i64 0,.int .i64 0,.int .i64 0,.int .i64 0,.kb false,.kb false,.kb false,.kb false],ty:=some (.prod (.int .i64) (.prod (.int .i64) (.prod (.int .i64) (.prod (.int .i64) (.prod (.int .i64) (.prod (.int .i64) (.prod (.bool) (.prod (.bool) (.prod (.bool) (.prod (.bool) (.unit))))))))))) },
 some { kind:= .struct [(0,3),(1,3),(2,3),(3,3),(4,3),(5,3),(6,4),(7,4),(8,4),(9,4)],size:=10,bytes:=56,zero:= [.int .i64 0,.int .i64 0,.int .i64 0,.int .i64 0,.int .i64 0,.int .i64 0,.kb false,.kb false,.kb false,.kb false],ty:=some (.nm .Credit) },
 some { kind:= .struct [(0,3),(1,3),(2,3),(3,3),(4,3),(5,3),(6,3),(7,4),(8,30),(20,251),(30,3),(31,3)],size:=32,bytes:=216,zero:= [.int .i64 0,.int .i64 0,.int .i64 0,.int .i64 0,.int .i64 0,.int .i64 0,.int .i64 0,.kb false,.int .u8 0,.int .u8 0,.int .i64 0,.int .i64 0,.int .i64 0,.kb false,.int .u8 0,.int .i64 0,.int .i64 0,.int .i64 0,.kb false,.int .i64 0,.int .i64 0,.int .i64 0,.int .i64 0,.int .i64 0,.int .i64 0,.int .i64 0,.kb false,.kb false,.kb false,.kb false,.int .i64 0,.int .i64 0],ty:=some (.prod (.int .i64) (.prod (.int .i64) (.prod (.int .i64) (.prod (.int .i64) (.prod (.int .i64) (.prod (.int .i64) (.prod (.int .i64) (.prod (.bool) (.prod (.nm .Delivery) (.prod (.nm .Credit) (.prod (.int .i64) (.prod (.int .i64) (.unit))))))))))))) },
 some { kind:= .struct [(0,3),(1,3),(2,3),(3,3),(4,3),(5,3),(6,3),(7,4),(8,30),(20,251),(30,3),(31,3)],size:=32,bytes:=216,zero:= [.int .i64 0,.int .i64 0,.int .i64 0,.int .i64 0,.int .i64 0,.int .i64 0,.int .i64 0,.kb false,.int .u8 0,.int .u8 0,.int .i64 0,.int .i64 0,.int .i64 0,.kb false,.int .u8 0,.int .i64 0,.int .i64 0,.int .i64 0,.kb false,.int .i64 0,.int .i64 0,.int .i64 0,.int .i64 0,.int .i64 0,.int .i64 0,.int .i64 0,.kb false,.kb false,.kb false,.kb false,.int .i64 0,.int .i64 0],ty:=some (.nm .Delivered) },
 none,
 none,
 some { kind:= .struct [(0,3),(1,3)],size:=2,bytes:=16,zero:= [.int .i64 0,.int .i64 0],ty:=some (.prod (.int .i64) (.prod (.int .i64) (.unit))) },
 some { kind:= .struct [(0,3),(1,3)],size:=2,bytes:=16,zero:= [.int .i64 0,.int .i64 0],ty:=some (.nm .milestone_who) },
 none,
 none,
 none,
 none,
 none,
 some { kind:= .int .u64,size:=1,bytes:=8,zero:= [.int .u64 0],ty:=some (.int .u64) },
 some { kind:= .slice 269,size:=1,bytes:=24,zero:= [.nilsl],ty:=none },
 none,
 none,
 some { kind:= .ptr 253,size:=1,bytes:=8,zero:= [.nilptr],ty:=none },
 some { kind:= .struct [(0,3),(1,32),(20,267),(21,3)],size:=22,bytes:=160,zero:= [.int .i64 0,.int .u8 0,.int .i64 0,.int .i64 0,.int .i64 0,.kb false,.int .i64 0,.int .i64 0,.int .u8 0,.int .u8 0,.int .i64 0,.int .i64 0,.int .i64 0,.kb false,.int .u8 0,.int .i64 0,.int .i64 0,.int .i64 0,.kb false,.int .i64 0,.nilptr,.int .i64 0],ty:=none },
 some { kind:= .struct [(0,3),(1,32),(20,267),(21,3)],size:=22,bytes:=160,zero:= [.int .i64 0,.int .u8 0,.int .i64 0,.int .i64 0,.int .i64 0,.kb false,.int .i64 0,.int .i64 0,.int .u8 0,.int .u8 0,.int .i64 0,.int .i64 0,.int .i64 0,.kb false,.int .u8 0,.int .i64 0,.int .i64 0,.int .i64 0,.kb false,.int .i64 0,.nilptr,.int .i64 0],ty:=none },
 none,
 some { kind:= .ptr 151,size:=1,bytes:=8,zero:= [.nilptr],ty:=none },
 none,
 none,
 none,
 none,
 none,
 some { kind:= .ptr 89,size:=1,bytes:=8,zero:= [.nilptr],ty:=none },
 none,
 none,
 none,
 none,
 some { kind:= .slice 138,size:=1,bytes:=24,zero:= [.nilsl],ty:=some (.slice (.slice (.int .i64))) },
 none,
 some { kind:= .ptr 286,size:=1,bytes:=8,zero:= [.nilptr],ty:=none },
 some { kind:= .struct [(0,9)],size:=1,bytes:=16,zero:= [.str ByteArray.empty],ty:=some (.prod (.str) (.unit)) },
 some { kind:= .struct [(0,9)],size:=1,bytes:=16,zero:= [.str ByteArray.empty],ty:=some (.nm .notation_reader) },
 none,
 none,
 none,
 some { kind:= .ptr 30,size:=1,bytes:=8,zero:= [.nilptr],ty:=none },
 some { kind:= .ptr 5,size:=1,bytes:=8,zero:= [.nilptr],ty:=none },
 none,
 none,
 none,
 none,
 some { kind:= .slice 54,size:=1,bytes:=24,zero:= [.nilsl],ty:=some (.slice (.prod (.int .i64) (.prod (.int .i64) (.unit)))) },
 none,
 none,
 none,
 none,
 some { kind:= .struct [(0,5),(1,3),(2,3),(3,3),(4,5)],size:=5,bytes:=40,zero:= [.int .u8 0,.int .i64 0,.int .i64 0,.int .i64 0,.int .u8 0],ty:=some (.prod (.int .u8) (.prod (.int .i64) (.prod (.int .i64) (.prod (.int .i64) (.prod (.int .u8) (.unit)))))) },
 some { kind:= .struct [(0,5),(1,3),(2,3),(3,3),(4,5)],size:=5,bytes:=40,zero:= [.int .u8 0,.int .i64 0,.int .i64 0,.int .i64 0,.int .u8 0],ty:=some (.nm .boxbook_entry) },
 none,
 none,
 some { kind:= .struct [(0,28),(1,9),(2,4),(3,4),(4,4),(5,4),(6,4)],size:=7,bytes:=32,zero:= [.int .u8 0,.str ByteArray.empty,.kb false,.kb false,.kb false,.kb false,.kb false],ty:=some (.prod (.int .u8) (.prod (.str) (.prod (.bool) (.prod (.bool) (.prod (.bool) (.prod (.bool) (.prod (.bool) (.unit)))))))) },
 some { kind:= .struct [(0,28),(1,9),(2,4),(3,4),(4,4),(5,4),(6,4)],size:=7,bytes:=32,zero:= [.int .u8 0,.str ByteArray.empty,.kb false,.kb false,.kb false,.kb false,.kb false],ty:=some (.nm .dismissal_way) },
 none,
 none,
 some { kind:= .slice 313,size:=1,bytes:=24,zero:= [.nilsl],ty:=some (.slice (.nm .event_form)) },
 none,
 none,
 some { kind:= .struct [(0,9),(1,9),(2,9),(3,9)],size:=4,bytes:=64,zero:= [.str ByteArray.empty,.str ByteArray.empty,.str ByteArray.empty,.str ByteArray.empty],ty:=some (.prod (.str) (.prod (.str) (.prod (.str) (.prod (.str) (.unit))))) },
 some { kind:= .struct [(0,9),(1,9),(2,9),(3,9)],size:=4,bytes:=64,zero:= [.str ByteArray.empty,.str ByteArray.empty,.str ByteArray.empty,.str ByteArray.empty],ty:=some (.nm .event_form) },
 none,
 none,
 some { kind:= .ptr 32,size:=1,bytes:=8,zero:= [.nilptr],ty:=none },
 none,
 some { kind:= .struct [(0,9),(1,3),(2,4)],size:=3,bytes:=32,zero:= [.str ByteArray.empty,.int .i64 0,.kb false],ty:=some (.prod (.str) (.prod (.int .i64) (.prod (.bool) (.unit)))) },
 some { kind:= .struct [(0,9),(1,3),(2,4)],size:=3,bytes:=32,zero:= [.str ByteArray.empty,.int .i64 0,.kb false],ty:=some (.nm .FieldA) },
 none,
 some { kind:= .struct [(0,3),(1,3),(2,42)],size:=3,bytes:=24,zero:= [.int .i64 0,.int .i64 0,.int .i64 0],ty:=some (.prod (.int .i64) (.prod (.int .i64) (.prod (.int .i64) (.unit)))) },
 some { kind:= .struct [(0,3),(1,3),(2,42)],size:=3,bytes:=24,zero:= [.int .i64 0,.int .i64 0,.int .i64 0],ty:=some (.nm .Diag) },
 none,
 none,
 some { kind:= .struct [(0,219),(2,3),(3,42),(4,3)],size:=5,bytes:=56,zero:= [.int .i64 0,.nilsl,.int .i64 0,.int .i64 0,.int .i64 0],ty:=some (.prod (.nm .LineA) (.prod (.int .i64) (.prod (.int .i64) (.prod (.int .i64) (.unit))))) },
 some { kind:= .struct [(0,219),(2,3),(3,42),(4,3)],size:=5,bytes:=56,zero:= [.int .i64 0,.nilsl,.int .i64 0,.int .i64 0,.int .i64 0],ty:=some (.nm .ref03_Cursor) },
 none,
 none,
 none,
 none,
 none,
 none,
 none,
 none,
 none,
 none,
 none,
 none,
 some { kind:= .struct [(0,5),(1,4),(2,4)],size:=3,bytes:=3,zero:= [.int .u8 0,.kb false,.kb false],ty:=some (.prod (.int .u8) (.prod (.bool) (.prod (.bool) (.unit)))) },
 some { kind:= .slice 339,size:=1,bytes:=24,zero:= [.nilsl],ty:=some (.slice (.prod (.int .u8) (.prod (.bool) (.prod (.bool) (.unit))))) },
 none,
 none,
 none,
 none,
 none,
 none,
 none,
 some { kind:= .int .u8,size:=1,bytes:=1,zero:= [.int .u8 0],ty:=some (.int .u8) },
 none,
 none,
 none,
 none,
 none,
 none,
 some { kind:= .map 3 267,size:=1,bytes:=8,zero:= [.nilmap],ty:=none },
 none,
 none,
 none,
 none,
 none,
 none,
 none,
 none,
 none,
 none,
 none,
 none,
 none,
 none,
 some { kind:= .ptr 236,size:=1,bytes:=8,zero:= [.nilptr],ty:=none },
 none,
 none,
 some { kind:= .ptr 186,size:=1,bytes:=8,zero:= [.nilptr],ty:=none },
 none,
 none,
 none,
 none,
 none,
 none,
 none,
 some { kind:= .slice 306,size:=1,bytes:=24,zero:= [.nilsl],ty:=some (.slice (.nm .dismissal_way)) },
 none,
 none,
 none,
 none,
 none,
 none,
 none,
 none,
 none,
 none,
 none,
 none,
 none,
 none,
 none,
 none,
 some { kind:= .arr 24 5,size:=24,bytes:=24,zero:= [.int .u8 0,.int .u8 0,.int .u8 0,.int .u8 0,.int .u8 0,.int .u8 0,.int .u8 0,.int .u8 0,.int .u8 0,.int .u8 0,.int .u8 0,.int .u8 0,.int .u8 0,.int .u8 0,.int .u8 0,.int .u8 0,.int .u8 0,.int .u8 0,.int .u8 0,.int .u8 0,.int .u8 0,.int .u8 0,.int .u8 0,.int .u8 0],ty:=none },
 none,
 none,
 none,
 none,
 none,
 none,
 none,
 none,
 some { kind:= .arr 256 4,size:=256,bytes:=256,zero:= [.kb false,.kb false,.kb false,.kb false,.kb false,.kb false,.kb false,.kb false,.kb false,.kb false,.kb false,.kb false,.kb false,.kb false,.kb false,.kb false,.kb false,.kb false,.kb false,.kb false,.kb false,.kb false,.kb false,.kb false,.kb false,.kb false,.kb false,.kb false,.kb false,.kb false,.kb false,.kb false,.kb false,.kb false,.kb false,.kb false,.kb false,.kb false,.kb false,.kb false,.kb false,.kb false,.kb false,.kb false,.kb false,.kb false,.kb false,.kb false,.kb false,.kb false,.kb false,.kb false,.kb false,.kb false,.kb false,.kb false,.kb false,.kb false,.kb false,.kb false,.kb false,.kb false,.kb false,.kb false,.kb false,.kb false,.kb false,.kb false,.kb false,.kb false,.kb false,.kb false,.kb false,.kb false,.kb false,.kb false,.kb false,.kb false,.kb false,.kb false,.kb false,.kb false,.kb false,.kb false,.kb false,.kb false,.kb false,.kb false,.kb false,.kb false,.kb false,.kb false,.kb false,.kb false,.kb false,.kb false,.kb false,.kb false,.kb false,.kb false,.kb false,.kb false,.kb false,.kb false,.kb false,.kb false,.kb false,.kb false,.kb false,.kb false,.kb false,.kb false,.kb false,.kb false,.kb false,.kb false,.kb false,.kb false,.kb false,.kb false,.kb false,.kb false,.kb false,.kb false,.kb false,.kb false,.kb false,.kb false,.kb false,.kb false,.kb false,.kb false,.kb false,.kb false,.kb false,.kb false,.kb false,.kb false,.kb false,.kb false,.kb false,.kb false,.kb false,.kb false,.kb false,.kb false,.kb false,.kb false,.kb false,.kb false,.kb false,.kb false,.kb false,.kb false,.kb false,.kb false,.kb false,.kb false,.kb false,.kb false,.kb false,.kb false,.kb false,.kb false,.kb false,.kb false,.kb false,.kb false,.kb false,.kb false,.kb false,.kb false,.kb false,.kb false,.kb false,.kb false,.kb false,.kb false,.kb false,.kb false,.kb false,.kb false,.kb false,.kb false,.kb false,.kb false,.kb false,.kb false,.kb false,.kb false,.kb false,.kb false,.kb false,.kb false,.kb false,.kb false,.kb false,.kb false,.kb false,.kb false,.kb false,.kb false,.kb false,.kb false,.kb false,.kb false,.kb false,.kb false,.kb false,.kb false,.kb false,.kb false,.kb false,.kb false,.kb false,.kb false,.kb false,.kb false,.kb false,.kb false,.kb false,.kb false,.kb false,.kb false,.kb false,.kb false,.kb false,.kb false,.kb false,.kb false,.kb false,.kb false,.kb false,.kb false,.kb false,.kb false,.kb false,.kb false,.kb false,.kb false,.kb false,.kb false,.kb false,.kb false,.kb false,.kb false,.kb false,.kb false,.kb false,.kb false,.kb false,.kb false,.kb false,.kb false,.kb false,.kb false],ty:=none },
 some { kind:= .arr 256 4,size:=256,bytes:=256,zero:= [.kb false,.kb false,.kb false,.kb false,.kb false,.kb false,.kb false,.kb false,.kb false,.kb false,.kb false,.kb false,.kb false,.kb false,.kb false,.kb false,.kb false,.kb false,.kb false,.kb false,.kb false,.kb false,.kb false,.kb false,.kb false,.kb false,.kb false,.kb false,.kb false,.kb false,.kb false,.kb false,.kb false,.kb false,.kb false,.kb false,.kb false,.kb false,.kb false,.kb false,.kb false,.kb false,.kb false,.kb false,.kb false,.kb false,.kb false,.kb false,.kb false,.kb false,.kb false,.kb false,.kb false,.kb false,.kb false,.kb false,.kb false,.kb false,.kb false,.kb false,.kb false,.kb false,.kb false,.kb false,.kb false,.kb false,.kb false,.kb false,.kb false,.kb false,.kb false,.kb false,.kb false,.kb false,.kb false,.kb false,.kb false,.kb false,.kb false,.kb false,.kb false,.kb false,.kb false,.kb false,.kb false,.kb false,.kb false,.kb false,.kb false,.kb false,.kb false,.kb false,.kb false,.kb false,.kb false,.kb false,.kb false,.kb false,.kb false,.kb false,.kb false,.kb false,.kb false,.kb false,.kb false,.kb false,.kb false,.kb false,.kb false,.kb false,.kb false,.kb false,.kb false,.kb false,.kb false,.kb false,.kb false,.kb false,.kb false,.kb false,.kb false,.kb false,.kb false,.kb false,.kb false,.kb false,.kb false,.kb false,.kb false,.kb false,.kb false,.kb false,.kb false,.kb false,.kb false,.kb false,.kb false,.kb false,.kb false,.kb false,.kb false,.kb false,.kb false,.kb false,.kb false,.kb false,.kb false,.kb false,.kb false,.kb false,.kb false,.kb false,.kb false,.kb false,.kb false,.kb false,.kb false,.kb false,.kb false,.kb false,.kb false,.kb false,.kb false,.kb false,.kb false,.kb false,.kb false,.kb false,.kb false,.kb false,.kb false,.kb false,.kb false,.kb false,.kb false,.kb false,.kb false,.kb false,.kb false,.kb false,.kb false,.kb false,.kb false,.kb false,.kb false,.kb false,.kb false,.kb false,.kb false,.kb false,.kb false,.kb false,.kb false,.kb false,.kb false,.kb false,.kb false,.kb false,.kb false,.kb false,.kb false,.kb false,.kb false,.kb false,.kb false,.kb false,.kb false,.kb false,.kb false,.kb false,.kb false,.kb false,.kb false,.kb false,.kb false,.kb false,.kb false,.kb false,.kb false,.kb false,.kb false,.kb false,.kb false,.kb false,.kb false,.kb false,.kb false,.kb false,.kb false,.kb false,.kb false,.kb false,.kb false,.kb false,.kb false,.kb false,.kb false,.kb false,.kb false,.kb false,.kb false,.kb false,.kb false,.kb false,.kb false,.kb false,.kb false,.kb false,.kb false,.kb false,.kb false,.kb false,.kb false,.kb false,.kb false,.kb false],ty:=none },
 none,
 none,
 none,
 some { kind:= .ptr 408,size:=1,bytes:=8,zero:= [.nilptr],ty:=none },
 none,
 none,
 none,
 some { kind:= .int .u64,size:=1,bytes:=8,zero:= [.int .u64 0],ty:=some (.int .u64) },
 some { kind:= .ptr 440,size:=1,bytes:=8,zero:= [.nilptr],ty:=none },
 none,
 none,
 none,
 none,
 none,
 some { kind:= .slice 28,size:=1,bytes:=24,zero:= [.nilsl],ty:=some (.slice (.int .u8)) },
 none,
 none,
 none,
 some { kind:= .struct [(0,4),(1,4),(2,4),(3,4),(4,4),(5,4),(6,4)],size:=7,bytes:=7,zero:= [.kb false,.kb false,.kb false,.kb false,.kb false,.kb false,.kb false],ty:=some (.prod (.bool) (.prod (.bool) (.prod (.bool) (.prod (.bool) (.prod (.bool) (.prod (.bool) (.prod (.bool) (.unit)))))))) },
 some { kind:= .struct [(0,4),(1,4),(2,4),(3,4),(4,4),(5,4),(6,4)],size:=7,bytes:=7,zero:= [.kb false,.kb false,.kb false,.kb false,.kb false,.kb false,.kb false],ty:=some (.nm .ref08_Uses) },
 none,
 none,
 none,
 none,
 some { kind:= .arr 20 263,size:=20,bytes:=160,zero:= [.int .u64 0,.int .u64 0,.int .u64 0,.int .u64 0,.int .u64 0,.int .u64 0,.int .u64 0,.int .u64 0,.int .u64 0,.int .u64 0,.int .u64 0,.int .u64 0,.int .u64 0,.int .u64 0,.int .u64 0,.int .u64 0,.int .u64 0,.int .u64 0,.int .u64 0,.int .u64 0],ty:=none },
 some { kind:= .int .u32,size:=1,bytes:=4,zero:= [.int .u32 0],ty:=some (.int .u32) },
 some { kind:= .arr 65 5,size:=65,bytes:=65,zero:= [.int .u8 0,.int .u8 0,.int .u8 0,.int .u8 0,.int .u8 0,.int .u8 0,.int .u8 0,.int .u8 0,.int .u8 0,.int .u8 0,.int .u8 0,.int .u8 0,.int .u8 0,.int .u8 0,.int .u8 0,.int .u8 0,.int .u8 0,.int .u8 0,.int .u8 0,.int .u8 0,.int .u8 0,.int .u8 0,.int .u8 0,.int .u8 0,.int .u8 0,.int .u8 0,.int .u8 0,.int .u8 0,.int .u8 0,.int .u8 0,.int .u8 0,.int .u8 0,.int .u8 0,.int .u8 0,.int .u8 0,.int .u8 0,.int .u8 0,.int .u8 0,.int .u8 0,.int .u8 0,.int .u8 0,.int .u8 0,.int .u8 0,.int .u8 0,.int .u8 0,.int .u8 0,.int .u8 0,.int .u8 0,.int .u8 0,.int .u8 0,.int .u8 0,.int .u8 0,.int .u8 0,.int .u8 0,.int .u8 0,.int .u8 0,.int .u8 0,.int .u8 0,.int .u8 0,.int .u8 0,.int .u8 0,.int .u8 0,.int .u8 0,.int .u8 0,.int .u8 0],ty:=none },
 none,
 none,
 none,
 none,
 none,
 none,
 none,
 none,
 none,
 none,
 none,
 none,
 none,
 none,
 none,
 none,
 none,
 none,
 none,
 none,
 none,
 none,
 none,
 some { kind:= .arr 256 5,size:=256,bytes:=256,zero:= [.int .u8 0,.int .u8 0,.int .u8 0,.int .u8 0,.int .u8 0,.int .u8 0,.int .u8 0,.int .u8 0,.int .u8 0,.int .u8 0,.int .u8 0,.int .u8 0,.int .u8 0,.int .u8 0,.int .u8 0,.int .u8 0,.int .u8 0,.int .u8 0,.int .u8 0,.int .u8 0,.int .u8 0,.int .u8 0,.int .u8 0,.int .u8 0,.int .u8 0,.int .u8 0,.int .u8 0,.int .u8 0,.int .u8 0,.int .u8 0,.int .u8 0,.int .u8 0,.int .u8 0,.int .u8 0,.int .u8 0,.int .u8 0,.int .u8 0,.int .u8 0,.int .u8 0,.int .u8 0,.int .u8 0,.int .u8 0,.int .u8 0,.int .u8 0,.int .u8 0,.int .u8 0,.int .u8 0,.int .u8 0,.int .u8 0,.int .u8 0,.int .u8 0,.int .u8 0,.int .u8 0,.int .u8 0,.int .u8 0,.int .u8 0,.int .u8 0,.int .u8 0,.int .u8 0,.int .u8 0,.int .u8 0,.int .u8 0,.int .u8 0,.int .u8 0,.int .u8 0,.int .u8 0,.int .u8 0,.int .u8 0,.int .u8 0,.int .u8 0,.int .u8 0,.int .u8 0,.int .u8 0,.int .u8 0,.int .u8 0,.int .u8 0,.int .u8 0,.int .u8 0,.int .u8 0,.int .u8 0,.int .u8 0,.int .u8 0,.int .u8 0,.int .u8 0,.int .u8 0,.int .u8 0,.int .u8 0,.int .u8 0,.int .u8 0,.int .u8 0,.int .u8 0,.int .u8 0,.int .u8 0,.int .u8 0,.int .u8 0,.int .u8 0,.int .u8 0,.int .u8 0,.int .u8 0,.int .u8 0,.int .u8 0,.int .u8 0,.int .u8 0,.int .u8 0,.int .u8 0,.int .u8 0,.int .u8 0,.int .u8 0,.int .u8 0,.int .u8 0,.int .u8 0,.int .u8 0,.int .u8 0,.int .u8 0,.int .u8 0,.int .u8 0,.int .u8 0,.int .u8 0,.int .u8 0,.int .u8 0,.int .u8 0,.int .u8 0,.int .u8 0,.int .u8 0,.int .u8 0,.int .u8 0,.int .u8 0,.int .u8 0,.int .u8 0,.int .u8 0,.int .u8 0,.int .u8 0,.int .u8 0,.int .u8 0,.int .u8 0,.int .u8 0,.int .u8 0,.int .u8 0,.int .u8 0,.int .u8 0,.int .u8 0,.int .u8 0,.int .u8 0,.int .u8 0,.int .u8 0,.int .u8 0,.int .u8 0,.int .u8 0,.int .u8 0,.int .u8 0,.int .u8 0,.int .u8 0,.int .u8 0,.int .u8 0,.int .u8 0,.int .u8 0,.int .u8 0,.int .u8 0,.int .u8 0,.int .u8 0,.int .u8 0,.int .u8 0,.int .u8 0,.int .u8 0,.int .u8 0,.int .u8 0,.int .u8 0,.int .u8 0,.int .u8 0,.int .u8 0,.int .u8 0,.int .u8 0,.int .u8 0,.int .u8 0,.int .u8 0,.int .u8 0,.int .u8 0,.int .u8 0,.int .u8 0,.int .u8 0,.int .u8 0,.int .u8 0,.int .u8 0,.int .u8 0,.int .u8 0,.int .u8 0,.int .u8 0,.int .u8 0,.int .u8 0,.int .u8 0,.int .u8 0,.int .u8 0,.int .u8 0,.int .u8 0,.int .u8 0,.int .u8 0,.int .u8 0,.int .u8 0,.int .u8 0,.int .u8 0,.int .u8 0,.int .u8 0,.int .u8 0,.int .u8 0,.int .u8 0,.int .u8 0,.int .u8 0,.int .u8 0,.int .u8 0,.int .u8 0,.int .u8 0,.int .u8 0,.int .u8 0,.int .u8 0,.int .u8 0,.int .u8 0,.int .u8 0,.int .u8 0,.int .u8 0,.int .u8 0,.int .u8 0,.int .u8 0,.int .u8 0,.int .u8 0,.int .u8 0,.int .u8 0,.int .u8 0,.int .u8 0,.int .u8 0,.int .u8 0,.int .u8 0,.int .u8 0,.int .u8 0,.int .u8 0,.int .u8 0,.int .u8 0,.int .u8 0,.int .u8 0,.int .u8 0,.int .u8 0,.int .u8 0,.int .u8 0,.int .u8 0,.int .u8 0,.int .u8 0,.int .u8 0,.int .u8 0,.int .u8 0,.int .u8 0,.int .u8 0,.int .u8 0,.int .u8 0,.int .u8 0,.int .u8 0,.int .u8 0,.int .u8 0],ty:=none },
 some { kind:= .struct [(0,5),(1,5)],size:=2,bytes:=2,zero:= [.int .u8 0,.int .u8 0],ty:=some (.prod (.int .u8) (.prod (.int .u8) (.unit))) },
 some { kind:= .struct [(0,5),(1,5)],size:=2,bytes:=2,zero:= [.int .u8 0,.int .u8 0],ty:=some (.prod (.int .u8) (.prod (.int .u8) (.unit))) },
 some { kind:= .arr 16 461,size:=32,bytes:=32,zero:= [.int .u8 0,.int .u8 0,.int .u8 0,.int .u8 0,.int .u8 0,.int .u8 0,.int .u8 0,.int .u8 0,.int .u8 0,.int .u8 0,.int .u8 0,.int .u8 0,.int .u8 0,.int .u8 0,.int .u8 0,.int .u8 0,.int .u8 0,.int .u8 0,.int .u8 0,.int .u8 0,.int .u8 0,.int .u8 0,.int .u8 0,.int .u8 0,.int .u8 0,.int .u8 0,.int .u8 0,.int .u8 0,.int .u8 0,.int .u8 0,.int .u8 0,.int .u8 0],ty:=none },
 none,
 some { kind:= .ptr 466,size:=1,bytes:=8,zero:= [.nilptr],ty:=none },
 some { kind:= .struct [(0,9)],size:=1,bytes:=16,zero:= [.str ByteArray.empty],ty:=some (.prod (.str) (.unit)) },
 some { kind:= .struct [(0,9)],size:=1,bytes:=16,zero:= [.str ByteArray.empty],ty:=some (.prod (.str) (.unit)) },
 none,
 none,
 none,
 none,
 none,
 none,
 none,
 none,
 some { kind:= .ptr 243,size:=1,bytes:=8,zero:= [.nilptr],ty:=none },
 some { kind:= .arr 32 5,size:=32,bytes:=32,zero:= [.int .u8 0,.int .u8 0,.int .u8 0,.int .u8 0,.int .u8 0,.int .u8 0,.int .u8 0,.int .u8 0,.int .u8 0,.int .u8 0,.int .u8 0,.int .u8 0,.int .u8 0,.int .u8 0,.int .u8 0,.int .u8 0,.int .u8 0,.int .u8 0,.int .u8 0,.int .u8 0,.int .u8 0,.int .u8 0,.int .u8 0,.int .u8 0,.int .u8 0,.int .u8 0,.int .u8 0,.int .u8 0,.int .u8 0,.int .u8 0,.int .u8 0,.int .u8 0],ty:=none },
 some { kind:= .arr 64 5,size:=64,bytes:=64,zero:= [.int .u8 0,.int .u8 0,.int .u8 0,.int .u8 0,.int .u8 0,.int .u8 0,.int .u8 0,.int .u8 0,.int .u8 0,.int .u8 0,.int .u8 0,.int .u8 0,.int .u8 0,.int .u8 0,.int .u8 0,.int .u8 0,.int .u8 0,.int .u8 0,.int .u8 0,.int .u8 0,.int .u8 0,.int .u8 0,.int .u8 0,.int .u8 0,.int .u8 0,.int .u8 0,.int .u8 0,.int .u8 0,.int .u8 0,.int .u8 0,.int .u8 0,.int .u8 0,.int .u8 0,.int .u8 0,.int .u8 0,.int .u8 0,.int .u8 0,.int .u8 0,.int .u8 0,.int .u8 0,.int .u8 0,.int .u8 0,.int .u8 0,.int .u8 0,.int .u8 0,.int .u8 0,.int .u8 0,.int .u8 0,.int .u8 0,.int .u8 0,.int .u8 0,.int .u8 0,.int .u8 0,.int .u8 0,.int .u8 0,.int .u8 0,.int .u8 0,.int .u8 0,.int .u8 0,.int .u8 0,.int .u8 0,.int .u8 0,.int .u8 0,.int .u8 0],ty:=none },
 none,
 none,
 none,
 none,
 some { kind:= .slice 36,size:=1,bytes:=24,zero:= [.nilsl],ty:=some (.slice (.int .i64)) },
 none,
 none,
 none,
 none,
 none,
 none,
 none,
 none,
 none,
 none,
 none,
 none,
 none]
def tbl (t:TypeId):Option TD:=(G6[t]?).getD none
theorem B1:aK Go.Proofs.Tryz.prog tbl:=pn G6 (by kernel_rfl)
end Go.Mir
