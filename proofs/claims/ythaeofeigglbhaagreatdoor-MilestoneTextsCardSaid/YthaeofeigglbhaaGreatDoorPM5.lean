/- Texts of the mirror and contracts, put together. -/
import Derived.Test.YthaeofeigglbhaaGreatDoorPM2
import Derived.Test.YthaeofeigglbhaaGreatDoorPM4
import Derived.LoopN
namespace Go.Mir
open Go.RowKit
variable {P:Program}
inductive DoesV (C:Cfg) (alt:Option (Nat×(Blk→Bool))) (all:List Oper) (tm:List (Nat×V)) (H:aj) (m:Nat) (o:Oper):Rec→Prop
 | old {r:Rec}:Does C true all tm H m o r→DoesV C alt all tm H m o r
 | dir {ps:List Ob} {v v':V} {dh:List (Nat×Blk)} {R:List Nat}:dstIn C.N o.dst=true→dH all tm o=some true→ao C m H (aG (af all o) tm) o.op=some (ps,v,dh)→
   (∀ H2:aj,(∀ h∈R,H2 h=H h)→(∀ h0 okB,alt=some (h0,okB)→H2 h0=H h0∨∃ b,H2 h0=some b∧okB b=true)→ao C m H2 (aG (af all o) tm) o.op=ao C m H (aG (af all o) tm) o.op)→(∀ p∈ps,p.holds)→
   (v'=v∨∃ b,v = .bool b∧v' = .kb b)→DoesV C alt all tm H m o ⟨o.dst,v',dh,R,af all o⟩
theorem DoesV.dstIn {C:Cfg} {alt:Option (Nat×(Blk→Bool))} {all:List Oper} {tm:List (Nat×V)} {H:aj} {m:Nat} {o:Oper} {r:Rec} (h:DoesV C alt all tm H m o r):dstIn C.N o.dst=true∧r.dst=o.dst∧r.rs=af all o:=by
 cases h with
 | old h=>exact h.dstIn
 | dir h _ _ _ _ _=>exact ⟨h,rfl,rfl⟩
inductive RunV (Cf:Nat→Cfg) (lo:Nat→Nat) (al:Nat→Option (Nat×(Blk→Bool))) (all:List Oper) (st:St):Nat→List Oper→Dl→List Rec→Dl→List Rec→Prop
 | nil {i:Nat} {d:Dl} {recs:List Rec}:RunV Cf lo al all st i [] d recs d recs
 | cons {i:Nat} {o:Oper} {rest:List Oper} {d:Dl} {recs:List Rec} {r:Rec} {df:Dl} {rf:List Rec}:DoesV (Cf i) (al i) all (d.tm++st.tm) (ak st.H d.hp) (lo i) o r→
   RunV Cf lo al all st (i+1) rest ⟨bA r.dst r.v++d.tm,r.dh++d.hp⟩ (recs++[r]) df rf→RunV Cf lo al all st i (o::rest) d recs df rf
theorem qx {Cf:Nat→Cfg} {lo:Nat→Nat} {al:Nat→Option (Nat×(Blk→Bool))} {all:List Oper} {st:St} :∀ (rest:List Oper) (i:Nat) (d:Dl) (recs:List Rec) (df:Dl) (rf:List Rec),RunV Cf lo al all st i rest d recs df rf→recs.length=i→
  find (d.tm++st.tm) =(recs.map c7).foldl cu (find st.tm)→ak st.H d.hp =(recs.map Rec.dh).foldl cu st.H→
  (∃ more,rf=recs++more∧more.length=rest.length)∧find (df.tm++st.tm) =(rf.map c7).foldl cu (find st.tm)∧ak st.H df.hp =(rf.map Rec.dh).foldl cu st.H∧
  ∀ j o,rest[j]?=some o→∃ r tm H,rf[i+j]?=some r∧DoesV (Cf (i+j)) (al (i+j)) all tm H (lo (i+j)) o r∧find tm =((rf.take (i+j)).map c7).foldl cu (find st.tm)∧H =((rf.take (i+j)).map Rec.dh).foldl cu st.H
 | [],i,d,recs,df,rf,hr,hl,h1,h2=>by
  cases hr
  exact ⟨⟨[],by simp,rfl⟩,h1,h2,fun j o h=>by simp at h⟩
 | o::rest,i,d,recs,df,rf,hr,hl,h1,h2=>by
  cases hr with
  | @cons _ _ _ _ _ r _ _ hdo hrun=>
   obtain ⟨⟨more,e1,e2⟩,g1,g2,g3⟩:=qx rest (i+1) _ _ _ _ hrun (by simp [hl])
    (by rw [List.append_assoc,pR,h1];simp [c7]) (by rw [bI,h2];simp [jF])
   refine ⟨⟨r::more,by rw [e1];simp,by simp [e2]⟩,g1,g2,fun j o' hj=>?_⟩
   cases j with
   | zero=>
    simp only [List.getElem?_cons_zero,Option.some.injEq] at hj
    subst hj
    have et:rf.take i=recs:=by rw [e1,List.append_assoc,List.take_append_of_le_length (by omega),List.take_of_length_le (by omega)]
    refine ⟨r,_,_,?_,hdo,?_,?_⟩
    ·rw [e1,Nat.add_zero,List.append_assoc,List.getElem?_append_right (by omega)]
     simp [hl]
    ·rw [Nat.add_zero,et];exact h1
    ·rw [Nat.add_zero,et];exact h2
   | succ j=>
    obtain ⟨r',tm,H,k1,k2,k3,k4⟩:=g3 j o' (by simpa using hj)
    rw [show i+1+j=i +(j+1) by omega] at k1 k2 k3 k4
    exact ⟨r',tm,H,k1,k2,k3,k4⟩
structure InvV (Cf:Nat→Cfg) (lo:Nat→Nat) (N:Nat) (B:Base) (E0:Env) (st:St) (rf:List Rec) (L:Nat→Bool) (a:Act) (w:World):Prop where
 ex :∃ E,HRel B E∧E.w=w∧Ext E0 E∧E.H=aZ L st.H 0 (rf.map Rec.dh)∧(∀ n,E.U n→E0.U n∨∃ i,i<rf.length∧L i=true∧lo i≤n∧n<lo i +(Cf i).K)∧cZ E (aZ L (find st.tm) 0 (rf.map c7)) a
 size:a.tmps.size=N
 defers:a.defers=[]
theorem uR {L L':Nat→Bool} {k:Nat} {okB:Blk→Bool} :∀ (us:List (List (Nat×Blk))) (i:Nat) (f f':Nat→Option Blk),(f k=f' k∨∃ b,f k=some b∧okB b=true)→
  (∀ j u,us[j]?=some u→find u k≠none→L (i+j)=L' (i+j)∨(L' (i+j)=false∧∀ b,find u k=some b→okB b=true))→aZ L f i us k=aZ L' f' i us k∨∃ b,aZ L f i us k=some b∧okB b=true
 | [],_,_,_,h,_=>h
 | u::us,i,f,f',h,hu=>by
  unfold aZ
  refine uR us (i+1) _ _ ?_ (fun j u' hj hf=>by
   have:=hu (j+1) u' (by simpa using hj) hf
   rwa [show i +(j+1)=i+1+j by omega] at this)
  cases hf:find u k with
  | none=>
   have e1 :(if L i=true then cu f u else f) k=f k:=by split <;> simp [fq hf]
   have e2 :(if L' i=true then cu f' u else f') k=f' k:=by split <;> simp [fq hf]
   rw [e1,e2]
   exact h
  | some v=>
   rcases hu 0 u (by simp) (by rw [hf];simp) with h1 |⟨h1,h2⟩
   ·simp only [Nat.add_zero] at h1
    rw [h1]
    split
    ·left;rw [dV hf,dV hf]
    ·exact h
   ·simp only [Nat.add_zero] at h1
    rw [h1]
    simp only [Bool.false_eq_true,if_false]
    split
    ·right;exact ⟨v,dV hf,h2 v hf⟩
    ·exact h
theorem yn {Cf:Nat→Cfg} {lo:Nat→Nat} {al:Nat→Option (Nat×(Blk→Bool))} {N:Nat} (hC :∀ i,CfgOK P (Cf i)) (hN :∀ i,(Cf i).N=N) {B:Base} {E0:Env} {all:List Oper} {st:St} {rf:List Rec} (hfr0 :∀ i,i<rf.length→∀ n,lo i≤n→n<lo i +(Cf i).K→¬ E0.U n) (hlo :∀ i j,i<j→j<rf.length→lo i +(Cf i).K≤lo j) {L L':Nat→Bool} {i:Nat} {o:Oper} {r:Rec} (ho:all[i]?=some o) (hr:rf[i]?=some r) (hLi:L i=false) (hL' :∀ j,L' j=if j=i then true else L j)
  {tm:List (Nat×V)} {H:aj} (hdo:DoesV (Cf i) (al i) all tm H (lo i) o r) (htm:find tm=aZ (fun j=>Nat.blt j i) (find st.tm) 0 (rf.map c7)) (hH:H=aZ (fun j=>Nat.blt j i) st.H 0 (rf.map Rec.dh))
  (hcomm :∀ j s,rf[j]?=some s→(j<i∧L j=false)∨(i<j∧L j=true)→Comm r s) (halt :∀ h0 okB,al i=some (h0,okB)→∀ j s b,rf[j]?=some s→find s.dh h0=some b→(j<i→L j=true)∧(i<j→L j=true→okB b=true)) {Q:Exit→Act→World→Prop} {a:Act} {w:World} (hI:InvV Cf lo N B E0 st rf L a w) {K:Act→World→Prop} (hK :∀ a w,InvV Cf lo N B E0 st rf L' a w→K a w) :
  wpOp P all.toArray Q i K a w:=by
 obtain ⟨⟨E,hE,rfl,hX,hEH,hU,hT⟩,hsz,hdf⟩:=hI
 obtain ⟨hd,he,hrs⟩:=hdo.dstIn
 have hiL:i<rf.length:=(List.getElem?_eq_some_iff.1 hr).1
 have hLsel :∀ {α:Type} (us:List (List (Nat×α))) (f:Nat→Option α) (k:Nat) (g:Rec→List (Nat×α)),us=rf.map g→(∀ j s,rf[j]?=some s→find (g s) k≠none→j≠i→Comm r s→False)→aZ L f 0 us k=aZ (fun j=>Nat.blt j i) f 0 us k:=by
  intro α us f k g hus hno
  refine dZ us 0 f f rfl (fun j u hj hu=>?_)
  rw [Nat.zero_add]
  subst hus
  rw [List.getElem?_map] at hj
  cases hs:rf[j]? with
  | none=>rw [hs] at hj;simp at hj
  | some s=>
   rw [hs] at hj
   simp only [Option.map_some,Option.some.injEq] at hj
   subst hj
   by_cases hji:j=i
   ·subst hji
    rw [hLi]
    cases hb:Nat.blt j j with
    | false=>rfl
    | true=>rw [Nat.blt_eq] at hb;omega
   ·rcases Nat.lt_or_gt_of_ne hji with hlt|hgt
    ·have hb:Nat.blt j i=true:=by rw [Nat.blt_eq];exact hlt
     rw [hb]
     cases hLj:L j with
     | true=>rfl
     | false=>exact (hno j s hs hu hji (hcomm j s hs (.inl ⟨hlt,hLj⟩))).elim
    ·have hb:Nat.blt j i=false:=by cases hb:Nat.blt j i with|false=>rfl|true=>rw [Nat.blt_eq] at hb;omega
     rw [hb]
     cases hLj:L j with
     | false=>rfl
     | true=>exact (hno j s hs hu hji (hcomm j s hs (.inr ⟨hgt,hLj⟩))).elim
 have hslot :∀ s∈af all o,aZ L (find st.tm) 0 (rf.map c7) s=find tm s:=fun s hs=>by
  rw [htm]
  refine hLsel _ _ s c7 rfl (fun j s' hs' hne hji hc=>?_)
  exact hc.sd s (gQ hne) (by rw [hrs];exact hs)
 have hlook :∀ s∈af all o,ab E (bW tm s) (a.tmps.getD s undef):=fun s hs=>by
  unfold bW
  cases hf:find tm s with
  | none=>simp [ab]
  | some v=>exact hT s v (by rw [hslot s hs];exact hf)
 have hL0 :∀ {α:Type} (us:List (List (Nat×α))) (f:Nat→Option α) (g:Rec→List (Nat×α)),us=rf.map g→(∀ j s,i<j→rf[j]?=some s→Comm r s→∀ k,find (g r) k≠none→find (g s) k=none)→aZ L' f 0 us=cu (aZ L f 0 us) (g r):=by
  intro α us f g hus hno
  subst hus
  refine uQ (rf.map g) f i (g r) (by rw [List.getElem?_map,hr];rfl) hL' (fun j u hj hu hLj k hk=>?_)
  rw [List.getElem?_map] at hu
  cases hs:rf[j]? with
  | none=>rw [hs] at hu;simp at hu
  | some s=>
   rw [hs] at hu
   simp only [Option.map_some,Option.some.injEq] at hu
   subst hu
   exact hno j s hj hs (hcomm j s hs (.inr ⟨hj,hLj⟩)) k hk
 have none_of :∀ {α:Type} {l:List (Nat×α)} {k:Nat},(k∈l.map (·.1)→False)→find l k=none:=fun {α l k} h=>by
  cases hf:find l k with
  | none=>rfl
  | some v=>exact (h (cW (by rw [hf];simp))).elim
 have hT':aZ L' (find st.tm) 0 (rf.map c7)=cu (aZ L (find st.tm) 0 (rf.map c7)) (c7 r):=hL0 _ _ c7 rfl (fun j s _ _ hc k hk=>by
  cases hf:find (c7 s) k with
  | none=>rfl
  | some v=>exact (hc.d k (gQ hk) (gQ (by rw [hf];simp))).elim)
 have hH':aZ L' st.H 0 (rf.map Rec.dh)=cu (aZ L st.H 0 (rf.map Rec.dh)) r.dh:=hL0 _ _ Rec.dh rfl (fun j s _ _ hc k hk=>none_of fun hm=>hc.k k (cW hk) hm)
 have after :∀ (E':Env) (v':Value),GoodK B E (lo i) (Cf i).K r.dh E'.w E'→ab E' r.v v'→InvV Cf lo N B E0 st rf L' (a.put o.dst v') E'.w:=fun E' v' G hv=>by
  refine ⟨⟨E',G.rel,rfl,hX.trans G.ext,by rw [G.h,hH',hEH,jF],fun n hn=>?_,?_⟩,by rw [jn];exact hsz,by rw [fI];exact hdf⟩
  ·rcases G.u n hn with h|h
   ·rcases hU n h with h1 |⟨j,h1,h2,h3⟩
    ·exact .inl h1
    ·refine .inr ⟨j,h1,?_,h3⟩
     rw [hL']
     split
     ·rfl
     ·exact h2
   ·exact .inr ⟨i,hiL,by rw [hL',if_pos rfl],h.1,h.2⟩
  ·rw [hT']
   exact sq G.ext hT hsz (by rw [←hN i];exact hd) (v:=r.v) hv (fun s u hu=>by
    unfold cu c7 at hu
    rw [he] at hu
    cases hf:find (bA o.dst r.v) s with
    | some x=>rw [hf] at hu;exact .inl hu
    | none=>rw [hf] at hu;exact .inr ⟨rfl,hu⟩)
 unfold wpOp
 simp only [List.getElem?_toArray,ho]
 have hfresh :∀ n,lo i≤n→n<lo i +(Cf i).K→¬ E.U n:=fun n h1 h2 hu=>by
  rcases hU n hu with h3 |⟨j,h3,h4,h5,h6⟩
  ·exact hfr0 i hiL n h1 h2 h3
  ·have hji:j≠i:=fun e=>by subst e;rw [hLi] at h4;cases h4
   rcases Nat.lt_or_gt_of_ne hji with hlt|hgt
   ·have:=hlo j i hlt hiL;omega
   ·have:=hlo i j hgt h3;omega
 cases hdo with
 | @dir ps v v' dh R _ hg hev hcg hps hv=>
  rw [bn hlook hg]
  simp only [if_true]
  left
  have hHR :∀ h∈R,E.H h=H h:=fun h hh=>by
   rw [hEH,hH]
   refine hLsel _ _ h Rec.dh rfl (fun j s hs hne hji hc=>?_)
   exact hc.sk h (cW hne) hh
  have hev2:=hcg E.H hHR (fun h0 okB hal=>by
   have hal:=halt h0 okB hal
   rw [hEH,hH]
   refine uR (rf.map Rec.dh) 0 st.H st.H (.inl rfl) (fun j u hj hu=>?_)
   rw [Nat.zero_add]
   rw [List.getElem?_map] at hj
   cases hs:rf[j]? with
   | none=>rw [hs] at hj;simp at hj
   | some s=>
    rw [hs] at hj
    simp only [Option.map_some,Option.some.injEq] at hj
    subst hj
    rcases Nat.lt_trichotomy j i with hlt|heq|hgt
    ·left
     obtain ⟨b,hb⟩ :∃ b,find s.dh h0=some b:=by
      cases hf:find s.dh h0 with
      | none=>exact absurd hf hu
      | some b=>exact ⟨b,rfl⟩
     rw [(hal j s b hs hb).1 hlt]
     exact (by rw [Nat.blt_eq];exact hlt:Nat.blt j i=true).symm
    ·left
     subst heq
     rw [hLi]
     cases hb:Nat.blt j j with
     | false=>rfl
     | true=>rw [Nat.blt_eq] at hb;omega
    ·have hbf:Nat.blt j i=false:=by cases hb:Nat.blt j i with|false=>rfl|true=>rw [Nat.blt_eq] at hb;omega
     cases hLj:L j with
     | false=>exact .inl hbf.symm
     | true=>exact .inr ⟨hbf,fun b hb=>(hal j s b hs hb).2 hgt hLj⟩)
  rw [hev] at hev2
  have hevm :∀ x,ab E (aG (af all o) tm x) (a.eval x):=fun x=>by
   cases x with
   | tmp t=>
    simp only [aG]
    cases hm:memN (af all o) t with
    | false=>simp [ab]
    | true=>exact hlook t (memN_iff.1 hm)
   | const v=>exact eu v
   | func f=>simp only [aG,ab,Act.eval];exact ⟨#[],rfl,by simp [ae]⟩
   | _=>simp [aG,ab]
  exact cA hE (hC i).tb (hC i).K (hC i).Γ hfresh hevm hev2 hps fun v'' E' G hv'=>by
   have hw:E'.w=E'.w:=rfl
   exact hK _ _ (after E' _ G (yS hv hv'))
 | old hdo=>
 cases hdo with
 | skip _ hg=>
  rw [bn hlook hg]
  simp only [Bool.false_eq_true,if_false]
  exact hK _ _ (after E undef ⟨hE,Ext.refl E,rfl,rfl,fun n h=> .inl h⟩ (by simp [ab,undef,ae]))
 | @dir ps v v' dh _ _ hg hdr hev hps hv=>
  rw [bn hlook hg]
  simp only [if_true]
  left
  have hev2:=pN (C:=Cf i) (m:=lo i) (H1:=E.H) (H2:=H) hdr fun k hk=>by
   rw [hEH,hH]
   refine hLsel _ _ k Rec.dh rfl (fun j s hs hne hji hc=>?_)
   exact hc.sk k (cW hne) hk
  rw [hev] at hev2
  have hevm :∀ x,ab E (aG (af all o) tm x) (a.eval x):=fun x=>by
   cases x with
   | tmp t=>
    simp only [aG]
    cases hm:memN (af all o) t with
    | false=>simp [ab]
    | true=>exact hlook t (memN_iff.1 hm)
   | const v=>exact eu v
   | func f=>simp only [aG,ab,Act.eval];exact ⟨#[],rfl,by simp [ae]⟩
   | _=>simp [aG,ab]
  exact cA hE (hC i).tb (hC i).K (hC i).Γ hfresh hevm hev2 hps fun v'' E' G hv'=>hK _ _ (after E' _ G (yS hv hv'))
 | @run ps v v' dh R _ hg hst hps hv=>
  rw [bn hlook hg]
  simp only [if_true]
  left
  simp only [jw] at hst
  split at hst
  case h_2=>cases hst
  rename_i ps' v2 dh' hev
  cases hfr:fe H (kg H 8 (o.op.operands.toList.flatMap fun x=>(aG (af all o) tm x).hs) []) (lo i) (Cf i).K v2 dh' with
  | false=>rw [hfr] at hst;cases hst
  | true=>
   rw [hfr] at hst
   simp only [cond_true,Option.some.injEq,Prod.mk.injEq] at hst
   obtain ⟨rfl,rfl,rfl,hR⟩:=hst
   rw [hR] at hfr hev
   have hHR :∀ h∈R,E.H h=H h:=fun h hh=>by
    rw [hEH,hH]
    refine hLsel _ _ h Rec.dh rfl (fun j s hs hne hji hc=>?_)
    exact hc.sk h (cW hne) hh
   have hrest:restr H R=restr E.H R:=by
    funext h
    unfold restr
    cases hm:memN R h with
    | false=>rfl
    | true=>simp only [cond_true];exact (hHR h (memN_iff.1 hm)).symm
   simp only [fe,Bool.and_eq_true] at hfr
   obtain ⟨⟨f1,f2⟩,f3⟩:=hfr
   have fR :∀ h∈R,∃ b,H h=some b∧jW R (lo i) (Cf i).K b.hs=true:=fun h hh=>by
    have:=List.all_eq_true.1 f1 h hh
    split at this
    ·rename_i b hb;exact ⟨b,hb,this⟩
    ·cases this
   have hfresh :∀ n,lo i≤n→n<lo i +(Cf i).K→¬ E.U n:=fun n h1 h2 hu=>by
    rcases hU n hu with h3 |⟨j,h3,h4,h5,h6⟩
    ·exact hfr0 i hiL n h1 h2 h3
    ·have hji:j≠i:=fun e=>by subst e;rw [hLi] at h4;cases h4
     rcases Nat.lt_or_gt_of_ne hji with hlt|hgt
     ·have:=hlo j i hlt hiL;omega
     ·have:=hlo i j hgt h3;omega
   have hEs:=hE.restr R
   have Xs:=Ext.restr E R
   rw [hrest] at hev
   have hevm :∀ x,ab { E with H:=Mir.restr E.H R } (aG (af all o) tm x) (a.eval x):=fun x=>by
    cases x with
    | tmp t=>
     simp only [aG]
     cases hm:memN (af all o) t with
     | false=>simp [ab]
     | true=>exact aP Xs _ _ (hlook t (memN_iff.1 hm))
    | const v=>exact eu v
    | func f=>simp only [aG,ab,Act.eval];exact ⟨#[],rfl,by simp [ae]⟩
    | _=>simp [aG,ab]
   exact cA (E:={ E with H:=Mir.restr E.H R }) hEs (hC i).tb (hC i).K (hC i).Γ hfresh hevm hev hps fun v'' Es G hv'=>by
    obtain ⟨E',G',tr⟩:=Cz hE hfresh G (fun h hh=>by obtain ⟨b,hb,_⟩:=fR h hh;exact ⟨b,by rw [hHR h hh];exact hb⟩)
     (fun h hh k hk x hx=>by
      obtain ⟨b,hb,hb2⟩:=fR h hh
      rw [hHR h hh,hb] at hk
      cases hk
      exact dw hb2 x hx)
     (fun h k hk=>by
      have hq:=ag hk
      have:=List.all_eq_true.1 f2 _ hq
      simp only [Bool.and_eq_true] at this
      exact ⟨dw this.1 h (by simp),dw this.2⟩)
    have hw:E'.w=Es.w:=G'.w
    have hv2:ab E' v2 v'':=tr _ _ (dw f3) hv'
    have:=hK _ _ (after E' _ (by rw [hw];exact G') (yS hv hv2))
    rw [hw] at this
    exact this
def AltOK (al:Nat→Option (Nat×(Blk→Bool))) (ms:List Nat) (rf:List Rec):Prop:=∀ i h0 okB,al i=some (h0,okB)→∀ j s b,rf[j]?=some s→find s.dh h0=some b→j≠i→
 (j<i→((ms[i]?).getD 0).testBit j=true)∧(i<j→((ms[j]?).getD 0).testBit i=true∨okB b=true)
theorem AltOK.none {ms:List Nat} {rf:List Rec}:AltOK (fun _=>Option.none) ms rf:=fun i h0 okB h=>by cases h
theorem yb {Cf:Nat→Cfg} {lo:Nat→Nat} {al:Nat→Option (Nat×(Blk→Bool))} {N:Nat} (hC :∀ i,CfgOK P (Cf i)) (hN :∀ i,(Cf i).N=N) {B:Base} {E0:Env} {all:List Oper} {st:St} {df:Dl} {rf:List Rec} (hrun:RunV Cf lo al all st 0 all ⟨[],[]⟩ [] df rf) (hE:cb 0 all=true) (hck:dq (bj all []) 0 rf=true) (hal:AltOK al (bj all []) rf) {Q:Exit→Act→World→Prop}
  (hfr0 :∀ i,i<all.length→∀ n,lo i≤n→n<lo i +(Cf i).K→¬ E0.U n) (hlo :∀ i j,i<j→j<all.length→lo i +(Cf i).K≤lo j)
  (hQ :∀ E a,HRel B E→Ext E0 E→E.H=ak st.H df.hp→(∀ n,E.U n→E0.U n∨∃ i,i<all.length∧lo i≤n∧n<lo i +(Cf i).K)→cZ E (find (df.tm++st.tm)) a→a.tmps.size=N→a.defers=[]→Q .normal a E.w) :
  ∀ (fuel:Nat) (listed:Array Bool) (a:Act) (w:World),listed.size=all.length→unl all.length listed=fuel→
   (∀ j oj,all[j]?=some oj→listed.getD j false=true→∀ e∈oj.after,Region.binds .any e=true→listed.getD e.on false=true)→
   InvV Cf lo N B E0 st rf (fun i=>listed.getD i false) a w→wpAny P .any all.toArray Q fuel listed a w:=by
 obtain ⟨⟨more,e1,e2⟩,g1,g2,g3⟩:=qx all 0 ⟨[],[]⟩ [] df rf hrun rfl rfl rfl
 have hlen:rf.length=all.length:=by rw [e1];simpa using e2
 have full :∀ (listed:Array Bool),listed.size=all.length→Region.ready .any all.toArray listed=[]→∀ i,i<all.length→listed.getD i false=true:=by
  intro listed hsz hrd i
  induction i using Nat.strongRecOn with
  | _ i ih=>
   intro hi
   cases hb:listed.getD i false with
   | true=>rfl
   | false=>
    have hun:listed.getD i true=false:=by
     have:i<listed.size:=by omega
     simp [this] at hb ⊢
     exact hb
    have hoi:all[i]?=some all[i]:=List.getElem?_eq_getElem hi
    have:i∈Region.ready .any all.toArray listed:=mem_ready.2 ⟨hun,all[i],by simp,fun e he hbd=>by
     have:=dC all 0 hE i _ hoi e he hbd
     exact ih e.on (by omega) (by omega)⟩
    rw [hrd] at this
    cases this
 have close :∀ (listed:Array Bool) (a:Act) (w:World),listed.size=all.length→(∀ i,i<all.length→listed.getD i false=true)→InvV Cf lo N B E0 st rf (fun i=>listed.getD i false) a w→Q .normal a w:=by
  intro listed a w hsz hall hI
  obtain ⟨⟨E,hE',rfl,hX,hEH,hU,hT⟩,hs,hd⟩:=hI
  have hsel :∀ {α:Type} (us:List (List (Nat×α))) (f:Nat→Option α),us.length=all.length→aZ (fun i=>listed.getD i false) f 0 us=us.foldl cu f:=fun us f hl=>by
   have h1:=ir us f 0 us.length
   rw [List.take_of_length_le (Nat.le_refl _)] at h1
   rw [←h1]
   funext k
   refine dZ us 0 f f rfl (fun j u hj _=>?_)
   have hjl:j<us.length:=(List.getElem?_eq_some_iff.1 hj).1
   rw [Nat.zero_add,hall j (by omega)]
   exact (by rw [Nat.blt_eq];omega:Nat.blt j (0+us.length)=true).symm
  refine hQ E a hE' hX ?_ (fun n hn=>?_) (fun s v hv=>?_) hs hd
  ·rw [hEH,hsel _ _ (by simp [hlen]),g2]
  ·rcases hU n hn with h |⟨i,h1,_,h3,h4⟩
   ·exact .inl h
   ·exact .inr ⟨i,by omega,h3,h4⟩
  ·refine hT s v ?_
   rw [hsel _ _ (by simp [hlen]),←g1]
   exact hv
 intro fuel
 induction fuel with
 | zero=>
  intro listed a w hsz hun _ hI
  have hall :∀ i,i<all.length→listed.getD i false=true:=fun i hi=>by
   have h0 :(List.range all.length).filter (fun i=>!listed.getD i true)=[]:=List.eq_nil_of_length_eq_zero hun
   have:=List.filter_eq_nil_iff.1 h0 i (List.mem_range.2 hi)
   have hi':i<listed.size:=by omega
   simp [hi'] at this ⊢
   exact this
  refine ⟨?_,close listed a w hsz hall hI⟩
  cases hr:Region.ready .any all.toArray listed with
  | nil=>rfl
  | cons i l=>
   have hm:i∈Region.ready .any all.toArray listed:=by rw [hr];exact List.mem_cons_self
   obtain ⟨h1,o,h2,_⟩:=mem_ready.1 hm
   have hi:i<all.length:=by
    have:=(Array.getElem?_eq_some_iff.1 h2).1
    simpa using this
   have h3:=hall i hi
   have hi':i<listed.size:=by omega
   simp [hi'] at h1 h3
   rw [h1] at h3;cases h3
 | succ fuel ih=>
  intro listed a w hsz hun hclosed hI
  refine ⟨fun hr=>close listed a w hsz (full listed hsz hr) hI,fun i hi=>?_⟩
  obtain ⟨h1,o,h2,hdir⟩:=mem_ready.1 hi
  have ho:all[i]?=some o:=by simpa using h2
  have hil:i<all.length:=(List.getElem?_eq_some_iff.1 ho).1
  have his:i<listed.size:=by omega
  have hLi:listed.getD i false=false:=by simp [his] at h1 ⊢;exact h1
  obtain ⟨r,tm,H,k1,k2,k3,k4⟩:=g3 i o ho
  simp only [Nat.zero_add] at k1 k2 k3 k4
  have hget :∀ j,(listed.setIfInBounds i true).getD j false=if j=i then true else listed.getD j false:=fun j=>by
   by_cases e:j=i
   ·subst e;simp [his]
   ·simp [e,Array.getElem?_setIfInBounds_ne (Ne.symm e),Array.getD_eq_getD_getElem?]
  have hgetT :∀ j,j≠i→(listed.setIfInBounds i true).getD j true=listed.getD j true:=fun j e=>by
   simp [Array.getElem?_setIfInBounds_ne (Ne.symm e),Array.getD_eq_getD_getElem?]
  refine yn hC hN (E0:=E0) (by rw [hlen];exact hfr0) (by rw [hlen];exact hlo) (L:=fun i=>listed.getD i false) (L':=fun j=>(listed.setIfInBounds i true).getD j false) ho k1 hLi hget k2 ?_ ?_ (fun j s hs hor=>?_) (fun h0 okB ha j s b hs hb=>⟨fun hlt=>?_,fun hgt hLj=>?_⟩) hI (fun a w hI'=>ih _ a w (by simpa using hsz) ?_ ?_ hI')
  ·rw [k3]
   have:=ir (rf.map c7) (find st.tm) 0 i
   rw [←List.map_take,] at this
   simpa using this.symm
  ·rw [k4]
   have:=ir (rf.map Rec.dh) st.H 0 i
   rw [←List.map_take] at this
   simpa using this.symm
  ·rcases hor with ⟨hlt,hLj⟩ |⟨hgt,hLj⟩
   ·rcases ep rf 0 hck j i s r hlt hs k1 with h|h
    ·simp only [Nat.zero_add] at h
     have:=ca hE hclosed i i (Nat.le_refl _) o ho hdir j h
     rw [this] at hLj;cases hLj
    ·exact h.symm
   ·rcases ep rf 0 hck i j r s hgt k1 hs with h|h
    ·simp only [Nat.zero_add] at h
     have hjl:j<all.length:=by rw [←hlen];exact (List.getElem?_eq_some_iff.1 hs).1
     have hoj:all[j]?=some all[j]:=List.getElem?_eq_getElem hjl
     have:=ca hE hclosed j j (Nat.le_refl _) _ hoj (hclosed j _ hoj hLj) i h
     rw [this] at hLi;cases hLi
    ·exact h
  ·exact ca hE hclosed i i (Nat.le_refl _) o ho hdir j ((hal i h0 okB ha j s b hs hb (by omega)).1 hlt)
  ·rcases (hal i h0 okB ha j s b hs hb (by omega)).2 hgt with h|h
   ·have hjl:j<all.length:=by rw [←hlen];exact (List.getElem?_eq_some_iff.1 hs).1
    have hoj:all[j]?=some all[j]:=List.getElem?_eq_getElem hjl
    have:=ca hE hclosed j j (Nat.le_refl _) _ hoj (hclosed j _ hoj hLj) i h
    rw [this] at hLi;cases hLi
   ·exact h
  ·have:=kB (p:=fun j=>!listed.getD j true) (q:=fun j=>!(listed.setIfInBounds i true).getD j true) (i:=i) (by simp [h1]) (by simp [his]) (fun j e=>by simp [hgetT j e]) (List.range all.length) List.nodup_range (List.mem_range.2 hil)
   unfold unl at hun ⊢
   omega
  ·intro j oj hj hlj e he hb
   rw [hget] at hlj ⊢
   by_cases e1:e.on=i
   ·rw [if_pos e1]
   ·rw [if_neg e1]
    by_cases e2:j=i
    ·subst e2
     rw [ho] at hj;cases hj
     exact hdir e he hb
    ·rw [if_neg e2] at hlj
     exact hclosed j oj hj hlj e he hb
theorem yc {Cf:Nat→Cfg} {lo:Nat→Nat} {al:Nat→Option (Nat×(Blk→Bool))} {N:Nat} (hC :∀ i,CfgOK P (Cf i)) (hN :∀ i,(Cf i).N=N) (hP:P.follows .mixedOrders=true) {B:Base} {all:List Oper} {st:St} {df:Dl} {rf:List Rec} (hrun:RunV Cf lo al all st 0 all ⟨[],[]⟩ [] df rf) (hE:cb 0 all=true) (hck:dq (bj all []) 0 rf=true) (hal:AltOK al (bj all []) rf) {Q:Exit→Act→World→Prop}
  {E:Env} (hE':HRel B E) (hH:E.H=st.H) {a:Act} (hT:cZ E (find st.tm) a) (hsz:a.tmps.size=N) (hdf:a.defers=[])
  (hfr0 :∀ i,i<all.length→∀ n,lo i≤n→n<lo i +(Cf i).K→¬ E.U n) (hlo :∀ i j,i<j→j<all.length→lo i +(Cf i).K≤lo j)
  (hQ :∀ E' a,HRel B E'→Ext E E'→E'.H=ak st.H df.hp→(∀ n,E'.U n→E.U n∨∃ i,i<all.length∧lo i≤n∧n<lo i +(Cf i).K)→cZ E' (find (df.tm++st.tm)) a→a.tmps.size=N→a.defers=[]→Q .normal a E'.w) (id:Nat) :
  (Code.region id all.toArray true).wp P Q a E.w:=by
 refine wp_region_any hP ?_
 obtain ⟨R,X⟩:=qC hE' { E.w with drawn:=E.w.drawn+1 } rfl rfl rfl rfl
 have hfalse :∀ i,(Array.replicate all.toArray.size false).getD i false=false:=fun i=>by
  rcases Nat.lt_or_ge i all.length with h|h
  ·simp [h]
  ·simp [h]
 have hno :∀ {α:Type} (us:List (List (Nat×α))) (f:Nat→Option α) (i:Nat),aZ (fun i=>(Array.replicate all.toArray.size false).getD i false) f i us=f:=by
  intro α us
  induction us with
  | nil=>intro f i;rfl
  | cons u us ih=>intro f i;unfold aZ;rw [hfalse];simp only [Bool.false_eq_true,if_false];exact ih f _
 refine yb hC hN (E0:={ E with w:={ E.w with drawn:=E.w.drawn+1 } }) hrun hE hck hal hfr0 hlo (fun E1 a1 r1 x1 h1 u1 t1 s1 d1=>hQ E1 a1 r1 (X.trans x1) h1 u1 t1 s1 d1) _ _ a _ (by simp) ?_ (fun j oj hj hl=>by rw [hfalse] at hl;cases hl) ⟨⟨_,R,rfl,Ext.refl _,?_,fun n hn=> .inl hn,fun s v hv=>?_⟩,hsz,hdf⟩
 ·unfold unl
  have :(List.range all.length).filter (fun i=>!(Array.replicate all.toArray.size false).getD i true)=List.range all.length:=List.filter_eq_self.2 fun i hi=>by
   have:=List.mem_range.1 hi
   simp [this]
  rw [this]
  simp
 ·rw [hno _ _ _];exact hH
 ·rw [hno] at hv
  exact aP X _ _ (hT s v hv)
end Go.Mir
namespace Go.Mir
open Go.RowKit
variable {P:Program}
theorem iz {E:Env} {v:V} {u:Value} (h:ab E v u):ab E (gj v) u:=by
 cases v <;> first|exact h|simpa [gj,ab] using h
theorem Bz {a:Act} {w:World} {c:Call} {o:Oper} (ho:o.op = .call c) {f:Operand} (hf:c.callee = .value f) {g:FuncId} {l:Array Value} (hfe:a.eval f = .func (.func g) #[] l)
  (hfn :∃ fn,P.funcs[g]?=some fn∧fn.body.isSome=true∧(fn.name == "runtime.NumGoroutine")=false) {R:Ending→World→Prop} (hcalls:Calls P g (c.args.toList.map a.eval++l.toList).toArray w R)
  {next:Act→World→Prop} {Q:Exit→Act→World→Prop} (hn :∀ e w',R e w'→∃ v',e = .returned v'∧next (a.put o.dst v') w'):o.wp P a w next Q:=by
 obtain ⟨fn,h1,h2,h3⟩:=hfn
 have hb :¬ fn.body=none:=by cases hb:fn.body with|none=>rw [hb] at h2;cases h2|some _=>simp
 have h4 :¬ fn.name = "runtime.NumGoroutine":=by simpa using h3
 have hrun :(execOp a.eval o).run P w = .ok (.enter g (c.args.toList.map a.eval++l.toList).toArray) w:=by
  have e :(c.args.toList.map a.eval++l.toList).toArray=#[]++c.args.map a.eval++l:=by
   apply Array.ext'
   simp
  rw [e]
  simp [execOp,ho,resolve,hf,Deferred.ofValue,hfe,invoke,callFunc,h1,h4,hb]
 unfold Oper.wp
 rw [hrun]
 simp only [Oper.upon]
 refine hcalls.mono fun e w' hh=>?_
 obtain ⟨v',rfl,h⟩:=hn e w' hh
 exact h
structure RR (B:Base) (E0:Env) (n0 N:Nat) (s:RS) (E:Env) (a:Act):Prop where
 rel:HRel B E
 ext:Ext E0 E
 h:E.H=s.hp.get
 u :∀ n,E.U n→E0.U n∨(n0≤n∧n<s.nx)
 le:n0≤s.nx
 tm:cZ E s.tm.get a
 size:a.tmps.size=N
 defers:a.defers=[]
structure Came (B:Base) (E:Env) (hp':aj) (nx nx':Nat) (v:V) (v':Value) (w':World) (E':Env):Prop where
 rel:HRel B E'
 w:E'.w=w'
 h:E'.H=hp'
 ext:Ext E E'
 u :∀ n,E'.U n→E.U n∨(nx≤n∧n<nx')
 v:ab E' v v'
variable {tb:Tbl} {N:Nat} {call:yU} {all:List Oper} {B:Base} {E0:Env} {n0:Nat}
theorem RR.put {s:RS} {E:Env} {a:Act} (hR:RR B E0 n0 N s E a) {E':Env} {hp:Tri Blk} {nx:Nat} (hrel:HRel B E') (hext:Ext E E') (hh:E'.H=hp.get) (hu :∀ n,E'.U n→E.U n∨(s.nx≤n∧n<nx)) (hle:s.nx≤nx)
  {d:Option Nat} (hd:dstIn N d=true) {v:V} {v':Value} (hv:ab E' v v') {tm:Tri V} (htm :∀ k,tm.get k=match find (bA d (gj v)) k with|some u=>some u|none=>s.tm.get k):RR B E0 n0 N ⟨tm,hp,nx⟩ E' (a.put d v'):=by
 have hle0:=hR.le
 refine ⟨hrel,hR.ext.trans hext,hh,fun n hn=>?_,Nat.le_trans hle0 hle,sq hext hR.tm hR.size hd (iz hv) (fun k u hk=>?_),by rw [jn];exact hR.size,by rw [fI];exact hR.defers⟩
 ·show E0.U n∨(n0≤n∧n<nx)
  rcases hu n hn with h|h
  ·rcases hR.u n h with h|h
   ·exact .inl h
   ·exact .inr ⟨h.1,by omega⟩
  ·exact .inr ⟨by omega,h.2⟩
 ·rw [htm] at hk
  cases hf:find (bA d (gj v)) k with
  | some x=>rw [hf] at hk;exact .inl hk
  | none=>rw [hf] at hk;exact .inr ⟨rfl,hk⟩
end Go.Mir
namespace Go.Mir
open Go.RowKit
variable {P:Program}
theorem rC {α:Type} {l:List (Nat×α)} {k:Nat} (h:memN (l.map (·.1)) k=true):find l k≠none:=by
 induction l with
 | nil=>simp [memN] at h
 | cons q l ih=>
  obtain ⟨a,b⟩:=q
  simp only [List.map_cons,memN,Bool.or_eq_true] at h
  simp only [find]
  cases hb:Nat.beq a k with
  | true=>simp
  | false=>
   simp only [cond_false]
   refine ih ?_
   rcases h with h|h
   ·rw [hb] at h;cases h
   ·exact h
def Chain:Nat→List (Nat×Cfg)→Nat→Prop
 | n,[],e=>n=e
 | n,q::r,e=>q.1=n∧∃ n2,n+q.2.K≤n2∧Chain n2 r e
theorem Chain.le :∀ {n:Nat} {l:List (Nat×Cfg)} {e:Nat},Chain n l e→n≤e
 | n,[],e,h=>Nat.le_of_eq h
 | n,q::r,e,⟨_,n2,h1,h2⟩=>by have:=h2.le;omega
theorem Chain.at :∀ {n:Nat} {l:List (Nat×Cfg)} {e:Nat},Chain n l e→∀ (j:Nat) (q:Nat×Cfg),l[j]?=some q→n≤q.1∧q.1+q.2.K≤e
 | n,[],e,_,j,q,hq=>by simp at hq
 | n,p::r,e,⟨h0,n2,h1,h2⟩,j,q,hq=>by
  have hle:=h2.le
  cases j with
  | zero=>
   simp only [List.getElem?_cons_zero,Option.some.injEq] at hq
   subst hq
   omega
  | succ j=>
   have:=h2.at j q (by simpa using hq)
   omega
theorem Chain.lt :∀ {n:Nat} {l:List (Nat×Cfg)} {e:Nat},Chain n l e→∀ (i j:Nat) (p q:Nat×Cfg),i<j→l[i]?=some p→l[j]?=some q→p.1+p.2.K≤q.1
 | n,[],e,_,i,j,p,q,_,hp,_=>by simp at hp
 | n,x::r,e,⟨h0,n2,h1,h2⟩,i,j,p,q,hij,hp,hq=>by
  cases j with
  | zero=>omega
  | succ j=>
   cases i with
   | zero=>
    simp only [List.getElem?_cons_zero,Option.some.injEq] at hp
    subst hp
    have:=(h2.at j q (by simpa using hq)).1
    omega
   | succ i=>exact h2.lt i j p q (by omega) (by simpa using hp) (by simpa using hq)
variable {tb:Tbl} {N:Nat} {call:yU} {all:List Oper}
end Go.Mir
namespace Go.Mir
open Go.RowKit
variable {P:Program}
def Tri.toL {α:Type}:Tri α→List (Nat×α)
 | .lf=> []
 | .nd l v r=>(match v with|some x=> [(0,x)]|none=> []) ++((l.toL.map fun p=>(2*p.1+1,p.2)) ++(r.toL.map fun p=>(2*p.1+2,p.2)))
variable {tb:Tbl} {N:Nat} {call:yU} {B:Base} {E0:Env} {n0:Nat}
def Gb (td:TD):TD:=⟨td.kind,td.size,td.bytes,td.zero,none⟩
def yQ (tb:Tbl):Tbl:=fun t=>match tb t with
 | some td=>some (Gb td)
 | none=>none
theorem Cl {tb:Tbl} (h:aH P tb):aH P (yQ tb):=fun t td ht=>by
 unfold yQ at ht
 split at ht
 case h_2=>cases ht
 rename_i td0 h0
 cases ht
 have:=h _ _ h0
 exact ⟨fun hp=>this.eqk hp,this.info,this.kind,this.zagg⟩
def xe (P:Program):Bool:=P.funcs.toList.all fun fn=>!(fn.name == "runtime.NumGoroutine")
theorem ug (h:xe P=true) (f:FuncId) (fn:Func) (hf:P.funcs[f]?=some fn) :(fn.name == "runtime.NumGoroutine")=false:=by
 have:=List.all_eq_true.1 h fn (by
  obtain ⟨hl,he⟩:=Array.getElem?_eq_some_iff.1 hf
  rw [←he]
  exact Array.mem_toList_iff.2 (Array.getElem_mem hl))
 simpa using this
end Go.Mir
namespace Go.Mir
open Go.RowKit
noncomputable section
structure N8 (α:Type) where
 a:α
 b:α
 c:α
 d:α
 e:α
 f:α
 g:α
 h:α
structure Ac (σ α:Type) where
 get:σ→α
 put:α→σ→σ
def Ac.da {α:Type}:Ac (N8 α) α:=⟨N8.a,fun x n=>N8.rec (motive:=fun _=>N8 α) (fun _ b c d e f g h=>⟨x,b,c,d,e,f,g,h⟩) n⟩
def Ac.db {α:Type}:Ac (N8 α) α:=⟨N8.b,fun x n=>N8.rec (motive:=fun _=>N8 α) (fun a _ c d e f g h=>⟨a,x,c,d,e,f,g,h⟩) n⟩
def Ac.dc {α:Type}:Ac (N8 α) α:=⟨N8.c,fun x n=>N8.rec (motive:=fun _=>N8 α) (fun a b _ d e f g h=>⟨a,b,x,d,e,f,g,h⟩) n⟩
def Ac.dd {α:Type}:Ac (N8 α) α:=⟨N8.d,fun x n=>N8.rec (motive:=fun _=>N8 α) (fun a b c _ e f g h=>⟨a,b,c,x,e,f,g,h⟩) n⟩
def Ac.de {α:Type}:Ac (N8 α) α:=⟨N8.e,fun x n=>N8.rec (motive:=fun _=>N8 α) (fun a b c d _ f g h=>⟨a,b,c,d,x,f,g,h⟩) n⟩
def Ac.df {α:Type}:Ac (N8 α) α:=⟨N8.f,fun x n=>N8.rec (motive:=fun _=>N8 α) (fun a b c d e _ g h=>⟨a,b,c,d,e,x,g,h⟩) n⟩
def Ac.dg {α:Type}:Ac (N8 α) α:=⟨N8.g,fun x n=>N8.rec (motive:=fun _=>N8 α) (fun a b c d e f _ h=>⟨a,b,c,d,e,f,x,h⟩) n⟩
def Ac.dh {α:Type}:Ac (N8 α) α:=⟨N8.h,fun x n=>N8.rec (motive:=fun _=>N8 α) (fun a b c d e f g _=>⟨a,b,c,d,e,f,g,x⟩) n⟩
def d8 {α:Type} (r:Nat):Ac (N8 α) α:=Bool.rec (motive:=fun _=>Ac (N8 α) α) (Bool.rec (motive:=fun _=>Ac (N8 α) α) (Bool.rec (motive:=fun _=>Ac (N8 α) α) (Bool.rec (motive:=fun _=>Ac (N8 α) α) (Bool.rec (motive:=fun _=>Ac (N8 α) α) (Bool.rec (motive:=fun _=>Ac (N8 α) α) (Bool.rec (motive:=fun _=>Ac (N8 α) α) (Ac.dh) Ac.dg (Nat.beq r 6)) Ac.df (Nat.beq r 5)) Ac.de (Nat.beq r 4)) Ac.dd (Nat.beq r 3)) Ac.dc (Nat.beq r 2)) Ac.db (Nat.beq r 1)) Ac.da (Nat.beq r 0)
def Ac.comp3 {s0 s1 s2 s3:Type} (f1:Ac s0 s1) (f2:Ac s1 s2) (f3:Ac s2 s3):Ac s0 s3:=
 Ac.rec (motive:=fun _=>Ac s0 s3) (fun g1 p1=>Ac.rec (motive:=fun _=>Ac s0 s3) (fun g2 p2=>Ac.rec (motive:=fun _=>Ac s0 s3) (fun g3 p3=>⟨fun s=>(g3 (g2 (g1 s))),fun x s=>(p1 (p2 (p3 x (g2 (g1 s))) (g1 s)) s)⟩) f3) f2) f1
def Ac.comp4 {s0 s1 s2 s3 s4:Type} (f1:Ac s0 s1) (f2:Ac s1 s2) (f3:Ac s2 s3) (f4:Ac s3 s4):Ac s0 s4:=
 Ac.rec (motive:=fun _=>Ac s0 s4) (fun g1 p1=>Ac.rec (motive:=fun _=>Ac s0 s4) (fun g2 p2=>Ac.rec (motive:=fun _=>Ac s0 s4) (fun g3 p3=>Ac.rec (motive:=fun _=>Ac s0 s4) (fun g4 p4=>⟨fun s=>(g4 (g3 (g2 (g1 s)))),fun x s=>(p1 (p2 (p3 (p4 x (g3 (g2 (g1 s)))) (g2 (g1 s))) (g1 s)) s)⟩) f4) f3) f2) f1
def Ac.comp6 {s0 s1 s2 s3 s4 s5 s6:Type} (f1:Ac s0 s1) (f2:Ac s1 s2) (f3:Ac s2 s3) (f4:Ac s3 s4) (f5:Ac s4 s5) (f6:Ac s5 s6):Ac s0 s6:=
 Ac.rec (motive:=fun _=>Ac s0 s6) (fun g1 p1=>Ac.rec (motive:=fun _=>Ac s0 s6) (fun g2 p2=>Ac.rec (motive:=fun _=>Ac s0 s6) (fun g3 p3=>Ac.rec (motive:=fun _=>Ac s0 s6) (fun g4 p4=>Ac.rec (motive:=fun _=>Ac s0 s6) (fun g5 p5=>Ac.rec (motive:=fun _=>Ac s0 s6) (fun g6 p6=>⟨fun s=>(g6 (g5 (g4 (g3 (g2 (g1 s)))))),fun x s=>(p1 (p2 (p3 (p4 (p5 (p6 x (g5 (g4 (g3 (g2 (g1 s)))))) (g4 (g3 (g2 (g1 s))))) (g3 (g2 (g1 s)))) (g2 (g1 s))) (g1 s)) s)⟩) f6) f5) f4) f3) f2) f1
def dig (i k:Nat):Nat:=Nat.mod (Nat.div i k) 8
abbrev T3 (α:Type):=N8 (N8 (N8 α))
abbrev T4 (α:Type):=N8 (T3 α)
abbrev T6 (α:Type):=N8 (N8 (T4 α))
def bP {α:Type} (i:Nat):Ac (T3 α) α:=Ac.comp3 (d8 (dig i 64)) (d8 (dig i 8)) (d8 (dig i 1))
def oU {α:Type} (i:Nat):Ac (T4 α) α:=Ac.comp4 (d8 (dig i 512)) (d8 (dig i 64)) (d8 (dig i 8)) (d8 (dig i 1))
def qP {α:Type} (i:Nat):Ac (T6 α) α:=Ac.comp6 (d8 (dig i 32768)) (d8 (dig i 4096)) (d8 (dig i 512)) (d8 (dig i 64)) (d8 (dig i 8)) (d8 (dig i 1))
def wq {α:Type} (x:α):N8 α:=⟨x,x,x,x,x,x,x,x⟩
def yI {α:Type} (x:α):T3 α:=wq (wq (wq x))
def Ek {α:Type} (x:α):T4 α:=wq (yI x)
def Ce {α:Type} (x:α):T6 α:=wq (wq (Ek x))
structure Ac.Law {σ α:Type} (f:Ac σ α):Prop where
 same :∀ x s,f.get (f.put x s)=x
structure Ac.Apart {σ α:Type} (f g:Ac σ α):Prop where
 l :∀ x s,g.get (f.put x s)=g.get s
theorem aF {α:Type} (r:Nat) :(d8 r:Ac (N8 α) α).Law:=by
 constructor
 intro x s
 unfold d8
 cases Nat.beq r 0
 case true=>rfl
 cases Nat.beq r 1
 case true=>rfl
 cases Nat.beq r 2
 case true=>rfl
 cases Nat.beq r 3
 case true=>rfl
 cases Nat.beq r 4
 case true=>rfl
 cases Nat.beq r 5
 case true=>rfl
 cases Nat.beq r 6
 case true=>rfl
 rfl
theorem bT {α:Type} :∀ {r s:Nat},r<8→s<8→r≠s→(d8 r:Ac (N8 α) α).Apart (d8 s):=by
 intro r s hr hs h
 constructor
 intro x n
 match r,s,hr,hs,h with
 | 0,0,_,_,h=>exact absurd rfl h
 | 0,1,_,_,h=>rfl
 | 0,2,_,_,h=>rfl
 | 0,3,_,_,h=>rfl
 | 0,4,_,_,h=>rfl
 | 0,5,_,_,h=>rfl
 | 0,6,_,_,h=>rfl
 | 0,7,_,_,h=>rfl
 | 1,0,_,_,h=>rfl
 | 1,1,_,_,h=>exact absurd rfl h
 | 1,2,_,_,h=>rfl
 | 1,3,_,_,h=>rfl
 | 1,4,_,_,h=>rfl
 | 1,5,_,_,h=>rfl
 | 1,6,_,_,h=>rfl
 | 1,7,_,_,h=>rfl
 | 2,0,_,_,h=>rfl
 | 2,1,_,_,h=>rfl
 | 2,2,_,_,h=>exact absurd rfl h
 | 2,3,_,_,h=>rfl
 | 2,4,_,_,h=>rfl
 | 2,5,_,_,h=>rfl
 | 2,6,_,_,h=>rfl
 | 2,7,_,_,h=>rfl
 | 3,0,_,_,h=>rfl
 | 3,1,_,_,h=>rfl
 | 3,2,_,_,h=>rfl
 | 3,3,_,_,h=>exact absurd rfl h
 | 3,4,_,_,h=>rfl
 | 3,5,_,_,h=>rfl
 | 3,6,_,_,h=>rfl
 | 3,7,_,_,h=>rfl
 | 4,0,_,_,h=>rfl
 | 4,1,_,_,h=>rfl
 | 4,2,_,_,h=>rfl
 | 4,3,_,_,h=>rfl
 | 4,4,_,_,h=>exact absurd rfl h
 | 4,5,_,_,h=>rfl
 | 4,6,_,_,h=>rfl
 | 4,7,_,_,h=>rfl
 | 5,0,_,_,h=>rfl
 | 5,1,_,_,h=>rfl
 | 5,2,_,_,h=>rfl
 | 5,3,_,_,h=>rfl
 | 5,4,_,_,h=>rfl
 | 5,5,_,_,h=>exact absurd rfl h
 | 5,6,_,_,h=>rfl
 | 5,7,_,_,h=>rfl
 | 6,0,_,_,h=>rfl
 | 6,1,_,_,h=>rfl
 | 6,2,_,_,h=>rfl
 | 6,3,_,_,h=>rfl
 | 6,4,_,_,h=>rfl
 | 6,5,_,_,h=>rfl
 | 6,6,_,_,h=>exact absurd rfl h
 | 6,7,_,_,h=>rfl
 | 7,0,_,_,h=>rfl
 | 7,1,_,_,h=>rfl
 | 7,2,_,_,h=>rfl
 | 7,3,_,_,h=>rfl
 | 7,4,_,_,h=>rfl
 | 7,5,_,_,h=>rfl
 | 7,6,_,_,h=>rfl
 | 7,7,_,_,h=>exact absurd rfl h
theorem x3 {s0 s1 s2 s3:Type} {f1:Ac s0 s1} {f2:Ac s1 s2} {f3:Ac s2 s3} (h1:f1.Law) (h2:f2.Law) (h3:f3.Law) :(Ac.comp3 f1 f2 f3).Law:=by
 constructor
 intro x s
 show f3.get (f2.get (f1.get ((Ac.comp3 f1 f2 f3).put x s)))=x
 show f3.get (f2.get (f1.get ((f1.put (f2.put (f3.put x (f2.get (f1.get s))) (f1.get s)) s))))=x
 rw [h1.same,h2.same,h3.same]
theorem qT {s0 s1 s2 s3:Type} {f1:Ac s0 s1} {f2:Ac s1 s2} {f3:Ac s2 s3} {g1:Ac s0 s1} {g2:Ac s1 s2} {g3:Ac s2 s3} (h:f1.Apart g1) :(Ac.comp3 f1 f2 f3).Apart (Ac.comp3 g1 g2 g3):=by
 constructor
 intro x s
 show g3.get (g2.get (g1.get ((f1.put (f2.put (f3.put x (f2.get (f1.get s))) (f1.get s)) s))))=g3.get (g2.get (g1.get (s)))
 rw [h.l]
theorem qU {s0 s1 s2 s3:Type} {f1:Ac s0 s1} {f2:Ac s1 s2} {f3:Ac s2 s3} {g2:Ac s1 s2} {g3:Ac s2 s3} (h1:f1.Law) (h:f2.Apart g2) :(Ac.comp3 f1 f2 f3).Apart (Ac.comp3 f1 g2 g3):=by
 constructor
 intro x s
 show g3.get (g2.get (f1.get ((f1.put (f2.put (f3.put x (f2.get (f1.get s))) (f1.get s)) s))))=g3.get (g2.get (f1.get (s)))
 rw [h1.same,h.l]
theorem qV {s0 s1 s2 s3:Type} {f1:Ac s0 s1} {f2:Ac s1 s2} {f3:Ac s2 s3} {g3:Ac s2 s3} (h1:f1.Law) (h2:f2.Law) (h:f3.Apart g3) :(Ac.comp3 f1 f2 f3).Apart (Ac.comp3 f1 f2 g3):=by
 constructor
 intro x s
 show g3.get (f2.get (f1.get ((f1.put (f2.put (f3.put x (f2.get (f1.get s))) (f1.get s)) s))))=g3.get (f2.get (f1.get (s)))
 rw [h1.same,h2.same,h.l]
theorem x4 {s0 s1 s2 s3 s4:Type} {f1:Ac s0 s1} {f2:Ac s1 s2} {f3:Ac s2 s3} {f4:Ac s3 s4} (h1:f1.Law) (h2:f2.Law) (h3:f3.Law) (h4:f4.Law) :(Ac.comp4 f1 f2 f3 f4).Law:=by
 constructor
 intro x s
 show f4.get (f3.get (f2.get (f1.get ((Ac.comp4 f1 f2 f3 f4).put x s))))=x
 show f4.get (f3.get (f2.get (f1.get ((f1.put (f2.put (f3.put (f4.put x (f3.get (f2.get (f1.get s)))) (f2.get (f1.get s))) (f1.get s)) s)))))=x
 rw [h1.same,h2.same,h3.same,h4.same]
theorem qW {s0 s1 s2 s3 s4:Type} {f1:Ac s0 s1} {f2:Ac s1 s2} {f3:Ac s2 s3} {f4:Ac s3 s4} {g1:Ac s0 s1} {g2:Ac s1 s2} {g3:Ac s2 s3} {g4:Ac s3 s4} (h:f1.Apart g1) :(Ac.comp4 f1 f2 f3 f4).Apart (Ac.comp4 g1 g2 g3 g4):=by
 constructor
 intro x s
 show g4.get (g3.get (g2.get (g1.get ((f1.put (f2.put (f3.put (f4.put x (f3.get (f2.get (f1.get s)))) (f2.get (f1.get s))) (f1.get s)) s)))))=g4.get (g3.get (g2.get (g1.get (s))))
 rw [h.l]
theorem qX {s0 s1 s2 s3 s4:Type} {f1:Ac s0 s1} {f2:Ac s1 s2} {f3:Ac s2 s3} {f4:Ac s3 s4} {g2:Ac s1 s2} {g3:Ac s2 s3} {g4:Ac s3 s4} (h1:f1.Law) (h:f2.Apart g2) :(Ac.comp4 f1 f2 f3 f4).Apart (Ac.comp4 f1 g2 g3 g4):=by
 constructor
 intro x s
 show g4.get (g3.get (g2.get (f1.get ((f1.put (f2.put (f3.put (f4.put x (f3.get (f2.get (f1.get s)))) (f2.get (f1.get s))) (f1.get s)) s)))))=g4.get (g3.get (g2.get (f1.get (s))))
 rw [h1.same,h.l]
theorem qY {s0 s1 s2 s3 s4:Type} {f1:Ac s0 s1} {f2:Ac s1 s2} {f3:Ac s2 s3} {f4:Ac s3 s4} {g3:Ac s2 s3} {g4:Ac s3 s4} (h1:f1.Law) (h2:f2.Law) (h:f3.Apart g3) :(Ac.comp4 f1 f2 f3 f4).Apart (Ac.comp4 f1 f2 g3 g4):=by
 constructor
 intro x s
 show g4.get (g3.get (f2.get (f1.get ((f1.put (f2.put (f3.put (f4.put x (f3.get (f2.get (f1.get s)))) (f2.get (f1.get s))) (f1.get s)) s)))))=g4.get (g3.get (f2.get (f1.get (s))))
 rw [h1.same,h2.same,h.l]
theorem qZ {s0 s1 s2 s3 s4:Type} {f1:Ac s0 s1} {f2:Ac s1 s2} {f3:Ac s2 s3} {f4:Ac s3 s4} {g4:Ac s3 s4} (h1:f1.Law) (h2:f2.Law) (h3:f3.Law) (h:f4.Apart g4) :(Ac.comp4 f1 f2 f3 f4).Apart (Ac.comp4 f1 f2 f3 g4):=by
 constructor
 intro x s
 show g4.get (f3.get (f2.get (f1.get ((f1.put (f2.put (f3.put (f4.put x (f3.get (f2.get (f1.get s)))) (f2.get (f1.get s))) (f1.get s)) s)))))=g4.get (f3.get (f2.get (f1.get (s))))
 rw [h1.same,h2.same,h3.same,h.l]
theorem x5 {s0 s1 s2 s3 s4 s5 s6:Type} {f1:Ac s0 s1} {f2:Ac s1 s2} {f3:Ac s2 s3} {f4:Ac s3 s4} {f5:Ac s4 s5} {f6:Ac s5 s6} (h1:f1.Law) (h2:f2.Law) (h3:f3.Law) (h4:f4.Law) (h5:f5.Law) (h6:f6.Law) :(Ac.comp6 f1 f2 f3 f4 f5 f6).Law:=by
 constructor
 intro x s
 show f6.get (f5.get (f4.get (f3.get (f2.get (f1.get ((Ac.comp6 f1 f2 f3 f4 f5 f6).put x s))))))=x
 show f6.get (f5.get (f4.get (f3.get (f2.get (f1.get ((f1.put (f2.put (f3.put (f4.put (f5.put (f6.put x (f5.get (f4.get (f3.get (f2.get (f1.get s)))))) (f4.get (f3.get (f2.get (f1.get s))))) (f3.get (f2.get (f1.get s)))) (f2.get (f1.get s))) (f1.get s)) s)))))))=x
 rw [h1.same,h2.same,h3.same,h4.same,h5.same,h6.same]
theorem q7 {s0 s1 s2 s3 s4 s5 s6:Type} {f1:Ac s0 s1} {f2:Ac s1 s2} {f3:Ac s2 s3} {f4:Ac s3 s4} {f5:Ac s4 s5} {f6:Ac s5 s6} {g1:Ac s0 s1} {g2:Ac s1 s2} {g3:Ac s2 s3} {g4:Ac s3 s4} {g5:Ac s4 s5} {g6:Ac s5 s6} (h:f1.Apart g1) :(Ac.comp6 f1 f2 f3 f4 f5 f6).Apart (Ac.comp6 g1 g2 g3 g4 g5 g6):=by
 constructor
 intro x s
 show g6.get (g5.get (g4.get (g3.get (g2.get (g1.get ((f1.put (f2.put (f3.put (f4.put (f5.put (f6.put x (f5.get (f4.get (f3.get (f2.get (f1.get s)))))) (f4.get (f3.get (f2.get (f1.get s))))) (f3.get (f2.get (f1.get s)))) (f2.get (f1.get s))) (f1.get s)) s)))))))=g6.get (g5.get (g4.get (g3.get (g2.get (g1.get (s))))))
 rw [h.l]
theorem q8 {s0 s1 s2 s3 s4 s5 s6:Type} {f1:Ac s0 s1} {f2:Ac s1 s2} {f3:Ac s2 s3} {f4:Ac s3 s4} {f5:Ac s4 s5} {f6:Ac s5 s6} {g2:Ac s1 s2} {g3:Ac s2 s3} {g4:Ac s3 s4} {g5:Ac s4 s5} {g6:Ac s5 s6} (h1:f1.Law) (h:f2.Apart g2) :(Ac.comp6 f1 f2 f3 f4 f5 f6).Apart (Ac.comp6 f1 g2 g3 g4 g5 g6):=by
 constructor
 intro x s
 show g6.get (g5.get (g4.get (g3.get (g2.get (f1.get ((f1.put (f2.put (f3.put (f4.put (f5.put (f6.put x (f5.get (f4.get (f3.get (f2.get (f1.get s)))))) (f4.get (f3.get (f2.get (f1.get s))))) (f3.get (f2.get (f1.get s)))) (f2.get (f1.get s))) (f1.get s)) s)))))))=g6.get (g5.get (g4.get (g3.get (g2.get (f1.get (s))))))
 rw [h1.same,h.l]
theorem q9 {s0 s1 s2 s3 s4 s5 s6:Type} {f1:Ac s0 s1} {f2:Ac s1 s2} {f3:Ac s2 s3} {f4:Ac s3 s4} {f5:Ac s4 s5} {f6:Ac s5 s6} {g3:Ac s2 s3} {g4:Ac s3 s4} {g5:Ac s4 s5} {g6:Ac s5 s6} (h1:f1.Law) (h2:f2.Law) (h:f3.Apart g3) :(Ac.comp6 f1 f2 f3 f4 f5 f6).Apart (Ac.comp6 f1 f2 g3 g4 g5 g6):=by
 constructor
 intro x s
 show g6.get (g5.get (g4.get (g3.get (f2.get (f1.get ((f1.put (f2.put (f3.put (f4.put (f5.put (f6.put x (f5.get (f4.get (f3.get (f2.get (f1.get s)))))) (f4.get (f3.get (f2.get (f1.get s))))) (f3.get (f2.get (f1.get s)))) (f2.get (f1.get s))) (f1.get s)) s)))))))=g6.get (g5.get (g4.get (g3.get (f2.get (f1.get (s))))))
 rw [h1.same,h2.same,h.l]
theorem rb {s0 s1 s2 s3 s4 s5 s6:Type} {f1:Ac s0 s1} {f2:Ac s1 s2} {f3:Ac s2 s3} {f4:Ac s3 s4} {f5:Ac s4 s5} {f6:Ac s5 s6} {g4:Ac s3 s4} {g5:Ac s4 s5} {g6:Ac s5 s6} (h1:f1.Law) (h2:f2.Law) (h3:f3.Law) (h:f4.Apart g4) :(Ac.comp6 f1 f2 f3 f4 f5 f6).Apart (Ac.comp6 f1 f2 f3 g4 g5 g6):=by
 constructor
 intro x s
 show g6.get (g5.get (g4.get (f3.get (f2.get (f1.get ((f1.put (f2.put (f3.put (f4.put (f5.put (f6.put x (f5.get (f4.get (f3.get (f2.get (f1.get s)))))) (f4.get (f3.get (f2.get (f1.get s))))) (f3.get (f2.get (f1.get s)))) (f2.get (f1.get s))) (f1.get s)) s)))))))=g6.get (g5.get (g4.get (f3.get (f2.get (f1.get (s))))))
 rw [h1.same,h2.same,h3.same,h.l]
theorem re {s0 s1 s2 s3 s4 s5 s6:Type} {f1:Ac s0 s1} {f2:Ac s1 s2} {f3:Ac s2 s3} {f4:Ac s3 s4} {f5:Ac s4 s5} {f6:Ac s5 s6} {g5:Ac s4 s5} {g6:Ac s5 s6} (h1:f1.Law) (h2:f2.Law) (h3:f3.Law) (h4:f4.Law) (h:f5.Apart g5) :(Ac.comp6 f1 f2 f3 f4 f5 f6).Apart (Ac.comp6 f1 f2 f3 f4 g5 g6):=by
 constructor
 intro x s
 show g6.get (g5.get (f4.get (f3.get (f2.get (f1.get ((f1.put (f2.put (f3.put (f4.put (f5.put (f6.put x (f5.get (f4.get (f3.get (f2.get (f1.get s)))))) (f4.get (f3.get (f2.get (f1.get s))))) (f3.get (f2.get (f1.get s)))) (f2.get (f1.get s))) (f1.get s)) s)))))))=g6.get (g5.get (f4.get (f3.get (f2.get (f1.get (s))))))
 rw [h1.same,h2.same,h3.same,h4.same,h.l]
theorem rh {s0 s1 s2 s3 s4 s5 s6:Type} {f1:Ac s0 s1} {f2:Ac s1 s2} {f3:Ac s2 s3} {f4:Ac s3 s4} {f5:Ac s4 s5} {f6:Ac s5 s6} {g6:Ac s5 s6} (h1:f1.Law) (h2:f2.Law) (h3:f3.Law) (h4:f4.Law) (h5:f5.Law) (h:f6.Apart g6) :(Ac.comp6 f1 f2 f3 f4 f5 f6).Apart (Ac.comp6 f1 f2 f3 f4 f5 g6):=by
 constructor
 intro x s
 show g6.get (f5.get (f4.get (f3.get (f2.get (f1.get ((f1.put (f2.put (f3.put (f4.put (f5.put (f6.put x (f5.get (f4.get (f3.get (f2.get (f1.get s)))))) (f4.get (f3.get (f2.get (f1.get s))))) (f3.get (f2.get (f1.get s)))) (f2.get (f1.get s))) (f1.get s)) s)))))))=g6.get (f5.get (f4.get (f3.get (f2.get (f1.get (s))))))
 rw [h1.same,h2.same,h3.same,h4.same,h5.same,h.l]
theorem fi {α:Type} (i:Nat) (x:α) (s:T3 α) :(bP i).get ((bP i).put x s)=x:=(x3 (aF _) (aF _) (aF _)).same x s
theorem wK {α:Type} {i j:Nat} (hi:i<512) (hj:j<512) (h:i≠j) (x:α) (s:T3 α) :(bP j).get ((bP i).put x s) =(bP j).get s:=by
 unfold bP
 by_cases e1:dig i 64=dig j 64
 case neg=>exact (qT (bT (Nat.mod_lt _ (by decide)) (Nat.mod_lt _ (by decide)) e1)).l x s
 by_cases e2:dig i 8=dig j 8
 case neg=>rw [←e1];exact (qU (aF _) (bT (Nat.mod_lt _ (by decide)) (Nat.mod_lt _ (by decide)) e2)).l x s
 by_cases e3:dig i 1=dig j 1
 case neg=>rw [←e1,←e2];exact (qV (aF _) (aF _) (bT (Nat.mod_lt _ (by decide)) (Nat.mod_lt _ (by decide)) e3)).l x s
 exfalso
 have q1:i / 64 % 8=j / 64 % 8:=e1
 have q2:i / 8 % 8=j / 8 % 8:=e2
 have q3:i / 1 % 8=j / 1 % 8:=e3
 omega
theorem xQ {α:Type} (i:Nat) (x:α) (s:T4 α) :(oU i).get ((oU i).put x s)=x:=(x4 (aF _) (aF _) (aF _) (aF _)).same x s
theorem Bl {α:Type} {i j:Nat} (hi:i<4096) (hj:j<4096) (h:i≠j) (x:α) (s:T4 α) :(oU j).get ((oU i).put x s) =(oU j).get s:=by
 unfold oU
 by_cases e1:dig i 512=dig j 512
 case neg=>exact (qW (bT (Nat.mod_lt _ (by decide)) (Nat.mod_lt _ (by decide)) e1)).l x s
 by_cases e2:dig i 64=dig j 64
 case neg=>rw [←e1];exact (qX (aF _) (bT (Nat.mod_lt _ (by decide)) (Nat.mod_lt _ (by decide)) e2)).l x s
 by_cases e3:dig i 8=dig j 8
 case neg=>rw [←e1,←e2];exact (qY (aF _) (aF _) (bT (Nat.mod_lt _ (by decide)) (Nat.mod_lt _ (by decide)) e3)).l x s
 by_cases e4:dig i 1=dig j 1
 case neg=>rw [←e1,←e2,←e3];exact (qZ (aF _) (aF _) (aF _) (bT (Nat.mod_lt _ (by decide)) (Nat.mod_lt _ (by decide)) e4)).l x s
 exfalso
 have q1:i / 512 % 8=j / 512 % 8:=e1
 have q2:i / 64 % 8=j / 64 % 8:=e2
 have q3:i / 8 % 8=j / 8 % 8:=e3
 have q4:i / 1 % 8=j / 1 % 8:=e4
 omega
theorem xR {α:Type} (i:Nat) (x:α) (s:T6 α) :(qP i).get ((qP i).put x s)=x:=(x5 (aF _) (aF _) (aF _) (aF _) (aF _) (aF _)).same x s
theorem Bm {α:Type} {i j:Nat} (hi:i<262144) (hj:j<262144) (h:i≠j) (x:α) (s:T6 α) :(qP j).get ((qP i).put x s) =(qP j).get s:=by
 unfold qP
 by_cases e1:dig i 32768=dig j 32768
 case neg=>exact (q7 (bT (Nat.mod_lt _ (by decide)) (Nat.mod_lt _ (by decide)) e1)).l x s
 by_cases e2:dig i 4096=dig j 4096
 case neg=>rw [←e1];exact (q8 (aF _) (bT (Nat.mod_lt _ (by decide)) (Nat.mod_lt _ (by decide)) e2)).l x s
 by_cases e3:dig i 512=dig j 512
 case neg=>rw [←e1,←e2];exact (q9 (aF _) (aF _) (bT (Nat.mod_lt _ (by decide)) (Nat.mod_lt _ (by decide)) e3)).l x s
 by_cases e4:dig i 64=dig j 64
 case neg=>rw [←e1,←e2,←e3];exact (rb (aF _) (aF _) (aF _) (bT (Nat.mod_lt _ (by decide)) (Nat.mod_lt _ (by decide)) e4)).l x s
 by_cases e5:dig i 8=dig j 8
 case neg=>rw [←e1,←e2,←e3,←e4];exact (re (aF _) (aF _) (aF _) (aF _) (bT (Nat.mod_lt _ (by decide)) (Nat.mod_lt _ (by decide)) e5)).l x s
 by_cases e6:dig i 1=dig j 1
 case neg=>rw [←e1,←e2,←e3,←e4,←e5];exact (rh (aF _) (aF _) (aF _) (aF _) (aF _) (bT (Nat.mod_lt _ (by decide)) (Nat.mod_lt _ (by decide)) e6)).l x s
 exfalso
 have q1:i / 32768 % 8=j / 32768 % 8:=e1
 have q2:i / 4096 % 8=j / 4096 % 8:=e2
 have q3:i / 512 % 8=j / 512 % 8:=e3
 have q4:i / 64 % 8=j / 64 % 8:=e4
 have q5:i / 8 % 8=j / 8 % 8:=e5
 have q6:i / 1 % 8=j / 1 % 8:=e6
 omega
theorem gS {α:Type} (r:Nat) (x:α) :(d8 r:Ac (N8 α) α).get (wq x)=x:=by
 unfold d8
 cases Nat.beq r 0
 case true=>rfl
 cases Nat.beq r 1
 case true=>rfl
 cases Nat.beq r 2
 case true=>rfl
 cases Nat.beq r 3
 case true=>rfl
 cases Nat.beq r 4
 case true=>rfl
 cases Nat.beq r 5
 case true=>rfl
 cases Nat.beq r 6
 case true=>rfl
 rfl
theorem y3 {α:Type} (i:Nat) (x:α) :(bP i).get (yI x)=x:=by
 show (d8 _).get ((d8 _).get ((d8 _).get (yI x)))=x
 unfold yI
 rw [gS,gS,gS]
theorem y4 {α:Type} (i:Nat) (x:α) :(qP i).get (Ce x)=x:=by
 show (d8 _).get ((d8 _).get ((d8 _).get ((d8 _).get ((d8 _).get ((d8 _).get (Ce x))))))=x
 unfold Ce Ek yI
 rw [gS,gS,gS,gS,gS,gS]
end
end Go.Mir
namespace Go.Mir
open Go.RowKit
noncomputable section
inductive C where
 | int (k:IntKind) (n:Int)
 | kb (b:Bool)
 | ptr (h o:Nat)
 | gp (h v o:Nat)
 | gsl (h v e o l:Nat)
 | oth (v:V)
abbrev CT:=T4 C
inductive W where
 | c (x:C)
 | agg (t:CT) (n:Nat)
inductive U where
 | int (k:IntKind) (n:Int)
 | kb (b:Bool)
 | ptr (h o:Nat)
 | gp (h v o:Nat)
 | gsl (h v e o l:Nat)
 | oth (v:V)
 | agg (t:CT) (n:Nat)
 | tup (l:List W)
inductive Bk where
 | none
 | cells (t:CT) (n:Nat)
 | grow (ver esz:Nat) (t:CT) (n:Nat)
 | mp (es:List (V×V))
abbrev TM:=T3 U
abbrev HP:=T6 Bk
def tm0:TM:=yI (.oth .any)
def hp0:HP:=Ce .none
def ct0:CT:=Ek (.oth .any)
inductive Rv where
 | go (e:Lf) (tm:TM) (hp:HP) (nx:Nat)
 | no (w:List Nat)
inductive Rf where
 | ok (u:U) (hp:HP) (nx:Nat)
 | ex (u:U) (hp:HP) (nx:Nat)
 | no (w:List Nat)
abbrev KR:=TM→HP→Nat→Rv
abbrev du:=FuncId→List U→HP→Nat→Rf
def C.toV:C→V
 | .int k n=> .int k n
 | .kb b=> .kb b
 | .ptr h o=> .ptr h o
 | .gp h v o=> .gp h v o
 | .gsl h v e o l=> .gsl h v e o l
 | .oth v=>v
def bu (t:CT) (i:Nat):C:=Ac.rec (motive:=fun _=>CT→C) (fun g _=>g) (oU i) t
def cJ (t:CT) (i:Nat) (x:C):CT:=Ac.rec (motive:=fun _=>C→CT→CT) (fun _ p=>p) (oU i) x t
def BX:Nat:=4096
def BW:Nat:=262144
def sQ (h:Nat):Ac HP Bk:=Bool.rec (motive:=fun _=>Ac HP Bk) ⟨fun _=> .none,fun _ s=>s⟩ (qP h) (Nat.ble (Nat.succ h) 262144)
def aI (hp:HP) (h:Nat):Bk:=Ac.rec (motive:=fun _=>HP→Bk) (fun g _=>g) (sQ h) hp
def cp (hp:HP) (h:Nat) (b:Bk):HP:=Ac.rec (motive:=fun _=>Bk→HP→HP) (fun _ p=>p) (sQ h) b hp
def oP (t:CT):Nat→Nat→List V
 | 0,_=> []
 | n+1,i=>(bu t i).toV::oP t n (i+1)
def toL (t:CT) (n:Nat):List V:=oP t n 0
def xW (v:V):C:=match v with
 | .int k n=> .int k n
 | .kb b=> .kb b
 | .ptr h o=> .ptr h o
 | .gp h v o=> .gp h v o
 | .gsl h v e o l=> .gsl h v e o l
 | v=> .oth v
def D4:List V→Nat→CT→CT:=List.rec (motive:=fun _=>Nat→CT→CT) (fun _ t=>t) (fun v _ ih i t=>ih (Nat.succ i) (cJ t i (xW v)))
def ofL (l:List V):CT:=D4 l 0 ct0
def W.toV:W→V
 | .c x=>x.toV
 | .agg t n=> .agg (toL t n)
def U.toV:U→V
 | .int k n=> .int k n
 | .kb b=> .kb b
 | .ptr h o=> .ptr h o
 | .gp h v o=> .gp h v o
 | .gsl h v e o l=> .gsl h v e o l
 | .oth v=>v
 | .agg t n=> .agg (toL t n)
 | .tup l=> .tup (l.map W.toV)
def Bk.toB:Bk→Option Blk
 | .none=>Option.none
 | .cells t n=>some (.cells (toL t n))
 | .grow v e t n=>some (.grow v e (toL t n))
 | .mp es=>some (.mp es)
def V.isOne (v:V):Bool:=
 V.rec (motive_1:=fun _=>Bool) (motive_2:=fun _=>Unit) false (fun _ _=>true) (fun _=>true) (fun _=>true) (fun q p=>false) (fun _=>true) true (fun _ _=>true) (fun _ _ _ _=>true) (fun _ _ _ _=>true) true true (fun _ _=>true) (fun _ _=>true) (fun _ _ _ _ _=>true) (fun _ _ _=>true) (fun _=>true) true true (fun _ _ _=>true) (fun cs ih=>false) (fun cs ih=>false) () (fun _ _ _ _=>()) v
def vd (l:List V):Bool:=List.rec (motive:=fun _=>Bool) true (fun v _ ih=>Bool.rec false ih v.isOne) l
def eE (l:List V):Bool:=Bool.rec false (Nat.ble l.length BX) (vd l)
def gP (v:V):U:=match v with
 | .int k n=> .int k n
 | .kb b=> .kb b
 | .bool b=> .kb b
 | .ptr h o=> .ptr h o
 | .gp h v o=> .gp h v o
 | .gsl h v e o l=> .gsl h v e o l
 | .agg cs=>Bool.rec (.oth .any) (.agg (ofL cs) cs.length) (eE cs)
 | .tup vs=> .tup (vs.map fun v=>match v with
  | .agg cs=>Bool.rec (.c (.oth .any)) (.agg (ofL cs) cs.length) (eE cs)
  | .bool b=> .c (.kb b)
  | v=> .c (xW v))
 | v=> .oth v
def cU:C→U:=C.rec (motive:=fun _=>U) .int .kb .ptr .gp .gsl .oth
def wU:W→U:=W.rec (motive:=fun _=>U) cU .agg
def u3:U→(IntKind→Int→Rv)→Rv→Rv:=U.rec (motive:=fun _=>(IntKind→Int→Rv)→Rv→Rv) (fun k n f sl=>f k n) (fun _ _ sl=>sl) (fun _ _ _ sl=>sl) (fun _ _ _ _ sl=>sl) (fun _ _ _ _ _ _ sl=>sl) (fun _ _ sl=>sl) (fun _ _ _ sl=>sl) (fun _ _ sl=>sl)
def uKb:U→(Bool→Rv)→Rv→Rv:=U.rec (motive:=fun _=>(Bool→Rv)→Rv→Rv) (fun _ _ _ sl=>sl) (fun b f sl=>f b) (fun _ _ _ sl=>sl) (fun _ _ _ _ sl=>sl) (fun _ _ _ _ _ _ sl=>sl) (fun _ _ sl=>sl) (fun _ _ _ sl=>sl) (fun _ _ sl=>sl)
def wJ:U→(Nat→Nat→Rv)→(Nat→Nat→Nat→Rv)→Rv→Rv:=U.rec (motive:=fun _=>(Nat→Nat→Rv)→(Nat→Nat→Nat→Rv)→Rv→Rv) (fun _ _ _ _ sl=>sl) (fun _ _ _ sl=>sl) (fun h o f g sl=>f h o) (fun h v o f g sl=>g h v o) (fun _ _ _ _ _ _ _ sl=>sl) (fun _ _ _ sl=>sl) (fun _ _ _ _ sl=>sl) (fun _ _ _ sl=>sl)
def Ey:U→(Nat→Nat→Nat→Nat→Nat→Rv)→Rv→Rv:=U.rec (motive:=fun _=>(Nat→Nat→Nat→Nat→Nat→Rv)→Rv→Rv) (fun _ _ _ sl=>sl) (fun _ _ sl=>sl) (fun _ _ _ sl=>sl) (fun _ _ _ _ sl=>sl) (fun h v e o l f sl=>f h v e o l) (fun _ _ sl=>sl) (fun _ _ _ sl=>sl) (fun _ _ sl=>sl)
def Gh (v:V) (a b sl:Rv):Rv:=match v with
 | .nilsl=>a
 | .esl=>b
 | _=>sl
def uSl:U→Rv→Rv→(Nat→Nat→Nat→Nat→Nat→Rv)→Rv→Rv:=U.rec (motive:=fun _=>Rv→Rv→(Nat→Nat→Nat→Nat→Nat→Rv)→Rv→Rv) (fun _ _ _ _ _ sl=>sl) (fun _ _ _ _ sl=>sl) (fun _ _ _ _ _ sl=>sl) (fun _ _ _ _ _ _ sl=>sl) (fun h v e o l a b f sl=>f h v e o l) (fun v a b f sl=>Gh v a b sl) (fun _ _ _ _ _ sl=>sl) (fun _ _ _ _ sl=>sl)
def vFn (v:V) (k:FuncId→List V→Rv) (sl:Rv):Rv:=match v with
 | .fn f cs=>k f cs
 | _=>sl
def uFn:U→(FuncId→List V→Rv)→Rv→Rv:=U.rec (motive:=fun _=>(FuncId→List V→Rv)→Rv→Rv) (fun _ _ _ sl=>sl) (fun _ _ sl=>sl) (fun _ _ _ sl=>sl) (fun _ _ _ _ sl=>sl) (fun _ _ _ _ _ _ sl=>sl) (fun v f sl=>vFn v f sl) (fun _ _ _ sl=>sl) (fun _ _ sl=>sl)
def Cq (v:V) (k sl:Rv):Rv:=Bool.rec (motive:=fun _=>Rv) sl k v.isOne
def uC:U→(C→Rv)→Rv→Rv:=U.rec (motive:=fun _=>(C→Rv)→Rv→Rv) (fun k n f sl=>f (.int k n)) (fun b f sl=>f (.kb b)) (fun h o f sl=>f (.ptr h o)) (fun h v o f sl=>f (.gp h v o)) (fun h v e o l f sl=>f (.gsl h v e o l)) (fun v f sl=>Cq v (f (.oth v)) sl) (fun _ _ _ sl=>sl) (fun _ _ sl=>sl)
def Cp:U→(CT→Nat→Rv)→Rv→Rv:=U.rec (motive:=fun _=>(CT→Nat→Rv)→Rv→Rv) (fun _ _ _ sl=>sl) (fun _ _ sl=>sl) (fun _ _ _ sl=>sl) (fun _ _ _ _ sl=>sl) (fun _ _ _ _ _ _ sl=>sl) (fun _ _ sl=>sl) (fun t n f sl=>f t n) (fun _ _ sl=>sl)
def FI:U→(List W→Rv)→Rv→Rv:=U.rec (motive:=fun _=>(List W→Rv)→Rv→Rv) (fun _ _ _ sl=>sl) (fun _ _ sl=>sl) (fun _ _ _ sl=>sl) (fun _ _ _ _ sl=>sl) (fun _ _ _ _ _ _ sl=>sl) (fun _ _ sl=>sl) (fun _ _ _ sl=>sl) (fun l f sl=>f l)
def uCA:U→(C→Rv)→(CT→Nat→Rv)→Rv→Rv:=U.rec (motive:=fun _=>(C→Rv)→(CT→Nat→Rv)→Rv→Rv) (fun k n f g sl=>f (.int k n)) (fun b f g sl=>f (.kb b)) (fun h o f g sl=>f (.ptr h o)) (fun h v o f g sl=>f (.gp h v o)) (fun h v e o l f g sl=>f (.gsl h v e o l)) (fun v f g sl=>Cq v (f (.oth v)) sl) (fun t n f g sl=>g t n) (fun _ _ _ sl=>sl)
def FF:U→Rv→Rv→Rv→Rv:=U.rec (motive:=fun _=>Rv→Rv→Rv→Rv) (fun _ _ _ _ sl=>sl) (fun b y n _=>Bool.rec (motive:=fun _=>Rv) n y b) (fun _ _ _ _ sl=>sl) (fun _ _ _ _ _ sl=>sl) (fun _ _ _ _ _ _ _ sl=>sl) (fun _ _ _ sl=>sl) (fun _ _ _ _ sl=>sl) (fun l _ n sl=>List.rec (motive:=fun _=>Rv) n (fun _ _ _=>sl) l)
def FE:U→Rv→Rv→Rv→Rv:=U.rec (motive:=fun _=>Rv→Rv→Rv→Rv) (fun _ _ _ _ sl=>sl) (fun b y n _=>Bool.rec (motive:=fun _=>Rv) y n b) (fun _ _ _ _ sl=>sl) (fun _ _ _ _ _ sl=>sl) (fun _ _ _ _ _ _ _ sl=>sl) (fun _ _ _ sl=>sl) (fun _ _ _ _ sl=>sl) (fun l _ n sl=>List.rec (motive:=fun _=>Rv) n (fun _ _ _=>sl) l)
def ckR (b:Bool) (r sl:Rv):Rv:=Bool.rec (motive:=fun _=>Rv) sl r b
def bkC:Bk→(CT→Nat→Rv)→Rv→Rv:=Bk.rec (motive:=fun _=>(CT→Nat→Rv)→Rv→Rv) (fun _ sl=>sl) (fun t n k _=>k t n) (fun _ _ _ _ _ sl=>sl) (fun _ _ sl=>sl)
def bkG:Bk→(Nat→Nat→CT→Nat→Rv)→Rv→Rv:=Bk.rec (motive:=fun _=>(Nat→Nat→CT→Nat→Rv)→Rv→Rv) (fun _ sl=>sl) (fun _ _ _ sl=>sl) (fun v e t n k _=>k v e t n) (fun _ _ sl=>sl)
def ba (n:Nat) :(Nat→Rv)→Rv:=Nat.rec (motive:=fun _=>(Nat→Rv)→Rv) (fun k=>k 0) (fun n _ k=>k (Nat.succ n)) n
def AD:Int→(Nat→Rv)→Rv→Rv:=Int.rec (motive:=fun _=>(Nat→Rv)→Rv→Rv) (fun n k _=>k n) (fun _ _ sl=>sl)
def lO (dst:CT) (d:Nat) (src:CT) (s n:Nat):CT:=Nat.rec (motive:=fun _=>CT) dst (fun i acc=>cJ acc (Nat.add d i) (bu src (Nat.add s i))) n
inductive TI where
 | no
 | one
 | agg (n:Nat)
def tyI (tb:Tbl) (t:TypeId):TI:=match tb t with
 | some td=>if td.kind.agg then .agg td.size else if td.size=1 then .one else .no
 | none=> .no
def BG (tb:Tbl) (t:TypeId) (f:Nat):Option Nat:=match tb t with
 | some td=>match td.kind with
  | .struct fs=>match fs[f]? with
   | some (o,ft)=>match tb ft with
    | some tf=>if tf.size=0 then none else some o
    | none=>none
   | none=>none
  | _=>none
 | none=>none
inductive FVI where
 | no
 | at (o:Nat) (i:TI)
def DB (tb:Tbl) (t:TypeId) (f:Nat):FVI:=match tb t with
 | some td=>match td.kind with
  | .struct fs=>match fs[f]? with
   | some (o,ft)=> .at o (tyI tb ft)
   | none=> .no
  | _=> .no
 | none=> .no
inductive IXI where
 | no
 | sl (esz:Nat)
 | ar (len esz:Nat)
def BO (tb:Tbl) (t:TypeId):IXI:=match tb t with
 | some td=>match td.kind with
  | .slice e=>match tb e with|some te=> .sl te.size|none=> .no
  | .arr len e=>match tb e with|some te=> .ar len te.size|none=> .no
  | _=> .no
 | none=> .no
inductive IVI where
 | no
 | at (len esz:Nat) (i:TI)
def DN (tb:Tbl) (t:TypeId):IVI:=match tb t with
 | some td=>match td.kind with
  | .arr len e=>match tb e with|some te=> .at len te.size (tyI tb e)|none=> .no
  | _=> .no
 | none=> .no
inductive ZTI where
 | no
 | at (t:CT) (n:Nat)
def qI (tb:Tbl) (t:TypeId):ZTI:=match tb t with
 | some td=>bif eE td.zero then .at (ofL td.zero) td.zero.length else .no
 | none=> .no
def cvI (tb:Tbl) (s d:TypeId):Option IntKind:=match tb s,tb d with
 | some ts,some td=>match ts.kind,td.kind with
  | .int _,.int k=>some k
  | _,_=>none
 | _,_=>none
inductive PI where
 | no
 | at (o size:Nat)
def AB (tb:Tbl) (t:TypeId) (i:Nat):PI:=match tb t with
 | some td=>match td.kind with
  | .struct fs=>match fs[i]? with
   | some (o,ft)=>match tb ft with
    | some tf=> .at o tf.size
    | none=> .no
   | none=> .no
  | .arr _ e=>match tb e with
   | some te=> .at (i*te.size) te.size
   | none=> .no
  | _=> .no
 | none=> .no
def qR (tb:Tbl) (t:TypeId):Bool:=match tb t with
 | some td=>match td.kind with
  | .struct fs=>fs.all fun q=>(tb q.2).isSome
  | .arr _ e=>(tb e).isSome
  | _=>false
 | none=>false
inductive SLI where
 | no
 | at (esz:Nat) (t:CT) (n:Nat)
def De (tb:Tbl) (t:TypeId) (n:Nat):SLI:=match tb t with
 | some td=>match td.kind with
  | .slice e=>match tb e with
   | some te=>if te.ty.isNone=true∧n≤1000∧te.size≤1000∧te.zero.length=te.size∧eE (jZ te.zero n)=true then .at te.size (ofL (jZ te.zero n)) (n*te.size) else .no
   | none=> .no
  | _=> .no
 | none=> .no
inductive API where
 | no
 | at (esz bytes:Nat)
def Db (tb:Tbl) (c:Call):API:=match c.argTypes.toList with
 | [t,t2]=>match tb t,tb t2 with
  | some td,some td2=>match td.kind with
   | .slice e=>match tb e with
    | some te=>if (fY tb td2).isSome=true∧te.ty.isNone=true∧0<te.bytes∧te.bytes≤1000∧te.zero.length=te.size then .at te.size te.bytes else .no
    | none=> .no
   | _=> .no
  | _,_=> .no
 | _=> .no
def zY (tb:Tbl) (c:Call):Bool:=match c.argTypes.toList with
 | [t]=>match tb t with
  | some td=>zX td.kind
  | none=>false
 | _=>false
def Ex (tb:Tbl) (t:TypeId):Bool:=match tb t with
 | some _=>true
 | none=>false
def El (tb:Tbl) (t:TypeId):Option Nat:=match tb t with
 | some td=>fY tb td
 | none=>none
def mxK (k:IntKind):Nat:=IntKind.rec (motive:=fun _=>Nat) 127 32767 2147483647 9223372036854775807 255 65535 4294967295 18446744073709551615 k
def ikN (k:IntKind):Nat:=IntKind.rec (motive:=fun _=>Nat) 0 1 2 3 4 5 6 7 k
def DI (k k':IntKind):Bool:=Nat.beq (ikN k) (ikN k')
def D2 (a b:Int) (f:Nat→Nat→Int) (g:Int):Int:=Int.rec (motive:=fun _=>Int) (fun x=>Int.rec (motive:=fun _=>Int) (fun y=>f x y) (fun _=>g) b) (fun _=>g) a
def D1 (a b:Int) (f:Nat→Nat→Bool) (g:Bool):Bool:=Int.rec (motive:=fun _=>Bool) (fun x=>Int.rec (motive:=fun _=>Bool) (fun y=>f x y) (fun _=>g) b) (fun _=>g) a
def D3 (a b:Int) (f:Nat→Nat→Rv) (g:Rv):Rv:=Int.rec (motive:=fun _=>Rv) (fun x=>Int.rec (motive:=fun _=>Rv) (fun y=>f x y) (fun _=>g) b) (fun _=>g) a
def rD (k:IntKind) (n:Nat) (s:Int):Int:=Bool.rec (motive:=fun _=>Int) s (.ofNat n) (Nat.ble n (mxK k))
def C7 (k:IntKind) (a b:Int):Int:=D2 a b (fun x y=>rD k (Nat.add x y) (k.wrap (a+b))) (k.wrap (a+b))
def Ev (k:IntKind) (a b:Int):Int:=D2 a b (fun x y=>Bool.rec (motive:=fun _=>Int) (k.wrap (a - b)) (rD k (Nat.sub x y) (k.wrap (a - b))) (Nat.ble y x)) (k.wrap (a - b))
def DY (k:IntKind) (a b:Int):Int:=D2 a b (fun x y=>rD k (Nat.mul x y) (k.wrap (a*b))) (k.wrap (a*b))
def cvS (k:IntKind) (a:Int):Int:=Int.rec (motive:=fun _=>Int) (fun x=>rD k x (k.wrap a)) (fun _=>k.wrap a) a
def eqS (a b:Int):Bool:=D1 a b (fun x y=>Nat.beq x y) (a==b)
def ltS (a b:Int):Bool:=D1 a b (fun x y=>Nat.ble (Nat.succ x) y) (decide (a<b))
def leS (a b:Int):Bool:=D1 a b (fun x y=>Nat.ble x y) (decide (a≤b))
def yz (b:Bool):Bool:=Bool.rec (motive:=fun _=>Bool) true false b
def EX (ik:IntKind) (a b:Int) (k:U→Rv) (_:Rv):Rv:=k (.int ik (C7 ik a b))
def E4 (ik:IntKind) (a b:Int) (k:U→Rv) (_:Rv):Rv:=k (.int ik (Ev ik a b))
def EY (ik:IntKind) (a b:Int) (k:U→Rv) (_:Rv):Rv:=k (.int ik (DY ik a b))
def EZ (ik:IntKind) (a b:Int) (k:U→Rv) (sl:Rv):Rv:=D3 a b (fun x y=>ckR (Nat.ble 1 y) (k (.int ik (rD ik (Nat.div x y) (ik.wrap (a.tdiv b))))) sl) sl
def E3 (ik:IntKind) (a b:Int) (k:U→Rv) (sl:Rv):Rv:=D3 a b (fun x y=>ckR (Nat.ble 1 y) (k (.int ik (.ofNat (Nat.mod x y)))) sl) sl
def fEq (_:IntKind) (a b:Int) (k:U→Rv) (_:Rv):Rv:=k (.kb (eqS a b))
def fNe (_:IntKind) (a b:Int) (k:U→Rv) (_:Rv):Rv:=k (.kb (yz (eqS a b)))
def fLt (_:IntKind) (a b:Int) (k:U→Rv) (_:Rv):Rv:=k (.kb (ltS a b))
def fLe (_:IntKind) (a b:Int) (k:U→Rv) (_:Rv):Rv:=k (.kb (leS a b))
def fGt (_:IntKind) (a b:Int) (k:U→Rv) (_:Rv):Rv:=k (.kb (ltS b a))
def fGe (_:IntKind) (a b:Int) (k:U→Rv) (_:Rv):Rv:=k (.kb (leS b a))
def yw (m:Nat) (hp:HP) (b:Bk) (u:U) (k:U→HP→Rv) (sl:Rv):Rv:=ckR (Nat.ble (Nat.succ m) BW) (k u (cp hp m b)) sl
def FR (x:U) (hp:HP) (m:Nat) (k:U→HP→Rv) (sl:Rv):Rv:=uCA x (fun c=>yw m hp (.cells (cJ ct0 0 c) 1) (.ptr m 0) k sl) (fun t n=>yw m hp (.cells t n) (.ptr m 0) k sl) sl
abbrev LdF:=CT→Nat→Nat→(U→Rv)→Rv→Rv
def tZ:LdF:=fun ct n off k sl=>ckR (Nat.ble (Nat.succ off) n) (k (cU (bu ct off))) sl
def tY (m:Nat):LdF:=fun ct n off k sl=>ckR (Nat.ble (Nat.add off m) n) (Bool.rec (motive:=fun _=>Rv) (k (.agg (lO ct0 0 ct off m) m)) (k (.agg ct n)) (Nat.beq m n)) sl
def ldG (ld:LdF) (a:U) (hp:HP) (k:U→Rv) (sl:Rv):Rv:=wJ a (fun h o=>bkC (aI hp h) (fun ct n=>ld ct n o k sl) sl) (fun h v o=>bkG (aI hp h) (fun v' _ ct n=>ckR (Nat.beq v v') (ld ct n o k sl) sl) sl) sl
abbrev StF:=U→CT→Nat→Nat→(CT→Rv)→Rv→Rv
def CU:StF:=fun x ct n off k sl=>ckR (Nat.ble (Nat.succ off) n) (uC x (fun c=>k (cJ ct off c)) sl) sl
def CS (m:Nat):StF:=fun x ct n off k sl=>Cp x (fun xt m'=>ckR (Nat.beq m m') (ckR (Nat.ble (Nat.add off m) n) (Bool.rec (motive:=fun _=>Rv) (k (lO ct off xt 0 m)) (k xt) (Nat.beq m n)) sl) sl) sl
def stG (st:StF) (a x:U) (hp:HP) (k:U→HP→Rv) (sl:Rv):Rv:=wJ a (fun h o=>bkC (aI hp h) (fun ct n=>st x ct n o (fun ct=>k (.tup []) (cp hp h (.cells ct n))) sl) sl) (fun h v o=>bkG (aI hp h) (fun v' e ct n=>ckR (Nat.beq v v') (st x ct n o (fun ct=>k (.tup []) (cp hp h (.grow v e ct n))) sl) sl) sl) sl
def faG (d:Nat) (x:U) (k:U→Rv) (sl:Rv):Rv:=wJ x (fun h o=>k (.ptr h (Nat.add o d))) (fun h v o=>k (.gp h v (Nat.add o d))) sl
def fvG (o:Nat) (ld:LdF) (x:U) (k:U→Rv) (sl:Rv):Rv:=Cp x (fun ct n=>ld ct n o k sl) sl
def F6 (esz:Nat) (x i:U) (hp:HP) (k:U→Rv) (sl:Rv):Rv:=u3 i (fun _ n=>AD n (fun m=>Ey x (fun h v e o l=>ckR (Nat.ble (Nat.succ m) l) (bkG (aI hp h) (fun v' e' _ _=>ckR (Nat.beq v v') (ckR (Nat.beq esz e) (ckR (Nat.beq e e') (k (.gp h v (Nat.mul (Nat.add o m) e))) sl) sl) sl) sl) sl) sl) sl) sl
def F5 (l esz:Nat) (x i:U) (k:U→Rv) (sl:Rv):Rv:=u3 i (fun _ n=>AD n (fun m=>ckR (Nat.ble (Nat.succ m) l) (wJ x (fun h o=>k (.ptr h (Nat.add o (Nat.mul m esz)))) (fun h v o=>k (.gp h v (Nat.add o (Nat.mul m esz)))) sl) sl) sl) sl
def ixV (l esz:Nat) (ld:LdF) (x i:U) (k:U→Rv) (sl:Rv):Rv:=u3 i (fun _ n=>AD n (fun m=>ckR (Nat.ble (Nat.succ m) l) (Cp x (fun ct n=>ld ct n (Nat.mul m esz) k sl) sl) sl) sl) sl
abbrev xP:=IntKind→Int→Int→(U→Rv)→Rv→Rv
def Bo (f:xP) (x y:U) (k:U→Rv) (sl:Rv):Rv:=u3 x (fun ik a=>u3 y (fun ik' b=>ckR (DI ik ik') (f ik a b k sl) sl) sl) sl
def Gc (x:U) (k:U→Rv) (sl:Rv):Rv:=uKb x (fun b=>k (.kb (yz b))) sl
def cvG (ik:IntKind) (x:U) (k:U→Rv) (sl:Rv):Rv:=u3 x (fun _ n=>k (.int ik (cvS ik n))) sl
def Fp (i:Nat):List W→(U→Rv)→Rv→Rv:=Nat.rec (motive:=fun _=>List W→(U→Rv)→Rv→Rv) (List.rec (motive:=fun _=>(U→Rv)→Rv→Rv) (fun _ sl=>sl) fun w _ _ k _=>k (wU w)) (fun _ ih=>List.rec (motive:=fun _=>(U→Rv)→Rv→Rv) (fun _ sl=>sl) fun _ r _=>ih r) i
def exG (i:Nat) (x:U) (k:U→Rv) (sl:Rv):Rv:=FI x (fun l=>Fp i l k sl) sl
def Ga (x:U) (k:U→Rv) (sl:Rv):Rv:=wJ x (fun h o=>k (.ptr h o)) (fun h v o=>k (.gp h v o)) sl
def Ft (c a b:U) (k:U→Rv) (sl:Rv):Rv:=uKb c (fun p=>k (Bool.rec (motive:=fun _=>U) b a p)) sl
def Dd (x:Option Operand) (d:Nat) (ev:Operand→U) (k:Nat→Rv) (sl:Rv):Rv:=Option.rec (motive:=fun _=>Rv) (k d) (fun x=>u3 (ev x) (fun _ n=>AD n k sl) sl) x
def Gf (esz:Nat) (x:U) (lo hi:Option Operand) (ev:Operand→U) (hp:HP) (k:U→Rv) (sl:Rv):Rv:=Ey x (fun h v e o l=>bkG (aI hp h) (fun v' e' _ _=>ckR (Nat.beq v v') (ckR (Nat.beq esz e) (ckR (Nat.beq e e') (Dd lo 0 ev (fun a=>Dd hi l ev (fun b=>ckR (Nat.ble b l) (ckR (Nat.ble (Nat.succ a) b) (k (.gsl h v e (Nat.add o a) (Nat.sub b a))) sl) sl) sl) sl) sl) sl) sl) sl) sl
def F8 (x:U) (hp:HP) (k:U→Rv) (sl:Rv):Rv:=uSl x (k (.int .i64 (.ofNat 0))) (k (.int .i64 (.ofNat 0))) (fun h v e _ l=>bkG (aI hp h) (fun v' e' _ _=>ckR (Nat.beq v v') (ckR (Nat.beq e e') (ckR (Nat.ble l az) (k (.int .i64 (.ofNat l))) sl) sl) sl) sl) sl
def gcG (hp:HP) (esz:Nat) (u:U) (k:Nat→CT→Nat→Rv) (sl:Rv):Rv:=uSl u (k 0 ct0 0) (k 0 ct0 0) (fun h v e o l=>bkG (aI hp h) (fun v' e' t n=>ckR (Nat.beq v v') (ckR (Nat.beq e esz) (ckR (Nat.beq e' esz) (ckR (Nat.ble (Nat.mul (Nat.add o l) esz) n) (k l t (Nat.mul o esz)) sl) sl) sl) sl) sl) sl
def y6 (esz bytes:Nat) (hp:HP) (m n:Nat) (xt:CT) (xo:Nat) (k:U→HP→Rv) (sl:Rv):Rv:=ckR (Nat.ble (Nat.mul n bytes) 70368744177664) (ckR (Nat.ble (Nat.mul n esz) BX) (yw m hp (.grow m esz (lO ct0 0 xt xo (Nat.mul n esz)) (Nat.mul n esz)) (.gsl m m esz 0 n) k sl) sl) sl
def apX (esz bytes:Nat) (hp:HP) (m:Nat) (s:U) (c:Nat) (xt:CT) (xo:Nat) (k:U→HP→Rv) (sl:Rv):Rv:=
 Nat.rec (motive:=fun _=>Rv) (uSl s (k s hp) (k s hp) (fun h v e _ _=>bkG (aI hp h) (fun v' e' _ _=>ckR (Nat.beq v v') (ckR (Nat.beq e e') (k s hp) sl) sl) sl) sl)
  (fun c _=>uSl s (y6 esz bytes hp m (Nat.succ c) xt xo k sl) (y6 esz bytes hp m (Nat.succ c) xt xo k sl)
   (fun h v e o l=>bkG (aI hp h) (fun v' e' t n=>ckR (Nat.beq v v') (ckR (Nat.beq e esz) (ckR (Nat.beq e' esz) (ckR (Nat.beq o 0) (ckR (Nat.beq (Nat.mul l esz) n) (ckR (Nat.ble (Nat.mul (Nat.add l (Nat.succ c)) bytes) 70368744177664) (ckR (Nat.ble (Nat.add n (Nat.mul (Nat.succ c) esz)) BX)
    (k (.gsl h m esz 0 (Nat.add l (Nat.succ c))) (cp hp h (.grow m esz (lO t n xt xo (Nat.mul (Nat.succ c) esz)) (Nat.add n (Nat.mul (Nat.succ c) esz))))) sl) sl) sl) sl) sl) sl) sl) sl) sl)
  c
def apG (esz bytes:Nat) (s x:U) (hp:HP) (nx:Nat) (k:U→HP→Rv) (sl:Rv):Rv:=gcG hp esz x (fun c xt xo=>ba nx fun m=>apX esz bytes hp m s c xt xo k sl) sl
def wP (l:List Operand) (ev:Operand→U):List V:=List.rec (motive:=fun _=>List V) [] (fun x _ ih=>(ev x).toV::ih) l
structure En where
 e0:Nat
 e1:Nat
 e2:Nat
 e3:Nat
def en0:En:=⟨0,0,0,0⟩
abbrev Gt:=U→U→U→U→TM→U
def isK (K i:Nat):Bool:=Bool.rec (motive:=fun _=>Bool) false (Nat.beq (Nat.mod (Nat.shiftRight K i) 2) 1) (Nat.ble (Nat.succ i) 512)
def u0:U:= .oth .any
def cr (K:Nat) (e:En) (i:Nat):Gt:=
 Bool.rec (motive:=fun _=>Gt) (Bool.rec (motive:=fun _=>Gt) (Bool.rec (motive:=fun _=>Gt) (Bool.rec (motive:=fun _=>Gt) (Bool.rec (motive:=fun _=>Gt) (fun _ _ _ _ _=>u0) (Ac.rec (motive:=fun _=>Gt) (fun g _=>fun _ _ _ _ tm=>g tm) (bP i)) (isK K i))
  (fun _ _ _ r _=>r) (Nat.beq e.e3 (Nat.succ i))) (fun _ _ r _ _=>r) (Nat.beq e.e2 (Nat.succ i))) (fun _ r _ _ _=>r) (Nat.beq e.e1 (Nat.succ i))) (fun r _ _ _ _=>r) (Nat.beq e.e0 (Nat.succ i))
def rdS (K:Nat) (e:En) (x:Operand):Gt:=Operand.rec (motive:=fun _=>Gt) (fun i=>cr K e i) (fun v _ _ _ _ _=>gP (cv v)) (fun _ _ _ _ _ _=>u0) (fun f _ _ _ _ _=> .oth (.fn f [])) x
def y7 (l:List Gt):U→U→U→U→TM→List V→List U:=List.rec (motive:=fun _=>U→U→U→U→TM→List V→List U) (fun _ _ _ _ _ cs=>cs.map gP) (fun g _ ih a b c d tm cs=>g a b c d tm::ih a b c d tm cs) l
def FU (l:List Gt) (f a b c d:U) (tm:TM) (k:FuncId→List U→Rv) (sl:Rv):Rv:=uFn f (fun g cs=>ckR (bk cs) (k g (y7 l a b c d tm cs)) sl) sl
inductive PG where
 | at (o s:Nat) (g:Gt)
def zA (a b c d:U) (tm:TM) (n:Nat) (l:List PG):CT→(CT→Rv)→Rv→Rv:=List.rec (motive:=fun _=>CT→(CT→Rv)→Rv→Rv) (fun t k _=>k t)
 (fun q _ ih t k sl=>PG.rec (motive:=fun _=>Rv) (fun o s g=>ckR (Nat.ble (Nat.add o s) n) (uCA (g a b c d tm) (fun x=>ckR (Nat.beq s 1) (ih (cJ t o x) k sl) sl) (fun xt m=>ckR (Nat.beq s m) (ih (lO t o xt 0 m) k sl) sl) sl) sl) q) l
def FS (esz n:Nat) (z:CT) (len:Nat) (a b c d:U) (tm:TM) (l:List PG) (hp:HP) (nx:Nat) (k:U→HP→Rv) (sl:Rv):Rv:=zA a b c d tm len l z (fun t=>ba nx fun m=>yw m hp (.grow m esz t len) (.gsl m m esz 0 n) k sl) sl
abbrev VaF:=U→U→U→U→TM→HP→Nat→(U→Rv)→Rv→Rv
abbrev MeF:=U→U→U→U→TM→HP→Nat→(U→HP→Rv)→Rv→Rv
abbrev CaF:=U→U→U→U→TM→(FuncId→List U→Rv)→Rv→Rv
inductive Stp where
 | slow
 | val (f:VaF)
 | mem (f:MeF)
 | cal (f:CaF)
def zM (K:Nat) (e:En) (i:Nat) (k:Gt→Stp):Stp:=
 Bool.rec (motive:=fun _=>Stp) (Bool.rec (motive:=fun _=>Stp) (Bool.rec (motive:=fun _=>Stp) (Bool.rec (motive:=fun _=>Stp) (Bool.rec (motive:=fun _=>Stp) (k fun _ _ _ _ _=>u0) (Ac.rec (motive:=fun _=>Stp) (fun g _=>k fun _ _ _ _ tm=>g tm) (bP i)) (isK K i))
  (k fun _ _ _ r _=>r) (Nat.beq e.e3 (Nat.succ i))) (k fun _ _ r _ _=>r) (Nat.beq e.e2 (Nat.succ i))) (k fun _ r _ _ _=>r) (Nat.beq e.e1 (Nat.succ i))) (k fun r _ _ _ _=>r) (Nat.beq e.e0 (Nat.succ i))
def cw (K:Nat) (e:En) (x:Operand) (k:Gt→Stp):Stp:=Operand.rec (motive:=fun _=>Stp) (fun i=>zM K e i k) (fun v=>U.rec (motive:=fun _=>Stp) (fun ik n=>k fun _ _ _ _ _=> .int ik n) (fun b=>k fun _ _ _ _ _=> .kb b) (fun h o=>k fun _ _ _ _ _=> .ptr h o) (fun h v o=>k fun _ _ _ _ _=> .gp h v o) (fun h v e o l=>k fun _ _ _ _ _=> .gsl h v e o l) (fun v=>k fun _ _ _ _ _=> .oth v) (fun t n=>k fun _ _ _ _ _=> .agg t n) (fun l=>k fun _ _ _ _ _=> .tup l) (gP (cv v))) (fun _=>k fun _ _ _ _ _=>u0) (fun f=>k fun _ _ _ _ _=> .oth (.fn f [])) x
def CH (K:Nat) (e:En) (l:List Operand) :(List Gt→Stp)→Stp:=List.rec (motive:=fun _=>(List Gt→Stp)→Stp) (fun k=>k []) (fun x _ ih k=>cw K e x fun g=>ih fun gs=>k (g::gs)) l
def si (K:Nat) (e:En) (pi:Nat→PI) (l:List (Nat×Operand)) :(List PG→Stp)→Stp:=List.rec (motive:=fun _=>(List PG→Stp)→Stp) (fun k=>k []) (fun q _ ih k=>PI.rec (motive:=fun _=>Stp) .slow (fun o s=>cw K e q.2 fun g=>ih fun gs=>k (.at o s g::gs)) (pi q.1)) l
def wO (x:Operand) (K:Nat) (e:En) (_:Tbl):Stp:=cw K e x fun gx=> .val fun a b c d tm _ _ k _=>k (gx a b c d tm)
def Cx (p x y:Operand) (K:Nat) (e:En) (_:Tbl):Stp:=cw K e p fun gp=>cw K e x fun gx=>cw K e y fun gy=> .val fun a b c d tm _ _=>Ft (gp a b c d tm) (gx a b c d tm) (gy a b c d tm)
def vi (t:TypeId) (_:Nat) (_:En) (tb:Tbl):Stp:=ZTI.rec (motive:=fun _=>Stp) .slow (fun z n=> .mem fun _ _ _ _ _ hp nx k sl=>ba nx fun m=>yw m hp (.cells z n) (.ptr m 0) k sl) (qI tb t)
def EL (_:TypeId) (x:Operand) (K:Nat) (e:En) (_:Tbl):Stp:=cw K e x fun gx=> .mem fun a b c d tm hp nx k sl=>ba nx fun m=>FR (gx a b c d tm) hp m k sl
def ldS (i:TI) :(LdF→Stp)→Stp:=TI.rec (motive:=fun _=>(LdF→Stp)→Stp) (fun _=> .slow) (fun k=>k tZ) (fun n k=>k (tY n)) i
def Cw (t:TypeId) (x:Operand) (K:Nat) (e:En) (tb:Tbl):Stp:=ldS (tyI tb t) fun ld=>cw K e x fun gx=> .val fun a b c d tm hp _=>ldG ld (gx a b c d tm) hp
def stS (i:TI) :(StF→Stp)→Stp:=TI.rec (motive:=fun _=>(StF→Stp)→Stp) (fun _=> .slow) (fun k=>k CU) (fun n k=>k (CS n)) i
def zi (t:TypeId) (x y:Operand) (K:Nat) (e:En) (tb:Tbl):Stp:=stS (tyI tb t) fun st=>cw K e x fun gx=>cw K e y fun gy=> .mem fun a b c d tm hp _=>stG st (gx a b c d tm) (gy a b c d tm) hp
def cFA (t:TypeId) (x:Operand) (f:Nat) (K:Nat) (e:En) (tb:Tbl):Stp:=Option.rec (motive:=fun _=>Stp) .slow (fun o=>cw K e x fun gx=> .val fun a b c d tm _ _=>faG o (gx a b c d tm)) (BG tb t f)
def cFV (t:TypeId) (x:Operand) (f:Nat) (K:Nat) (e:En) (tb:Tbl):Stp:=FVI.rec (motive:=fun _=>Stp) .slow (fun o i=>ldS i fun ld=>cw K e x fun gx=> .val fun a b c d tm _ _=>fvG o ld (gx a b c d tm)) (DB tb t f)
def cIA (t:TypeId) (x i:Operand) (K:Nat) (e:En) (tb:Tbl):Stp:=IXI.rec (motive:=fun _=>Stp) .slow
 (fun esz=>cw K e x fun gx=>cw K e i fun gi=> .val fun a b c d tm hp _=>F6 esz (gx a b c d tm) (gi a b c d tm) hp)
 (fun l esz=>cw K e x fun gx=>cw K e i fun gi=> .val fun a b c d tm _ _=>F5 l esz (gx a b c d tm) (gi a b c d tm)) (BO tb t)
def Dm (t:TypeId) (x i:Operand) (K:Nat) (e:En) (tb:Tbl):Stp:=IVI.rec (motive:=fun _=>Stp) .slow (fun l esz ti=>ldS ti fun ld=>cw K e x fun gx=>cw K e i fun gi=> .val fun a b c d tm _ _=>ixV l esz ld (gx a b c d tm) (gi a b c d tm)) (DN tb t)
def FQ (op:BinOp) :(xP→Stp)→Stp:=BinOp.rec (motive:=fun _=>(xP→Stp)→Stp)
 (fun k=>k EX) (fun k=>k E4) (fun k=>k EY) (fun k=>k EZ) (fun k=>k E3) (fun _=> .slow) (fun _=> .slow) (fun _=> .slow) (fun _=> .slow) (fun _=> .slow) (fun _=> .slow)
 (fun k=>k fEq) (fun k=>k fNe) (fun k=>k fLt) (fun k=>k fLe) (fun k=>k fGt) (fun k=>k fGe) op
def Dh (op:BinOp) (t:TypeId) (x y:Operand) (_:TypeId) (K:Nat) (e:En) (tb:Tbl):Stp:=Bool.rec (motive:=fun _=>Stp) .slow (FQ op fun f=>cw K e x fun gx=>cw K e y fun gy=> .val fun a b c d tm _ _=>Bo f (gx a b c d tm) (gy a b c d tm)) (Ex tb t)
def cUn (op:UnOp) (_:TypeId) (x:Operand) (K:Nat) (e:En) (_:Tbl):Stp:=UnOp.rec (motive:=fun _=>Stp) .slow .slow (cw K e x fun gx=> .val fun a b c d tm _ _=>Gc (gx a b c d tm)) .slow op
def ze (s t:TypeId) (x:Operand) (K:Nat) (e:En) (tb:Tbl):Stp:=Option.rec (motive:=fun _=>Stp) .slow (fun ik=>cw K e x fun gx=> .val fun a b c d tm _ _=>cvG ik (gx a b c d tm)) (cvI tb s t)
def cMF (fn:Fn) (first caps:Array Operand) (K:Nat) (e:En) (_:Tbl):Stp:=match fn with
 | .func f=>Bool.rec (motive:=fun _=>Stp) .slow (.val fun a b c d tm _ _ k sl=>ckR (bk (wP caps.toList fun x=>rdS K e x a b c d tm)) (k (.oth (.fn f (wP caps.toList fun x=>rdS K e x a b c d tm)))) sl) (Nat.beq first.size 0)
 | _=> .slow
def EN (x:Operand) (i:Nat) (K:Nat) (e:En) (_:Tbl):Stp:=cw K e x fun gx=> .val fun a b c d tm _ _=>exG i (gx a b c d tm)
def EO (x:Operand) (K:Nat) (e:En) (_:Tbl):Stp:=cw K e x fun gx=> .val fun a b c d tm _ _=>Ga (gx a b c d tm)
def vj (t:TypeId) (parts:Array (Nat×Operand)) (K:Nat) (e:En) (tb:Tbl):Stp:=Bool.rec (motive:=fun _=>Stp) .slow (ZTI.rec (motive:=fun _=>Stp) .slow (fun z n=>si K e (AB tb t) parts.toList fun gs=> .val fun a b c d tm _ _ k sl=>zA a b c d tm n gs z (fun t=>k (.agg t n)) sl) (qI tb t)) (qR tb t)
def Dg (t:TypeId) (n:Nat) (parts:Array (Nat×Operand)) (K:Nat) (e:En) (tb:Tbl):Stp:=SLI.rec (motive:=fun _=>Stp) .slow (fun esz z len=>si K e (fun i=> .at (Nat.mul i esz) esz) parts.toList fun gs=> .mem fun a b c d tm hp nx=>FS esz n z len a b c d tm gs hp nx) (De tb t n)
def vk (t:TypeId) (x:Operand) (lo hi mx:Option Operand) (K:Nat) (e:En) (tb:Tbl):Stp:=Option.rec (motive:=fun _=>Stp) (Option.rec (motive:=fun _=>Stp) .slow (fun esz=>cw K e x fun gx=> .val fun a b c d tm hp _=>Gf esz (gx a b c d tm) lo hi (fun x=>rdS K e x a b c d tm) hp) (El tb t)) (fun _=> .slow) mx
def vT (l:List Operand) (k:Operand→Stp):Stp:=List.rec (motive:=fun _=>Stp) .slow (fun x r _=>List.rec (motive:=fun _=>Stp) (k x) (fun _ _ _=> .slow) r) l
def Bc (l:List Operand) (k:Operand→Operand→Stp):Stp:=List.rec (motive:=fun _=>Stp) .slow (fun x r _=>vT r (k x)) l
def Dn (q:Call) (K:Nat) (e:En) (tb:Tbl):Stp:=Bool.rec (motive:=fun _=>Stp) .slow (vT q.args.toList fun x=>cw K e x fun gx=> .val fun a b c d tm hp _=>F8 (gx a b c d tm) hp) (zY tb q)
def Df (q:Call) (K:Nat) (e:En) (tb:Tbl):Stp:=API.rec (motive:=fun _=>Stp) .slow (fun esz bytes=>Bc q.args.toList fun s x=>cw K e s fun gs=>cw K e x fun gx=> .mem fun a b c d tm hp nx=>apG esz bytes (gs a b c d tm) (gx a b c d tm) hp nx) (Db tb q)
def fb (_:Call) (_:Nat) (_:En) (_:Tbl):Stp:= .slow
def EM (b:Builtin):Call→Nat→En→Tbl→Stp:=Builtin.rec (motive:=fun _=>Call→Nat→En→Tbl→Stp) Df fb fb fb fb fb fb fb Dn fb fb fb fb fb fb fb fb fb fb fb fb fb fb fb fb fb b
def za (q:Call) (K:Nat) (e:En) (tb:Tbl):Stp:=Callee.rec (motive:=fun _=>Stp) (fun f=>cw K e f fun gf=>CH K e q.args.toList fun gs=> .cal fun a b c d tm=>FU gs (gf a b c d tm) a b c d tm) (fun _ _=> .slow) (fun b=>EM b q K e tb) q.callee
def cmp (K:Nat) (e:En) (tb:Tbl) (op:Op):Stp:=Op.rec (motive:=fun _=>Nat→En→Tbl→Stp)
 wO
 wO
 Cx
 vi
 EL
 vj
 Dg
 (fun _ _ _ _ _ _ _=> .slow)
 Cw
 zi
 (fun _ _ _ _=> .slow)
 (fun _ _ _ _=> .slow)
 EO
 Dh
 cUn
 ze
 (fun _ _ _ _ _=> .slow)
 (fun _ _ _ _ _=> .slow)
 cMF
 (fun _ _ _ _ _=> .slow)
 (fun _ _ _ _ _=> .slow)
 (fun _ _ _ _ _ _=> .slow)
 vk
 cFA
 cFV
 cIA
 Dm
 (fun _ _ _ _ _ _ _=> .slow)
 (fun _ _ _ _ _ _ _=> .slow)
 (fun _ _ _ _ _ _=> .slow)
 (fun _ _ _ _ _ _ _=> .slow)
 (fun _ _ _ _ _=> .slow)
 (fun _ _ _ _ _=> .slow)
 (fun _ _ _ _=> .slow)
 (fun _ _ _ _ _ _ _=> .slow)
 EN
 za
 (fun _ _ _ _=> .slow)
 (fun _ _ _ _=> .slow)
 (fun _ _ _ _=> .slow)
 (fun _ _ _ _ _=> .slow)
 (fun _ _ _ _ _ _=> .slow)
 (fun _ _ _ _ _=> .slow) op K e tb
def hpH (hp:HP):aj:=fun h=>(aI hp h).toB
def oA:List (Nat×Blk)→HP→Option HP
 | [],hp=>some hp
 |(h,b)::r,hp=>match oA r hp with
  | some hp=>bif Nat.ble (Nat.succ h) BW then match b with
   | .cells cs=>bif eE cs then some (cp hp h (.cells (ofL cs) cs.length)) else none
   | .grow v e cs=>bif eE cs then some (cp hp h (.grow v e (ofL cs) cs.length)) else none
   | .mp es=>some (cp hp h (.mp es))
   | .row _ _ _ _=>none
   else none
  | none=>none
def kbV:V→V
 | .agg cs=> .agg (cs.map gj)
 | .tup vs=> .tup (vs.map fun v=>match v with
  | .agg cs=> .agg (cs.map gj)
  | v=>gj v)
 | v=>gj v
def CR (tb:Tbl) (N:Nat) (op:Op) (ev:Operand→U) (hp:HP) (nx:Nat) (k:U→HP→Rv):Rv:=ba nx fun nx=>
 match nt tb N nx (hpH hp) (fun x=>(ev x).toV) op with
 | some (ps,v,dh)=>match CG ps with
  | true=>match oA dh hp with
   | some hp=>k (gP (kbV v)) hp
   | none=> .no [104]
  | false=> .no [100]
 | none=> .no [101]
abbrev RgF:=U→U→U→U→du→TM→HP→Nat→Rv
structure Cds where
 run:RgF
abbrev FN:=U→TM→TM
inductive DK where
 | none
 | drop
 | keep (p:FN)
def dkS (K:Nat) (d:Option Nat):DK:=Option.rec (motive:=fun _=>DK) .none (fun i=>Bool.rec (motive:=fun _=>DK) .drop (Ac.rec (motive:=fun _=>DK) (fun _ p=> .keep p) (bP i)) (isK K i)) d
def enS (e:En) (d:Option Nat):En:=Option.rec (motive:=fun _=>En) e (fun i=>⟨Nat.succ i,e.e0,e.e1,e.e2⟩) d
def gF (dk:DK) (nxt:Cds):U→U→U→U→U→du→TM→HP→Nat→Rv:=DK.rec (motive:=fun _=>U→U→U→U→U→du→TM→HP→Nat→Rv)
 (fun _ a b c d call tm hp nx=>Cds.run nxt a b c d call tm hp nx)
 (fun u a b c _ call tm hp nx=>Cds.run nxt u a b c call tm hp nx)
 (fun p u a b c _ call tm hp nx=>Cds.run nxt u a b c call (p u tm) hp nx) dk
def ER (r:Rf):FuncId→(U→HP→Nat→Rv)→Rv:=Rf.rec (motive:=fun _=>FuncId→(U→HP→Nat→Rv)→Rv) (fun v hp nx _ k=>k v hp nx) (fun v hp nx _ k=>k v hp nx) (fun w g _=> .no (g::w)) r
def lF (tb:Tbl) (N K:Nat) (e:En) (op:Op) (dk:DK) (nxt:Cds) (a b c d:U) (call:du) (tm:TM) (hp:HP) (nx:Nat):Rv:=CR tb N op (fun x=>rdS K e x a b c d tm) hp nx fun u hp=>gF dk nxt u a b c d call tm hp (Nat.succ nx)
def sH (tb:Tbl) (N K:Nat) (e:En) (op:Op) (dk:DK) (nxt:Cds) (s:Stp):Cds:=Stp.rec (motive:=fun _=>Cds)
 ⟨lF tb N K e op dk nxt⟩
 (fun f=>DK.rec (motive:=fun _=>Cds)
  ⟨fun a b c d call tm hp nx=>f a b c d tm hp nx (fun _=>Cds.run nxt a b c d call tm hp (Nat.succ nx)) (lF tb N K e op dk nxt a b c d call tm hp nx)⟩
  ⟨fun a b c d call tm hp nx=>f a b c d tm hp nx (fun u=>Cds.run nxt u a b c call tm hp (Nat.succ nx)) (lF tb N K e op dk nxt a b c d call tm hp nx)⟩
  (fun p=>⟨fun a b c d call tm hp nx=>f a b c d tm hp nx (fun u=>Cds.run nxt u a b c call (p u tm) hp (Nat.succ nx)) (lF tb N K e op dk nxt a b c d call tm hp nx)⟩) dk)
 (fun f=>⟨fun a b c d call tm hp nx=>f a b c d tm hp nx (fun u hp=>gF dk nxt u a b c d call tm hp (Nat.succ nx)) (lF tb N K e op dk nxt a b c d call tm hp nx)⟩)
 (fun f=>⟨fun a b c d call tm hp nx=>f a b c d tm (fun g args=>ER (call g args hp nx) g fun u hp nx=>gF dk nxt u a b c d call tm hp nx) (lF tb N K e op dk nxt a b c d call tm hp nx)⟩) s
def zC (all:List Oper) (j:Nat):Option Nat:=match all[j]? with
 | some oj=>oj.dst
 | none=>none
def EJ:Cds:=⟨fun _ _ _ _ _ _ _ _=> .no [102]⟩
def zJ (K:Nat) (e:En) (i:Nat) (k:Gt→Cds):Cds:=
 Bool.rec (motive:=fun _=>Cds) (Bool.rec (motive:=fun _=>Cds) (Bool.rec (motive:=fun _=>Cds) (Bool.rec (motive:=fun _=>Cds) (Bool.rec (motive:=fun _=>Cds) (k fun _ _ _ _ _=>u0) (Ac.rec (motive:=fun _=>Cds) (fun g _=>k fun _ _ _ _ tm=>g tm) (bP i)) (isK K i))
  (k fun _ _ _ r _=>r) (Nat.beq e.e3 (Nat.succ i))) (k fun _ _ r _ _=>r) (Nat.beq e.e2 (Nat.succ i))) (k fun _ r _ _ _=>r) (Nat.beq e.e1 (Nat.succ i))) (k fun r _ _ _ _=>r) (Nat.beq e.e0 (Nat.succ i))
def gdC (K:Nat) (e:En) (dj:Nat) (want:Bool) (dk:DK) (nxt un:Cds):Cds:=zJ K e dj fun g=>Bool.rec (motive:=fun _=>Cds)
 ⟨fun a b c d call tm hp nx=>FE (g a b c d tm) (Cds.run un a b c d call tm hp nx) (gF dk nxt (.tup []) a b c d call tm hp nx) (.no [105])⟩
 ⟨fun a b c d call tm hp nx=>FF (g a b c d tm) (Cds.run un a b c d call tm hp nx) (gF dk nxt (.tup []) a b c d call tm hp nx) (.no [105])⟩ want
def D9 (tb:Tbl) (N K:Nat) (all:List Oper) (e:En) (o:Oper) (dk:DK) (nxt:Cds):Cds:=Option.rec (motive:=fun _=>Cds) (sH tb N K e o.op dk nxt (cmp K e tb o.op))
 (fun q=>Option.rec (motive:=fun _=>Cds) EJ (fun dj=>gdC K e dj q.2 dk nxt (sH tb N K e o.op dk nxt (cmp K e tb o.op))) (zC all q.1)) o.guard
def Fs (tb:Tbl) (N K:Nat) (all l:List Oper):En→Cds:=List.rec (motive:=fun _=>En→Cds) (fun _=>⟨fun _ _ _ _ _ tm hp nx=> .go .nrm tm hp nx⟩) (fun o _ ih e=>D9 tb N K all e o (dkS K o.dst) (ih (enS e o.dst))) l
def oN (tm:TM) (i:Nat) (u:U):TM:=Ac.rec (motive:=fun _=>U→TM→TM) (fun _ p=>p) (bP i) u tm
def wEx (v:V):Option W:=match v with
 | .agg cs=>Bool.rec (motive:=fun _=>Option W) none (some (.agg (ofL cs) cs.length)) (eE cs)
 | .tup _=>none
 | v=>some (.c (xW v))
def Bg:List V→Option (List W)
 | []=>some []
 | v::r=>match wEx v with
  | some w=>match Bg r with
   | some l=>some (w::l)
   | none=>none
  | none=>none
def uEx (v:V):Option U:=match v with
 | .agg cs=>Bool.rec (motive:=fun _=>Option U) none (some (.agg (ofL cs) cs.length)) (eE cs)
 | .tup vs=>match Bg vs with
  | some l=>some (.tup l)
  | none=>none
 | .bool b=>some (.kb b)
 | .int k n=>some (.int k n)
 | .kb b=>some (.kb b)
 | .ptr h o=>some (.ptr h o)
 | .gp h v o=>some (.gp h v o)
 | .gsl h v e o l=>some (.gsl h v e o l)
 | v=>some (.oth v)
def p7 (K:Nat) (tm:TM) (i:Nat):V:=(cr K en0 i u0 u0 u0 u0 tm).toV
def vE (K:Nat) (all:List Oper) (tm:TM) (o:Oper):Option Bool:=
 match o.guard with
 | none=>some true
 | some (j,want)=>match all[j]? with
  | some oj=>match oj.dst with
   | some dj=>match p7 K tm dj with
    | .kb b=>some (b==want)
    | .tup []=>some false
    | _=>none
   | none=>none
  | none=>none
def dx (K:Nat) (rs:List Nat) (tm:TM):Operand→V
 | .tmp t=>bif memN rs t then p7 K tm t else .any
 | .const v=>cv v
 | .func f=> .fn f []
 | .global _=> .any
def tc (N K:Nat) (d:Option Nat):Bool:=match d with
 | some d=>Nat.blt d N&&isK K d
 | none=>true
def jm (d:Option Nat) (u:U) (tm:TM):TM:=match d with
 | some d=>oN tm d u
 | none=>tm
def DF (c:C) (r:List Nat):List Nat:=C.rec (motive:=fun _=>List Nat) (fun _ _=>r) (fun _=>r) (fun h _=>h::r) (fun h _ _=>h::r) (fun h _ _ _ _=>h::r) (fun v=>v.hs++r) c
def hsT (t:CT) (n:Nat):Nat→List Nat:=Nat.rec (motive:=fun _=>Nat→List Nat) (fun _=> []) (fun _ ih i=>DF (bu t i) (ih (Nat.succ i))) n
def rN (b:Bk):List Nat:=Bk.rec (motive:=fun _=>List Nat) [] (fun t n=>hsT t n 0) (fun _ _ t n=>hsT t n 0) (fun es=>hsE es) b
def Ff (b:Bk):Bool:=Bk.rec (motive:=fun _=>Bool) false (fun _ _=>true) (fun _ _ _ _=>true) (fun _=>true) b
def mj (hp:HP):Nat→List Nat→List Nat→List Nat
 | 0,_,acc=>acc
 | n+1,new,acc=>
  let add:=new.filter fun h=>!memN acc h
  let nxt:=add.flatMap fun h=>rN (aI hp h)
  match add with
  | []=>acc
  | _=>mj hp n nxt (add++acc)
def rH (hp:HP) (R:List Nat) (m K:Nat) (v:V) (dh:List (Nat×Blk)):Bool:=
 (R.all fun h=>bif Ff (aI hp h) then jW R m K (rN (aI hp h)) else false)&&(dh.all fun q=>jW R m K [q.1]&&jW R m K q.2.hs)&&jW R m K v.hs
def eqC (c d:C):Bool:=C.rec (motive:=fun _=>Bool)
 (fun k n=>C.rec (motive:=fun _=>Bool) (fun k' n'=>Bool.rec (motive:=fun _=>Bool) false (eqS n n') (DI k k')) (fun _=>false) (fun _ _=>false) (fun _ _ _=>false) (fun _ _ _ _ _=>false) (fun _=>false) d)
 (fun b=>C.rec (motive:=fun _=>Bool) (fun _ _=>false) (fun b'=>Bool.rec (motive:=fun _=>Bool) (yz b') b' b) (fun _ _=>false) (fun _ _ _=>false) (fun _ _ _ _ _=>false) (fun _=>false) d)
 (fun h o=>C.rec (motive:=fun _=>Bool) (fun _ _=>false) (fun _=>false) (fun h' o'=>Bool.rec (motive:=fun _=>Bool) false (Nat.beq o o') (Nat.beq h h')) (fun _ _ _=>false) (fun _ _ _ _ _=>false) (fun _=>false) d)
 (fun h v o=>C.rec (motive:=fun _=>Bool) (fun _ _=>false) (fun _=>false) (fun _ _=>false) (fun h' v' o'=>Bool.rec (motive:=fun _=>Bool) false (Bool.rec (motive:=fun _=>Bool) false (Nat.beq o o') (Nat.beq v v')) (Nat.beq h h')) (fun _ _ _ _ _=>false) (fun _=>false) d)
 (fun h v e o l=>C.rec (motive:=fun _=>Bool) (fun _ _=>false) (fun _=>false) (fun _ _=>false) (fun _ _ _=>false) (fun h' v' e' o' l'=>Bool.rec (motive:=fun _=>Bool) false (Bool.rec (motive:=fun _=>Bool) false (Bool.rec (motive:=fun _=>Bool) false (Bool.rec (motive:=fun _=>Bool) false (Nat.beq l l') (Nat.beq o o')) (Nat.beq e e')) (Nat.beq v v')) (Nat.beq h h')) (fun _=>false) d)
 (fun v=>C.rec (motive:=fun _=>Bool) (fun _ _=>false) (fun _=>false) (fun _ _=>false) (fun _ _ _=>false) (fun _ _ _ _ _=>false) (fun v'=>V.eqb v v') d) c
def eqT (t t':CT) (n:Nat):Nat→Bool:=Nat.rec (motive:=fun _=>Nat→Bool) (fun _=>true) (fun _ ih i=>Bool.rec (motive:=fun _=>Bool) false (ih (Nat.succ i)) (eqC (bu t i) (bu t' i))) n
def yf (b d:Bk):Bool:=Bk.rec (motive:=fun _=>Bool) (Bk.rec (motive:=fun _=>Bool) true (fun _ _=>false) (fun _ _ _ _=>false) (fun _=>false) d)
 (fun t n=>Bk.rec (motive:=fun _=>Bool) false (fun t' n'=>Bool.rec (motive:=fun _=>Bool) false (eqT t t' n 0) (Nat.beq n n')) (fun _ _ _ _=>false) (fun _=>false) d)
 (fun v e t n=>Bk.rec (motive:=fun _=>Bool) false (fun _ _=>false) (fun v' e' t' n'=>Bool.rec (motive:=fun _=>Bool) false (Bool.rec (motive:=fun _=>Bool) false (Bool.rec (motive:=fun _=>Bool) false (eqT t t' n 0) (Nat.beq n n')) (Nat.beq e e')) (Nat.beq v v')) (fun _=>false) d)
 (fun es=>Bk.rec (motive:=fun _=>Bool) false (fun _ _=>false) (fun _ _ _ _=>false) (fun es'=>yg es es') d) b
def fP:List Nat→(List Nat→Rv)→Rv
 | [],k=>k []
 | n::r,k=>ba n fun n=>fP r fun r=>k (n::r)
def od (hp:HP):List Nat→HP→HP
 | [],t=>t
 | h::r,t=>od hp r (cp t h (aI hp h))
def yt (hp':HP):List Nat→HP→Option (HP×List (Nat×Blk))
 | [],hp=>some (hp,[])
 | h::r,hp=>match (aI hp' h).toB with
  | some b=>match yt hp' r hp with
   | some (hp,dh)=>some (cp hp h (aI hp' h),(h,b)::dh)
   | none=>none
  | none=>none
def vp (call:du) (g:FuncId) (args:List U) (hp:HP) (R:List Nat) (m:Nat) (k:U→HP→List (Nat×Blk)→Nat→Rv):Rv:=
 match call g args (od hp R hp0) m with
 | .ok u hp' nx=>fP (R.filter fun h=>!yf (aI hp h) (aI hp' h)) fun chg=>fP ((mj hp' 64 (u.toV.hs++chg) []).filter fun h=>!(memN R h&&!memN chg h)) fun keys=>
   bif chg.all (fun h=>memN keys h) then match yt hp' keys hp with
    | some (hp,dh)=>k u hp dh nx
    | none=> .no [23]
   else .no [22]
 | .ex _ _ _=> .no [24]
 | .no w=> .no (g::w)
def xK (all:List Oper) (o o':Oper):Bool:=mM o.dst.toList o'.dst.toList&&mM o.dst.toList (af all o')&&mM o'.dst.toList (af all o)
def xL (ms:List Nat) (all:List Oper) (i:Nat) (o:Oper):Nat→List Oper→Bool
 | _,[]=>true
 | j,o'::os=>(((ms[j]?).getD 0).testBit i||xK all o o')&&xL ms all i o (j+1) os
def xI (ms:List Nat) (all:List Oper):Nat→List Oper→Bool
 | _,[]=>true
 | i,o::os=>xL ms all i o (i+1) os&&xI ms all (i+1) os
def xJ (all:List Oper):Bool:=cb 0 all&&xI (bj all []) all 0 all
def zr (r s:Rec):Bool:=mM (r.dh.map (·.1)) (s.dh.map (·.1))&&mM (r.dh.map (·.1)) s.R
def yE (ms:List Nat) (i j:Nat):Bool:=Nat.beq i j ||(bif Nat.blt i j then ((ms[j]?).getD 0).testBit i else ((ms[i]?).getD 0).testBit j)
def zt (ms:List Nat) (i:Nat) (r:Rec):Nat→List Rec→Bool
 | _,[]=>true
 | j,s::ss=>(yE ms i j||zr r s)&&zt ms i r (j+1) ss
def yd (ms:List Nat) (recs:List Rec):Nat→List Rec→Bool
 | _,[]=>true
 | i,r::rs=>(match r.dh with
  | []=>true
  | _::_=>zt ms i r 0 recs)&&yd ms recs (i+1) rs
abbrev Alt:=Option (Nat×(Blk→Bool))
def lkD (tb:Tbl) (ev:Operand→V) (op:Op):Option (Nat×TD×TD×V×Bool):=match op with
 | .lookup t x k ok=>match gh tb t with
  | some q=>match ev x with
   | .mpv h=>some (h,q.1,q.2,ev k,ok)
   | _=>none
  | none=>none
 | _=>none
def D6 (tk te:TD) (h0:Nat) (k:V) (ok:Bool) (v:V) (b:Blk):Bool:=match bG tk te (fun _=>some b) (.mpv h0) k ok with
 | .val _ v' _=>V.eqb v' v
 | _=>false
def y5 (ms:List Nat) (i h0:Nat) (okB:Blk→Bool):Nat→List Rec→Bool
 | _,[]=>true
 | j,s::ss=>(match find s.dh h0 with
  | none=>true
  | some b=>Nat.beq i j ||(bif Nat.blt j i then ((ms[i]?).getD 0).testBit j else ((ms[j]?).getD 0).testBit i||okB b))&&y5 ms i h0 okB (j+1) ss
def qQ (ms:List Nat) (recs:List Rec):Nat→List Alt→Bool
 | _,[]=>true
 | i,none::r=>qQ ms recs (i+1) r
 | i,some (h0,okB)::r=>y5 ms i h0 okB 0 recs&&qQ ms recs (i+1) r
def iD (tb:Tbl) (N K:Nat) (call:du) (all:List Oper):List Oper→TM→HP→Nat→List (Rec×Alt)→Rv
 | [],tm,hp,nx,recs=>bif xJ all&&(yd (bj all []) (recs.reverse.map (·.1)) 0 (recs.reverse.map (·.1))&&qQ (bj all []) (recs.reverse.map (·.1)) 0 (recs.reverse.map (·.2))) then .go .nrm tm hp nx else .no [30]
 | o::rest,tm,hp,nx,recs=>bif tc N K o.dst then
   match vE K all tm o with
   | some false=>ba (nx+1) fun nx=>iD tb N K call all rest (jm o.dst (.tup []) tm) hp nx ((⟨o.dst,.tup [],[],[],af all o⟩,none)::recs)
   | some true=>fP (af all o) fun rs=>match lkD tb (dx K rs tm) o.op with
    | some (h0,tk,te,k,ok)=>match bG tk te (hpH hp) (.mpv h0) k ok with
     | .val _ v _=>match uEx v with
      | some u=>ba (nx+1) fun nx=>iD tb N K call all rest (jm o.dst u tm) hp nx ((⟨o.dst,gj v,[],[],rs⟩,some (h0,D6 tk te h0 k ok v))::recs)
      | none=> .no [39,rest.length]
     | _=> .no [40,rest.length]
    | none=>bif kW (dx K rs tm) o.op then fP (o.op.operands.toList.flatMap fun x=>(dx K rs tm x).hs) fun R=>
     match nt tb N nx (hpH hp) (dx K rs tm) o.op with
     | none=> .no [37,rest.length]
     | some (ps,v,dh)=>bif ps.all Ob.chk then match uEx v,oA dh hp with
       | some u,some hp'=>ba (nx+1) fun nx=>iD tb N K call all rest (jm o.dst u tm) hp' nx ((⟨o.dst,gj v,dh,R,rs⟩,none)::recs)
       | _,_=> .no [36,rest.length]
      else .no [38,rest.length]
    else fP (mj hp 8 (o.op.operands.toList.flatMap fun x=>(dx K rs tm x).hs) []) fun R=>
    match evA tb N nx (restr (hpH hp) R) (dx K rs tm) o.op with
    | .call g args=>vp call g (args.map gP) hp R nx fun u hp' dh nx2=>
      bif rH hp R nx (nx2+1 - nx) u.toV dh then
       ba (nx2+1) fun nx=>iD tb N K call all rest (jm o.dst u tm) hp' nx ((⟨o.dst,u.toV,dh,R,rs⟩,none)::recs)
      else .no [31,rest.length]
    | .plain none=> .no [33,rest.length]
    | .plain (some (ps,v,dh))=>bif ps.all Ob.chk&&rH hp R nx 1 v dh then match uEx v,oA dh hp with
      | some u,some hp'=>ba (nx+1) fun nx=>iD tb N K call all rest (jm o.dst u tm) hp' nx ((⟨o.dst,gj v,dh,R,rs⟩,none)::recs)
      | _,_=> .no [36,rest.length]
     else .no [32,rest.length]
   | none=> .no [34,rest.length]
  else .no [35,rest.length]
def Ci (r:Rv):KR→Rv:=Rv.rec (motive:=fun _=>KR→Rv) (fun e tm hp nx k=>Lf.rec (motive:=fun _=>Rv) (k tm hp nx) (fun id=> .go (.ext id) tm hp nx) (.go .ret tm hp nx) e) (fun w _=> .no w) r
def y9 (id:Nat) (r:Rv):Rv:=Rv.rec (motive:=fun _=>Rv) (fun e tm hp nx=>Lf.rec (motive:=fun _=>Rv) (.go .nrm tm hp nx) (fun i=>Bool.rec (motive:=fun _=>Rv) (.go (.ext i) tm hp nx) (.go .nrm tm hp nx) (Nat.beq i id)) (.go .ret tm hp nx) e) .no r
def Ai (f:KR) (n:Nat):KR:=Nat.rec (motive:=fun _=>KR) (fun _ _ _=> .no [3]) (fun _ ih tm hp nx=>ba nx fun nx=>Ci (f tm hp nx) ih) n
structure Cd where
 run:du→KR
def Ej (tb:Tbl) (N K:Nat) (ops:List Oper):Cd:=Bool.rec (motive:=fun _=>Cd) ⟨fun _ _ _ _=> .no [103]⟩ ⟨Cds.run (Fs tb N K ops ops en0) u0 u0 u0 u0⟩ (zq N ops)
def w2 (K:Nat) (e:En) (i:Nat) (k:Gt→Cd):Cd:=
 Bool.rec (motive:=fun _=>Cd) (Bool.rec (motive:=fun _=>Cd) (Bool.rec (motive:=fun _=>Cd) (Bool.rec (motive:=fun _=>Cd) (Bool.rec (motive:=fun _=>Cd) (k fun _ _ _ _ _=>u0) (Ac.rec (motive:=fun _=>Cd) (fun g _=>k fun _ _ _ _ tm=>g tm) (bP i)) (isK K i))
  (k fun _ _ _ r _=>r) (Nat.beq e.e3 (Nat.succ i))) (k fun _ _ r _ _=>r) (Nat.beq e.e2 (Nat.succ i))) (k fun _ r _ _ _=>r) (Nat.beq e.e1 (Nat.succ i))) (k fun r _ _ _ _=>r) (Nat.beq e.e0 (Nat.succ i))
def ET (K:Nat) (c:Operand) (ix iy:Cd):Cd:=Operand.rec (motive:=fun _=>Cd) (fun i=>w2 K en0 i fun g=>⟨fun call tm hp nx=>uKb (g u0 u0 u0 u0 tm) (fun b=>Bool.rec (motive:=fun _=>Rv) (Cd.run iy call tm hp nx) (Cd.run ix call tm hp nx) b) (.no [4])⟩) (fun v=>⟨fun call tm hp nx=>uKb (gP (cv v)) (fun b=>Bool.rec (motive:=fun _=>Rv) (Cd.run iy call tm hp nx) (Cd.run ix call tm hp nx) b) (.no [4])⟩) (fun _=>⟨fun _ _ _ _=> .no [4]⟩) (fun _=>⟨fun _ _ _ _=> .no [4]⟩) c
def dN (tb:Tbl) (N K:Nat) (c:Code):Cd:=Code.rec (motive:=fun _=>Cd)
 ⟨fun _ tm hp nx=> .go .nrm tm hp nx⟩
 (fun _ ops dr=>Bool.rec (motive:=fun _=>Cd) (Ej tb N K ops.toList) ⟨fun call tm hp nx=>iD tb N K call ops.toList ops.toList tm hp nx []⟩ dr)
 (fun _ _ ia ib=>⟨fun call tm hp nx=>Ci (Cd.run ia call tm hp nx) (Cd.run ib call)⟩)
 (fun c _ _ ix iy=>ET K c ix iy)
 (fun id _ ib=>⟨fun call tm hp nx=>y9 id (Cd.run ib call tm hp nx)⟩)
 (fun _ ib=>⟨fun call=>Ai (Cd.run ib call) fV⟩)
 (fun _ _ _ _ _ _=>⟨fun _ _ _ _=> .no [6]⟩)
 (fun id=>⟨fun _ tm hp nx=> .go (.ext id) tm hp nx⟩)
 (fun _ _=>⟨fun _ _ _ _=> .no [6]⟩)
 (fun _=>⟨fun _ _ _ _=> .no [6]⟩)
 (fun _=>⟨fun _ _ _ _=> .no [6]⟩)
 ⟨fun _ tm hp nx=> .go .ret tm hp nx⟩
 (fun _=>⟨fun _ _ _ _=> .no [6]⟩) c
def fO (l:List U):Nat→TM→TM:=List.rec (motive:=fun _=>Nat→TM→TM) (fun _ tm=>tm) (fun u _ ih i tm=>ih (Nat.succ i) (oN tm i u)) l
def ldP (ld:LdF) (a:U) (hp:HP) (k:U→Rv) (sl:Rv):Rv:=wJ a (fun h o=>bkC (aI hp h) (fun ct n=>ld ct n o k sl) sl) (fun _ _ _=>sl) sl
def xD (tb:Tbl) (K:Nat) (r:ResultVar):TM→HP→(U→Rv)→Rv→Rv:=ResultVar.rec (motive:=fun _=>TM→HP→(U→Rv)→Rv→Rv) (fun t tm _ k _=>k (cr K en0 t u0 u0 u0 u0 tm))
 (fun a t=>TI.rec (motive:=fun _=>TM→HP→(U→Rv)→Rv→Rv) (fun _ _ _ sl=>sl) (fun tm hp=>ldP tZ (cr K en0 a u0 u0 u0 u0 tm) hp) (fun n tm hp=>ldP (tY n) (cr K en0 a u0 u0 u0 u0 tm) hp) (tyI tb t)) r
def wOf (u:U) (k:W→Rv) (sl:Rv):Rv:=uCA u (fun c=>k (.c c)) (fun t n=>k (.agg t n)) sl
def AN (tb:Tbl) (K:Nat) (l:List ResultVar):TM→HP→(List W→Rv)→Rv→Rv:=List.rec (motive:=fun _=>TM→HP→(List W→Rv)→Rv→Rv) (fun _ _ k _=>k []) (fun r _ ih tm hp k sl=>xD tb K r tm hp (fun u=>wOf u (fun w=>ih tm hp (fun l=>k (w::l)) sl) sl) sl) l
def Fv (tb:Tbl) (K:Nat) (l:List ResultVar):TM→HP→(U→Rv)→Rv→Rv:=List.rec (motive:=fun _=>TM→HP→(U→Rv)→Rv→Rv) (fun _ _ k _=>k (.tup [])) (fun r rs _=>List.rec (motive:=fun _=>TM→HP→(U→Rv)→Rv→Rv) (xD tb K r) (fun _ _ _ tm hp k sl=>AN tb K l tm hp (fun l=>k (.tup l)) sl) rs) l
def Ch (tb:Tbl) (K:Nat) (rs:List ResultVar) (tm:TM) (hp:HP) (nx:Nat):Rv:=Fv tb K rs tm hp (fun u=> .go .ret (oN tm0 0 u) hp nx) (.no [8])
def AP (r:Rv):Rf:=Rv.rec (motive:=fun _=>Rf) (fun _ tm hp nx=> .ok (Ac.rec (motive:=fun _=>TM→U) (fun g _=>g) (bP 0) tm) hp nx) .no r
def ye (tb:Tbl) (K:Nat) (rs:List ResultVar) (r:Rv):Rf:=Rv.rec (motive:=fun _=>Rf) (fun e tm hp nx=>Lf.rec (motive:=fun _=>Rf) (AP (Ch tb K rs tm hp nx)) (fun _=> .no [7]) (AP (Ch tb K rs tm hp nx)) e) .no r
structure Fc where
 run:du→List U→HP→Nat→Rf
def rI (tb:Tbl) (K:Nat) (fn:Func):Fc:=Option.rec (motive:=fun _=>Fc) ⟨fun _ _ _ _=> .no [10]⟩ (fun c=>Bool.rec (motive:=fun _=>Fc) ⟨fun _ _ _ _=> .no [14]⟩
 ⟨fun call args hp nx=>Bool.rec (motive:=fun _=>Rf) (.no [9]) (ye tb K fn.results.toList (ba nx fun nx=>Cd.run (dN tb fn.ntmps K c) call (fO args 0 tm0) hp nx)) (Nat.ble args.length fn.ntmps)⟩ (Nat.ble fn.ntmps 512)) fn.body
abbrev qL:=FuncId→Option (List U→Option U)
def zy (r:Option U) (hp:HP) (nx:Nat):Rf:=Option.rec (motive:=fun _=>Rf) (.no [13]) (fun u=> .ex u hp nx) r
def mO (tb:Tbl) (P:FuncId→Option Func) (X:qL) (KK:FuncId→Nat) (f:FuncId):Fc:=Option.rec (motive:=fun _=>Fc) (Option.rec (motive:=fun _=>Fc) ⟨fun _ _ _ _=> .no [12]⟩ (rI tb (KK f)) (P f)) (fun x=>⟨fun _ args hp nx=>zy (x args) hp nx⟩) (X f)
def pF (tb:Tbl) (P:FuncId→Option Func) (X:qL) (KK:FuncId→Nat) (d:Nat):du:=Nat.rec (motive:=fun _=>du) (fun _ _ _ _=> .no [11]) (fun _ ih f args hp nx=>Fc.run (mO tb P X KK f) ih args hp nx) d
def zZ (l:List UInt8):Nat→Nat→Int:=List.rec (motive:=fun _=>Nat→Nat→Int) (fun _ _=> .negSucc 0) (fun b _ ih c i=>Bool.rec (motive:=fun _=>Int) (ih c (Nat.succ i)) (.ofNat i) (Nat.beq b.toNat c)) l
def ixB (l:List U):Option U:=match l with
 | [.oth (.str s),.int .u8 (.ofNat c)]=>some (.int .i64 (zZ s.data.toList c 0))
 | _=>none
end
end Go.Mir
namespace Go.Mir
open Go.RowKit
theorem tK (v:V):v.isOne=v.one:=by cases v <;> rfl
theorem py :∀ l:List V,vd l=l.all V.one
 | []=>rfl
 | v::l=>by
  show (Bool.rec (motive:=fun _=>Bool) false (vd l) v.isOne:Bool)=_
  rw [tK,py l,List.all_cons]
  cases v.one <;> rfl
theorem an {a b:Nat} (h:Nat.beq a b=true):a=b:=Nat.eq_of_beq_eq_true h
theorem ve {a b:Nat} (h:a≤b):Nat.ble a b=true:=by rw [Nat.ble_eq];exact h
theorem aN {a b:Nat} (h:Nat.ble a b=true):a≤b:=Nat.le_of_ble_eq_true h
theorem D5 {l:List V} (h:eE l=true):l.length≤4096∧∀ v∈l,v.one=true:=by
 unfold eE at h
 rw [py] at h
 cases hb:l.all V.one with
 | false=>rw [hb] at h;cases h
 | true=>
  rw [hb] at h
  have h:Nat.ble l.length BX=true:=h
  exact ⟨aN h,fun v hv=>List.all_eq_true.1 hb v hv⟩
theorem kp (t:CT) (i:Nat):bu t i =(oU i).get t:=rfl
theorem mr (t:CT) (i:Nat) (x:C):cJ t i x =(oU i).put x t:=rfl
theorem gn (t:HP) (i:Nat):aI t i =(sQ i).get t:=rfl
theorem kn (t:HP) (i:Nat) (x:Bk):cp t i x =(sQ i).put x t:=rfl
theorem kU {h:Nat} (hl:h<262144):sQ h=qP h:=by
 unfold sQ
 have:Nat.ble (Nat.succ h) 262144=true:=ve hl
 rw [this]
theorem wL {h:Nat} (hl :¬ h<262144):sQ h =⟨fun _=> .none,fun _ s=>s⟩:=by
 unfold sQ
 cases hb:Nat.ble (Nat.succ h) 262144 with
 | true=>exact absurd (aN hb) hl
 | false=>rfl
theorem pH (t:CT) (i:Nat) (x:C):bu (cJ t i x) i=x:=by rw [kp,mr,xQ]
theorem wQ {i j:Nat} (hi:i<4096) (hj:j<4096) (h:i≠j) (t:CT) (x:C):bu (cJ t i x) j=bu t j:=by rw [kp,mr,Bl hi hj h,kp]
theorem lL {hp:HP} {h:Nat} (hl :¬ h<262144):aI hp h = .none:=by rw [gn,wL hl]
theorem ni {hp:HP} {h:Nat} (hl:h<262144) (b:Bk):aI (cp hp h b) h=b:=by rw [gn,kn,kU hl,xR]
theorem vg {hp:HP} {h j:Nat} (hl:h<262144) (hj:h≠j) (b:Bk):aI (cp hp h b) j=aI hp j:=by
 by_cases hjl:j<262144
 ·rw [gn,kn,kU hl,kU hjl,Bm hl hjl hj,gn,kU hjl]
 ·rw [lL hjl,lL hjl]
structure CsR (t:CT) (n:Nat) (cs:List V):Prop where
 len:cs.length=n
 le:n≤4096
 get :∀ i,i<n→cs[i]?=some (bu t i).toV
 one :∀ v∈cs,v.one=true
theorem uY (t:CT) :∀ n i,(oP t n i).length=n
 | 0,_=>rfl
 | n+1,i=>by simp only [oP,List.length_cons,uY t n]
theorem uX (t:CT) :∀ n i j,j<n→(oP t n i)[j]?=some (bu t (i+j)).toV
 | n+1,i,0,_=>by simp only [oP,List.getElem?_cons_zero];rfl
 | n+1,i,j+1,h=>by
  simp only [oP,List.getElem?_cons_succ]
  rw [uX t n (i+1) j (by omega),show i+1+j=i +(j+1) by omega]
theorem CsR.toL {t:CT} {n:Nat} {cs:List V} (h:CsR t n cs):toL t n=cs:=by
 apply List.ext_getElem?
 intro j
 unfold Mir.toL
 rcases Nat.lt_or_ge j n with hj|hj
 ·rw [uX t n 0 j hj,Nat.zero_add,h.get j hj]
 ·rw [List.getElem?_eq_none (by rw [uY];exact hj),List.getElem?_eq_none (by rw [h.len];exact hj)]
theorem CsR.nil (t:CT):CsR t 0 []:=⟨rfl,by omega,fun i h=>by omega,fun v hv=>by cases hv⟩
theorem CsR.put {t:CT} {n:Nat} {cs:List V} (h:CsR t n cs) {i:Nat} (hi:i<n) {x:C} (hv:x.toV.one=true):CsR (cJ t i x) n (cs.set i x.toV):=by
 have hle:=h.le
 refine ⟨by rw [List.length_set,h.len],hle,fun j hj=>?_,fun x hx=>?_⟩
 ·rw [List.getElem?_set]
  by_cases e:i=j
  ·subst e
   rw [if_pos rfl,if_pos (by rw [h.len];exact hi),pH]
  ·rw [if_neg e,h.get j hj,wQ (by omega) (by omega) e]
 ·rcases List.mem_or_eq_of_mem_set hx with h1|h1
  ·exact h.one x h1
  ·rw [h1];exact hv
theorem CsR.push {t:CT} {n:Nat} {cs:List V} (h:CsR t n cs) (hn:n<4096) {x:C} (hv:x.toV.one=true):CsR (cJ t n x) (n+1) (cs++[x.toV]):=by
 have hl:=h.len
 refine ⟨by simp [h.len],by omega,fun j hj=>?_,fun x hx=>?_⟩
 ·by_cases e:n=j
  ·subst e
   rw [pH,List.getElem?_append_right (by omega),hl,Nat.sub_self]
   rfl
  ·rw [List.getElem?_append_left (by omega),h.get j (by omega),wQ hn (by omega) e]
 ·rcases List.mem_append.1 hx with h1|h1
  ·exact h.one x h1
  ·rw [List.mem_singleton.1 h1];exact hv
theorem sW (v:V) :(xW v).toV=v:=by cases v <;> rfl
theorem uk :∀ (l:List V) (i:Nat) (t:CT) (n:Nat) (cs:List V),CsR t n cs→n=i→n+l.length≤4096→(∀ v∈l,v.one=true)→CsR (D4 l i t) (n+l.length) (cs++l)
 | [],i,t,n,cs,h,_,_,_=>by simpa [D4] using h
 | v::l,i,t,n,cs,h,e,hle,hl=>by
  subst e
  simp only [List.length_cons] at hle
  have h1:=h.push (by omega) (x:=xW v) (by rw [sW];exact hl v List.mem_cons_self)
  rw [sW] at h1
  have:=uk l (n+1) (cJ t n (xW v)) (n+1) (cs++[v]) h1 rfl (by omega) (fun x hx=>hl x (List.mem_cons_of_mem _ hx))
  rw [List.append_assoc,show n+1+l.length=n +(v::l).length by simp;omega] at this
  exact this
theorem CsR.ofL {l:List V} (h:eE l=true):CsR (ofL l) l.length l:=by
 obtain ⟨h1,h2⟩:=D5 h
 have:=uk l 0 ct0 0 [] (.nil _) rfl (by omega) h2
 simpa [Mir.ofL] using this
theorem x6 (dst:CT) (d:Nat) (src:CT) (s n:Nat):lO dst d src s (n+1)=cJ (lO dst d src s n) (d+n) (bu src (s+n)):=rfl
def ur (cs:List V) (d:Nat) (xs:List V):List V:=cs.take d++xs++cs.drop (d+xs.length)
theorem oa {cs:List V} {d:Nat} {xs:List V} (hd:d≤cs.length) (j:Nat) :(ur cs d xs)[j]?=if d≤j∧j<d+xs.length then xs[j - d]? else cs[j]?:=by
 unfold ur
 rcases Nat.lt_or_ge j d with h|h
 ·rw [if_neg (by omega),List.append_assoc,List.getElem?_append_left (by rw [List.length_take];omega),List.getElem?_take_of_lt h]
 ·rcases Nat.lt_or_ge j (d+xs.length) with h2|h2
  ·rw [if_pos ⟨h,h2⟩,List.append_assoc,List.getElem?_append_right (by rw [List.length_take];omega),List.length_take,Nat.min_eq_left hd,List.getElem?_append_left (by omega)]
  ·rw [if_neg (by omega),List.getElem?_append_right (by rw [List.length_append,List.length_take];omega),List.length_append,List.length_take,Nat.min_eq_left hd,List.getElem?_drop]
   congr 1
   omega
theorem CsR.cpy {dst src:CT} {n m:Nat} {cs xs:List V} (hd:CsR dst n cs) (hs:CsR src m xs) {d s:Nat} (h1:d≤n) :∀ k,s+k≤m→d+k≤4096→∃ r,r=ur cs d ((xs.drop s).take k)∧CsR (lO dst d src s k) (max n (d+k)) r
 | 0,_,_=>by
  refine ⟨_,rfl,?_⟩
  have:ur cs d ((xs.drop s).take 0)=cs:=by simp [ur]
  rw [this,Nat.max_eq_left (by omega)]
  exact hd
 | k+1,h2,h3=>by
  obtain ⟨r,hr,hk⟩:=CsR.cpy (dst:=dst) (src:=src) (n:=n) (m:=m) (cs:=cs) (xs:=xs) (d:=d) (s:=s) hd hs h1 k (by omega) (by omega)
  refine ⟨_,rfl,?_⟩
  rw [x6]
  have hsl:=hs.len
  have hdl:=hd.len
  have hc:=hs.get (s+k) (by omega)
  have hone :(bu src (s+k)).toV.one=true:=hs.one _ (List.mem_of_getElem? hc)
  have hlk :((xs.drop s).take k).length=k:=by rw [List.length_take,List.length_drop,hs.len];omega
  have hlk1 :((xs.drop s).take (k+1)).length=k+1:=by rw [List.length_take,List.length_drop,hs.len];omega
  have hl:r.length=max n (d+k):=hk.len
  have key:ur cs d ((xs.drop s).take (k+1))=if d+k<r.length then r.set (d+k) (bu src (s+k)).toV else r++[(bu src (s+k)).toV]:=by
   have hj :∀ j,r[j]?=if d≤j∧j<d+k then ((xs.drop s).take k)[j - d]? else cs[j]?:=fun j=>by rw [hr,oa (by rw [hd.len];exact h1),hlk]
   have hnew :((xs.drop s).take (k+1))[k]?=some (bu src (s+k)).toV:=by rw [List.getElem?_take_of_lt (by omega),List.getElem?_drop];exact hc
   have hold :∀ i,i<k→((xs.drop s).take (k+1))[i]? =((xs.drop s).take k)[i]?:=fun i hi=>by rw [List.getElem?_take_of_lt (by omega),List.getElem?_take_of_lt hi]
   split
   ·rename_i hlt
    apply List.ext_getElem?
    intro j
    rw [oa (by rw [hd.len];exact h1),hlk1,List.getElem?_set]
    by_cases e:d+k=j
    ·subst e
     rw [if_pos (by omega),if_pos rfl,if_pos hlt,show d+k - d=k by omega]
     exact hnew
    ·rw [if_neg e,hj]
     by_cases e2:d≤j∧j<d+k
     ·rw [if_pos (by omega),if_pos e2,hold _ (by omega)]
     ·rw [if_neg (by omega),if_neg e2]
   ·rename_i hge
    have hrl:r.length=d+k:=by omega
    apply List.ext_getElem?
    intro j
    rw [oa (by rw [hd.len];exact h1),hlk1]
    rcases Nat.lt_or_ge j (d+k) with h|h
    ·rw [List.getElem?_append_left (by omega),hj]
     by_cases e2:d≤j
     ·rw [if_pos (by omega),if_pos ⟨e2,h⟩,hold _ (by omega)]
     ·rw [if_neg (by omega),if_neg (by omega)]
    ·rw [List.getElem?_append_right (by omega),hrl]
     by_cases e:j=d+k
     ·subst e
      rw [if_pos (by omega),show d+k - d=k by omega,hnew,Nat.sub_self]
      rfl
     ·rw [if_neg (by omega),List.getElem?_eq_none (by rw [hd.len];omega),List.getElem?_eq_none (by simp;omega)]
  rw [key]
  split
  ·rename_i hlt
   rw [show max n (d +(k+1))=max n (d+k) by omega]
   exact hk.put (by rw [←hl];exact hlt) hone
  ·rename_i hge
   have e:max n (d+k)=d+k:=by omega
   rw [e] at hk
   rw [show max n (d +(k+1))=d+k+1 by omega]
   exact hk.push (by omega) hone
theorem CsR.sub {src:CT} {m:Nat} {xs:List V} (hs:CsR src m xs) {s k:Nat} (h:s+k≤m):CsR (lO ct0 0 src s k) k ((xs.drop s).take k):=by
 have hle:=hs.le
 obtain ⟨r,hr,h1⟩:=CsR.cpy (.nil ct0) hs (d:=0) (Nat.le_refl 0) k h (by omega)
 have e:r =(xs.drop s).take k:=by rw [hr];simp [ur]
 rw [e,Nat.zero_add,Nat.max_eq_right (Nat.zero_le k)] at h1
 exact h1
theorem CsR.splice {dst src:CT} {n m:Nat} {cs xs:List V} (hd:CsR dst n cs) (hs:CsR src m xs) {d k:Nat} (h1:d+k≤n) (h2:k=m):CsR (lO dst d src 0 k) n (splice cs d xs):=by
 have hle:=hd.le
 obtain ⟨r,hr,h3⟩:=CsR.cpy hd hs (d:=d) (s:=0) (by omega) k (by omega) (by omega)
 have e:r=Mir.splice cs d xs:=by
  rw [hr,List.drop_zero,List.take_of_length_le (by rw [hs.len];omega)]
  rfl
 rw [e,Nat.max_eq_left h1] at h3
 exact h3
theorem CsR.app {dst src:CT} {n m:Nat} {cs xs:List V} (hd:CsR dst n cs) (hs:CsR src m xs) {s k:Nat} (h:s+k≤m) (h4:n+k≤4096):CsR (lO dst n src s k) (n+k) (cs ++(xs.drop s).take k):=by
 obtain ⟨r,hr,h3⟩:=CsR.cpy hd hs (d:=n) (s:=s) (Nat.le_refl n) k h h4
 have e:r=cs ++(xs.drop s).take k:=by
  rw [hr]
  unfold ur
  have h5:=hd.len
  have:cs.drop (n +((xs.drop s).take k).length)=[]:=List.drop_eq_nil_of_le (by omega)
  rw [List.take_of_length_le (by omega),this,List.append_nil]
 rw [e,Nat.max_eq_right (by omega)] at h3
 exact h3
theorem oz {cs:List V} {i:Nat} {v:V} (h:i<cs.length):cs.set i v=splice cs i [v]:=by
 unfold splice
 rw [List.set_eq_take_append_cons_drop,if_pos h]
 simp
def W.wf:W→Prop
 | .c _=>True
 | .agg t n=>∃ cs,CsR t n cs
def U.wf:U→Prop
 | .agg t n=>∃ cs,CsR t n cs
 | .tup l=>∀ w∈l,w.wf
 | _=>True
def Bk.wf:Bk→Prop
 | .cells t n=>∃ cs,CsR t n cs
 | .grow _ _ t n=>∃ cs,CsR t n cs
 | _=>True
def hpW (hp:HP):Prop:=∀ h,(aI hp h).wf
theorem ei {hp:HP} {h:Nat} (hl:h<262144) {b:Bk} {B:Blk} (hb:b.toB=some B):hpH (cp hp h b)=ak (hpH hp) [(h,B)]:=by
 funext k
 unfold hpH ak
 simp only [find]
 by_cases e:h=k
 ·subst e
  rw [ni hl,Nat.beq_refl,hb]
  rfl
 ·rw [vg hl e]
  have:Nat.beq h k=false:=by
   cases hb:Nat.beq h k with
   | false=>rfl
   | true=>exact absurd (an hb) e
  rw [this]
  rfl
theorem ej {hp:HP} (h:hpW hp) {k:Nat} (hl:k<262144) {b:Bk} (hb:b.wf):hpW (cp hp k b):=fun j=>by
 by_cases e:k=j
 ·subst e;rw [ni hl];exact hb
 ·rw [vg hl e];exact h j
theorem rM (h:Nat):aI hp0 h = .none:=by
 by_cases hl:h<262144
 ·rw [gn,kU hl];exact y4 _ _
 ·exact lL hl
theorem zR:hpW hp0:=fun h=>by rw [rM];trivial
theorem CE:hpH hp0=fun _=>none:=by funext h;unfold hpH;rw [rM];rfl
theorem vf {hp:HP} {h:Nat} (hb:aI hp h≠ .none):h<262144:=by
 by_cases hl:h<262144
 ·exact hl
 ·exact absurd (lL hl) hb
def VLe (v w:V):Prop:=∀ (E:Env) (x:Value),ab E v x→ab E w x
theorem VLe.refl (v:V):VLe v v:=fun _ _ h=>h
theorem VLe.of_eq {v w:V} (h:v=w):VLe v w:=h▸VLe.refl v
theorem VLe.trans {u v w:V} (h:VLe u v) (k:VLe v w):VLe u w:=fun E x q=>k E x (h E x q)
theorem VLe.any (v:V):VLe v .any:=fun _ _ _=>by simp [ab]
theorem z6 (b:Bool):VLe (.bool b) (.kb b):=fun E x h=>by simpa [ab] using h
theorem C9 (cs:List V) :(Bool.rec (motive:=fun _=>U) (.oth .any) (.agg (ofL cs) cs.length) (eE cs):U).wf:=by
 cases h:eE cs with
 | false=>trivial
 | true=>exact ⟨cs,CsR.ofL h⟩
theorem Cs (cs:List V) :(Bool.rec (motive:=fun _=>W) (.c (.oth .any)) (.agg (ofL cs) cs.length) (eE cs):W).wf:=by
 cases h:eE cs with
 | false=>trivial
 | true=>exact ⟨cs,CsR.ofL h⟩
theorem iB (v:V) :(gP v).wf:=by
 cases v <;> first|exact trivial|exact C9 _|skip
 rename_i vs
 intro w hw
 obtain ⟨v,_,rfl⟩:=List.mem_map.1 hw
 cases v <;> first|exact trivial|exact Cs _
theorem C8 (cs:List V):VLe (.agg cs) (Bool.rec (motive:=fun _=>U) (.oth .any) (.agg (ofL cs) cs.length) (eE cs):U).toV:=by
 cases h:eE cs with
 | false=>exact VLe.any _
 | true=>
  show VLe _ (V.agg (toL (ofL cs) cs.length))
  rw [(CsR.ofL h).toL]
  exact VLe.refl _
theorem Cr (cs:List V):VLe (.agg cs) (Bool.rec (motive:=fun _=>W) (.c (.oth .any)) (.agg (ofL cs) cs.length) (eE cs):W).toV:=by
 cases h:eE cs with
 | false=>exact VLe.any _
 | true=>
  show VLe _ (V.agg (toL (ofL cs) cs.length))
  rw [(CsR.ofL h).toL]
  exact VLe.refl _
theorem lI {E:Env} {α:Type} (f g:α→V) (h :∀ v,VLe (f v) (g v)) :∀ (vs:List α) (l:List Value),ae E (vs.map f) l→ae E (vs.map g) l
 | [],l,hl=>hl
 | v::vs,[],hl=>by simp [ae] at hl
 | v::vs,x::l,hl=>by
  simp only [List.map_cons,ae] at hl ⊢
  exact ⟨h v E x hl.1,lI f g h vs l hl.2⟩
theorem iA (v:V):VLe v (gP v).toV:=by
 cases v <;> first|exact VLe.refl _|exact z6 _|exact C8 _|skip
 rename_i vs
 intro E x hx
 simp only [gP,U.toV,ab] at hx ⊢
 obtain ⟨l,rfl,hl⟩:=hx
 refine ⟨l,rfl,?_⟩
 rw [List.map_map]
 have hl:ae E (vs.map fun v=>v) l.toList:=by simpa using hl
 refine lI _ _ (fun v=>?_) vs l.toList hl
 cases v <;> first|exact VLe.refl _|exact z6 _|exact Cr _
section views
variable {G:Rv→Prop} {sl:Rv} (h0:G sl)
include h0
theorem kE {u:U} {f:IntKind→Int→Rv} (h :∀ k n,u = .int k n→G (f k n)):G (u3 u f sl):=by cases u <;> first|exact h0|exact h _ _ rfl
theorem CD {u:U} {f:Bool→Rv} (h :∀ b,u = .kb b→G (f b)):G (uKb u f sl):=by cases u <;> first|exact h0|exact h _ rfl
theorem l3 {u:U} {f:Nat→Nat→Rv} {g:Nat→Nat→Nat→Rv} (h :∀ a o,u = .ptr a o→G (f a o)) (h' :∀ a v o,u = .gp a v o→G (g a v o)):G (wJ u f g sl):=by
 cases u <;> first|exact h0|exact h _ _ rfl|exact h' _ _ _ rfl
theorem zF {u:U} {k:Nat→Nat→Nat→Nat→Nat→Rv} (h :∀ a v e o l,u = .gsl a v e o l→G (k a v e o l)):G (Ey u k sl):=by cases u <;> first|exact h0|exact h _ _ _ _ _ rfl
theorem wY {u:U} {a b:Rv} {k:Nat→Nat→Nat→Nat→Nat→Rv} (h:u = .oth .nilsl→G a) (h':u = .oth .esl→G b) (h2 :∀ a v e o l,u = .gsl a v e o l→G (k a v e o l)):G (uSl u a b k sl):=by
 cases u with
 | oth v=>cases v <;> first|exact h0|exact h rfl|exact h' rfl
 | gsl=>exact h2 _ _ _ _ _ rfl
 | _=>exact h0
theorem E5 {u:U} {k:FuncId→List V→Rv} (h :∀ f cs,u = .oth (.fn f cs)→G (k f cs)):G (uFn u k sl):=by
 cases u with
 | oth v=>cases v <;> first|exact h0|exact h _ _ rfl
 | _=>exact h0
theorem bm {b:Bool} {r:Rv} (h:b=true→G r):G (ckR b r sl):=by
 cases b with
 | true=>exact h rfl
 | false=>exact h0
theorem zG {v:V} {r:Rv} (h:v.one=true→G r):G (Cq v r sl):=by
 unfold Cq
 rw [tK]
 cases hv:v.one with
 | true=>exact h hv
 | false=>exact h0
theorem F2 {u:U} {k:C→Rv} (h :∀ c,c.toV=u.toV→c.toV.one=true→G (k c)):G (uC u k sl):=by
 cases u with
 | oth v=>exact zG h0 fun hv=>h _ rfl hv
 | agg=>exact h0
 | tup=>exact h0
 | _=>exact h _ rfl rfl
theorem vC {u:U} {k:CT→Nat→Rv} (h :∀ t n,u = .agg t n→G (k t n)):G (Cp u k sl):=by cases u <;> first|exact h0|exact h _ _ rfl
theorem DC {u:U} {k:List W→Rv} (h :∀ l,u = .tup l→G (k l)):G (FI u k sl):=by cases u <;> first|exact h0|exact h _ rfl
theorem zE {u:U} {k:C→Rv} {k2:CT→Nat→Rv} (h :∀ c,c.toV=u.toV→c.toV.one=true→G (k c)) (h' :∀ t n,u = .agg t n→G (k2 t n)):G (uCA u k k2 sl):=by
 cases u with
 | oth v=>exact zG h0 fun hv=>h _ rfl hv
 | agg=>exact h' _ _ rfl
 | tup=>exact h0
 | _=>exact h _ rfl rfl
theorem zD {b:Bk} {k:CT→Nat→Rv} (h :∀ t n,b = .cells t n→G (k t n)):G (bkC b k sl):=by cases b <;> first|exact h0|exact h _ _ rfl
theorem mB {b:Bk} {k:Nat→Nat→CT→Nat→Rv} (h :∀ v e t n,b = .grow v e t n→G (k v e t n)):G (bkG b k sl):=by cases b <;> first|exact h0|exact h _ _ _ _ rfl
theorem wX {n:Int} {k:Nat→Rv} (h :∀ m:Nat,n = .ofNat m→G (k m)):G (AD n k sl):=by
 cases n with
 | ofNat m=>exact h m rfl
 | negSucc m=>exact h0
theorem CB {a b:Int} {f:Nat→Nat→Rv} (h :∀ x y:Nat,a = .ofNat x→b = .ofNat y→G (f x y)):G (D3 a b f sl):=by
 cases a <;> cases b <;> first|exact h0|exact h _ _ rfl rfl
end views
theorem bs {n:Nat} {k:Nat→Rv}:ba n k=k n:=by cases n <;> rfl
theorem DZ (k:IntKind) :(mxK k:Int)=k.max:=by cases k <;> decide
theorem Ct {k:IntKind} {n:Int} (h1:0≤n) (h2:n≤k.max):k.wrap n=n:=by
 cases k <;> simp only [IntKind.wrap,IntKind.bits,IntKind.signed,IntKind.max] at h2 ⊢ <;> simp at h2 ⊢ <;> omega
theorem lg {k:IntKind} {n:Nat} {m:Int} (h:m =(n:Int)):rD k n (k.wrap m)=k.wrap m:=by
 unfold rD
 cases hb:Nat.ble n (mxK k) with
 | false=>rfl
 | true=>
  have:=aN hb
  rw [h,Ct (by omega) (by rw [←DZ];omega)]
  rfl
theorem Bn (k:IntKind) (a b:Int):C7 k a b=k.wrap (a+b):=by
 cases a <;> cases b <;> first|rfl|exact lg rfl
theorem Ck (k:IntKind) (a b:Int):Ev k a b=k.wrap (a - b):=by
 cases a <;> cases b <;> first|rfl|skip
 rename_i x y
 show Bool.rec (motive:=fun _=>Int) _ _ (Nat.ble y x)=_
 cases hb:Nat.ble y x with
 | false=>rfl
 | true=>
  have:=aN hb
  exact lg (by show (x:Int) - (y:Int) =((x - y:Nat):Int);omega)
theorem B2 (k:IntKind) (a b:Int):DY k a b=k.wrap (a*b):=by
 cases a <;> cases b <;> first|rfl|exact lg rfl
theorem Dt (k:IntKind) (a:Int):cvS k a=k.wrap a:=by
 cases a <;> first|rfl|exact lg rfl
theorem vu (a b:Int):eqS a b =(a==b):=by
 cases a <;> cases b <;> first|rfl|skip
 rename_i x y
 show Nat.beq x y =((x:Int) ==(y:Int))
 cases hb:Nat.beq x y with
 | true=>rw [an hb];simp
 | false=>
  have :¬ x=y:=fun e=>by subst e;rw [Nat.beq_refl] at hb;cases hb
  symm
  rw [beq_eq_false_iff_ne]
  intro e
  exact this (by omega)
theorem Af (a b:Int):leS a b=decide (a≤b):=by
 cases a <;> cases b <;> first|rfl|skip
 rename_i x y
 show Nat.ble x y=decide ((x:Int)≤(y:Int))
 cases hb:Nat.ble x y with
 | true=>have:=aN hb;symm;rw [decide_eq_true_eq];omega
 | false=>
  have :¬ x≤y:=fun e=>by rw [ve e] at hb;cases hb
  symm;rw [decide_eq_false_iff_not];omega
theorem Aj (a b:Int):ltS a b=decide (a<b):=by
 cases a <;> cases b <;> first|rfl|skip
 rename_i x y
 show Nat.ble (Nat.succ x) y=decide ((x:Int) <(y:Int))
 cases hb:Nat.ble (Nat.succ x) y with
 | true=>have:=aN hb;symm;rw [decide_eq_true_eq];omega
 | false=>
  have :¬ Nat.succ x≤y:=fun e=>by rw [ve e] at hb;cases hb
  symm;rw [decide_eq_false_iff_not];omega
theorem w5 {k k':IntKind} (h:DI k k'=true):k=k':=by
 cases k <;> cases k' <;> first|rfl|cases h
theorem xh (b:Bool):yz b=!b:=by cases b <;> rfl
end Go.Mir
namespace Go.Mir
open Go.RowKit
variable {tb:Tbl} {N K:Nat} {e:En}
structure ValOK (tb:Tbl) (N:Nat) (ev:Operand→V) (op:Op) (hp:HP) (nx:Nat) (u:U) (hp':HP):Prop where
 ex :∃ ps v dh,ao ⟨tb,fun _=>none,1,N⟩ nx (hpH hp) ev op=some (ps,v,dh)∧(∀ p∈ps,p.holds)∧VLe v u.toV∧hpH hp'=ak (hpH hp) dh
 wf:u.wf
 hw:hpW hp'
structure CalOK (ev:Operand→V) (op:Op) (g:FuncId) (args:List U):Prop where
 ex :∃ c f caps,op = .call c∧c.callee = .value f∧ev f = .fn g caps∧bk caps=true∧∀ E l,ae E (c.args.toList.map ev++caps) l→ae E (args.map U.toV) l
 wf :∀ u∈args,u.wf
def aK (tb:Tbl) (N K:Nat) (e:En) (op:Op):Stp→Prop
 | .slow=>True
 | .val f=>∀ (a b c d:U) (tm:TM) (hp:HP) (nx:Nat) (G:Rv→Prop) (k:U→Rv) (sl:Rv),(∀ i,(cr K e i a b c d tm).wf)→hpW hp→G sl→
   (∀ u,ValOK tb N (fun x=>(rdS K e x a b c d tm).toV) op hp nx u hp→G (k u))→G (f a b c d tm hp nx k sl)
 | .mem f=>∀ (a b c d:U) (tm:TM) (hp:HP) (nx:Nat) (G:Rv→Prop) (k:U→HP→Rv) (sl:Rv),(∀ i,(cr K e i a b c d tm).wf)→hpW hp→G sl→
   (∀ u hp',ValOK tb N (fun x=>(rdS K e x a b c d tm).toV) op hp nx u hp'→G (k u hp'))→G (f a b c d tm hp nx k sl)
 | .cal f=>∀ (a b c d:U) (tm:TM) (G:Rv→Prop) (k:FuncId→List U→Rv) (sl:Rv),(∀ i,(cr K e i a b c d tm).wf)→G sl→
   (∀ g args,CalOK (fun x=>(rdS K e x a b c d tm).toV) op g args→G (k g args))→G (f a b c d tm k sl)
theorem dt :∀ p∈([]:List Ob),p.holds:=fun p hp=>by cases hp
theorem lB {p:Ob} (h:p.holds) :∀ q∈ [p],q.holds:=by intro q hq;rw [List.mem_singleton.1 hq];exact h
theorem vok {ev:Operand→V} {op:Op} {hp:HP} {nx:Nat} {u:U} {ps:List Ob} {v:V} (W:hpW hp) (h:ao ⟨tb,fun _=>none,1,N⟩ nx (hpH hp) ev op=some (ps,v,[])) (hps :∀ p∈ps,p.holds) (hv:VLe v u.toV) (hw:u.wf):ValOK tb N ev op hp nx u hp:=
 ⟨⟨ps,v,[],h,hps,hv,rfl⟩,hw,W⟩
theorem gI {a b c d:U} {tm:TM} (h :∀ i,(cr K e i a b c d tm).wf) (x:Operand) :(rdS K e x a b c d tm).wf:=by
 cases x with
 | tmp i=>exact h i
 | const v=>exact iB (cv v)
 | _=>trivial
theorem tvp {u:U} {a o:Nat} (h:u = .ptr a o):u.toV = .ptr a o:=by rw [h];rfl
theorem tvg {u:U} {a v o:Nat} (h:u = .gp a v o):u.toV = .gp a v o:=by rw [h];rfl
theorem tvs {u:U} {a v e o l:Nat} (h:u = .gsl a v e o l):u.toV = .gsl a v e o l:=by rw [h];rfl
theorem tvi {u:U} {k:IntKind} {n:Int} (h:u = .int k n):u.toV = .int k n:=by rw [h];rfl
theorem tvb {u:U} {b:Bool} (h:u = .kb b):u.toV = .kb b:=by rw [h];rfl
theorem tvo {u:U} {v:V} (h:u = .oth v):u.toV=v:=by rw [h];rfl
theorem tva {u:U} {t:CT} {n:Nat} {cs:List V} (hc:CsR t n cs) (h:u = .agg t n):u.toV = .agg cs:=by rw [h];show V.agg (toL t n)=_;rw [hc.toL]
theorem tvt {u:U} {l:List W} (h:u = .tup l):u.toV = .tup (l.map W.toV):=by rw [h];rfl
theorem zN {S:Stp→Prop} {i:Nat} {k:Gt→Stp} (h :∀ g,g=cr K e i→S (k g)):S (zM K e i k):=by
 unfold zM
 unfold cr at h
 cases h0:Nat.beq e.e0 (Nat.succ i)
 case true=>exact h _ (by rw [h0])
 rw [h0] at h
 cases h1:Nat.beq e.e1 (Nat.succ i)
 case true=>exact h _ (by rw [h1])
 rw [h1] at h
 cases h2:Nat.beq e.e2 (Nat.succ i)
 case true=>exact h _ (by rw [h2])
 rw [h2] at h
 cases h3:Nat.beq e.e3 (Nat.succ i)
 case true=>exact h _ (by rw [h3])
 rw [h3] at h
 cases h4:isK K i
 case true=>exact h _ (by rw [h4];rfl)
 exact h _ (by rw [h4])
theorem aC {S:Stp→Prop} {x:Operand} {k:Gt→Stp} (h :∀ g,g=rdS K e x→S (k g)):S (cw K e x k):=by
 cases x with
 | tmp i=>exact zN (S:=S) (fun g hg=>h g hg)
 | const v=>
  show S (U.rec (motive:=fun _=>Stp) _ _ _ _ _ _ _ _ (gP (cv v)))
  have h :∀ g,g =(fun _ _ _ _ _=>gP (cv v))→S (k g):=h
  cases hu:gP (cv v) <;>(rw [hu] at h;exact h _ rfl)
 | global i=>exact h _ rfl
 | func f=>exact h _ rfl
theorem um {S:Stp→Prop} :∀ {l:List Operand} {k:List Gt→Stp},(∀ gs,gs=l.map (rdS K e)→S (k gs))→S (CH K e l k)
 | [],k,h=>h _ rfl
 | x::l,k,h=>aC (S:=S) fun g hg=>um (S:=S) (l:=l) fun gs hgs=>h _ (by rw [hg,hgs];rfl)
def Ee (K:Nat) (e:En) (pi:Nat→PI):List (Nat×Operand)→List PG→Prop
 | [],[]=>True
 | q::l,.at o s g::gs=>pi q.1 = .at o s∧g=rdS K e q.2∧Ee K e pi l gs
 | _,_=>False
theorem mi {S:Stp→Prop} (h0:S .slow) {pi:Nat→PI} :∀ {l:List (Nat×Operand)} {k:List PG→Stp},(∀ gs,Ee K e pi l gs→S (k gs))→S (si K e pi l k)
 | [],k,h=>h _ trivial
 | q::l,k,h=>by
  show S (PI.rec (motive:=fun _=>Stp) .slow (fun o s=>cw K e q.2 fun g=>si K e pi l fun gs=>k (.at o s g::gs)) (pi q.1))
  cases hp:pi q.1 with
  | no=>exact h0
  | «at» o s=>exact aC (S:=S) fun g hg=>mi (S:=S) h0 (l:=l) fun gs hgs=>h _ ⟨hp,hg,hgs⟩
theorem l4 {hp:HP} (W:hpW hp) {h:Nat} {t:CT} {n:Nat} (hg:aI hp h = .cells t n) :∃ cs,CsR t n cs∧hpH hp h=some (.cells cs)∧h<262144:=by
 have hw:=W h
 rw [hg] at hw
 obtain ⟨cs,hc⟩:=hw
 exact ⟨cs,hc,by unfold hpH;rw [hg];show some (Blk.cells (toL t n))=_;rw [hc.toL],vf (by rw [hg];exact fun h=>by cases h)⟩
theorem eB {hp:HP} (W:hpW hp) {h v ez:Nat} {t:CT} {n:Nat} (hg:aI hp h = .grow v ez t n) :∃ cs,CsR t n cs∧hpH hp h=some (.grow v ez cs)∧h<262144:=by
 have hw:=W h
 rw [hg] at hw
 obtain ⟨cs,hc⟩:=hw
 exact ⟨cs,hc,by unfold hpH;rw [hg];show some (Blk.grow v ez (toL t n))=_;rw [hc.toL],vf (by rw [hg];exact fun h=>by cases h)⟩
theorem sL {t:TypeId} (h:tyI tb t = .one) :∃ td,tb t=some td∧td.kind.agg=false∧td.size=1:=by
 unfold tyI at h
 split at h
 ·rename_i td ht
  refine ⟨td,ht,?_⟩
  split at h
  ·cases h
  ·rename_i ha
   split at h
   ·rename_i hs;exact ⟨by simpa using ha,hs⟩
   ·cases h
 ·cases h
theorem sK {t:TypeId} {n:Nat} (h:tyI tb t = .agg n) :∃ td,tb t=some td∧td.kind.agg=true∧td.size=n:=by
 unfold tyI at h
 split at h
 ·rename_i td ht
  refine ⟨td,ht,?_⟩
  split at h
  ·rename_i ha;cases h;exact ⟨ha,rfl⟩
  ·split at h <;> cases h
 ·cases h
theorem vm (c:C) :(cU c).toV=c.toV:=by cases c <;> rfl
theorem zj (c:C) :(cU c).wf:=by cases c <;> trivial
def EE (tb:Tbl) (t:TypeId) (f:LdF):Prop:=∃ td,tb t=some td∧∀ (G:Rv→Prop) (ct:CT) (n:Nat) (cs:List V) (o:Nat) (k:U→Rv) (sl:Rv),CsR ct n cs→G sl→(∀ u v,ld td cs o = .val [] v []→v=u.toV→u.wf→G (k u))→G (f ct n o k sl)
theorem vM {S:Stp→Prop} (h0:S .slow) {t:TypeId} {k:LdF→Stp} (h :∀ f,EE tb t f→S (k f)):S (ldS (tyI tb t) k):=by
 cases hi:tyI tb t with
 | no=>exact h0
 | one=>
  obtain ⟨td,ht,ha,hs⟩:=sL hi
  refine h tZ ⟨td,ht,fun G ct n cs o k sl hc h0 hk=>bm h0 fun hb=>?_⟩
  have hlt:o<n:=aN hb
  refine hk _ (bu ct o).toV ?_ (vm _).symm (zj _)
  unfold ld
  rw [ha,hc.get o hlt]
  rfl
 | agg m=>
  obtain ⟨td,ht,ha,hs⟩:=sK hi
  refine h (tY m) ⟨td,ht,fun G ct n cs o k sl hc h0 hk=>bm h0 fun hb=>?_⟩
  have hle:o+m≤n:=aN hb
  have hld:ld td cs o = .val [] (.agg ((cs.drop o).take m)) []:=by
   unfold ld
   rw [ha,hs,if_pos rfl,if_pos (by rw [hc.len];exact hle)]
  cases hm:Nat.beq m n with
  | false=>
   have:=hc.sub hle
   exact hk _ _ hld (by show _=V.agg (toL _ _);rw [this.toL]) ⟨_,this⟩
  | true=>
   have e1:=an hm
   have e0:o=0:=by omega
   subst e0
   subst e1
   refine hk _ _ hld ?_ ⟨_,hc⟩
   show _=V.agg (toL ct m)
   rw [hc.toL,List.drop_zero,List.take_of_length_le (by rw [hc.len];exact Nat.le_refl _)]
theorem sM {v:V} (h:v.one=true):cellsOf v=some [v]:=by cases v <;> first|rfl|cases h
def FO (tb:Tbl) (t:TypeId) (f:StF):Prop:=∃ td,tb t=some td∧∀ (G:Rv→Prop) (x:U) (ct:CT) (n:Nat) (cs:List V) (o:Nat) (k:CT→Rv) (sl:Rv),x.wf→CsR ct n cs→G sl→
 (∀ xs ct',cellsOf x.toV=some xs→xs.length=td.size→xs.all V.one=true→o+td.size≤cs.length→CsR ct' n (splice cs o xs)→G (k ct'))→G (f x ct n o k sl)
theorem Em {S:Stp→Prop} (h0:S .slow) {t:TypeId} {k:StF→Stp} (h :∀ f,FO tb t f→S (k f)):S (stS (tyI tb t) k):=by
 cases hi:tyI tb t with
 | no=>exact h0
 | one=>
  obtain ⟨td,ht,ha,hs⟩:=sL hi
  refine h CU ⟨td,ht,fun G x ct n cs o k sl hx hc h0 hk=>bm h0 fun hb=>F2 h0 fun c hcv h1=>?_⟩
  have hlt:o<n:=aN hb
  rw [hcv] at h1
  refine hk [x.toV] _ (sM h1) (by rw [hs];rfl) (by simp [h1]) (by rw [hs,hc.len];exact hlt) ?_
  rw [←oz (by rw [hc.len];exact hlt),←hcv]
  exact hc.put hlt (by rw [hcv];exact h1)
 | agg m=>
  obtain ⟨td,ht,ha,hs⟩:=sK hi
  refine h (CS m) ⟨td,ht,fun G x ct n cs o k sl hx hc h0 hk=>vC h0 fun xt m' hxe=>bm h0 fun hb=>bm h0 fun hle=>?_⟩
  have e1:m=m':=an hb
  subst e1
  subst hxe
  obtain ⟨xs,hxs⟩:=hx
  have hle:o+m≤n:=aN hle
  have hall:xs.all V.one=true:=List.all_eq_true.2 hxs.one
  have hcl:cellsOf (U.agg xt m).toV=some xs:=by show some (toL xt m)=_;rw [hxs.toL]
  cases hm:Nat.beq m n with
  | false=>exact hk xs _ hcl (by rw [hs,hxs.len]) hall (by rw [hs,hc.len];exact hle) (hc.splice hxs hle rfl)
  | true=>
   have e1:=an hm
   subst e1
   have e0:o=0:=by omega
   subst e0
   refine hk xs _ hcl (by rw [hs,hxs.len]) hall (by rw [hs,hc.len];exact hle) ?_
   have:splice cs 0 xs=xs:=by
    unfold splice
    rw [List.take_zero,List.nil_append,List.drop_eq_nil_of_le (by rw [hc.len,hxs.len];omega),List.append_nil]
   rw [this]
   exact hxs
theorem zg {t:TypeId} {x:Operand}:aK tb N K e (.load t x) (Cw t x K e tb):=by
 refine vM (S:=aK tb N K e (.load t x)) trivial fun f hf=>aC (S:=aK tb N K e (.load t x)) fun gx hgx=>?_
 subst hgx
 intro a b c d tm hp nx G k sl Wg W h0 h
 obtain ⟨td,ht,hf⟩:=hf
 refine l3 h0 (fun q o hx=>zD h0 fun ct n hg=>?_) (fun q v o hx=>mB h0 fun v' ez ct n hg=>bm h0 fun hb=>?_)
 ·obtain ⟨cs,hc,hH,_⟩:=l4 W hg
  refine hf G ct n cs o k sl hc h0 fun u v hl hv hw=>h u (vok W (ps:= []) (v:=v) ?_ dt (VLe.of_eq hv) hw)
  simp only [ao,bl,bf,ht,tvp hx,dD,iX,hH,hl]
 ·obtain ⟨cs,hc,hH,_⟩:=eB W hg
  have e1:=an hb
  subst e1
  refine hf G ct n cs o k sl hc h0 fun u v' hl hv hw=>h u (vok W (ps:= []) (v:=v') ?_ dt (VLe.of_eq hv) hw)
  simp only [ao,bl,bf,ht,tvg hx,dD,hH,hl,if_true]
theorem xY {t:TypeId} {x y:Operand}:aK tb N K e (.store t x y) (zi t x y K e tb):=by
 refine Em (S:=aK tb N K e (.store t x y)) trivial fun f hf=>aC (S:=aK tb N K e (.store t x y)) fun gx hgx=>aC (S:=aK tb N K e (.store t x y)) fun gy hgy=>?_
 subst hgx
 subst hgy
 intro a b c d tm hp nx G k sl Wg W h0 h
 obtain ⟨td,ht,hf⟩:=hf
 refine l3 h0 (fun q o hx=>zD h0 fun ct n hg=>?_) (fun q v o hx=>mB h0 fun v' ez ct n hg=>bm h0 fun hb=>?_)
 ·obtain ⟨cs,hc,hH,hl⟩:=l4 W hg
  refine hf G _ ct n cs o _ sl (gI Wg y) hc h0 fun xs ct' hcl hlen hall hle hct=>h _ _ ⟨⟨[],.tup [],[(q,.cells (splice cs o xs))],?_,dt,VLe.refl _,?_⟩,fun w hw=>(by cases hw),ej W hl ⟨_,hct⟩⟩
  ·simp only [ao,bl,ht,tvp hx,dF,cg,la,hcl,hlen,hall,hH,if_true,and_self,hle]
  ·rw [ei hl (B:= .cells (splice cs o xs))]
   show some (Blk.cells (toL ct' n))=_
   rw [hct.toL]
 ·obtain ⟨cs,hc,hH,hl⟩:=eB W hg
  have e1:=an hb
  subst e1
  refine hf G _ ct n cs o _ sl (gI Wg y) hc h0 fun xs ct' hcl hlen hall hle hct=>h _ _ ⟨⟨[],.tup [],[(q,.grow v ez (splice cs o xs))],?_,dt,VLe.refl _,?_⟩,fun w hw=>(by cases hw),ej W hl ⟨_,hct⟩⟩
  ·simp only [ao,bl,ht,tvg hx,dF,cg,hcl,hlen,hall,hH,if_true,and_self,hle,true_and]
  ·rw [ei hl (B:= .grow v ez (splice cs o xs))]
   show some (Blk.grow v ez (toL ct' n))=_
   rw [hct.toL]
theorem cMove_ok {x:Operand}:aK tb N K e (.move x) (wO x K e tb)∧aK tb N K e (.assign x) (wO x K e tb):=by
 constructor
 ·refine aC (S:=aK tb N K e (.move x)) fun gx hgx=>?_
  subst hgx
  intro a b c d tm hp nx G k sl Wg W h0 h
  exact h _ (vok W (ps:= []) (v:=(rdS K e x a b c d tm).toV) (by simp only [ao,bl,bf]) dt (VLe.refl _) (gI Wg x))
 ·refine aC (S:=aK tb N K e (.assign x)) fun gx hgx=>?_
  subst hgx
  intro a b c d tm hp nx G k sl Wg W h0 h
  exact h _ (vok W (ps:= []) (v:=(rdS K e x a b c d tm).toV) (by simp only [ao,bl,bf]) dt (VLe.refl _) (gI Wg x))
theorem zh {p x y:Operand}:aK tb N K e (.pick p x y) (Cx p x y K e tb):=by
 refine aC (S:=aK tb N K e (.pick p x y)) fun gp hgp=>aC (S:=aK tb N K e (.pick p x y)) fun gx hgx=>aC (S:=aK tb N K e (.pick p x y)) fun gy hgy=>?_
 subst hgp;subst hgx;subst hgy
 intro a b c d tm hp nx G k sl Wg W h0 h
 refine CD h0 fun q hq=>?_
 cases q with
 | true=>exact h _ (vok W (ps:= []) (v:=(rdS K e x a b c d tm).toV) (by simp only [ao,bl,bf,tvb hq,lY]) dt (VLe.refl _) (gI Wg x))
 | false=>exact h _ (vok W (ps:= []) (v:=(rdS K e y a b c d tm).toV) (by simp only [ao,bl,bf,tvb hq,lY]) dt (VLe.refl _) (gI Wg y))
theorem vb {t:TypeId} {z:CT} {n:Nat} (h:qI tb t = .at z n) :∃ td,tb t=some td∧CsR z n td.zero:=by
 unfold qI at h
 split at h
 ·rename_i td ht
  cases ho:eE td.zero with
  | false=>rw [ho] at h;cases h
  | true=>
   rw [ho] at h
   cases h
   exact ⟨td,ht,CsR.ofL ho⟩
 ·cases h
theorem nP {G:Rv→Prop} {m:Nat} {hp:HP} {b:Bk} {u:U} {k:U→HP→Rv} {sl:Rv} (h0:G sl) (h:m<262144→G (k u (cp hp m b))):G (yw m hp b u k sl):=bm h0 fun hb=>h (aN hb)
theorem xU {t:TypeId}:aK tb N K e (.alloc t) (vi t K e tb):=by
 unfold vi
 cases hz:qI tb t with
 | no=>trivial
 | «at» z n=>
  obtain ⟨td,ht,hc⟩:=vb hz
  intro a b c d tm hp nx G k sl Wg W h0 h
  show G (ba nx _)
  rw [bs]
  refine nP h0 fun hm=>h _ _ ⟨⟨[],.ptr nx 0,[(nx,.cells td.zero)],by simp only [ao,bl,bf,ht],dt,VLe.refl _,ei hm ?_⟩,trivial,ej W hm ⟨_,hc⟩⟩
  show some (Blk.cells (toL z n))=_
  rw [hc.toL]
theorem Bt {t:TypeId} {x:Operand}:aK tb N K e (.box t x) (EL t x K e tb):=by
 refine aC (S:=aK tb N K e (.box t x)) fun gx hgx=>?_
 subst hgx
 intro a b c d tm hp nx G k sl Wg W h0 h
 show G (ba nx _)
 rw [bs]
 have hw:=gI Wg x
 refine zE h0 (fun c1 hc1 h1=>nP h0 fun hm=>?_) fun t' n hx=>nP h0 fun hm=>?_
 ·have hc:CsR (cJ ct0 0 c1) 1 ([]++[c1.toV]):=(CsR.nil ct0).push (by omega) h1
  rw [List.nil_append,hc1] at hc
  rw [hc1] at h1
  refine h _ _ ⟨⟨[],.ptr nx 0,[(nx,.cells [(rdS K e x a b c d tm).toV])],by simp only [ao,bl,bf,sM h1],dt,VLe.refl _,ei hm ?_⟩,trivial,ej W hm ⟨_,hc⟩⟩
  show some (Blk.cells (toL _ 1))=_
  rw [hc.toL]
 ·rw [hx] at hw
  obtain ⟨cs,hc⟩:=hw
  refine h _ _ ⟨⟨[],.ptr nx 0,[(nx,.cells cs)],by simp only [ao,bl,bf,tva hc hx,cellsOf],dt,VLe.refl _,ei hm ?_⟩,trivial,ej W hm ⟨_,hc⟩⟩
  show some (Blk.cells (toL t' n))=_
  rw [hc.toL]
theorem BH {t:TypeId} {f d:Nat} (h:BG tb t f=some d) :∃ td fs ft tf,tb t=some td∧td.kind = .struct fs∧fs[f]?=some (d,ft)∧tb ft=some tf∧¬ tf.size=0:=by
 unfold BG at h
 split at h
 case h_2=>cases h
 rename_i td ht
 split at h
 case h_2=>cases h
 rename_i fs hk
 split at h
 case h_2=>cases h
 rename_i o ft hf
 split at h
 case h_2=>cases h
 rename_i tf htf
 split at h
 ·cases h
 ·rename_i hs
  cases h
  exact ⟨td,fs,ft,tf,ht,hk,hf,htf,hs⟩
theorem Di {t:TypeId} {x:Operand} {f:Nat}:aK tb N K e (.fieldAddr t x f) (cFA t x f K e tb):=by
 unfold cFA
 cases hd:BG tb t f with
 | none=>trivial
 | some o1=>
  obtain ⟨td,fs,ft,tf,ht,hk,hf,htf,hs⟩:=BH hd
  refine aC (S:=aK tb N K e (.fieldAddr t x f)) fun gx hgx=>?_
  subst hgx
  intro a b c d tm hp nx G k sl Wg W h0 h
  refine l3 h0 (fun q o hx=>?_) (fun q v o hx=>?_)
  ·exact h _ (vok W (ps:= []) (v:= .ptr q (o+o1)) (by simp only [ao,bl,bf,ht,tvp hx,gA,mV,hk,hf,htf,hs,if_false]) dt (VLe.refl _) trivial)
  ·exact h _ (vok W (ps:= []) (v:= .gp q v (o+o1)) (by simp only [ao,bl,bf,ht,tvg hx,gA,hk,hf,htf,hs,if_false]) dt (VLe.refl _) trivial)
theorem Dj {t:TypeId} {x:Operand} {f:Nat}:aK tb N K e (.field t x f) (cFV t x f K e tb):=by
 unfold cFV
 cases hv:DB tb t f with
 | no=>trivial
 | «at» o i=>
  unfold DB at hv
  split at hv
  case h_2=>cases hv
  rename_i td ht
  split at hv
  case h_2=>cases hv
  rename_i fs hk
  split at hv
  case h_2=>cases hv
  rename_i o' ft hf
  cases hv
  refine vM (S:=aK tb N K e (.field t x f)) trivial fun f1 hf1=>aC (S:=aK tb N K e (.field t x f)) fun gx hgx=>?_
  subst hgx
  intro a b c d tm hp nx G k sl Wg W h0 h
  obtain ⟨tf,htf,hf1⟩:=hf1
  have hw:=gI Wg x
  refine vC h0 fun ct n hx=>?_
  have hx0:=hx
  rw [hx] at hw
  obtain ⟨cs,hc⟩:=hw
  refine hf1 G ct n cs _ k sl hc h0 fun u v hl hv hw=>h u (vok W (ps:= []) (v:=v) ?_ dt (VLe.of_eq hv) hw)
  simp only [ao,bl,bf,ht,tva hc hx0,fv,hk,hf,htf,hl]
theorem Dk {t:TypeId} {x i:Operand}:aK tb N K e (.indexAddr t x i) (cIA t x i K e tb):=by
 unfold cIA
 cases hx:BO tb t with
 | no=>trivial
 | sl esz=>
  unfold BO at hx
  split at hx
  case h_2=>cases hx
  rename_i td ht
  split at hx
  case h_2=>split at hx <;> cases hx
  case h_3=>cases hx
  rename_i et hk
  split at hx
  case h_2=>cases hx
  rename_i te hte
  cases hx
  refine aC (S:=aK tb N K e (.indexAddr t x i)) fun gx hgx=>aC (S:=aK tb N K e (.indexAddr t x i)) fun gi hgi=>?_
  subst hgx;subst hgi
  intro a b c d tm hp nx G k sl Wg W h0 h
  refine kE h0 fun ik n hi=>wX h0 fun m hn=>zF h0 fun q v e' o l hu=>bm h0 fun hb=>mB h0 fun v' e2 ct n2 hg=>bm h0 fun h1=>bm h0 fun h2=>bm h0 fun h3=>?_
  subst hn
  obtain ⟨cs,hc,hH,_⟩:=eB W hg
  have hlt:m<l:=aN hb
  have e1:=an h1
  have e3:=an h2
  have e4:=an h3
  subst e1
  subst e3
  subst e4
  exact h _ (vok W (ps:= [.rng (.ofNat m) l]) (v:= .gp q v ((o+m)*te.size)) (by simp only [ao,bl,bf,ht,tvs hu,tvi hi,cB,hk,hte,hH,and_self,if_true];rfl) (lB ⟨by show (0:Int)≤(m:Int);omega,by show (m:Int)<l;omega⟩) (VLe.refl _) trivial)
 | ar l esz=>
  unfold BO at hx
  split at hx
  case h_2=>cases hx
  rename_i td ht
  split at hx
  case h_1=>split at hx <;> cases hx
  case h_3=>cases hx
  rename_i l' et hk
  split at hx
  case h_2=>cases hx
  rename_i te hte
  cases hx
  refine aC (S:=aK tb N K e (.indexAddr t x i)) fun gx hgx=>aC (S:=aK tb N K e (.indexAddr t x i)) fun gi hgi=>?_
  subst hgx;subst hgi
  intro a b c d tm hp nx G k sl Wg W h0 h
  refine kE h0 fun ik n hi=>wX h0 fun m hn=>bm h0 fun hb=>l3 h0 (fun q o hu=>?_) (fun q v o hu=>?_)
  ·have hlt:m<l:=aN hb
   subst hn
   exact h _ (vok W (ps:= [.rng (.ofNat m) l]) (v:= .ptr q (o+m*te.size)) (by simp only [ao,bl,bf,ht,tvp hu,tvi hi,cB,kY,hk,hte];rfl) (lB ⟨by show (0:Int)≤(m:Int);omega,by show (m:Int)<l;omega⟩) (VLe.refl _) trivial)
  ·have hlt:m<l:=aN hb
   subst hn
   exact h _ (vok W (ps:= [.rng (.ofNat m) l]) (v:= .gp q v (o+m*te.size)) (by simp only [ao,bl,bf,ht,tvg hu,tvi hi,cB,hk,hte];rfl) (lB ⟨by show (0:Int)≤(m:Int);omega,by show (m:Int)<l;omega⟩) (VLe.refl _) trivial)
theorem Bv {t:TypeId} {x i:Operand}:aK tb N K e (.index t x i) (Dm t x i K e tb):=by
 unfold Dm
 cases hx:DN tb t with
 | no=>trivial
 | «at» l esz ti=>
  unfold DN at hx
  split at hx
  case h_2=>cases hx
  rename_i td ht
  split at hx
  case h_2=>cases hx
  rename_i l' et hk
  split at hx
  case h_2=>cases hx
  rename_i te hte
  cases hx
  refine vM (S:=aK tb N K e (.index t x i)) trivial fun f1 hf1=>aC (S:=aK tb N K e (.index t x i)) fun gx hgx=>aC (S:=aK tb N K e (.index t x i)) fun gi hgi=>?_
  subst hgx;subst hgi
  intro a b c d tm hp nx G k sl Wg W h0 h
  obtain ⟨tf,htf,hf1⟩:=hf1
  rw [hte] at htf
  cases htf
  have hw:=gI Wg x
  refine kE h0 fun ik n hi=>wX h0 fun m hn=>bm h0 fun hb=>vC h0 fun ct n1 hx=>?_
  subst hn
  have hx0:=hx
  rw [hx] at hw
  obtain ⟨cs,hc⟩:=hw
  have hlt:m<l:=aN hb
  refine hf1 G ct n1 cs _ k sl hc h0 fun u v hl hv hw=>h u (vok W (ps:= [.rng (.ofNat m) l]) (v:=v) ?_ (lB ⟨by show (0:Int)≤(m:Int);omega,by show (m:Int)<l;omega⟩) (VLe.of_eq hv) hw)
  have hl:ld te cs ((Int.ofNat m).toNat*te.size) = .val [] v []:=hl
  simp only [ao,bl,bf,ht,tva hc hx0,tvi hi,iW,hk,hte,hl]
theorem Br {op:BinOp} {t t2:TypeId} {x y:Operand}:aK tb N K e (.binOp op t x y t2) (Dh op t x y t2 K e tb):=by
 unfold Dh
 cases hty:Ex tb t with
 | false=>trivial
 | true=>
  obtain ⟨td,ht⟩ :∃ td,tb t=some td:=by
   unfold Ex at hty
   split at hty
   ·exact ⟨_,by assumption⟩
   ·cases hty
  have main :∀ f:xP,(∀ (ik:IntKind) (p q:Int) (G:Rv→Prop) (k:U→Rv) (sl:Rv),G sl→(∀ u ps v,dP td op (.int ik p) (.int ik q) = .val ps v []→(∀ p∈ps,p.holds)→VLe v u.toV→u.wf→G (k u))→G (f ik p q k sl))→
    aK tb N K e (.binOp op t x y t2) (cw K e x fun gx=>cw K e y fun gy=> .val fun a b c d tm _ _=>Bo f (gx a b c d tm) (gy a b c d tm)):=fun f hf=>by
   refine aC (S:=aK tb N K e (.binOp op t x y t2)) fun gx hgx=>aC (S:=aK tb N K e (.binOp op t x y t2)) fun gy hgy=>?_
   subst hgx;subst hgy
   intro a b c d tm hp nx G k sl Wg W h0 h
   refine kE h0 fun ik p hx=>kE h0 fun ik' q hy=>bm h0 fun hk=>?_
   have e1:=w5 hk
   subst e1
   refine hf ik p q G k sl h0 fun u ps v hr hps hv hw=>h u (vok W (ps:=ps) (v:=v) ?_ hps hv hw)
   simp only [ao,bl,bf,ht,tvi hx,tvi hy,hr]
  have bo :∀ (f:xP) (r s:IntKind→Int→Int→Bool),(∀ ik p q k sl,f ik p q k sl=k (.kb (r ik p q)))→(∀ ik p q,r ik p q=s ik p q)→(∀ ik p q,dP td op (.int ik p) (.int ik q) = .val [] (.bool (s ik p q)) [])→
    aK tb N K e (.binOp op t x y t2) (cw K e x fun gx=>cw K e y fun gy=> .val fun a b c d tm _ _=>Bo f (gx a b c d tm) (gy a b c d tm)):=fun f r s h1 h2 h3=>main f fun ik p q G k sl h0 h=>by
   rw [h1]
   exact h _ [] _ (h3 ik p q) dt (by rw [h2];exact z6 _) trivial
  have nu :∀ (f:xP) (r s:IntKind→Int→Int→Int),(∀ ik p q k sl,f ik p q k sl=k (.int ik (r ik p q)))→(∀ ik p q,r ik p q=s ik p q)→(∀ ik p q,dP td op (.int ik p) (.int ik q) = .val [] (.int ik (s ik p q)) [])→
    aK tb N K e (.binOp op t x y t2) (cw K e x fun gx=>cw K e y fun gy=> .val fun a b c d tm _ _=>Bo f (gx a b c d tm) (gy a b c d tm)):=fun f r s h1 h2 h3=>main f fun ik p q G k sl h0 h=>by
   rw [h1]
   exact h _ [] _ (h3 ik p q) dt (by rw [h2];exact VLe.refl _) trivial
  cases op with
  | add=>exact nu EX (fun ik p q=>C7 ik p q) (fun ik p q=>ik.wrap (p+q)) (fun _ _ _ _ _=>rfl) Bn (fun ik p q=>by simp only [dP,if_true])
  | sub=>exact nu E4 (fun ik p q=>Ev ik p q) (fun ik p q=>ik.wrap (p - q)) (fun _ _ _ _ _=>rfl) Ck (fun ik p q=>by simp only [dP,if_true])
  | mul=>exact nu EY (fun ik p q=>DY ik p q) (fun ik p q=>ik.wrap (p*q)) (fun _ _ _ _ _=>rfl) B2 (fun ik p q=>by simp only [dP,if_true])
  | quo=>
   refine main EZ fun ik p q G k sl h0 h=>CB h0 fun m n ha hb=>bm h0 fun h1=>?_
   have h1:1≤n:=aN h1
   subst ha;subst hb
   refine h _ [.ne0 (.ofNat n)] (.int ik (ik.wrap ((Int.ofNat m).tdiv (.ofNat n)))) (by simp only [dP,if_true]) (lB (by show ¬(n:Int)=0;omega)) ?_ trivial
   have:rD ik (Nat.div m n) (ik.wrap ((Int.ofNat m).tdiv (.ofNat n)))=ik.wrap ((Int.ofNat m).tdiv (.ofNat n)):=lg (by rfl)
   show VLe _ (V.int ik (rD ik (Nat.div m n) _))
   rw [this]
   exact VLe.refl _
  | rem=>
   refine main E3 fun ik p q G k sl h0 h=>CB h0 fun m n ha hb=>bm h0 fun h1=>?_
   have h1:1≤n:=aN h1
   subst ha;subst hb
   exact h _ [.ne0 (.ofNat n)] (.int ik ((Int.ofNat m).tmod (.ofNat n))) (by simp only [dP,if_true]) (lB (by show ¬(n:Int)=0;omega)) (VLe.refl _) trivial
  | and=>trivial
  | or=>trivial
  | xor=>trivial
  | shl=>trivial
  | shr=>trivial
  | andNot=>trivial
  | eql=>exact bo fEq (fun _ p q=>eqS p q) (fun _ p q=>p==q) (fun _ _ _ _ _=>rfl) (fun _=>vu) (fun ik p q=>by simp only [dP,if_true])
  | neq=>exact bo fNe (fun _ p q=>yz (eqS p q)) (fun _ p q=>p != q) (fun _ _ _ _ _=>rfl) (fun _ p q=>by rw [xh,vu];rfl) (fun ik p q=>by simp only [dP,if_true])
  | lss=>exact bo fLt (fun _ p q=>ltS p q) (fun _ p q=>decide (p<q)) (fun _ _ _ _ _=>rfl) (fun _=>Aj) (fun ik p q=>by simp only [dP,if_true])
  | leq=>exact bo fLe (fun _ p q=>leS p q) (fun _ p q=>decide (p≤q)) (fun _ _ _ _ _=>rfl) (fun _=>Af) (fun ik p q=>by simp only [dP,if_true])
  | gtr=>exact bo fGt (fun _ p q=>ltS q p) (fun _ p q=>decide (p>q)) (fun _ _ _ _ _=>rfl) (fun _ p q=>Aj q p) (fun ik p q=>by simp only [dP,if_true])
  | geq=>exact bo fGe (fun _ p q=>leS q p) (fun _ p q=>decide (p≥q)) (fun _ _ _ _ _=>rfl) (fun _ p q=>Af q p) (fun ik p q=>by simp only [dP,if_true])
theorem Dq {op:UnOp} {t:TypeId} {x:Operand}:aK tb N K e (.unOp op t x) (cUn op t x K e tb):=by
 cases op with
 | not=>
  refine aC (S:=aK tb N K e (.unOp .not t x)) fun gx hgx=>?_
  subst hgx
  intro a b c d tm hp nx G k sl Wg W h0 h
  refine CD h0 fun q hx=>h _ (vok W (ps:= []) (v:= .kb (!q)) (by simp only [ao,bl,bf,zx,tvb hx]) dt (by rw [←xh];exact VLe.refl _) trivial)
 | _=>trivial
theorem zf {s t:TypeId} {x:Operand}:aK tb N K e (.convert s t x) (ze s t x K e tb):=by
 unfold ze
 cases hk:cvI tb s t with
 | none=>trivial
 | some ik=>
  unfold cvI at hk
  split at hk
  case h_2=>cases hk
  rename_i ts td hs hd
  split at hk
  case h_2=>cases hk
  rename_i k1 k2 hks hkd
  cases hk
  refine aC (S:=aK tb N K e (.convert s t x)) fun gx hgx=>?_
  subst hgx
  intro a b c d tm hp nx G k sl Wg W h0 h
  refine kE h0 fun ik' n hx=>h _ (vok W (ps:= []) (v:= .int ik (ik.wrap n)) (by simp only [ao,bl,bf,hs,hd,mU,ru,hks,hkd,tvi hx]) dt (by rw [←Dt];exact VLe.refl _) trivial)
theorem nn (ev:Operand→U) :∀ l:List Operand,wP l ev=l.map fun x=>(ev x).toV
 | []=>rfl
 | x::l=>by show (ev x).toV::wP l ev=_;rw [nn ev l];rfl
theorem Dp {fn:Fn} {first caps:Array Operand}:aK tb N K e (.makeFunc fn first caps) (cMF fn first caps K e tb):=by
 unfold cMF
 cases fn with
 | func f=>
  show aK tb N K e _ (Bool.rec (motive:=fun _=>Stp) .slow _ (Nat.beq first.size 0))
  cases hb:Nat.beq first.size 0 with
  | false=>trivial
  | true=>
   have hs:=an hb
   intro a b c d tm hp nx G k sl Wg W h0 h
   refine bm h0 fun hpl=>?_
   rw [nn] at hpl
   have hf0:first.toList=[]:=by simpa using hs
   exact h _ (vok W (ps:= []) (v:= .fn f (caps.toList.map fun x=>(rdS K e x a b c d tm).toV)) (by simp only [ao,bl,bf,hf0,List.map_nil];rw [v8 hpl]) dt (by rw [nn];exact VLe.refl _) trivial)
 | _=>trivial
theorem EA (w:W) :(wU w).toV=w.toV:=by
 cases w with
 | c x=>exact vm x
 | agg t n=>rfl
theorem FJ {w:W} (h:w.wf) :(wU w).wf:=by
 cases w with
 | c x=>exact zj x
 | agg t n=>exact h
theorem CC {G:Rv→Prop} {sl:Rv} (h0:G sl) {k:U→Rv} :∀ (i:Nat) (l:List W),(∀ w,l[i]?=some w→G (k (wU w)))→G (Fp i l k sl)
 | 0,[],_=>h0
 | 0,w::_,h=>h w rfl
 | i+1,[],_=>h0
 | i+1,w::l,h=>CC h0 i l h
theorem Bu {x:Operand} {i:Nat}:aK tb N K e (.extract x i) (EN x i K e tb):=by
 refine aC (S:=aK tb N K e (.extract x i)) fun gx hgx=>?_
 subst hgx
 intro a b c d tm hp nx G k sl Wg W h0 h
 have hw:=gI Wg x
 refine DC h0 fun l hx=>CC h0 i l fun w hl=>?_
 have hx0:=hx
 rw [hx] at hw
 exact h _ (vok W (ps:= []) (v:=w.toV) (by simp only [ao,bl,bf,jC,tvt hx0,List.getElem?_map,hl,Option.map_some]) dt (VLe.of_eq (EA w).symm) (FJ (hw w (List.mem_of_getElem? hl))))
theorem Bx {x:Operand}:aK tb N K e (.nilCheck x) (EO x K e tb):=by
 refine aC (S:=aK tb N K e (.nilCheck x)) fun gx hgx=>?_
 subst hgx
 intro a b c d tm hp nx G k sl Wg W h0 h
 refine l3 h0 (fun q o hx=>?_) (fun q v o hx=>?_)
 ·exact h _ (vok W (ps:= []) (v:= .ptr q o) (by simp only [ao,bl,bf,tu,tvp hx]) dt (VLe.refl _) trivial)
 ·exact h _ (vok W (ps:= []) (v:= .gp q v o) (by simp only [ao,bl,bf,tu,tvg hx]) dt (VLe.refl _) trivial)
theorem nO {G:Rv→Prop} {sl:Rv} (h0:G sl) {a b c d:U} {tm:TM} (Wg :∀ i,(cr K e i a b c d tm).wf) {pi:Nat→PI} {f:Nat→Option (Nat×Nat)} (hf :∀ i o s,pi i = .at o s→f i=some (o,s)) {n:Nat} :∀ {l:List (Nat×Operand)} {gs:List PG},Ee K e pi l gs→∀ {t:CT} {cs:List V} {k:CT→Rv},CsR t n cs→
  (∀ t' cs',CsR t' n cs'→fx f cs (l.map fun p=>(p.1,(rdS K e p.2 a b c d tm).toV))=some cs'→G (k t'))→G (zA a b c d tm n gs t k sl)
 | [],[],_,t,cs,k,hc,h=>h t cs hc rfl
 | q::l,.at o s g::gs,hp,t,cs,k,hc,h=>by
  obtain ⟨hp1,hp2,hp3⟩:=hp
  subst hp2
  have hfi:=hf _ _ _ hp1
  have hw:=gI Wg q.2
  refine bm h0 fun hle=>?_
  have hle:o+s≤n:=aN hle
  refine zE h0 (fun x hx h1=>bm h0 fun hs=>?_) fun xt m hx=>bm h0 fun hs=>?_
  ·have e1:s=1:=an hs
   subst e1
   rw [hx] at h1
   refine nO h0 Wg hf hp3 (hc.put (i:=o) (x:=x) (by omega) (by rw [hx];exact h1)) fun t' cs' hc' hfl=>h t' cs' hc' ?_
   simp only [List.map_cons,fx,hfi,sM h1,List.length_singleton,if_true,hc.len,hle]
   rw [←oz (by rw [hc.len];omega),←hx]
   exact hfl
  ·have e1:s=m:=an hs
   subst e1
   have hx0:=hx
   rw [hx] at hw
   obtain ⟨xs,hxs⟩:=hw
   refine nO h0 Wg hf hp3 (hc.splice hxs hle rfl) fun t' cs' hc' hfl=>h t' cs' hc' ?_
   simp only [List.map_cons,fx,hfi,tva hxs hx0,cellsOf,hxs.len,if_true,hc.len,hle]
   exact hfl
 | [],.at _ _ _::_,h,_,_,_,_,_=>h.elim
 | _::_,[],h,_,_,_,_,_=>h.elim
theorem xV {t:TypeId} {parts:Array (Nat×Operand)}:aK tb N K e (.build t parts) (vj t parts K e tb):=by
 unfold vj
 cases hb:qR tb t with
 | false=>trivial
 | true=>
  cases hz:qI tb t with
  | no=>trivial
  | «at» z n=>
   obtain ⟨td,ht,hc⟩:=vb hz
   refine mi (S:=aK tb N K e (.build t parts)) trivial fun gs hgs=>?_
   intro a b c d tm hp nx G k sl Wg W h0 h
   unfold qR at hb
   rw [ht] at hb
   simp only at hb
   split at hb
   ·rename_i fs hk
    refine nO h0 Wg (f:=fun i=>(fs[i]?).map fun q=>(q.1,((tb q.2).map TD.size).getD 0)) (fun i o s hi=>?_) hgs hc fun t' cs' hc' hfl=>?_
    ·unfold AB at hi
     rw [ht] at hi
     simp only [hk] at hi
     split at hi
     ·rename_i o' ft hft
      split at hi
      ·rename_i tf htf
       cases hi
       simp [hft,htf]
      ·cases hi
     ·cases hi
    ·exact h _ (vok W (ps:= []) (v:= .agg cs') (by simp only [ao,bl,bf,ht,jB,hk,hb,if_true,hfl]) dt (by show VLe _ (V.agg (toL t' n));rw [hc'.toL];exact VLe.refl _) ⟨_,hc'⟩)
   ·rename_i l et hk
    obtain ⟨te,hte⟩:=Option.isSome_iff_exists.1 hb
    refine nO h0 Wg (f:=fun i=>some (i*te.size,te.size)) (fun i o s hi=>?_) hgs hc fun t' cs' hc' hfl=>?_
    ·unfold AB at hi
     rw [ht] at hi
     simp only [hk,hte] at hi
     cases hi
     rfl
    ·exact h _ (vok W (ps:= []) (v:= .agg cs') (by simp only [ao,bl,bf,ht,jB,hk,hte,hfl]) dt (by show VLe _ (V.agg (toL t' n));rw [hc'.toL];exact VLe.refl _) ⟨_,hc'⟩)
   ·cases hb
theorem EW {td te:TD} {et:TypeId} (hk:td.kind = .slice et) (hte:tb et=some te) (hty:te.ty=none) (H:aj) (m n:Nat) (parts:List (Nat×V)):ck tb td H m n parts=if n≤1000∧te.size≤1000∧te.zero.length=te.size then
     match fx (fun i=>some (i*te.size,te.size)) (jZ te.zero n) parts with
     | some cs=> .val [] (.gsl m m te.size 0 n) [(m,.grow m te.size cs)]
     | none=> .bad
    else .bad:=by
 have h1 :∀ H,cc tb td H m n parts = .bad:=fun H=>by simp only [cc,hk,hte,hty]
 have h2:cV tb td H m n parts = .bad:=by
  unfold cV
  rw [h1]
  simp only
  unfold iV
  rw [h1]
  cases Dv tb td <;> rfl
 unfold ck
 rw [h2]
 simp only [hk,hte]
 rfl
theorem Bq {t:TypeId} {n:Nat} {parts:Array (Nat×Operand)}:aK tb N K e (.buildSlice t n parts) (Dg t n parts K e tb):=by
 unfold Dg
 cases hb:De tb t n with
 | no=>trivial
 | «at» esz z len=>
  unfold De at hb
  split at hb
  case h_2=>cases hb
  rename_i td ht
  split at hb
  case h_2=>cases hb
  rename_i et hk
  split at hb
  case h_2=>cases hb
  rename_i te hte
  split at hb
  case isFalse=>cases hb
  rename_i hcond
  obtain ⟨h1,h2,h3,h4,h5⟩:=hcond
  cases hb
  have hty:te.ty=none:=by cases hq:te.ty with|none=>rfl|some _=>rw [hq] at h1;cases h1
  have hc:=CsR.ofL h5
  rw [uG,h4] at hc
  refine mi (S:=aK tb N K e (.buildSlice t n parts)) trivial fun gs hgs=>?_
  intro a b c d tm hp nx G k sl Wg W h0 h
  refine nO h0 Wg (f:=fun i=>some (i*te.size,te.size)) (fun i o s hi=>(by cases hi;rfl)) hgs hc fun t' cs' hc' hfl=>?_
  show G (ba nx _)
  rw [bs]
  refine nP h0 fun hm=>h _ _ ⟨⟨[],.gsl nx nx te.size 0 n,[(nx,.grow nx te.size cs')],by simp only [ao,bl,bf,ht,EW hk hte hty,h2,h3,h4,and_self,if_true,hfl],dt,VLe.refl _,ei hm ?_⟩,trivial,ej W hm ⟨_,hc'⟩⟩
  show some (Blk.grow nx te.size (toL t' _))=_
  rw [hc'.toL]
theorem CA {G:Rv→Prop} {sl:Rv} (h0:G sl) {x:Option Operand} {dn:Nat} {ev:Operand→U} {k:Nat→Rv} (h :∀ m:Nat,bnd (dn:Int) (x.map fun x=>(ev x).toV)=some (m:Int)→G (k m)):G (Dd x dn ev k sl):=by
 cases x with
 | none=>exact h dn rfl
 | some x=>
  refine kE h0 fun ik n hx=>wX h0 fun m hn=>h m ?_
  subst hn
  simp only [Option.map_some,tvi hx,bnd]
  rfl
theorem xX {t:TypeId} {x:Operand} {lo hi mx:Option Operand}:aK tb N K e (.slice t x lo hi mx) (vk t x lo hi mx K e tb):=by
 unfold vk
 cases mx with
 | some _=>trivial
 | none=>
  cases hs:El tb t with
  | none=>trivial
  | some esz=>
   unfold El at hs
   split at hs
   case h_2=>cases hs
   rename_i td ht
   refine aC (S:=aK tb N K e (.slice t x lo hi none)) fun gx hgx=>?_
   subst hgx
   intro a b c d tm hp nx G k sl Wg W h0 h
   refine zF h0 fun q v e' o l hu=>mB h0 fun v' e2 ct n2 hg=>bm h0 fun h1=>bm h0 fun h2=>bm h0 fun h3=>CA h0 fun i hi=>CA h0 fun j hj=>bm h0 fun h4=>bm h0 fun h5=>?_
   obtain ⟨cs,hc,hH,_⟩:=eB W hg
   have e1:=an h1
   have e3:=an h2
   have e4:=an h3
   have h4:j≤l:=aN h4
   have h5:i<j:=aN h5
   subst e1
   subst e3
   subst e4
   have hcond :(Nat.beq i 0||Nat.blt i j)=true:=by
    rw [Bool.or_eq_true]
    exact .inr (by rw [Nat.blt_eq];exact h5)
   refine h _ (vok W (ps:= [.sub i j l]) (v:= .gsl q v esz (o+i) (j - i)) ?_ (lB ⟨by omega,by omega,by omega⟩) (VLe.refl _) trivial)
   have hi:bnd 0 (lo.map fun x=>(rdS K e x a b c d tm).toV)=some (i:Int):=hi
   simp only [ao,bl,bf,ht,tvs hu,dE,Option.map_none,hs,hi,hj,hH,and_self,if_true,Int.toNat_natCast,hcond,cond_true]
theorem yD {S:Stp→Prop} (h0:S .slow) {l:List Operand} {k:Operand→Stp} (h :∀ x,l=[x]→S (k x)):S (vT l k):=by
 match l with
 | []=>exact h0
 | [x]=>exact h x rfl
 | _::_::_=>exact h0
theorem yR {S:Stp→Prop} (h0:S .slow) {l:List Operand} {k:Operand→Operand→Stp} (h :∀ x y,l=[x,y]→S (k x y)):S (Bc l k):=by
 match l with
 | []=>exact h0
 | [x]=>exact h0
 | [x,y]=>exact h x y rfl
 | _::_::_::_=>exact h0
theorem Bw {q:Call} (hq:q.callee = .builtin .len):aK tb N K e (.call q) (Dn q K e tb):=by
 unfold Dn
 cases hs:zY tb q with
 | false=>trivial
 | true=>
  unfold zY at hs
  split at hs
  case h_2=>cases hs
  rename_i t hat
  split at hs
  case h_2=>cases hs
  rename_i td ht
  obtain ⟨et,hk⟩ :∃ et,td.kind = .slice et:=by
   unfold zX at hs
   split at hs
   ·exact ⟨_,by assumption⟩
   ·cases hs
  refine yD (S:=aK tb N K e (.call q)) trivial fun x hx=>aC (S:=aK tb N K e (.call q)) fun gx hgx=>?_
  subst hgx
  intro a b c d tm hp nx G k sl Wg W h0 h
  refine wY h0 (fun hu=>?_) (fun hu=>?_) fun r v e' o l hu=>mB h0 fun v' e2 ct n2 hg=>bm h0 fun h1=>bm h0 fun h2=>bm h0 fun h3=>?_
  ·exact h _ (vok W (ps:= []) (v:= .int .i64 0) (by simp only [ao,bl,bf,hq,hat,hx,ht,tvo hu,fZ,pQ,hk]) dt (VLe.refl _) trivial)
  ·exact h _ (vok W (ps:= []) (v:= .int .i64 0) (by simp only [ao,bl,bf,hq,hat,hx,ht,tvo hu,fZ,pQ,hk]) dt (VLe.refl _) trivial)
  ·obtain ⟨cs,hc,hH,_⟩:=eB W hg
   have e1:=an h1
   have e3:=an h2
   have h3:l≤az:=aN h3
   subst e1
   subst e3
   exact h _ (vok W (ps:= []) (v:= .int .i64 l) (by simp only [ao,bl,bf,hq,hat,hx,ht,tvs hu,fZ,hk,hH,h3,and_self,if_true]) dt (VLe.refl _) trivial)
theorem F1 {G:Rv→Prop} {sl:Rv} (h0:G sl) {hp:HP} (W:hpW hp) {esz:Nat} {u:U} {k:Nat→CT→Nat→Rv} (h :∀ cnt t xo n cs,CsR t n cs→xo+cnt*esz≤n→ga (hpH hp) esz u.toV=some (cnt,(cs.drop xo).take (cnt*esz))→G (k cnt t xo)):G (gcG hp esz u k sl):=by
 refine wY h0 (fun hu=>?_) (fun hu=>?_) fun r v e' o l hu=>mB h0 fun v' e2 ct n2 hg=>bm h0 fun h1=>bm h0 fun h2=>bm h0 fun h3=>bm h0 fun h4=>?_
 ·exact h 0 ct0 0 0 [] (.nil _) (by omega) (by simp [tvo hu,ga])
 ·exact h 0 ct0 0 0 [] (.nil _) (by omega) (by simp [tvo hu,ga])
 ·obtain ⟨cs,hc,hH,_⟩:=eB W hg
  have e1:=an h1
  have e3:=an h2
  have e4:=an h3
  have h4 :(o+l)*esz≤n2:=aN h4
  refine h l ct (o*esz) n2 cs hc (by rw [←Nat.add_mul];exact h4) ?_
  simp only [tvs hu,ga,hH,e1,e3,e4,and_self,if_true]
theorem Bp {q:Call} (hq:q.callee = .builtin .append):aK tb N K e (.call q) (Df q K e tb):=by
 unfold Df
 cases ha:Db tb q with
 | no=>trivial
 | «at» esz bytes=>
  unfold Db at ha
  split at ha
  case h_2=>cases ha
  rename_i t t2 hat
  split at ha
  case h_2=>cases ha
  rename_i td td2 ht ht2
  split at ha
  case h_2=>cases ha
  rename_i et hk
  split at ha
  case h_2=>cases ha
  rename_i te hte
  split at ha
  case isFalse=>cases ha
  rename_i hcond
  obtain ⟨hel,hty,hb1,hb2,hz⟩:=hcond
  cases ha
  refine yR (S:=aK tb N K e (.call q)) trivial fun s x hsx=>aC (S:=aK tb N K e (.call q)) fun gs hgs=>aC (S:=aK tb N K e (.call q)) fun gx hgx=>?_
  subst hgs;subst hgx
  intro a b c d tm hp nx G k sl Wg W h0 h
  refine F1 h0 W fun cnt xt xo xn xs hxc hxo hgc=>?_
  show G (ba nx _)
  rw [bs]
  have hall :((xs.drop xo).take (cnt*te.size)).all V.one=true:=List.all_eq_true.2 fun v hv=>hxc.one v (List.mem_of_mem_drop (List.mem_of_mem_take hv))
  have main:ao ⟨tb,fun _=>none,1,N⟩ nx (hpH hp) (fun x=>(rdS K e x a b c d tm).toV) (.call q)=match cK tb td (hpH hp) nx (rdS K e s a b c d tm).toV (rdS K e x a b c d tm).toV with | .val ps v dh=>some (ps,v,dh)|_=>none:=by
   simp only [ao,bl,bf,hq,hat,hsx,ht,ht2,hel,if_true]
   rfl
  have hev :∀ r,(match cnt with
       | 0=>(match (rdS K e s a b c d tm).toV with
        | .nilsl=> .val [] .nilsl []
        | .esl=> .val [] .esl []
        | .gsl h ver esz off len=>match hpH hp h with
         | some (.grow ver' esz' _)=>if ver=ver'∧esz=esz' then .val [] (.gsl h ver esz off len) [] else .bad
         | _=> .bad
        | _=> .bad)
       | k+1=>match (rdS K e s a b c d tm).toV with
        | .nilsl=> .val [.leN ((k+1)*te.bytes) 70368744177664] (.gsl nx nx te.size 0 (k+1)) [(nx,.grow nx te.size ((xs.drop xo).take (cnt*te.size)))]
        | .esl=> .val [.leN ((k+1)*te.bytes) 70368744177664] (.gsl nx nx te.size 0 (k+1)) [(nx,.grow nx te.size ((xs.drop xo).take (cnt*te.size)))]
        | .gsl h ver esz off len=>match hpH hp h with
         | some (.grow ver' esz' cs)=>if ver=ver'∧esz=te.size∧esz'=te.size∧off=0∧len*te.size=cs.length then
           .val [.leN ((len +(k+1))*te.bytes) 70368744177664] (.gsl h nx te.size 0 (len +(k+1))) [(h,.grow nx te.size (cs ++((xs.drop xo).take (cnt*te.size))))] else .bad
         | _=> .bad
        | _=> .bad:Res)=r→cK tb td (hpH hp) nx (rdS K e s a b c d tm).toV (rdS K e x a b c d tm).toV=r:=fun r hr=>by
   have hor:isG (rdS K e s a b c d tm).toV=true∨isG (rdS K e x a b c d tm).toV=true∨te.ty.isNone=true:= .inr (.inr hty)
   simp only [cK,hk,hte]
   rw [if_pos hor,if_pos ⟨hb1,hb2,hz⟩,hgc]
   simp only [hall,if_true]
   exact hr
  cases cnt with
  | zero=>
   have hw:=gI Wg s
   refine wY h0 (fun hu=>?_) (fun hu=>?_) fun r v e' o l hu=>mB h0 fun v' e2 ct n2 hg=>bm h0 fun h1=>bm h0 fun h2=>?_
   ·exact h _ _ (vok W (ps:= []) (v:= .nilsl) (by rw [main,hev _ (by simp only [tvo hu];rfl)]) dt (by rw [hu];exact VLe.refl _) hw)
   ·exact h _ _ (vok W (ps:= []) (v:= .esl) (by rw [main,hev _ (by simp only [tvo hu];rfl)]) dt (by rw [hu];exact VLe.refl _) hw)
   ·obtain ⟨cs,hc,hH,_⟩:=eB W hg
    have e1:=an h1
    have e3:=an h2
    subst e1
    subst e3
    exact h _ _ (vok W (ps:= []) (v:= .gsl r v e' o l) (by rw [main,hev (.val [] (.gsl r v e' o l) []) (by simp only [tvs hu,hH,and_self,if_true])]) dt (by rw [hu];exact VLe.refl _) hw)
  | succ cnt=>
   have hnew :(rdS K e s a b c d tm).toV = .nilsl∨(rdS K e s a b c d tm).toV = .esl→G (y6 te.size te.bytes hp nx (Nat.succ cnt) xt xo k sl):=fun hs=>by
    refine bm h0 fun h1=>bm h0 fun h2=>nP h0 fun hm=>?_
    have h1 :(cnt+1)*te.bytes≤70368744177664:=aN h1
    have hc:=hxc.sub hxo
    refine h _ _ ⟨⟨[.leN ((cnt+1)*te.bytes) 70368744177664],.gsl nx nx te.size 0 (cnt+1),[(nx,.grow nx te.size ((xs.drop xo).take ((cnt+1)*te.size)))],?_,lB h1,VLe.refl _,ei hm ?_⟩,trivial,ej W hm ⟨_,hc⟩⟩
    ·rw [main]
     rcases hs with hs|hs
     ·rw [hev _ (by simp only [hs];rfl)]
     ·rw [hev _ (by simp only [hs];rfl)]
    ·show some (Blk.grow nx te.size (toL (lO ct0 0 xt xo ((cnt+1)*te.size)) ((cnt+1)*te.size)))=_
     rw [hc.toL]
   refine wY h0 (fun hu=>hnew (.inl (by rw [hu];rfl))) (fun hu=>hnew (.inr (by rw [hu];rfl))) fun r v e' o l hu=>mB h0 fun v' e2 ct n2 hg=>bm h0 fun h1=>bm h0 fun h2=>bm h0 fun h3=>bm h0 fun h4=>bm h0 fun h5=>bm h0 fun h6=>bm h0 fun h7=>?_
   obtain ⟨cs,hc,hH,hm⟩:=eB W hg
   have e1:=an h1
   have e3:=an h2
   have e4:=an h3
   have e5:=an h4
   have e6:l*te.size=n2:=an h5
   have h6 :(l +(cnt+1))*te.bytes≤70368744177664:=aN h6
   have h7:n2 +(cnt+1)*te.size≤4096:=aN h7
   subst e1
   subst e3
   subst e5
   have e4:e2=te.size:=e4
   have hl:=hc.len
   have hap:=hc.app hxc hxo h7
   refine h _ _ ⟨⟨[.leN ((l +(cnt+1))*te.bytes) 70368744177664],.gsl r nx te.size 0 (l +(cnt+1)),[(r,.grow nx te.size (cs ++(xs.drop xo).take ((cnt+1)*te.size)))],?_,lB h6,VLe.refl _,ei hm ?_⟩,trivial,ej W hm ⟨_,hap⟩⟩
   ·rw [main,hev _ (by simp only [tvs hu,hH,e4,e6,hl,and_self,if_true];rfl)]
   ·show some (Blk.grow nx te.size (toL (lO ct n2 xt xo ((cnt+1)*te.size)) (n2 +(cnt+1)*te.size)))=_
    rw [hap.toL]
theorem sT (a b c d:U) (tm:TM) (cs:List V) :∀ l:List Operand,y7 (l.map (rdS K e)) a b c d tm cs =(l.map fun x=>rdS K e x a b c d tm)++cs.map gP
 | []=>rfl
 | x::l=>by
  show rdS K e x a b c d tm::y7 (l.map (rdS K e)) a b c d tm cs=_
  rw [sT a b c d tm cs l]
  rfl
theorem zb {q:Call}:aK tb N K e (.call q) (za q K e tb):=by
 unfold za
 cases hq:q.callee with
 | value f=>
  refine aC (S:=aK tb N K e (.call q)) fun gf hgf=>um (S:=aK tb N K e (.call q)) fun gs hgs=>?_
  subst hgf;subst hgs
  intro a b c d tm G k sl Wg h0 h
  refine E5 h0 fun g cs hf=>bm h0 fun hpl=>?_
  rw [sT]
  refine h g _ ⟨⟨q,f,cs,rfl,hq,by show (rdS K e f a b c d tm).toV=_;rw [hf];rfl,hpl,fun E l hl=>?_⟩,fun u hu=>?_⟩
  ·rw [List.map_append,List.map_map,List.map_map]
   have :∀ (xs:List V) (l:List Value),ae E (xs++cs) l→ae E (xs++cs.map (U.toV ∘ gP)) l:=by
    intro xs
    induction xs with
    | nil=>intro l hl;exact lI (fun v=>v) _ iA cs l (by simpa using hl)
    | cons x xs ih=>
     intro l hl
     cases l with
     | nil=>simp [ae] at hl
     | cons y l=>simp only [List.cons_append,ae] at hl ⊢;exact ⟨hl.1,ih l hl.2⟩
   exact this _ l hl
  ·rcases List.mem_append.1 hu with h1|h1
   ·obtain ⟨x,_,rfl⟩:=List.mem_map.1 h1
    exact gI Wg x
   ·obtain ⟨v,_,rfl⟩:=List.mem_map.1 h1
    exact iB v
 | builtin b=>
  show aK tb N K e (.call q) (EM b q K e tb)
  cases b with
  | append=>exact Bp hq
  | len=>exact Bw hq
  | _=>exact trivial
 | _=>exact trivial
theorem Ds (op:Op):aK tb N K e op (cmp K e tb op):=by
 cases op with
 | move x=>exact cMove_ok.1
 | assign x=>exact cMove_ok.2
 | pick=>exact zh
 | alloc=>exact xU
 | box=>exact Bt
 | build=>exact xV
 | buildSlice=>exact Bq
 | load=>exact zg
 | store=>exact xY
 | nilCheck=>exact Bx
 | binOp=>exact Br
 | unOp=>exact Dq
 | convert=>exact zf
 | makeFunc=>exact Dp
 | slice=>exact xX
 | fieldAddr=>exact Di
 | field=>exact Dj
 | indexAddr=>exact Dk
 | index=>exact Bv
 | extract=>exact Bu
 | call=>exact zb
 | _=>exact trivial
end Go.Mir
