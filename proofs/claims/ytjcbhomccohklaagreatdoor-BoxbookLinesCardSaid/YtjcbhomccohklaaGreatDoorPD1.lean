/- Texts of the mirror and contracts, put together. -/
import Derived.Test.YtjcbhomccohklaaGreatDoorPD0
import Derived.DeepKeys3
import Derived.MapKept
import Derived.LoopN
namespace Go.aa
section
open Go.RowKit
variable {P:Program}
theorem gT {E:Env} {α:Type} (f:α->V) (g:α->Value) (h :∀ x,ae E (f x) (g x)) :∀ l:List α,ai E (l.map f) (l.map g)
 | []=>by simp [ai]
 | x::l=>by simp only [List.map_cons,ai];exact ⟨h x,gT f g h l⟩
structure GBlk (E:Env) (h esz off len:Nat) (cs:List V) (v:Value) (b cap:Nat) (c:Array Value) (T:TypeId) (fr:Nat×Nat):Prop where
 at_:E.ρ h=some b
 val:v = .slice (some ⟨b,off*esz,none⟩) len cap
 blk:E.w.heap[b]?=some (.cells c T fr)
 room :(off+cap)*esz<=c.size
 fits:len<=cap
 known :(off+len)*esz<=cs.length
 frz:sq fr c.size
 S :¬ E.S b
 rel:ai E cs (c.toList.take cs.length)
 le:cs.length<=c.size
theorem EZ {f:Nat->Option (Nat×Nat)} :∀ {parts:List (Nat×V)} {cs cs':List V},ka f cs parts=some cs'->cs'.length=cs.length
 | [],cs,cs',h=>by simp only [ka,Option.some.injEq] at h;rw [h]
 |(i,v)::ps,cs,cs',h=>by
  simp only [ka] at h;split at h
  case h_2=>cases h
  split at h
  case h_2=>cases h
  split at h
  case isFalse=>cases h
  split at h
  case isFalse=>cases h
  rename_i h2;rw [EZ h];unfold cJ;simp;omega
theorem pI {B:aK} {E:Env} (hE:aM B E) {h ver esz off len:Nat} {cs:List V} (hH:E.H h=some (.grow ver esz cs)) {v:Value} (hv:ae E (.gsl h ver esz off len) v) :
  ∃ b cap c T fr,GBlk E h esz off len cs v b cap c T fr:=by
 simp only [ae] at hv;obtain ⟨b,cap,c,T,fr,h1,h2,h3,h4,h5,h6⟩:=hv.2.2.2 _ hH;obtain ⟨_,b',c',T',fr',k1,k2,k3,k4,k5⟩:=hE.blk _ _ hH;rw [h1] at k1;cases k1;rw [h3] at k2;cases k2
 have:=bk k5
 simp only [List.length_take,Array.length_toList] at this;exact ⟨b,cap,c,T,fr,h1,h2,h3,h4,h5,h6,k3,k4,k5,by omega⟩
theorem yN {B:aK} {E:Env} (hE:aM B E) {t:TypeId} {td:TD} (ht:cy P t td) {a:V} {av:Value} (ha:ae E a av) {ps:List Ob} {v:V} {dh:List (Nat×bd)} (h:gY td E.H a = .val ps v dh) :
  dh=[]/\∃ v',(Instr.loadAt t av).run P E.w = .ok v' E.w/\ae E v v':=by
 unfold gY at h;split at h
 ·rename_i hh ver off;split at h
  case h_2=>cases h
  rename_i ver' esz cs hH;split at h
  case isFalse=>cases h
  rename_i e;subst e;simp only [ae] at ha;obtain ⟨_,b,c,T,fr,k1,k2,k3,k4,k5⟩:=hE.blk _ _ hH;obtain ⟨b',hb',rfl⟩:=ha.2.2.2 _ _ hH;rw [k1] at hb';cases hb';have hl:=bk k5;simp only [List.length_take,Array.length_toList] at hl
  have:=rW ht k2 (p:=0) (n:=cs.length) (by omega) (by simpa [gR] using k5) h
  simpa [Instr.loadAt,Instr.sureAddr] using this
 ·exact rM hE ht ha h
theorem jZ {B:aK} {E:Env} (hE:aM B E) {t:TypeId} {td:TD} (ht:cy P t td) {a x:V} {av xv:Value} (ha:ae E a av) (hx:ae E x xv) (m:Nat) {ps:List Ob} {dh:List (Nat×bd)} (h:eJ td E.H a x = .skip ps dh) :
  ∃ w' E',(Instr.storeAt t av xv).run P E.w = .ok () w'/\Good B E m dh w' E':=by
 unfold eJ at h;split at h
 ·rename_i hh ver off;split at h
  case h_2=>cases h
  rename_i xs hxs;split at h
  case isFalse=>cases h
  rename_i hlen;obtain ⟨hlen,hone⟩:=hlen;split at h
  case h_2=>cases h
  rename_i ver' esz cs hH;split at h
  case isFalse=>cases h
  rename_i hsz;obtain ⟨e,hsz⟩:=hsz;subst e;cases h;have hvs:=cC hx hxs;have hvl:xv.cells.toList.length=td.size:=by rw [<-bk hvs];exact hlen
  have hvl':xv.cells.size=td.size:=by simpa using hvl
  have h1c:=vu hone hvs;simp only [ae] at ha;obtain ⟨hU,b,c,T,fr,h1,h2,h3,h4,h5⟩:=hE.blk _ _ hH;obtain ⟨b',hb',rfl⟩:=ha.2.2.2 _ _ hH;rw [h1] at hb';cases hb';have hl:=bk h5;simp only [List.length_take,Array.length_toList] at hl
  have run :(Instr.storeAt t (.pointer (some ⟨b,off,none⟩)) xv).run P E.w = .ok () (E.w.setCells b off xv.cells.toList):=by
   have:=run_storeCells_cells (P:=P) b off xv.cells.toList 0 E.w (fun j hj=>by rw [iR h2];simp;omega) (fun j hj=>pG h2 h3 (by omega)) h1c
   simp only [Instr.storeAt,Instr.sureAddr,storeVar,Sem.run_bind,Sem.run_pure,Result.andThen_ok,ht.sizeOf,hvl',ne_eq,not_true_eq_false,if_false,this,Nat.add_zero]
  obtain ⟨c',g1,g2⟩:=eP b xv.cells.toList off E.w c h2 (by omega)
  have hcs:c'.size=c.size:=by
   have:=congrArg List.length g2
   simp at this;omega
  have hsl :(cJ cs off xs).length=cs.length:=by unfold cJ;simp;omega
  obtain ⟨R,X⟩:=nX hE hh (.grow ver esz (cJ cs off xs)) (some b) (E.w.setCells b off xv.cells.toList) E.U (fun _ h=>h) (hE.used _ _ hH)
   (ee b (fun b1=>some b=some b1) rfl _ _ _) (fun b1 e=>by cases e;exact .inr ⟨h1,_,hH,rfl⟩) (fun b1 e=>by cases e;exact h4) (fun _ e _=>by cases e) (fun _ _ _ _ e=>by cases e)
   (fun X=>⟨hU,b,c',T,fr,aE _ _ _,g1,ko h3 hcs,h4,by
    rw [g2,hsl];have h6:=jP (bD X _ _ h5) (bD X _ _ hvs) off
    have e :(c.toList.take off++xv.cells.toList++c.toList.drop (off+xv.cells.toList.length)).take cs.length =(c.toList.take cs.length).take off++xv.cells.toList ++(c.toList.take cs.length).drop (off+xv.cells.toList.length):=by
     have e1 :(c.toList.take off++xv.cells.toList).length=off+td.size:=by simp only [List.length_append,List.length_take,Array.length_toList,hvl];omega
     rw [List.take_append,List.take_of_length_le (by rw [e1];exact hsz),e1,List.take_take,Nat.min_eq_left (by omega),hvl];congr 1;rw [List.drop_take]
    rw [e]
    exact h6⟩)
   (fun ver2 esz2 cs2 e _ _=>by
    cases e
    exact ⟨cs,hH,hsl.symm,h1.symm,fun b2 c2 T2 fr2 hb2 hw2=>by
     rw [h1] at hb2;cases hb2;rw [h2] at hw2;cases hw2
     exact ⟨c',T,fr,g1,hcs⟩⟩)
  exact ⟨_,_,run,R,X,rfl,(cL _ _ _).symm,fun _ h=> .inl h⟩
 ·exact yQ hE ht ha hx m h
theorem wz {E:Env} {tb:bG} (hT:cn P tb) {t:TypeId} {td:TD} (ht:cy P t td) {x:V} {xv:Value} (hx:ae E x xv) {f:Nat} {ps:List Ob} {v:V} {dh:List (Nat×bd)}
  (h:ma tb td x f = .val ps v dh):dh=[]/\∃ v',(Instr.fieldAt t xv f).run P E.w = .ok v' E.w/\ae E v v':=by
 unfold ma at h;split at h
 ·rename_i hh ver off;split at h
  case h_2=>cases h
  rename_i fs hk;have hkd:=ht.kind;rw [hk] at hkd;obtain ⟨fields,hu,hfs⟩:=hkd;split at h
  case h_2=>cases h
  rename_i o ft hf;obtain ⟨fl,h1,h2,h3⟩:=nG hfs hf;split at h
  case h_2=>cases h
  rename_i tf htf;have htf':=hT _ _ htf;split at h
  case isTrue=>cases h
  rename_i hsz;cases h
  have run' :∀ (a:Addr),(Instr.fieldAt t (.pointer (some a)) f).run P E.w = .ok (.pointer (some (a.add o))) E.w:=fun a=>by simp [Instr.fieldAt,run_underlying hu,h1,Instr.sureAddr,fieldPlace,h3,htf'.sizeOf,hsz,h2]
  refine ⟨rfl,?_⟩;simp only [ae] at hx ⊢;obtain ⟨a,rfl⟩:=hx.2.2.1;refine ⟨_,run' a,hx.1,hx.2.1,⟨_,rfl⟩,fun esz cs hcs=>?_⟩;obtain ⟨b,hb,he⟩:=hx.2.2.2 _ _ hcs;cases he;exact ⟨b,hb,by rw [cr]⟩
 ·exact yK hT ht hx h
theorem wD {B:aK} {E:Env} (hE:aM B E) {tb:bG} (hT:cn P tb) {t:TypeId} {td:TD} (ht:cy P t td) {x i:V} {xv iv:Value} (hx:ae E x xv) (hi:ae E i iv) {ps:List Ob} {v:V} {dh:List (Nat×bd)}
  (h:fw tb td E.H x i = .val ps v dh) (hps :∀ p∈ps,p.holds):dh=[]/\∃ v',(Instr.indexAt t xv iv).run P E.w = .ok v' E.w/\ae E v v':=by
 unfold fw at h;have hkd:=ht.kind;split at h
 ·rename_i hh ver esz off len;split at h
  case h_2=>cases h
  rename_i k n;simp only [ae] at hi;obtain ⟨rfl,_⟩:=hi;split at h
  case h_2=>cases h
  rename_i e hk;rw [hk] at hkd;simp only [bJ] at hkd;split at h
  case h_2=>cases h
  rename_i te hte;have hte':=hT _ _ hte;split at h
  case h_2=>cases h
  rename_i ver' esz' cs hH;split at h
  case isFalse=>cases h
  rename_i hc;obtain ⟨hsz,rfl,rfl⟩:=hc;cases h;have hp:=hps _ (List.mem_singleton.2 rfl);simp only [Ob.holds] at hp;have hx0:=hx;simp only [ae] at hx0;obtain ⟨b,cap,c,T,fr,G⟩:=pI hE hH hx;have e:=G.val;subst e;refine ⟨rfl,.pointer (some ⟨b,(off+n.toNat)*esz,none⟩),?_,?_⟩
  ·have e2 :(off+n.toNat)*esz=off*esz+n.toNat*esz:=Nat.add_mul _ _ _;rw [e2];simp [Instr.indexAt,asIntOf,run_underlying hkd,hte'.sizeOf,hp.1,hp.2,cr,hsz]
  ·simp only [ae];refine ⟨hx0.1,hx0.2.1,⟨_,rfl⟩,fun esz2 cs2 hH2=>?_⟩;exact ⟨b,G.at_,rfl⟩
 ·rename_i hh ver off;split at h
  case h_2=>cases h
  rename_i k n;simp only [ae] at hi;obtain ⟨rfl,_⟩:=hi;split at h
  case h_2=>cases h
  rename_i len e hk;rw [hk] at hkd;simp only [bJ] at hkd;split at h
  case h_2=>cases h
  rename_i te hte;have hte':=hT _ _ hte;cases h;have hp:=hps _ (List.mem_singleton.2 rfl);simp only [Ob.holds] at hp;refine ⟨rfl,?_⟩;simp only [ae] at hx;obtain ⟨hU,hU2,⟨a,rfl⟩,hx⟩:=hx;refine ⟨.pointer (some (a.add (n.toNat*te.size))),?_,?_⟩
  ·simp [Instr.indexAt,asIntOf,run_underlying hkd,hte'.sizeOf,hp.1,hp.2,Instr.sureAddr]
  ·simp only [ae];refine ⟨hU,hU2,⟨_,rfl⟩,fun esz cs hcs=>?_⟩;obtain ⟨b,hb,he⟩:=hx _ cs hcs;cases he;exact ⟨b,hb,by rw [cr]⟩
 ·exact yM hE hT ht hx hi h hps
theorem wF {B:aK} {E:Env} (hE:aM B E) {tb:bG} (hT:cn P tb) {t:TypeId} {td:TD} (ht:cy P t td) (m:Nat) {x:V} {lo hi mx:Option V} {xv:Value} {lov hiv mxv:Option Value} (hx:ae E x xv) (hlo:jg E lo lov) (hhi:jg E hi hiv) (hmx:jg E mx mxv)
  {ps:List Ob} {v:V} {dh:List (Nat×bd)}
  (h:gZ tb td E.H x lo hi mx = .val ps v dh) (hps :∀ p∈ps,p.holds) :∃ v' E',(Instr.sliceAt t xv lov hiv mxv).run P E.w = .ok v' E.w/\Good B E m dh E.w E'/\ae E' v v':=by
 unfold gZ at h;have hkd:=ht.kind
 have eb :∀ (e:TypeId) (te:TD) (_:td.kind = .slice e) (_:cy P e te) (a:Option Addr) (len cap l h m:Nat),(Instr.sliceBounds true len cap lov hiv mxv).run P E.w = .ok (l,h,m) E.w->
   (Instr.sliceAt t (.slice a len cap) lov hiv mxv).run P E.w = .ok (.slice (if m=l then a else a.map (·.add (l*te.size))) (h - l) (m - l)) E.w:=fun e te hk hte a len cap l h m hr=>by
  rw [hk] at hkd;simp only [bJ] at hkd;simp [Instr.sliceAt,Instr.slice,run_underlying hkd,hr,hte.sizeOf]
 split at h
 ·rename_i hh ver esz off len;split at h
  ·rename_i k0 n0;split at h
   case isFalse=>cases h
   rename_i hc;obtain ⟨rfl,h1,h2,h3⟩:=hc;cases h;obtain ⟨n,hn⟩:=Option.isSome_iff_exists.1 h3;obtain ⟨e,te,hk,hte,_⟩:=jS hT hn;obtain ⟨kl,rfl⟩:=rV h1 hlo;obtain ⟨kh,rfl⟩:=rV h2 hhi
   have hmv :∃ km,mxv=some (.int km 0):=by
    cases mxv with
    | none=>simp [jg] at hmx
    | some v=>simp only [jg,ae] at hmx;exact ⟨_,by rw [hmx.1]⟩
   obtain ⟨km,rfl⟩:=hmv;simp only [ae] at hx;obtain ⟨_,_,⟨a,l,c,rfl⟩,_⟩:=hx;refine ⟨_,E,eb e te hk hte (some a) l c 0 0 0 (by simp [Instr.sliceBounds,Instr.sliceBound,asIntOf]),eN hE m,?_⟩;simp [ae]
  ·cases h
  ·have hmv:mxv=none:=by
    cases mxv with
    | none=>rfl
    | some v=>simp [jg] at hmx
   subst hmv;split at h
   case h_2=>cases h
   rename_i n l r hn el er;split at h
   case h_2=>cases h
   rename_i ver' esz' cs hH;split at h
   case isFalse=>cases h
   rename_i hc;obtain ⟨rfl,rfl,rfl⟩:=hc;cases h;have hp:=hps _ (List.mem_singleton.2 rfl);simp only [Ob.holds] at hp;obtain ⟨e,te,hk,hte,hts⟩:=jS hT hn;have hx0:=hx;simp only [ae] at hx0;obtain ⟨b,cap,c,T,fr,G⟩:=pI hE hH hx;have ev:=G.val;subst ev;have hr:=eb e te hk hte (some ⟨b,off*n,none⟩) len cap _ _ cap (iI (P:=P) hlo hhi true len cap G.fits el er hp.1 hp.2.1 hp.2.2);refine ⟨_,E,hr,eN hE m,?_⟩;have hcapl:=G.room;have hlen:=G.fits;have hcsl:=G.known
   cases hb:Nat.beq l.toNat 0||Nat.blt l.toNat r.toNat with
   | false=>
    simp only [cond_false,ae];simp only [Bool.or_eq_false_iff] at hb
    have h1 :¬ l.toNat<r.toNat:=fun h=>by
     have:Nat.blt l.toNat r.toNat=true:=by rw [Nat.blt_eq];exact h
     rw [this] at hb;cases hb.2
    rw [show r.toNat - l.toNat=0 by omega];exact .nil
   | true=>
    simp only [cond_true,ae]
    have hadd :(if cap=l.toNat then some (⟨b,off*n,none⟩:Addr) else (some (⟨b,off*n,none⟩:Addr)).map (·.add (l.toNat*te.size)))=some ⟨b,(off+l.toNat)*n,none⟩:=by
     simp only [Bool.or_eq_true,Nat.blt_eq] at hb;split
     ·rename_i hcl
      have:l.toNat=0:=by
       rcases hb with h|h
       ·exact Nat.eq_of_beq_eq_true h
       ·omega
      rw [this];simp
     ·simp only [Option.map_some,cr,hts,Nat.add_mul]
    rw [hadd];refine ⟨hx0.1,hx0.2.1,⟨_,_,_,rfl⟩,fun cs2 hH2=>?_⟩;rw [hH] at hH2;cases hH2;refine ⟨b,cap - l.toNat,c,T,fr,G.at_,rfl,G.blk,?_,by omega,?_⟩
    ·rw [show off+l.toNat +(cap - l.toNat)=off+cap by omega];exact hcapl
    ·refine Nat.le_trans (Nat.mul_le_mul_right _ ?_) hcsl;omega
 ·exact yP hE hT ht m hx hlo hhi hmx h hps
theorem FU {B:aK} {E:Env} (hE:aM B E) (m:Nat) (hm :¬ E.U m) (esz len cap:Nat) (cs:List V) (c:Array Value) (T:TypeId) (hc:ai E cs (c.toList.take cs.length)) (hcap:cap*esz<=c.size) (hl:len<=cap) (hcs:len*esz<=cs.length) :
  ∃ E',Good B E m [(m,.grow m esz cs)] { E.w with heap:=E.w.heap.push (.cells c T (0,0)) } E'/\ae E' (.gsl m m esz 0 len) (.slice (some ⟨E.w.heap.size,0,none⟩) len cap):=by
 obtain ⟨E',G,h1,h2,h3⟩:=ue hE m hm (.grow m esz cs) c T (fun E' X hu hρ hw hS _=>⟨hu,_,c,T,(0,0),hρ,hw,fun i _ h=>by simp at h,hS,bD X _ _ hc⟩) (fun n=>E.U n\/n=m) (fun _=>Iff.rfl);refine ⟨E',G,?_⟩;simp only [ae];refine ⟨h1,h1,⟨_,_,_,rfl⟩,fun cs2 hH2=>⟨_,cap,c,T,(0,0),h2,by simp,h3,by simpa using hcap,hl,?_⟩⟩
 have:E'.H m=some (.grow m esz cs):=by rw [G.h,cL];exact aE _ _ _
 rw [this] at hH2;cases hH2;simpa using hcs
theorem BR (z:Array Value) (sz N:Nat) (hzl:z.size=sz) :
  ∃ zc:Array Value,((N*sz=0/\zc=#[])\/(N*sz≠0/\zc=z))/\((Array.range (N*sz)).map (zc[· % zc.size]!)).toList =(List.replicate N z.toList).flatten:=by
 by_cases h0:N*sz=0
 ·refine ⟨#[],.inl ⟨h0,rfl⟩,?_⟩;rw [h0];rcases Nat.mul_eq_zero.1 h0 with h0|h0
  ·subst h0;simp
  ·have:z.toList=[]:=List.eq_nil_of_length_eq_zero (by rw [Array.length_toList];omega)
   rw [this];simp
 ·refine ⟨z,.inr ⟨h0,rfl⟩,?_⟩;rw [<-hzl,Array.toList_map,Array.toList_range];exact nt _ _
theorem p9 {B:aK} {E:Env} (hE:aM B E) {tb:bG} (hT:cn P tb) {t:TypeId} {td:TD} (ht:cy P t td) (m:Nat) (hm :¬ E.U m) {n:Nat} {parts:List (Nat×V)} {pv:Array (Nat×Value)} (hp:qb E parts pv.toList)
  {ps:List Ob} {v:V} {dh:List (Nat×bd)} (h:eM tb td E.H m n parts = .val ps v dh) :∃ v' w' E',(Instr.buildSlice t n pv).run P E.w = .ok v' w'/\Good B E m dh w' E'/\ae E' v v':=by
 unfold eM at h;split at h
 case h_2=>exact p8 hE hT ht m hm hp h
 have hk:=ht.kind;split at h
 case h_2=>cases h
 rename_i e h1;rw [h1] at hk;simp only [bJ] at hk;split at h
 case h_2=>cases h
 rename_i te hte;have hte':=hT _ _ hte;split at h
 case isFalse=>cases h
 rename_i hc;obtain ⟨c2,c3,c4⟩:=hc;split at h
 case h_2=>cases h
 rename_i cs hcs;cases h;obtain ⟨z,hz,hzz⟩:=hte'.zeroValue E.w;have hzr:ai E te.zero z.cells.toList:=eF hzz;have hzl:z.cells.size=te.size:=by have:=bk hzr;simp at this;omega
 have hsmall :¬(n*te.size>2 ^ 24):=by
  have:=Nat.mul_le_mul c2 c3
  omega
 obtain ⟨zc,hz1,hz2⟩:=BR z.cells te.size n hzl;have hzv:=iM hzr n;rw [<-hz2] at hzv;obtain ⟨cells',r1,r2⟩:=kc hp hzv hcs;have hl2:=bk r2
 have hl3:cells'.size=n*te.size:=by
  have e:=EZ hcs
  have e2 :(qd te.zero n).length=n*te.size:=by
   have:=bk (iM hzr n)
   rw [this];simp [hzl]
  have:=Array.length_toList (xs:=cells')
  omega
 obtain ⟨E',G,hv⟩:=FU hE m hm te.size n n cs cells' e (by rw [List.take_of_length_le (by omega)];exact r2) (by omega) (Nat.le_refl _) (by have:=Array.length_toList (xs:=cells');omega);refine ⟨_,_,E',?_,G,hv⟩;unfold Instr.buildSlice;simp only [Sem.run_bind,run_underlying hk,Result.andThen_ok,hte'.sizeOf,hsmall,if_false];rcases hz1 with ⟨h0,rfl⟩ |⟨h0,rfl⟩
 ·simp only [h0,if_true,Sem.run_bind,Sem.run_pure,Result.andThen_ok] at r1 ⊢;simp only [r1,newRow,Sem.run_bind,run_newObj,Result.andThen_ok,Sem.run_pure]
 ·simp only [h0,if_false,Sem.run_bind,hz,Sem.run_pure,Result.andThen_ok,r1,newRow,run_newObj]
theorem PU {α:Type} (z:List α) (n N:Nat) (h:n<=N) :((List.replicate N z).flatten).take (n*z.length) =(List.replicate n z).flatten:=by
 obtain ⟨d,rfl⟩ :∃ d,N=n+d:=⟨N - n,by omega⟩;rw [<-List.replicate_append_replicate,List.flatten_append];have hl :((List.replicate n z).flatten).length=n*z.length:=by simp
 rw [<-hl,List.take_left]
theorem qQ {B:aK} {E:Env} (hE:aM B E) {tb:bG} (hT:cn P tb) {t:TypeId} {td:TD} (ht:cy P t td) (m:Nat) (hm :¬ E.U m) {l c:V} {lv cv:Value} (hl:ae E l lv) (hc:ae E c cv)
  {ps:List Ob} {v:V} {dh:List (Nat×bd)} (h:jJ tb td E.H m l c = .val ps v dh) (hps :∀ p∈ps,p.holds) :∃ v' w' E',(Instr.makeSlice t lv cv).run P E.w = .ok v' w'/\Good B E m dh w' E'/\ae E' v v':=by
 unfold jJ at h;split at h
 case h_2=>exact rN hE hT ht m hm hl hc h hps
 have hk:=ht.kind;split at h
 case h_2=>cases h
 rename_i k1 n k2 c;split at h
 case h_2=>cases h
 rename_i e h1;rw [h1] at hk;simp only [bJ] at hk;split at h
 case h_2=>cases h
 rename_i te hte;have hte':=hT _ _ hte;split at h
 case isFalse=>cases h
 rename_i hcc;obtain ⟨c2,c4⟩:=hcc;cases h;have hp:=hps _ (List.mem_singleton.2 rfl);simp only [Ob.holds] at hp;obtain ⟨p1,p2,p3⟩:=hp;simp only [ae] at hl hc;obtain ⟨rfl,_⟩:=hl;obtain ⟨rfl,_⟩:=hc;obtain ⟨z,hz,hzz⟩:=hte'.zeroValue E.w;have hzr:ai E te.zero z.cells.toList:=eF hzz;have hzl:z.cells.size=te.size:=by have:=bk hzr;simp at this;omega
 obtain ⟨M,rfl⟩:=Int.eq_ofNat_of_zero_le p1;obtain ⟨N,rfl⟩:=Int.eq_ofNat_of_zero_le (Int.le_trans p1 p2);have hN:N<=17179869184:=by omega
 have hMN:M<=N:=by omega
 have hwrap :∀ (X:Nat),X<=N->IntKind.i64.wrap (X:Int) =(X:Int):=fun X hX=>by unfold IntKind.wrap;simp [IntKind.bits,IntKind.signed];omega
 have hbytes :((te.bytes:Int) *(N:Int))<=281474976710656:=by
  have:te.bytes*N<=1000*17179869184:=Nat.mul_le_mul c2 hN
  have h2 :((te.bytes*N:Nat):Int)<=17179869184000:=by omega
  rw [Int.natCast_mul] at h2;omega
 obtain ⟨hb1,hb2⟩:=hte'.bytes E.w;obtain ⟨zc,hz1,hz2⟩:=BR z.cells te.size N hzl;have hsz :((Array.range (N*te.size)).map (zc[· % zc.size]!)).size=N*te.size:=by simp
 have hlen0 :(qd te.zero M).length=M*te.size:=by
  have:=bk (iM hzr M)
  rw [this];simp [hzl]
 have htk :((Array.range (N*te.size)).map (zc[· % zc.size]!)).toList.take (qd te.zero M).length =(List.replicate M z.cells.toList).flatten:=by
  rw [hz2,hlen0]
  have:=PU z.cells.toList M N hMN
  rw [show z.cells.toList.length=te.size by simpa using hzl] at this;exact this
 obtain ⟨E',G,hv⟩:=FU hE m hm te.size M N (qd te.zero M) ((Array.range (N*te.size)).map (zc[· % zc.size]!)) e (by rw [htk];exact iM hzr M) (by rw [hsz];exact Nat.le_refl _) hMN (by rw [hlen0];exact Nat.le_refl _);refine ⟨_,_,E',?_,by simpa using G,by simpa using hv⟩;unfold Instr.makeSlice;simp only [Sem.run_bind,run_underlying hk,Result.andThen_ok,asInt,asIntOf,Sem.run_pure,hb1,hb2,hwrap M hMN,hwrap N (Nat.le_refl _)]
 have hcond :¬((decide ((N:Int)<0)||decide ((te.bytes:Int) *(N:Int)>2 ^ 48)||decide ((M:Int)<0)||decide ((M:Int) >(N:Int)))=true):=by
  have e48 :(2:Int) ^ 48=281474976710656:=by decide
  rw [e48];simp only [Bool.or_eq_true,decide_eq_true_eq];omega
 rw [if_neg hcond];simp only [Sem.run_bind,run_askRoom,Result.andThen_ok,hte'.sizeOf,Int.toNat_natCast];rcases hz1 with ⟨h0,rfl⟩ |⟨h0,rfl⟩
 ·simp only [h0,if_true,Sem.run_bind,Sem.run_pure,Result.andThen_ok,newRow,run_newObj];rfl
 ·simp only [h0,if_false,Sem.run_bind,hz,Sem.run_pure,Result.andThen_ok,newRow,run_newObj];rfl
theorem CO {B:aK} {E:Env} (hE:aM B E) {z:Nat} {x:V} {xv:Value} (hx:ae E x xv) {n:Nat} {ys:List V} (h:lF E.H z x=some (n,ys)) (hone:ys.all V.one=true) :
  ∃ a cap l,SrcC P E z n xv a cap l/\ai E ys l:=by
 have empty :∀ (a:Option Addr) (cap:Nat),n=0->ys=[]->xv = .slice a 0 cap->∃ a cap l,SrcC P E z n xv a cap l/\ai E ys l:=fun a cap e1 e3 e2=>by
  subst e1;subst e2;subst e3;refine ⟨a,cap,[],⟨fun _=>rfl,by simp,fun w _=>?_,fun v hv=>by cases hv⟩,trivial⟩
  cases a with
  | none=>simp [Builtin.firstCells]
  | some a=>
   have:=run_loadCells_list (P:=P) w a [] (fun j v hj=>by simp at hj)
   simpa [Builtin.firstCells] using this
 unfold lF at h;split at h
 ·cases h;simp only [ae] at hx;exact empty _ _ rfl rfl hx
 ·cases h;simp only [ae] at hx;obtain ⟨a,hx⟩:=hx;exact empty _ _ rfl rfl hx
 ·cases h;simp only [ae] at hx;generalize hl:[xv]=l0 at hx
  cases hx with
  | nil=>cases hl;exact empty _ _ rfl rfl rfl
  | slice=>cases hl;exact empty _ _ rfl rfl rfl
 ·rename_i hh ver esz off len;split at h
  case h_2=>cases h
  rename_i ver' esz2 cs hH;split at h
  case isFalse=>cases h
  rename_i e;obtain ⟨rfl,rfl,rfl⟩:=e;cases h;obtain ⟨b,cap,c,T,fr,G⟩:=pI hE hH hx;have ev:=G.val;subst ev;have hkn:=G.known;have hle:=G.le;have h2:off*esz2+n*esz2<=cs.length:=by rw [<-Nat.add_mul];exact hkn
  have hv:ai E ((cs.drop (off*esz2)).take (n*esz2)) (((c.toList.take cs.length).drop (off*esz2)).take (n*esz2)):=kK (iL G.rel _) _
  have hl :(((c.toList.take cs.length).drop (off*esz2)).take (n*esz2)).length=n*esz2:=by simp;omega
  refine ⟨some ⟨b,off*esz2,none⟩,cap,_,⟨fun _=>rfl,hl,fun w hw=>?_,vu hone hv⟩,hv⟩;have hbw:w.heap[b]?=some (.cells c T fr):=by rw [hw];exact G.blk
  have:=run_loadCells_list (P:=P) w ⟨b,off*esz2,none⟩ (((c.toList.take cs.length).drop (off*esz2)).take (n*esz2)) (fun j v hj=>by
   rw [cr,iR hbw]
   have hjl:j<n*esz2:=by
    rcases Nat.lt_or_ge j (n*esz2) with h1|h1
    ·exact h1
    ·rw [List.getElem?_eq_none (by omega)] at hj;cases hj
   rw [List.getElem?_take_of_lt hjl,List.getElem?_drop,List.getElem?_take_of_lt (by omega)] at hj
   exact hj)
  rw [hl] at this;simpa [Builtin.firstCells] using this
 ·cases h
theorem Gv {B:aK} {E:Env} (hE:aM B E) (m:Nat) (hm :¬ E.U m) (h0:Nat) (hh:E.U h0\/h0=m) (esz len cap:Nat) (cs:List V) (c:Array Value) (T:TypeId) (hc:ai E cs (c.toList.take cs.length)) (hcap:cap*esz<=c.size) (hl:len<=cap) (hcs:len*esz<=cs.length) :
  ∃ E',Good B E m [(h0,.grow m esz cs)] { E.w with heap:=E.w.heap.push (.cells c T (0,0)) } E'/\ae E' (.gsl h0 m esz 0 len) (.slice (some ⟨E.w.heap.size,0,none⟩) len cap):=by
 have hS :¬ E.S E.w.heap.size:=fun h=>Nat.lt_irrefl _ (hE.stab _ h);have hget :(E.w.heap.push (.cells c T (0,0)))[E.w.heap.size]?=some (.cells c T (0,0)):=by simp
 obtain ⟨R,X⟩:=nX hE h0 (.grow m esz cs) (some E.w.heap.size) { E.w with heap:=E.w.heap.push (.cells c T (0,0)) } (fun n=>E.U n\/n=m) (fun n h=> .inl h) hh
  ⟨rfl,rfl,rfl,by simp,fun b hb' _=>Below.heap_alloc E.w _ b hb'⟩ (fun b e=>by cases e;exact .inl ⟨Nat.le_refl _,by simp⟩) (fun b e=>by cases e;exact hS)
  (fun _ e _=>by cases e) (fun _ _ _ _ e=>by cases e)
  (fun X=>⟨.inr rfl,_,c,T,(0,0),aE _ _ _,hget,(fun i _ h=>by simp at h),hS,bD X _ _ hc⟩)
  (fun _ _ _ e _ h=>by cases e;exact absurd h hm)
 refine ⟨_,⟨R,X,rfl,(cL _ _ _).symm,fun n h=>?_⟩,?_⟩
 ·rcases h with h|h
  ·exact .inl h
  ·exact .inr ⟨by omega,by unfold KN;omega⟩
 ·simp only [ae];refine ⟨hh,.inr trivial,⟨_,_,_,rfl⟩,fun cs2 hH=>⟨_,cap,c,T,(0,0),aE _ _ _,by simp,hget,by simpa using hcap,hl,?_⟩⟩;simp only [aE,Option.some.injEq] at hH;cases hH;simpa using hcs
theorem vi {B:aK} {E:Env} (hE:aM B E) {tb:bG} (hT:cn P tb) {tS tX:TypeId} {tdS tdX:TD} (hS:cy P tS tdS) (hX:cy P tX tdX) (hkX:Hg tdX) (m:Nat) (hm :¬ E.U m) {s x:V} {sv xv:Value}
  (hs:ae E s sv) (hx:ae E x xv) (ty:TypeId) {ps:List Ob} {v:V} {dh:List (Nat×bd)} (h:fN tb tdS E.H m s x = .val ps v dh) (hps :∀ p∈ps,p.holds) :
  ∃ v' w' E',(Builtin.append_ #[tS,tX] ty #[sv,xv]).run P E.w = .ok v' w'/\Good B E m dh w' E'/\ae E' v v':=by
 unfold fN at h;split at h
 case h_2=>cases h
 rename_i e hk;split at h
 case h_2=>cases h
 rename_i te hte0;have hte:=hT _ _ hte0;split at h
 case isFalse=>exact wv hE hT hS hX hkX m hm hs hx ty h hps
 split at h
 case isFalse=>cases h
 rename_i hc;obtain ⟨c2,c3,c4⟩:=hc;split at h
 case h_2=>cases h
 rename_i k ys hys;split at h
 case isFalse=>cases h
 rename_i hone;obtain ⟨a,cap,l,src,hyl⟩:=CO (P:=P) hE hx hys hone;have hyl0:=bk hyl;obtain ⟨R0,X0⟩:=BH hE E.w.drew rfl rfl rfl rfl;split at h
 ·have hl0:l=[]:=List.eq_nil_of_length_eq_zero (by rw [src.len];omega);subst hl0
  have same :∀ (base:Option Addr) (sl sc:Nat),sl<=sc->(Builtin.append_ #[tS,tX] ty #[.slice base sl sc,xv]).run P E.w = .ok (.slice base sl sc) E.w:=fun base sl sc hle=>by
   have:=gu hS hX hk hkX hte rfl src base sl sc (by omega) ty E.w (fun a' _=>rfl) (fun _=>rfl)
   simpa using this
  split at h
  ·cases h;simp only [ae] at hs;subst hs;exact ⟨_,_,E,same none 0 0 (Nat.le_refl _),eN hE m,by simp [ae]⟩
  ·cases h;simp only [ae] at hs;obtain ⟨b0,rfl⟩:=hs;exact ⟨_,_,E,same b0 0 0 (Nat.le_refl _),eN hE m,by simp [ae]⟩
  ·split at h
   case h_2=>cases h
   rename_i ver' esz' cs hH;split at h
   case isFalse=>cases h
   rename_i e1;obtain ⟨rfl,rfl⟩:=e1;cases h;obtain ⟨b,cap',c,T,fr,G⟩:=pI hE hH hs;have ev:=G.val;subst ev;exact ⟨_,_,E,same _ _ _ G.fits,eN hE m,hs⟩
  ·cases h
 ·rename_i k
  have onto :∀ (base:Option Addr),(k+1)*te.bytes<=70368744177664->sv = .slice base 0 0->
    ∃ v' w' E',(Builtin.append_ #[tS,tX] ty #[sv,xv]).run P E.w = .ok v' w'/\Good B E m [(m,.grow m te.size ys)] w' E'/\ae E' (.gsl m m te.size 0 (k+1)) v':=fun base hp esv=>by
   subst esv
   have hold :∀ (w:World),w.heap=E.w.heap->(Builtin.firstCells te.size 0 (.slice base 0 0)).run P w = .ok ([]:List Value).toArray w:=fun w _=>by
    cases base with
    | none=>simp [Builtin.firstCells]
    | some a=>simpa [Builtin.firstCells] using run_loadCells_list (P:=P) w a [] (fun j v hj=>by simp at hj)
   obtain ⟨nc,c,g1,g2,g3,g4⟩:=fQ hE hS hX hk hkX hte rfl c4 c2 c3 src base 0 0 [] (by simp) hold (by omega) (by rw [Nat.zero_add];exact hp) ty;simp only [Nat.zero_add,List.nil_append] at g1 g3 g4;have hl1:l.length =(k+1)*te.size:=src.len;obtain ⟨E',G,hv⟩:=Gv R0 m hm m (.inr rfl) te.size (k+1) nc ys c e (by rw [hyl0,hl1,g3];exact bD X0 _ _ hyl) (by rw [g2];exact Nat.le_refl _) g1 (by rw [hyl0,hl1];exact Nat.le_refl _);exact ⟨_,_,E',g4,iA X0 G,hv⟩
  split at h
  ·cases h;simp only [ae] at hs;exact onto none (hps _ (List.mem_singleton.2 rfl)) hs
  ·cases h;simp only [ae] at hs;obtain ⟨b0,hs⟩:=hs;exact onto b0 (hps _ (List.mem_singleton.2 rfl)) hs
  ·rename_i hh ver esz off len _;split at h
   case h_2=>cases h
   rename_i ver' esz' cs hH;split at h
   case isFalse=>cases h
   rename_i e1;obtain ⟨rfl,rfl,rfl,rfl,hlen⟩:=e1;cases h;have hp:=hps _ (List.mem_singleton.2 rfl);simp only [Ob.holds] at hp;have hU:=hE.used _ _ hH;obtain ⟨b,cap',c,T,fr,G⟩:=pI hE hH hs;have ev:=G.val;subst ev;have hle:=G.le;have hrm:=G.room;have hl1:l.length =(k+1)*te.size:=src.len;by_cases hroom:len +(k+1)<=cap'
   ·have hm2 :(len +(k+1))*te.size<=cap'*te.size:=Nat.mul_le_mul_right _ hroom;rw [Nat.add_mul] at hm2;simp only [Nat.zero_add] at hrm;obtain ⟨c',g1,g2⟩:=eP b l (len*te.size) E.w c G.blk (by omega)
    have hcs:c'.size=c.size:=by
     have:=congrArg List.length g2
     simp at this;omega
    have hrun:=gu hS hX hk hkX hte rfl src (some ⟨b,0*te.size,none⟩) len cap' hroom ty (E.w.setCells b (len*te.size) l) (fun a' ea=>by
     cases ea
     have:=run_storeCells_cells (P:=P) b (len*te.size) l 0 E.w (fun j hj=>by rw [iR G.blk];simp;omega) (fun j hj=>pG G.blk G.frz (by omega)) src.one
     rw [cr]
     simpa using this) (fun en=>by cases en)
    have htk:c'.toList.take (cs++ys).length=c.toList.take cs.length++l:=by rw [g2,hlen,List.length_append,hyl0,List.take_append_of_le_length (by simp;omega),List.take_of_length_le (by simp;omega)]
    obtain ⟨R,X⟩:=nX hE hh (.grow m te.size (cs++ys)) (some b) (E.w.setCells b (len*te.size) l) (fun n=>E.U n\/n=m) (fun n h=> .inl h) (.inl hU)
     (ee b (fun b1=>some b=some b1) rfl _ _ _) (fun b1 e=>by cases e;exact .inr ⟨G.at_,_,hH,rfl⟩) (fun b1 e=>by cases e;exact G.S)
     (fun _ e _=>by cases e) (fun _ _ _ _ e=>by cases e)
     (fun X=>⟨.inr rfl,b,c',T,fr,aE _ _ _,g1,ko G.frz hcs,G.S,by
      rw [htk]
      exact cj (bD X _ _ G.rel) (bD X _ _ hyl)⟩)
     (fun _ _ _ e _ h=>by cases e;exact absurd h hm)
    refine ⟨_,_,_,hrun,⟨R,X,rfl,(cL _ _ _).symm,fun n h=>?_⟩,?_⟩
    ·rcases h with h|h
     ·exact .inl h
     ·exact .inr ⟨by omega,by unfold KN;omega⟩
    ·simp only [ae];refine ⟨.inl hU,.inr trivial,⟨_,_,_,rfl⟩,fun cs2 hH2=>⟨b,cap',c',T,fr,aE _ _ _,rfl,g1,by rw [hcs];simpa using hrm,hroom,?_⟩⟩;simp only [aE,Option.some.injEq] at hH2;cases hH2;rw [List.length_append,hyl0,hl1,<-hlen,Nat.zero_add,Nat.add_mul];exact Nat.le_refl _
   ·have hl0 :(gR c 0 (len*te.size)).length=len*te.size:=vK _ _ _ (by omega)
    obtain ⟨nc,c',g1,g2,g3,g4⟩:=fQ hE hS hX hk hkX hte rfl c4 c2 c3 src (some ⟨b,0*te.size,none⟩) len cap' (gR c 0 (len*te.size)) hl0 (fun w hw=>by
     have hbw:w.heap[b]?=some (.cells c T fr):=by rw [hw];exact G.blk
     have:=run_loadCells_list (P:=P) w ⟨b,0*te.size,none⟩ (gR c 0 (len*te.size)) (fun j v hj=>by
      rw [cr,iR hbw];rw [nA] at hj;split at hj
      ·simpa using hj
      ·cases hj)
     rw [hl0] at this
     simpa [Builtin.firstCells] using this) (by omega) hp ty
    have htk:c'.toList.take (cs++ys).length=c.toList.take cs.length++l:=by rw [List.length_append,hyl0,hl1,<-hlen,<-Nat.add_mul,g3,gR,List.drop_zero]
    obtain ⟨E',G',hv⟩:=Gv R0 m hm hh (.inl hU) te.size (len +(k+1)) nc (cs++ys) c' e (by
     rw [htk]
     exact cj (bD X0 _ _ G.rel) (bD X0 _ _ hyl)) (by rw [g2];exact Nat.le_refl _) g1 (by rw [List.length_append,hyl0,hl1,<-hlen,<-Nat.add_mul];exact Nat.le_refl _)
    exact ⟨_,_,E',g4,iA X0 G',hv⟩
  ·cases h
theorem wy {B:aK} {E:Env} (hE:aM B E) {tb:bG} (hT:cn P tb) {s d:TypeId} {ts td:TD} (hs:cy P s ts) (hd:cy P d td) (m:Nat) (hm :¬ E.U m) {x:V} {xv:Value} (hx:ae E x xv) {ps:List Ob} {v:V} {dh:List (Nat×bd)}
  (h:wx tb ts td m x = .val ps v dh) :∃ v' w' E',(convert s d xv).run P E.w = .ok v' w'/\Good B E m dh w' E'/\ae E' v v':=by
 have hsk:=hs.kind;have hdk:=hd.kind;unfold wx at h;split at h
 case h_2=>cases h
 rename_i e str h1 h2;split at h
 case h_2=>cases h
 rename_i te hte;have hek:=(hT _ _ hte).kind;split at h
 ·exact yJ hE hT hs hd m hm hx h
 split at h
 case h_2=>cases h
 rename_i h3;cases h;rw [h1] at hsk;rw [h2] at hdk;rw [h3] at hek;simp only [bJ] at hsk hdk hek;simp only [ae] at hx;obtain ⟨rfl,hlen⟩:=hx;obtain ⟨R0,X0⟩:=BH hE E.w.drew rfl rfl rfl rfl;generalize hq :(Question.appendCap str.size 0 e).cut (E.w.tape E.w.drawn (Question.appendCap str.size 0 e))=cap;have hcap:str.size<=cap:=by rw [<-hq];simp only [Question.cut];omega
 let c:Array Value:=(str.data.map fun b=>Value.int .u8 b.toNat)++Array.replicate (cap - str.size) (.int .u8 0)
 have hds:str.data.size=str.size:=ByteArray.size_data;have hcs:c.size=cap:=by simp [c,hds];omega
 have hl :((bm str).map fun n=>V.int .u8 n).length=str.size:=by simp [bm,hds]
 have hrel :∀ E2:Env,ai E2 ((bm str).map fun n=>V.int .u8 n) (c.toList.take ((bm str).map fun n=>V.int .u8 n).length):=fun E2=>by
  have e1:c.toList.take ((bm str).map fun n=>V.int .u8 n).length=str.data.toList.map fun b=>Value.int .u8 b.toNat:=by rw [hl];simp only [c,Array.toList_append,Array.toList_map];rw [List.take_append_of_le_length (by simp [hds]),List.take_of_length_le (by simp [hds])]
  rw [e1];unfold bm;rw [List.map_map];exact gT _ _ (fun b=>kJ (Pq b)) _
 have hS :¬ E.S E.w.heap.size:=fun h=>Nat.lt_irrefl _ (hE.stab _ h);have hget :(E.w.heap.push (.cells c e (c.size,c.size+1)))[E.w.heap.size]?=some (.cells c e (c.size,c.size+1)):=by simp
 obtain ⟨R,X⟩:=nX R0 m (.grow m 1 ((bm str).map fun n=>V.int .u8 n)) (some E.w.heap.size) { E.w.drew with heap:=E.w.heap.push (.cells c e (c.size,c.size+1)) } (fun n=>E.U n\/n=m) (fun n h=> .inl h) (.inr rfl)
  ⟨rfl,rfl,rfl,by show E.w.heap.size<=(E.w.heap.push _).size;simp,fun b hb' _=>Below.heap_alloc E.w _ b hb'⟩ (fun b e=>by cases e;exact .inl ⟨Nat.le_refl _,by simp⟩) (fun b e=>by cases e;exact hS)
  (fun _ e _=>by cases e) (fun _ _ _ _ e=>by cases e)
  (fun X=>⟨.inr rfl,_,c,e,(c.size,c.size+1),aE _ _ _,hget,(fun i hi h=>by have:=h.1;simp at this;omega),hS,hrel _⟩)
  (fun _ _ _ e _ h=>by cases e;exact absurd h hm)
 refine ⟨.slice (some ⟨E.w.heap.size,0,none⟩) str.size cap,_,_,?_,iA X0 ⟨R,X,rfl,(cL _ _ _).symm,fun n h=>?_⟩,?_⟩
 ·have hfd:Question.forced (Question.appendCap str.size 0 e)=false:=rfl;simp only [convert,Sem.run_bind,run_underlying hsk,run_underlying hdk,run_underlying hek,Result.andThen_ok,Conv.stringToBytes,run_choose,hfd,hq];simp only [Bool.false_eq_true,if_false,Result.andThen_ok,newRow,Sem.run_bind,run_newObj,Sem.run_pure,markStringish,run_shape]
  have hsh:World.shape? { E.w.drew with heap:=E.w.drew.heap.push (.cells c e (0,0)) } E.w.drew.heap.size=some (e,c.size):=by have hget :(E.w.drew.heap.push (.cells c e (0,0)))[E.w.drew.heap.size]?=some (.cells c e (0,0)):=Array.getElem?_push_size;unfold World.shape?;simp only [hget]
  have hfz:=uG E.w.drew c e;simp only [World.drew] at hsh hfz ⊢;simp only [c] at hsh hfz;rw [hsh];simp only [Result.andThen_ok,run_freeze];rw [hfz]
 ·rcases h with h|h
  ·exact .inl h
  ·exact .inr ⟨by omega,by unfold KN;omega⟩
 ·simp only [ae];refine ⟨.inr trivial,.inr trivial,⟨_,_,_,rfl⟩,fun cs2 hH=>⟨_,cap,c,e,(c.size,c.size+1),aE _ _ _,by simp,hget,by omega,hcap,?_⟩⟩;simp only [aE,Option.some.injEq] at hH;cases hH;rw [hl];omega
theorem CD {B:aK} {E:Env} (hE:aM B E) {t:TypeId} {td:TD} (ht:cy P t td) {x:V} {xv:Value} (hx:ae E x xv) (ty:TypeId) {ps:List Ob} {v:V} {dh:List (Nat×bd)}
  (h:lC td E.H x = .val ps v dh):dh=[]/\∃ v',(Builtin.len_ #[t] ty #[xv]).run P E.w = .ok v' E.w/\ae E v v':=by
 have hk:=ht.kind;unfold lC at h;split at h
 ·rename_i e hh ver esz off len h1;rw [h1] at hk;simp only [bJ] at hk;split at h
  case h_2=>cases h
  rename_i ver' esz' cs hH;split at h
  case isFalse=>cases h
  rename_i hc;obtain ⟨rfl,rfl,hl⟩:=hc;cases h;obtain ⟨b,cap,c,T,fr,G⟩:=pI hE hH hx;have ev:=G.val;subst ev;exact ⟨rfl,_,by simp [Builtin.len_,run_underlying hk,goInt],kJ (nq hl)⟩
 ·exact EU hE ht hx ty h
end
section
end
section
open Go.RowKit
variable {P:Program}
theorem uf {v:Value} (h:v.oneCell'=true):v.cells=#[v]:=by cases v <;> first|rfl |(simp [Value.oneCell'] at h)
theorem Rd.kT {S S':Nat->Prop} {w w':World} {t:Ty} {x:Den t} {cs:List Value} (h:Rd S w t x cs) (hf:t.kT=true):Rd S' w' t x cs:=by
 induction h with
 | int h=>exact .int h
 | bool=>exact .bool
 | str h=>exact .str h
 | unit=>exact .unit
 | prod _ _ ih1 ih2=>simp only [Ty.kT,Bool.and_eq_true] at hf;exact .prod (ih1 hf.1) (ih2 hf.2)
 | nm _ _=>simp [Ty.kT] at hf
 | nil=>simp [Ty.kT] at hf
 | slice=>simp [Ty.kT] at hf
theorem Rd.nO {S S':Nat->Prop} {w w':World} {t:Ty} {x:Den t} {cs:List Value} (h:Rd S w t x cs) (hf:t.nO=true):Rd S' w' t x cs:=by
 induction h with
 | int h=>exact .int h
 | bool=>exact .bool
 | str h=>exact .str h
 | unit=>exact .unit
 | prod _ _ ih1 ih2=>simp only [Ty.nO,Bool.and_eq_true] at hf;exact .prod (ih1 hf.1) (ih2 hf.2)
 | nm h _=>exact .nm (h.kT hf)
 | nil=>simp [Ty.nO] at hf
 | slice=>simp [Ty.nO] at hf
theorem Rd.fh {S S':Nat->Prop} {w w':World} {t:Ty} {x:Den t} {cs:List Value} (h:Rd S w t x cs) (hf:t.fh=true):Rd S' w' t x cs:=by
 induction h with
 | int h=>exact .int h
 | bool=>exact .bool
 | str h=>exact .str h
 | unit=>exact .unit
 | prod _ _ ih1 ih2=>simp only [Ty.fh,Bool.and_eq_true] at hf;exact .prod (ih1 hf.1) (ih2 hf.2)
 | nm h _=>exact .nm (h.nO hf)
 | nil=>simp [Ty.fh] at hf
 | slice=>simp [Ty.fh] at hf
theorem vR {E:Env} {t:Ty} {x:Den t} {v:Value} (h:Rd E.S E.w t x v.cells.toList) (hf :(lQ t=true/\∃ l,v = .agg l)\/(lQ t=false/\v.cells.toList=[v])):ae E (gz t x) v:=by
 rcases hf with ⟨h1,l,rfl⟩ |⟨h1,h2⟩
 ·cases t <;> simp only [lQ,Bool.false_eq_true] at h1
  ·simp only [gz,ae];refine ⟨l,rfl,?_⟩;have h0:l.toList=[]:=List.eq_nil_of_length_eq_zero h.len;rw [h0];simp [ai]
  ·simp only [gz,ae];exact ⟨l,rfl,h.flat gb⟩
  ·simp only [gz,ae];exact ⟨l,rfl,h.flat gb⟩
 ·rw [h2] at h;cases t <;> simp only [lQ,reduceCtorEq] at h1
  ·cases h with|int hk=>exact kJ hk
  ·cases h with|bool=>simp only [gz,ae]
  ·cases h with|str hk=>exact MT hk
  ·simp only [gz,ae];exact h
theorem wP {B:aK} {E:Env} (hE:aM B E) {t:Ty} {v:V} {x:Den t} (h:Ly E.H t v=some x) {u:Value} (hv:ae E v u):ae E (gz t x) u:=by
 unfold Ly at h
 cases hg:lQ t==hY v with
 | false=>rw [hg] at h;cases h
 | true=>
  rw [hg] at h;simp only [cond_true] at h;split at h
  case h_2=>cases h
  rename_i cs hcs;have hrd:=dK hE h (cC hv hcs);simp only [beq_iff_eq] at hg;refine vR hrd ?_
  cases e:lQ t with
  | true=>rw [e] at hg;cases v <;> simp only [hY,Bool.true_eq_false] at hg;simp only [ae] at hv;obtain ⟨l,hl,_⟩:=hv;exact .inl ⟨rfl,l,hl⟩
  | false=>
   rw [e] at hg;refine .inr ⟨rfl,?_⟩
   have h1:u.oneCell'=true:=by cases v <;> simp only [hY,Bool.false_eq_true] at hg <;> simp only [cellsOf,reduceCtorEq] at hcs <;> exact jf rfl hv
   rw [uf h1]
end
section
open Go.RowKit
variable {P:Program}
theorem SN {B:aK} {E:Env} (hE:aM B E) (m:Nat) (hm :¬ E.U m) :
  ∃ E',Good B E m [(m,.abs 0 .str (ByteArray.empty:Den .str))] { E.w with heap:=E.w.heap.push (.cells #[.pointer none,.slice none 0 0] MU (0,0)) } E'/\ae E' (.av 0 m) (.pointer (some ⟨E.w.heap.size,0,none⟩)):=by
 have hget :(E.w.heap.push (.cells #[.pointer none,.slice none 0 0] MU (0,0)))[E.w.heap.size]?=some (.cells #[.pointer none,.slice none 0 0] MU (0,0)):=by simp
 have hm0:E.H m=none:=by
  cases h:E.H m with
  | none=>rfl
  | some k=>exact absurd (hE.used _ _ h) hm
 obtain ⟨R,X⟩:=abV hE m 0 .str (ByteArray.empty:Den .str) E.w.heap.size { E.w with heap:=E.w.heap.push (.cells #[.pointer none,.slice none 0 0] MU (0,0)) } (fun n=>E.U n\/n=m) (fun n h=> .inl h) (.inr rfl)
  ⟨rfl,rfl,rfl,by simp,fun b hb' _=>Below.heap_alloc E.w _ b hb'⟩ (.inr ⟨hm,Nat.le_refl _,by simp⟩)
  (fun g hg=>by
   have h0:ux { E.w with heap:=E.w.heap.push (.cells #[.pointer none,.slice none 0 0] MU (0,0)) } E.w.heap.size=none:=by unfold ux;rw [hget];rfl
   have hg:ux { E.w with heap:=E.w.heap.push (.cells #[.pointer none,.slice none 0 0] MU (0,0)) } E.w.heap.size=some g:=hg
   rw [h0] at hg;cases hg)
  (.inl ⟨rfl,ByteArray.empty,rfl,Nat.zero_le _,.inl ⟨Nat.zero_le _,_,hget,World.ownsRowF_nil _ _ _ _,by simp [Value.ownBlock]⟩⟩)
 refine ⟨_,⟨R,X,rfl,(cL _ _ _).symm,fun n h=>?_⟩,?_⟩
 ·rcases h with h|h
  ·exact .inl h
  ·exact .inr ⟨by omega,by unfold KN;omega⟩
 ·simp only [ae];exact ⟨.inr trivial,⟨_,rfl⟩,fun _ _ _=>⟨_,aE _ _ _,rfl⟩⟩
theorem yG {Γ:FuncId->Option dR} {t:TypeId} {td:TD} {m:Nat} {ps:List Ob} {v:V} {dh:List (Nat×bd)} (h:vz Γ t td m = .val ps v dh) :
  (ps=[]/\v = .ptr m 0/\dh=[(m,.cells td.zero)])\/(t=MU/\HV td.zero=true/\ps=[]/\v = .av 0 m/\dh=[(m,.abs 0 .str (ByteArray.empty:Den .str))]):=by
 unfold vz at h;split at h
 ·cases hb :(Nat.beq t MU&&HV td.zero) with
  | false=>rw [hb] at h;cases h;exact .inl ⟨rfl,rfl,rfl⟩
  | true=>rw [hb] at h;cases h;simp only [Bool.and_eq_true,Nat.beq_eq] at hb;exact .inr ⟨hb.1,hb.2,rfl,rfl,rfl⟩
 ·cases h;exact .inl ⟨rfl,rfl,rfl⟩
structure GoodK (B:aK) (E:Env) (m K:Nat) (dh:List (Nat×bd)) (w':World) (E':Env):Prop where
 rel:aM B E'
 ext:Ext E E'
 w:E'.w=w'
 h:E'.H=aQ E.H dh
 u :∀ n,E'.U n->E.U n\/(m<=n/\n<m+K)
theorem Good.toK {B:aK} {E:Env} {m K:Nat} {dh:List (Nat×bd)} {w':World} {E':Env} (G:Good B E m dh w' E') (hK:1<=K):GoodK B E m K dh w' E':=
 ⟨G.rel,G.ext,G.w,G.h,fun n h=>(G.u n h).imp id fun h=>⟨h.1,by have:=h.2;unfold KN at this;omega⟩⟩
structure aR (P:Program) (K:Nat) (f:FuncId) (c:dR):Prop where
 fn :∃ fn,P.funcs[f]?=some fn/\fn.body.isSome=true/\(fn.name == "runtime.NumGoroutine")=false
 calls :∀ (B:aK) (E:Env),aM B E->∀ (args:List V) (av:List Value),ai E args av->∀ m,(∀ n,m<=n->n<m+K->¬ E.U n)->∀ ps v dh,c args E.H m=some (ps,v,dh)->(∀ p∈ps,p)->
  Calls P f av.toArray E.w fun e w'=>∃ E' v',e = .returned v'/\GoodK B E m K dh w' E'/\ae E' v v'
theorem xH {E:Env} (f:Operand->V) (g:Operand->Value) (h :∀ x,ae E (f x) (g x)) :∀ l:List (Nat×Operand),qb E (l.map fun p=>(p.1,f p.2)) (l.map fun p=>(p.1,g p.2))
 | []=>by simp [qb]
 | x::l=>by simp only [List.map_cons,qb];exact ⟨trivial,h _,xH f g h l⟩
theorem xx {E:Env} (f:Operand->V) (g:Operand->Value) (h :∀ x,ae E (f x) (g x)) (o:Option Operand):jg E (o.map f) (o.map g):=by
 cases o with
 | none=>simp [jg]
 | some x=>simp only [Option.map_some,jg];exact h x
variable {B:aK} {E:Env} {tb:bG} {K:Nat} {Γ:FuncId->Option dR} {m:Nat} {ev:Operand->V} {a:Act}
theorem CL {E:Env} {asz xs caps:List V} {av:List Value} {l:Array Value} {f:FuncId} (hx:tC asz caps=some xs) (ha:ai E asz av) (hl:ai E caps l.toList) :
  ∃ first cap,fnV f l = .func (.func f) first cap/\ai E xs (first.toList++av++cap.toList):=by
 obtain ⟨l⟩:=l
 cases caps with
 | nil=>
  cases l with
  | nil=>cases hx;exact ⟨#[],#[],rfl,by simpa using ha⟩
  | cons v vs=>simp [ai] at hl
 | cons c cs=>
  cases l with
  | nil=>simp [ai] at hl
  | cons v vs=>
   have hl0:=hl;simp only [ai] at hl;cases c <;> simp only [tC,reduceCtorEq,Option.some.injEq] at hx
   case ptr h o=>
    subst hx;have h1:=hl.1;simp only [ae] at h1;obtain ⟨_,⟨a,rfl⟩,_⟩:=h1;exact ⟨#[],⟨.pointer (some a)::vs⟩,rfl,by simpa using cj ha hl0⟩
   case nilmap=>
    subst hx;have h1:=hl.1;simp only [ae] at h1;subst h1;exact ⟨⟨vs⟩,#[],rfl,by simpa using cj hl.2 ha⟩
theorem CC {E:Env} {f:FuncId} {xs cs:List V} {first caps:List Value} (hx:ai E xs first) (hc:ai E cs caps) {ps:List Ob} {v:V} {dh:List (Nat×bd)} (h:tu f xs cs = .val ps v dh) :
  dh=[]/\ae E v (.func (.func f) first.toArray caps.toArray):=by
 cases xs with
 | nil=>
  cases first with
  | cons _ _=>simp [ai] at hx
  | nil=>
   cases cs with
   | nil=>
    cases caps with
    | cons _ _=>simp [ai] at hc
    | nil=>cases h;exact ⟨rfl,by simp only [ae];exact ⟨#[],rfl,by simp [ai]⟩⟩
   | cons c r=>
    cases c <;> simp only [tu,reduceCtorEq] at h
    case ptr k o=>
     cases h
     cases caps with
     | nil=>simp [ai] at hc
     | cons v vs=>
      have h1:=hc;simp only [ai,ae] at h1;obtain ⟨⟨_,⟨a,rfl⟩,_⟩,_⟩:=h1;exact ⟨rfl,by simp only [ae];exact ⟨⟨.pointer (some a)::vs⟩,rfl,hc⟩⟩
 | cons x r=>
  cases cs with
  | nil=>
   cases h
   cases caps with
   | cons _ _=>simp [ai] at hc
   | nil=>exact ⟨rfl,by simp only [ae];exact ⟨⟨.map none::first⟩,rfl,by simp only [ai,ae];exact ⟨trivial,hx⟩⟩⟩
  | cons c r'=>simp only [tu,reduceCtorEq] at h
theorem Cz (hE:aM B E) (hΓ :∀ f c,Γ f=some c->aR P K f c) (hm :∀ n,m<=n->n<m+K->¬ E.U n) (hev :∀ x,ae E (ev x) (a.eval x)) {c:Call} {o:Oper} (ho:o.op = .call c) {f:Operand} (hf:c.callee = .value f) {g:FuncId} {caps asz:List V} (hg:ev f = .fn g caps) {ct:dR} (hct:Γ g=some ct) {ps:List Ob} {v:V} {dh:List (Nat×bd)}
  (has:tC (c.args.toList.map ev) caps=some asz) (h:Cy ct asz E.H m = .val ps v dh) (hps :∀ p∈ps,p.holds) {next:Act->World->Prop} {Q:Exit->Act->World->Prop}
  (hn :∀ v' E',GoodK B E m K dh E'.w E'->ae E' v v'->next (a.put o.dst v') E'.w):o.wp P a E.w next Q:=by
 have hfv:=hev f;rw [hg] at hfv;simp only [ae] at hfv;obtain ⟨l,hfe,hl⟩:=hfv;obtain ⟨first,cap,hfn,hargs⟩:=CL (f:=g) has (gT _ _ hev _) hl;rw [hfn] at hfe;unfold Cy at h;split at h
 case h_2=>cases h
 rename_i ps' v' dh' hc;cases h;have hok:=hΓ _ _ hct;obtain ⟨fn,h1,h2,h3⟩:=hok.fn;have hb :¬ fn.body=none:=by cases hb:fn.body with|none=>rw [hb] at h2;cases h2|some _=>simp
 have h4 :¬ fn.name = "runtime.NumGoroutine":=by simpa using h3
 have hcalls:=hok.calls B E hE _ _ hargs m hm _ _ _ hc (fun p hp=>hps (.prop p) (List.mem_map_of_mem hp))
 have hrun :(execOp a.eval o).run P E.w = .ok (.enter g (first.toList++c.args.toList.map a.eval++cap.toList).toArray) E.w:=by
  have e :(first.toList++c.args.toList.map a.eval++cap.toList).toArray=first++c.args.map a.eval++cap:=by apply Array.ext';simp
  rw [e];simp [execOp,ho,resolve,hf,Deferred.ofValue,hfe,invoke,callFunc,h1,h4,hb]
 unfold Oper.wp;rw [hrun];simp only [Oper.upon];refine hcalls.mono fun e w' hh=>?_;obtain ⟨E',v'',rfl,G,hv⟩:=hh
 have:=hn v'' E' (by rw [G.w];exact G) hv
 rw [G.w] at this;exact this
theorem HE (hE:aM B E) (hT:cn P tb) (hK:1<=K) (hΓ :∀ f c,Γ f=some c->aR P K f c) (hm :∀ n,m<=n->n<m+K->¬ E.U n) (hev :∀ x,ae E (ev x) (a.eval x)) {o:Oper} {ps:List Ob} {v:V} {dh:List (Nat×bd)} (h:c7 tb Γ m E.H ev o.op = .val ps v dh) (hps :∀ p∈ps,p.holds) {next:Act->World->Prop} {Q:Exit->Act->World->Prop}
  (hn :∀ v' E',GoodK B E m K dh E'.w E'->ae E' v v'->next (a.put o.dst v') E'.w):o.wp P a E.w next Q:=by
 have hm0 :¬ E.U m:=hm m (Nat.le_refl _) (by omega)
 have same :∀ {v'},(execOp a.eval o).run P E.w = .ok (.value v') E.w->dh=[]->ae E v v'->o.wp P a E.w next Q:=fun hrun hd hv=>by unfold Oper.wp;rw [hrun];simp only [Oper.upon];subst hd;exact hn _ E ((eN hE m).toK hK) hv
 have step :∀ {v' w' E'},(execOp a.eval o).run P E.w = .ok (.value v') w'->Good B E m dh w' E'->ae E' v v'->o.wp P a E.w next Q:=fun hrun G hv=>by
  unfold Oper.wp;rw [hrun];simp only [Oper.upon]
  have:=hn _ _ (by rw [G.w];exact G.toK hK) hv
  rw [G.w] at this;exact this
 cases ho:o.op <;> rw [ho] at h <;> simp only [c7,reduceCtorEq] at h
 case move x=>cases h;exact same (by simp [execOp,ho]) rfl (hev x)
 case assign x=>cases h;exact same (by simp [execOp,ho]) rfl (hev x)
 case pick c x y=>
  obtain ⟨e,q,h1,h2⟩:=CF (P:=P) (hev c) (hev x) (hev y) h;exact same (by simp [execOp,ho,h1]) e h2
 case alloc t=>
  split at h
  case h_2=>cases h
  rename_i td htd;have ht:=hT _ _ htd;obtain ⟨z,hz,hzz⟩:=ht.zeroValue E.w;rcases yG h with ⟨rfl,rfl,rfl⟩ |⟨rfl,hb,rfl,rfl,rfl⟩
  ·obtain ⟨E',G,hv⟩:=Be hE m hm0 td.zero z.cells t (eF hzz);exact step (by simp [execOp,ho,Instr.alloc,hz,newVar,newRow]) G hv
  ·have hzv:=eF (E:=E) hzz;generalize td.zero=zs at hb hzv
   match zs,hb with
   | [.nilptr,.nilsl],_=>
    generalize hl:z.cells.toList=l at hzv
    match l,hzv with
    | [a1,a2],hzv=>simp only [ai,ae] at hzv;obtain ⟨rfl,rfl,_⟩:=hzv;have hc:z.cells=#[.pointer none,.slice none 0 0]:=Array.toList_inj.1 hl;obtain ⟨E',G,hv⟩:=SN hE m hm0;exact step (by simp [execOp,ho,Instr.alloc,hz,newVar,newRow,hc]) G hv
 case box t x=>
  split at h
  case h_2=>cases h
  rename_i cs hcs;cases h;obtain ⟨E',G,hv⟩:=Be hE m hm0 cs (a.eval x).cells t (cC (hev x) hcs);exact step (by simp [execOp,ho,Instr.box,newVar,newRow]) G hv
 case build t parts=>
  split at h
  case h_2=>cases h
  rename_i td htd;obtain ⟨e,v',hr,hv⟩:=yI hT (hT _ _ htd) (pv:=parts.map fun p=>(p.1,a.eval p.2)) (by rw [Array.toList_map];exact xH _ _ hev _) h;exact same (by simp [execOp,ho,hr]) e hv
 case buildSlice t n parts=>
  split at h
  case h_2=>cases h
  rename_i td htd;obtain ⟨v',w',E',hr,G,hv⟩:=p9 hE hT (hT _ _ htd) m hm0 (pv:=parts.map fun p=>(p.1,a.eval p.2)) (by rw [Array.toList_map];exact xH _ _ hev _) h;exact step (by simp [execOp,ho,hr]) G hv
 case load t x=>
  split at h
  case h_2=>cases h
  rename_i td htd;obtain ⟨e,v',hr,hv⟩:=yN hE (hT _ _ htd) (hev x) h;exact same (by simp [execOp,ho,hr]) e hv
 case nilCheck x=>
  have hx:=hev x;unfold EV at h;split at h
  ·rename_i hh off e;cases h;rw [e] at hx;have hx0:=hx;simp only [ae] at hx0;obtain ⟨ad,hx1⟩:=hx0.2.1;exact same (v':=a.eval x) (by simp [execOp,ho,hx1]) rfl hx
  ·rename_i t' xs i off e;cases h;rw [e] at hx;have hx0:=hx;simp only [ae] at hx0;obtain ⟨_,_,_,_,_,_,_,_,_,_,_,hx1⟩:=hx0;exact same (v':=a.eval x) (by simp [execOp,ho,hx1]) rfl hx
  ·rename_i hh ver i off e;cases h;rw [e] at hx;have hx0:=hx;simp only [ae] at hx0;obtain ⟨ad,hx1⟩:=hx0.2.2.1;exact same (v':=a.eval x) (by simp [execOp,ho,hx1]) rfl hx
  ·rename_i f caps e;cases h;rw [e] at hx;have hx0:=hx;simp only [ae] at hx0;obtain ⟨l,hx1,_⟩:=hx0;exact same (v':=a.eval x) (by simp [execOp,ho,hx1,fnV]) rfl hx
  ·rename_i hh ver off e;cases h;rw [e] at hx;have hx0:=hx;simp only [ae] at hx0;obtain ⟨ad,hx1⟩:=hx0.2.2.1;exact same (v':=a.eval x) (by simp [execOp,ho,hx1]) rfl hx
  ·cases h
 case binOp op t x y t'=>
  split at h
  case h_2=>cases h
  rename_i td htd;obtain ⟨e,v',hr,hv⟩:=ES (hT _ _ htd) (hev x) (hev y) x y h hps;refine same (v':=v') ?_ e hv;have e2:execOp a.eval o =(do let r<-(do eqGuard op t x y (a.eval x) (a.eval y);binOp op t (a.eval x) (a.eval y):Sem Value);pure (.value r)):=by simp only [execOp,ho]
  rw [e2,Sem.run_bind,hr];rfl
 case unOp op t x=>
  obtain ⟨e,v',hr,hv⟩:=HG (P:=P) (hev x) h;exact same (by simp [execOp,ho,hr]) e hv
 case convert s d x=>
  split at h
  case h_2=>cases h
  rename_i ts td hts htd;unfold vA at h;split at h
  ·obtain ⟨v',w',E',hr,G,hv⟩:=wy hE hT (hT _ _ hts) (hT _ _ htd) m hm0 (hev x) h;exact step (by simp [execOp,ho,hr]) G hv
  ·obtain ⟨e,v',hr,hv⟩:=CB (hT _ _ hts) (hT _ _ htd) (hev x) h;exact same (by simp [execOp,ho,hr]) e hv
 case makeFunc fn first caps=>
  cases fn <;> simp only [reduceCtorEq] at h;rename_i f;obtain ⟨e,hv⟩:=CC (gT ev a.eval hev first.toList) (gT ev a.eval hev caps.toList) h;refine same (v':= .func (.func f) (first.map a.eval) (caps.map a.eval)) (by simp [execOp,ho,Instr.makeFunc]) e ?_;have e1 :(first.toList.map a.eval).toArray=first.map a.eval:=by apply Array.ext';simp
  have e2 :(caps.toList.map a.eval).toArray=caps.map a.eval:=by apply Array.ext';simp
  rw [e1,e2] at hv;exact hv
 case makeSlice t l c=>
  split at h
  case h_2=>cases h
  rename_i td htd;obtain ⟨v',w',E',hr,G,hv⟩:=qQ hE hT (hT _ _ htd) m hm0 (hev l) (hev c) h hps;exact step (by simp [execOp,ho,hr]) G hv
 case slice t x lo hi mx=>
  split at h
  case h_2=>cases h
  rename_i td htd;obtain ⟨v',E',hr,G,hv⟩:=wF hE hT (hT _ _ htd) m (hev x) (xx _ _ hev lo) (xx _ _ hev hi) (xx _ _ hev mx) h hps;exact step (by simp [execOp,ho,hr]) G hv
 case fieldAddr t x f=>
  split at h
  case h_2=>cases h
  rename_i td htd;obtain ⟨e,v',hr,hv⟩:=wz hT (hT _ _ htd) (hev x) h;exact same (by simp [execOp,ho,hr]) e hv
 case field t x f=>
  split at h
  case h_2=>cases h
  rename_i td htd;obtain ⟨e,v',hr,hv⟩:=tt hT (hT _ _ htd) (hev x) h;exact same (by simp [execOp,ho,hr]) e hv
 case indexAddr t x i=>
  split at h
  case h_2=>cases h
  rename_i td htd;obtain ⟨e,v',hr,hv⟩:=wD hE hT (hT _ _ htd) (hev x) (hev i) h hps;exact same (by simp [execOp,ho,hr]) e hv
 case index t x i=>
  split at h
  case h_2=>cases h
  rename_i td htd;obtain ⟨e,v',hr,hv⟩:=wC hT (hT _ _ htd) (hev x) (hev i) h hps;exact same (by simp [execOp,ho,hr]) e hv
 case extract t i=>
  have hx:=hev t;generalize hy:ev t=y at h hx;cases y <;> simp only [pF,reduceCtorEq] at h;rename_i vs;simp only [ae] at hx;obtain ⟨l,hx1,hl⟩:=hx;split at h
  case h_2=>cases h
  rename_i u hu;cases h;obtain ⟨v',h1,h2⟩:=eQ hl _ _ hu;have h1':l[i]?=some v':=by simpa using h1
  exact same (v':=v') (by simp [execOp,ho,hx1,Instr.extract,h1']) rfl h2
 case call c=>
  split at h
  ·rename_i hc;split at h
   case h_2=>cases h
   rename_i t x ht hx;split at h
   case h_2=>cases h
   rename_i td htd;obtain ⟨e,v',hr,hv⟩:=CD hE (hT _ _ htd) (hev x) o.type h;have e1:c.argTypes=#[t]:=by apply Array.ext';exact ht
   have e2:c.args=#[x]:=by apply Array.ext';exact hx
   exact same (v':=v') (by simp [execOp,ho,resolve,hc,invoke,builtin,e1,e2,hr]) e hv
  ·rename_i hc;split at h
   case h_2=>cases h
   rename_i x r hx;obtain ⟨e,v',hr,hv⟩:=wB (P:=P) (hev x) (gT _ _ hev r) h;have e2:c.args.toList.map a.eval=a.eval x::r.map a.eval:=by rw [hx];rfl
   exact same (v':=v') (by simp [execOp,ho,resolve,hc,invoke,builtin,Builtin.min_,e2,hr]) e hv
  ·rename_i hc;split at h
   case h_2=>cases h
   rename_i x r hx;obtain ⟨e,v',hr,hv⟩:=wA (P:=P) (hev x) (gT _ _ hev r) h;have e2:c.args.toList.map a.eval=a.eval x::r.map a.eval:=by rw [hx];rfl
   exact same (v':=v') (by simp [execOp,ho,resolve,hc,invoke,builtin,Builtin.max_,e2,hr]) e hv
  ·rename_i hc;split at h
   case h_2=>cases h
   rename_i t t2 s x ht hx;split at h
   case h_2=>cases h
   rename_i td td2 htd htd2;split at h
   case isFalse=>cases h
   rename_i hel
   have hkX:Hg td2:=by
    unfold Wo at hel;rcases (Bool.or_eq_true _ _).mp hel with hel|hel
    ·obtain ⟨n,hn'⟩:=Option.isSome_iff_exists.1 hel;obtain ⟨eX,te,hkX,_⟩:=jS hT hn';exact .inl ⟨eX,hkX⟩
    ·split at hel
     ·rename_i hk;exact .inr hk
     ·cases hel
   obtain ⟨v',w',E',hr,G,hv⟩:=vi hE hT (hT _ _ htd) (hT _ _ htd2) hkX m hm0 (hev s) (hev x) o.type h hps;have e1:c.argTypes=#[t,t2]:=by apply Array.ext';exact ht
   have e2:c.args=#[s,x]:=by apply Array.ext';exact hx
   exact step (v':=v') (w':=w') (by simp [execOp,ho,resolve,hc,invoke,builtin,e1,e2,hr]) G hv
  ·rename_i f hc;split at h
   case h_2=>cases h
   rename_i g caps hg;split at h
   case h_2=>cases h
   rename_i ct hct;split at h
   case h_2=>cases h
   rename_i asz has;exact Cz hE hΓ hm hev ho hc hg hct has h hps hn
  ·cases h
theorem wG {B:aK} {E:Env} (hE:aM B E) {t:TypeId} {td:TD} (ht:cy P t td) {a x:V} {av xv:Value} (ha:ae E a av) (hx:ae E x xv) (m:Nat) {ps:List Ob} {dh:List (Nat×bd)} (h:hJ td E.H a x = .skip ps dh) :
  ∃ w' E',(Instr.storeAt t av xv).run P E.w = .ok () w'/\Good B E m dh w' E':=by
 unfold hJ at h;split at h
 ·split at h
  ·split at h
   case h_2=>cases h
   rename_i ps' dh' hb;cases h;obtain ⟨R,X⟩:=dI hE x.hs;obtain ⟨w',E',h1,G⟩:=jZ (E:=cb E x.hs) R ht (ca X _ _ ha) (ca X _ _ hx) m hb;refine ⟨w',E',h1,⟨G.rel,X.trans G.ext,G.w,?_,G.u⟩⟩;rw [G.h,rT];congr 1;funext k;exact (mU E.H _ k).symm
  ·exact jZ hE ht ha hx m h
 ·exact jZ hE ht ha hx m h
theorem HF (hE:aM B E) (hT:cn P tb) (hK:1<=K) (hev :∀ x,ae E (ev x) (a.eval x)) {o:Oper} {ps:List Ob} {dh:List (Nat×bd)} (h:du tb E.H ev o.op=some (ps,dh)) (hps :∀ p∈ps,p.holds) {next:Act->World->Prop} {Q:Exit->Act->World->Prop}
  (hn :∀ E',GoodK B E m K dh E'.w E'->next (a.put o.dst undef) E'.w):o.wp P a E.w next Q:=by
 have step :∀ {w' E'},(execOp a.eval o).run P E.w = .ok .skip w'->Good B E m dh w' E'->o.wp P a E.w next Q:=fun hrun G=>by
  unfold Oper.wp;rw [hrun];simp only [Oper.upon]
  have:=hn _ (by rw [G.w];exact G.toK hK)
  rw [G.w] at this;exact this
 cases ho:o.op <;> rw [ho] at h <;> simp only [du,reduceCtorEq] at h
 case store t x y=>
  split at h
  case h_2=>cases h
  rename_i td htd;split at h
  case h_2=>cases h
  rename_i ps' dh' hs;cases h;obtain ⟨w',E',hr,G⟩:=wG hE (hT _ _ htd) (hev x) (hev y) m hs;exact step (by simp [execOp,ho,hr]) G
end
section
open Go.RowKit
variable {P:Program}
def W5:List (V×V)->List Nat
 | []=> []
 |(k,v)::r=>k.hs++v.hs++W5 r
def bd.hs:bd->List Nat
 | .cells cs=>tG cs
 | .grow _ _ cs=>tG cs
 | .mp es=>W5 es
 | .abs _ _ _=> []
 | .row _ _ _ _=> []
def cg (H:a6) (R:List Nat):a6:=fun h=>bif aX R h then H h else none
mutual
theorem pX {E E':Env} (hU :∀ n,E.U n->E'.U n) (hS :∀ b,E.S b->E'.S b) (hw:E'.w=E.w) (D:Nat->Prop) (hD :∀ h,D h->E'.H h=E.H h/\E'.ρ h=E.ρ h) :∀ (x:V) (v:Value),(∀ h∈x.hs,D h)->ae E x v->ae E' x v
 | .any,_,_,_=>by simp [ae]
 | .int _ _,_,_,h=>by simpa [ae] using h
 | .bool _,_,_,h=>by simpa [ae] using h
 | .kb _,_,_,h=>by simpa [ae] using h
 | .str _,_,_,h=>by simpa [ae] using h
 | .nilptr,_,_,h=>by simpa [ae] using h
 | .ptr hh off,v,hd,h=>by simp only [ae] at h ⊢;obtain ⟨e1,e2⟩:=hD hh (hd hh (by simp [V.hs]));rw [e1,e2];exact ⟨hU _ h.1,h.2⟩
 | .fp t xs i off,v,_,h=>by simp only [ae] at h ⊢;obtain ⟨b,o,c,T,fr,h1,h2,h3,h4,h5,h6,h7⟩:=h;exact ⟨b,o,c,T,fr,hS _ h1,by rw [hw];exact h2,h3,fun j hj=>(h4 j hj).ext hS (fun _ _=>by rw [hw]),h5,h6,h7⟩
 | .rp hh ver i off,v,hd,h=>by simp only [ae] at h ⊢;obtain ⟨e1,e2⟩:=hD hh (hd hh (by simp [V.hs]));rw [e1,e2];exact ⟨hU _ h.1,hU _ h.2.1,h.2.2⟩
 | .nilsl,_,_,h=>by simpa [ae] using h
 | .esl,_,_,h=>by simpa [ae] using h
 | .osl hh ver,v,hd,h=>by simp only [ae] at h ⊢;obtain ⟨e1,e2⟩:=hD hh (hd hh (by simp [V.hs]));rw [e1,e2,hw];exact ⟨hU _ h.1,hU _ h.2.1,h.2.2⟩
 | .fsl t xs,v,_,h=>by simp only [ae] at h ⊢;exact h.ext hS (fun _ _=>by rw [hw])
 | .gsl hh ver esz off len,v,hd,h=>by simp only [ae] at h ⊢;obtain ⟨e1,e2⟩:=hD hh (hd hh (by simp [V.hs]));rw [e1,e2,hw];exact ⟨hU _ h.1,hU _ h.2.1,h.2.2⟩
 | .gp hh ver off,v,hd,h=>by simp only [ae] at h ⊢;obtain ⟨e1,e2⟩:=hD hh (hd hh (by simp [V.hs]));rw [e1,e2];exact ⟨hU _ h.1,hU _ h.2.1,h.2.2⟩
 | .mpv hh,v,hd,h=>by simp only [ae] at h ⊢;obtain ⟨e1,e2⟩:=hD hh (hd hh (by simp [V.hs]));rw [e1,e2];exact ⟨hU _ h.1,h.2⟩
 | .av _ hh,v,hd,h=>by simp only [ae] at h ⊢;obtain ⟨e1,e2⟩:=hD hh (hd hh (by simp [V.hs]));rw [e1,e2];exact ⟨hU _ h.1,h.2⟩
 | .nilfn,_,_,h=>by simpa [ae] using h
 | .nilmap,_,_,h=>by simpa [ae] using h
 | .hint _ _,_,_,h=>by simpa [ae] using h
 | .fn f caps,v,hd,h=>by simp only [ae] at h ⊢;obtain ⟨l,h1,h2⟩:=h;exact ⟨l,h1,iP hU hS hw D hD _ _ (fun h hh=>hd h (by simpa [V.hs] using hh)) h2⟩
 | .agg cs,v,hd,h=>by simp only [ae] at h ⊢;obtain ⟨l,h1,h2⟩:=h;exact ⟨l,h1,iP hU hS hw D hD _ _ (fun h hh=>hd h (by simpa [V.hs] using hh)) h2⟩
 | .tup cs,v,hd,h=>by simp only [ae] at h ⊢;obtain ⟨l,h1,h2⟩:=h;exact ⟨l,h1,iP hU hS hw D hD _ _ (fun h hh=>hd h (by simpa [V.hs] using hh)) h2⟩
theorem iP {E E':Env} (hU :∀ n,E.U n->E'.U n) (hS :∀ b,E.S b->E'.S b) (hw:E'.w=E.w) (D:Nat->Prop) (hD :∀ h,D h->E'.H h=E.H h/\E'.ρ h=E.ρ h) :∀ (xs:List V) (vs:List Value),(∀ h∈tG xs,D h)->ai E xs vs->ai E' xs vs
 | [],[],_,_=>by simp [ai]
 | _::_,[],_,h=>by simp [ai] at h
 | [],_::_,_,h=>by simp [ai] at h
 | x::xs,v::vs,hd,h=>by simp only [ai] at h ⊢;exact ⟨pX hU hS hw D hD x v (fun h hh=>hd h (by simp [tG,hh])) h.1,iP hU hS hw D hD xs vs (fun h hh=>hd h (by simp [tG,hh])) h.2⟩
end
theorem wj {E E':Env} (hU :∀ n,E.U n->E'.U n) (hS :∀ b,E.S b->E'.S b) (hw:E'.w=E.w) (D:Nat->Prop) (hD :∀ h,D h->E'.H h=E.H h/\E'.ρ h=E.ρ h) :∀ (i:Nat) (xs:List (V×V)) (es:List MapEntry),(∀ h∈W5 xs,D h)->qg E i xs es->qg E' i xs es
 | _,[],[],_,_=>trivial
 | _,_::_,[],_,h=>by simp [qg] at h
 | _,[],_::_,_,h=>by simp [qg] at h
 | i,(k,v)::xs,e::es,hd,h=>⟨⟨pX hU hS hw D hD _ _ (fun h hh=>hd h (by simp [W5,hh])) h.1.1,pX hU hS hw D hD _ _ (fun h hh=>hd h (by simp [W5,hh])) h.1.2.1,h.1.2.2⟩,
  wj hU hS hw D hD (i+1) xs es (fun h hh=>hd h (by simp [W5,hh])) h.2⟩
theorem KY {E E':Env} (hU :∀ n,E.U n->E'.U n) (hS :∀ b,E.S b->E'.S b) (hS' :∀ b,E'.S b->E.S b) (hw:E'.w=E.w) (D:Nat->Prop) (hD :∀ h,D h->E'.H h=E.H h/\E'.ρ h=E.ρ h) {h:Nat} (hh:D h) {k:bd} (hk :∀ x∈k.hs,D x) (hb:Ho E h k):Ho E' h k:=by
 obtain ⟨_,e2⟩:=hD h hh
 cases k with
 | cells cs=>obtain ⟨b,c,T,fr,h1,h2,h3,h4,h5⟩:=hb;exact ⟨b,c,T,fr,by rw [e2];exact h1,by rw [hw];exact h2,h3,fun hs=>h4 (hS' _ hs),iP hU hS hw D hD _ _ hk h5⟩
 | row ver rw t xs=>
  obtain ⟨hu,hb⟩:=hb;refine ⟨hU _ hu,?_⟩;rcases hb with ⟨h1,h2⟩ |⟨b,c,T,fr,h1,h2,h3,h4,h5,h6,h7,h8⟩
  ·exact .inl ⟨by rw [e2];exact h1,h2⟩
  ·exact .inr ⟨b,c,T,fr,by rw [e2];exact h1,by rw [hw];exact h2,h3,fun e hs=>h4 e (hS' _ hs),fun e=>hS _ (h5 e),h6,h7,fun i hi=>(h8 i hi).ext hS (fun _ _=>by rw [hw])⟩
 | grow ver esz cs=>obtain ⟨hu,b,c,T,fr,h1,h2,h3,h4,h5⟩:=hb;exact ⟨hU _ hu,b,c,T,fr,by rw [e2];exact h1,by rw [hw];exact h2,h3,fun hs=>h4 (hS' _ hs),iP hU hS hw D hD _ _ hk h5⟩
 | mp es=>obtain ⟨b,l,k,h1,h2,h3,h4,h5⟩:=hb;exact ⟨b,l,k,by rw [e2];exact h1,by rw [hw];exact h2,fun hs=>h3 (hS' _ hs),wj hU hS hw D hD _ _ _ hk h4,h5⟩
 | abs kk t x=>obtain ⟨b,h1,h2,h3,h4⟩:=hb;exact ⟨b,by rw [e2];exact h1,fun hs=>h2 (hS' _ hs),fun g hg hs=>h3 g (by rw [hw] at hg;exact hg) (hS' _ hs),by rw [hw];exact h4⟩
def N0 (E:Env) (R:List Nat):Nat->Prop:=fun b=>∃ h,h∈R/\∃ k,E.H h=some k/\fJ E h k b
def abW (E:Env) (R:List Nat) (g:qG E.w (N0 E R)):aK:=Eu E.w (N0 E R) E.S g
theorem zN {B:aK} {E:Env} (hE:aM B E) (R:List Nat):qG E.w (N0 E R):=hE.R7 fun _ ⟨h,_,k,hk,hb⟩=>⟨h,k,hk,hb⟩
theorem aM.cg {B:aK} {E:Env} (hE:aM B E) (R:List Nat):aM (abW E R (zN hE R)) { E with H:=aa.cg E.H R }:=by
 have get :∀ h k,aa.cg E.H R h=some k->h∈R/\E.H h=some k:=fun h k hh=>by
  unfold aa.cg at hh
  cases hm:aX R h with
  | false=>rw [hm] at hh;cases hh
  | true=>rw [hm] at hh;exact ⟨bp.1 hm,hh⟩
 have X:Ext E { E with H:=aa.cg E.H R }:=by refine ⟨fun _ h=>h,fun _ h=>h,fun _ _=>rfl,fun h cs _ hx=>⟨⟨cs,(get _ _ hx).2⟩,rfl⟩,fun h ver rw t xs _ _ hx=>⟨rw,xs,(get _ _ hx).2,rfl,rfl,fun b c T fr _ hw=>⟨c,T,fr,hw,rfl⟩⟩,fun h ver esz cs _ _ hx=>⟨cs,(get _ _ hx).2,rfl,rfl,fun b c T fr _ hw=>⟨c,T,fr,hw,rfl⟩⟩,fun h es _ hx=>⟨⟨es,(get _ _ hx).2⟩,rfl⟩,fun h k t x _ hx=>⟨⟨x,(get _ _ hx).2⟩,rfl⟩⟩
 refine ⟨fun h b hx=>hE.used _ _ (get _ _ hx).2,hE.stab,fun h k b hx hb=>hE.lt' _ _ _ (get _ _ hx).2 hb,fun h h' k k' b h1 h2 b1 b2=>hE.inj' _ _ _ _ _ (get _ _ h1).2 (get _ _ h2).2 b1 b2,
  fun h k hx=>di X rfl (fun _ _=>rfl) (fun _ _ _ h=>h) (hE.blk _ _ (get _ _ hx).2),dA.refl _ _,fun h k b hx hb=> .inl ⟨h,(get _ _ hx).1,_,(get _ _ hx).2,hb⟩,fun _ h=>h,fun _ h=> .inl h⟩
theorem Uy {B:aK} {E:Env} (hE:aM B E) {R:List Nat} {m K:Nat} (hm :∀ n,m<=n->n<m+K->¬ E.U n) {dh:List (Nat×bd)} {w':World} {Es:Env} (G:GoodK (abW E R (zN hE R)) { E with H:=cg E.H R } m K dh w' Es)
  (_ :∀ h∈R,∃ k,E.H h=some k) (hc :∀ h∈R,∀ k,E.H h=some k->∀ x∈k.hs,x∈R\/(m<=x/\x<m+K))
  (hk :∀ h k,find dh h=some k->(h∈R\/(m<=h/\h<m+K))/\∀ x∈k.hs,x∈R\/(m<=x/\x<m+K)) :
  ∃ E',GoodK B E m K dh w' E'/\∀ (v:V) (u:Value),(∀ x∈v.hs,x∈R\/(m<=x/\x<m+K))->ae Es v u->ae E' v u:=by
 classical
 let D:Nat->Prop:=fun h=>h∈R\/(m<=h/\h<m+K)
 let E':Env:=⟨Es.U,fun h=>if D h then Es.ρ h else E.ρ h,Es.S,Es.w,aQ E.H dh⟩
 have hEs:=G.rel;have Xs:=G.ext
 have hH :∀ h,D h->E'.H h=Es.H h:=fun h hd=>by
  show aQ E.H dh h=Es.H h;rw [G.h];unfold aQ
  cases hf:find dh h with
  | some k=>rfl
  | none=>
   simp only;unfold aa.cg
   cases hm':aX R h with
   | true=>rfl
   | false=>
    rcases hd with hd|hd
    ·rw [bp.2 hd] at hm';cases hm'
    ·cases hx:E.H h with
     | none=>rfl
     | some k=>exact absurd (hE.used _ _ hx) (hm h hd.1 hd.2)
 have hρ :∀ h,D h->E'.ρ h=Es.ρ h:=fun h hd=>if_pos hd
 have hHn :∀ h,¬ D h->E'.H h=E.H h:=fun h hd=>by
  show aQ E.H dh h=E.H h;unfold aQ
  cases hf:find dh h with
  | some k=>exact absurd (hk h k hf).1 hd
  | none=>rfl
 have hρn :∀ h,¬ D h->E'.ρ h=E.ρ h:=fun h hd=>if_neg hd
 have notF :∀ h k b,¬ D h->E.H h=some k->fJ E h k b->¬ N0 E R b:=fun h k b hd hx hb hf=>by
  obtain ⟨h2,g1,k2,g2,g3⟩:=hf
  have:=hE.inj' _ _ _ _ _ hx g2 hb g3
  subst this;exact hd (.inl g1)
 have keep' :∀ h k b,¬ D h->E.H h=some k->fJ E h k b->Es.w.heap[b]?=E.w.heap[b]?:=fun h k b hd hx hb=>
  hEs.keeps.block b (hE.lt' _ _ _ hx hb) (notF h k b hd hx hb)
 have keep :∀ h k b,¬ D h->E.H h=some k->E.ρ h=some b->Es.w.heap[b]?=E.w.heap[b]?:=fun h k b hd hx hb=>keep' h k b hd hx (.inl hb);have tD :∀ {h k b},D h->fJ E' h k b->fJ Es h k b:=fun hd ht=>ht.mv (hρ _ hd) (fun _ _=>rfl);have tN :∀ {h k b},¬ D h->E.H h=some k->fJ E' h k b->fJ E h k b:=fun hd hx ht=>ht.mv (hρn _ hd) (fun b hb=>keep _ _ b hd hx hb)
 have X:Ext E E':=by
  refine ⟨Xs.u,Xs.s,Xs.keepS,fun h cs' hu hx=>?_,fun h ver rw' t' xs' hu hv hx=>?_,fun h ver esz cs' hu hv hx=>?_,fun h es' hu hx=>?_,fun h kk t x' hu hx=>?_⟩
  case refine_5=>
   by_cases hd:D h
   ·rw [hH h hd] at hx;obtain ⟨⟨x,h1⟩,h2⟩:=Xs.ha h kk t x' hu hx;refine ⟨⟨x,?_⟩,by rw [hρ h hd];exact h2⟩;have h1':aa.cg E.H R h=some (.abs kk t x):=h1;unfold aa.cg at h1'
    cases hm':aX R h with
    | false=>rw [hm'] at h1';cases h1'
    | true=>rw [hm'] at h1';exact h1'
   ·rw [hHn h hd] at hx;exact ⟨⟨x',hx⟩,hρn h hd⟩
  ·by_cases hd:D h
   ·rw [hH h hd] at hx;obtain ⟨⟨cs,h1⟩,h2⟩:=Xs.hc h cs' hu hx;refine ⟨⟨cs,?_⟩,by rw [hρ h hd];exact h2⟩;have h1':aa.cg E.H R h=some (.cells cs):=h1;unfold aa.cg at h1'
    cases hm':aX R h with
    | false=>rw [hm'] at h1';cases h1'
    | true=>rw [hm'] at h1';exact h1'
   ·rw [hHn h hd] at hx;exact ⟨⟨cs',hx⟩,hρn h hd⟩
  ·by_cases hd:D h
   ·rw [hH h hd] at hx;obtain ⟨rw,xs,h1,h2,h3,h4⟩:=Xs.hr h ver rw' t' xs' hu hv hx;refine ⟨rw,xs,?_,h2,by rw [hρ h hd];exact h3,h4⟩;have h1':aa.cg E.H R h=some (.row ver rw t' xs):=h1;unfold aa.cg at h1'
    cases hm':aX R h with
    | false=>rw [hm'] at h1';cases h1'
    | true=>rw [hm'] at h1';exact h1'
   ·rw [hHn h hd] at hx;exact ⟨rw',xs',hx,rfl,hρn h hd,fun b c T fr hb hw=>⟨c,T,fr,by rw [show E'.w=Es.w from rfl,keep h _ b hd hx hb];exact hw,rfl⟩⟩
  ·by_cases hd:D h
   ·rw [hH h hd] at hx;obtain ⟨xs,h1,h2,h3,h4⟩:=Xs.hg h ver esz cs' hu hv hx;refine ⟨xs,?_,h2,by rw [hρ h hd];exact h3,h4⟩;have h1':aa.cg E.H R h=some (.grow ver esz xs):=h1;unfold aa.cg at h1'
    cases hm':aX R h with
    | false=>rw [hm'] at h1';cases h1'
    | true=>rw [hm'] at h1';exact h1'
   ·rw [hHn h hd] at hx;exact ⟨cs',hx,rfl,hρn h hd,fun b c T fr hb hw=>⟨c,T,fr,by rw [show E'.w=Es.w from rfl,keep h _ b hd hx hb];exact hw,rfl⟩⟩
  ·by_cases hd:D h
   ·rw [hH h hd] at hx;obtain ⟨⟨es,h1⟩,h2⟩:=Xs.hm h es' hu hx;refine ⟨⟨es,?_⟩,by rw [hρ h hd];exact h2⟩;have h1':aa.cg E.H R h=some (.mp es):=h1;unfold aa.cg at h1'
    cases hm':aX R h with
    | false=>rw [hm'] at h1';cases h1'
    | true=>rw [hm'] at h1';exact h1'
   ·rw [hHn h hd] at hx;exact ⟨⟨es',hx⟩,hρn h hd⟩
 have trans :∀ (v:V) (u:Value),(∀ x∈v.hs,D x)->ae Es v u->ae E' v u:=fun v u hd hv=>
  pX (E:=Es) (E':=E') (fun _ h=>h) (fun _ h=>h) rfl D (fun h hd=>⟨hH h hd,hρ h hd⟩) v u hd hv
 have hw0:E.w.heap.size<=Es.w.heap.size:=hEs.keeps.size;have hB0:B.w0.heap.size<=E.w.heap.size:=hE.keeps.size;have hfoot :∀ b,N0 E R b->B.F b\/B.w0.heap.size<=b:=fun b ⟨h2,_,k2,g2,g3⟩=>hE.own' _ _ _ g2 g3
 have R':aM B E':=by
  refine ⟨fun h b hx=>?_,hEs.stab,fun h k b hx hb=>?_,fun h h' k k' b h1 h2 b1 b2=>?_,fun h k hx=>?_,?_,fun h k b hx hb=>?_,fun b hs=>Xs.s _ (hE.s0 b hs),fun b hs=>?_⟩
  ·by_cases hd:D h
   ·rw [hH h hd] at hx;exact hEs.used _ _ hx
   ·rw [hHn h hd] at hx;exact Xs.u _ (hE.used _ _ hx)
  ·by_cases hd:D h
   ·rw [hH h hd] at hx;exact hEs.lt' _ _ _ hx (tD hd hb)
   ·rw [hHn h hd] at hx;exact Nat.lt_of_lt_of_le (hE.lt' _ _ _ hx (tN hd hx hb)) hw0
  ·have mix :∀ h h' k k',D h->¬ D h'->E'.H h=some k->E'.H h'=some k'->fJ E' h k b->fJ E' h' k' b->False:=fun h h' k k' hd hd' h1 h2 b1 b2=>by
    rw [hH h hd] at h1;replace b1:=tD hd b1;rw [hHn h' hd'] at h2;replace b2:=tN hd' h2 b2;rcases hEs.own' _ _ _ h1 b1 with h3|h3
    ·exact notF _ _ _ hd' h2 b2 h3
    ·have h4:=hE.lt' _ _ _ h2 b2;have h5:E.w.heap.size<=b:=h3;omega
   by_cases hd:D h <;> by_cases hd':D h'
   ·rw [hH h hd] at h1;rw [hH h' hd'] at h2;exact hEs.inj' _ _ _ _ _ h1 h2 (tD hd b1) (tD hd' b2)
   ·exact (mix h h' k k' hd hd' h1 h2 b1 b2).elim
   ·exact (mix h' h k' k hd' hd h2 h1 b2 b1).elim
   ·rw [hHn h hd] at h1;rw [hHn h' hd'] at h2;exact hE.inj' _ _ _ _ _ h1 h2 (tN hd h1 b1) (tN hd' h2 b2)
  ·by_cases hd:D h
   ·have hx':=hx;rw [hH h hd] at hx';refine KY (E:=Es) (E':=E') (fun _ h=>h) (fun _ h=>h) (fun _ h=>h) rfl D (fun h hd=>⟨hH h hd,hρ h hd⟩) hd ?_ (hEs.blk _ _ hx');have hx2:aQ E.H dh h=some k:=hx;unfold aQ at hx2
    cases hf:find dh h with
    | some k2=>rw [hf] at hx2;simp only [Option.some.injEq] at hx2;subst hx2;exact (hk h _ hf).2
    | none=>
     rw [hf] at hx2;rcases hd with hd|hd
     ·exact hc h hd k hx2
     ·exact absurd (hE.used _ _ hx2) (hm h hd.1 hd.2)
   ·have hx':=hx;rw [hHn h hd] at hx';refine di X (hρn h hd) (fun b hb=>keep' h k b hd hx' hb) (fun b hb _ hs hs'=>?_) (hE.blk _ _ hx');rcases hEs.sb b hs' with h1|h1|h1
    ·exact hs h1
    ·exact notF h k b hd hx' hb h1
    ·have h4:=hE.lt' _ _ _ hx' hb;have h5:E.w.heap.size<=b:=h1;omega
  ·exact hE.keeps.trans hEs.keeps hfoot
  ·by_cases hd:D h
   ·rw [hH h hd] at hx;rcases hEs.own' _ _ _ hx (tD hd hb) with h3|h3
    ·exact hfoot b h3
    ·exact .inr (Nat.le_trans hB0 h3)
   ·rw [hHn h hd] at hx;exact hE.own' _ _ _ hx (tN hd hx hb)
  ·rcases hEs.sb b hs with h1|h1|h1
   ·exact hE.sb b h1
   ·exact .inr (hfoot b h1)
   ·exact .inr (.inr (Nat.le_trans hB0 h1))
 exact ⟨E',⟨R',X,G.w,rfl,G.u⟩,trans⟩
end
section
open Go.RowKit
structure Cfg where
 tb:bG
 Γ:FuncId->Option dR
 K:Nat
 N:Nat
structure Dl where
 tm:List (Nat×V)
 hp:List (Nat×bd)
structure St where
 tm:List (Nat×V)
 hp:List (Nat×bd)
 H0:a6
 nx:Nat
def St.H (s:St):a6:=aQ s.H0 s.hp
def St.app (s:St) (d:Dl) (nx:Nat):St:=⟨d.tm++s.tm,d.hp++s.hp,s.H0,nx⟩
def dL (tm:List (Nat×V)) (i:Nat):V:=match find tm i with|some v=>v|none=> .any
def Mt (tm:List (Nat×V)):Operand->V
 | .tmp t=>dL tm t
 | .const v=>cv v
 | .func f=> .fn f []
 | .global _=> .any
def bV (rs:List Nat) (tm:List (Nat×V)):Operand->V
 | .tmp t=>bif aX rs t then dL tm t else .any
 | .const v=>cv v
 | .func f=> .fn f []
 | .global _=> .any
inductive Lf where
 | nrm|ext (id:Nat)|ret
inductive Tr where
 | leaf (e:Lf) (d:Dl) (nx:Nat)
 | br (b:Bool) (t e:Tr)
 | need (p:Prop) (t:Tr)
 | both (t u:Tr)
 | when (b:Bool) (t:Tr)
 | done
 | bad
def Tr.sat (Q:Lf->Dl->Nat->Prop):Tr->Prop
 | .leaf e d nx=>Q e d nx
 | .br b t e=>(b=true->t.sat Q)/\(b=false->e.sat Q)
 | .need p t=>p/\t.sat Q
 | .both t u=>t.sat Q/\u.sat Q
 | .when b t=>b=true->t.sat Q
 | .done=>True
 | .bad=>False
def sn:List Ob->Tr->Tr
 | [],t=>t
 | p::ps,t=> .need p.holds (sn ps t)
theorem Bd {Q:Lf->Dl->Nat->Prop} {t:Tr} :∀ {ps:List Ob},(sn ps t).sat Q->(∀ p∈ps,p.holds)/\t.sat Q
 | [],h=>⟨fun p hp=>by simp at hp,h⟩
 | p::ps,h=>by simp only [sn,Tr.sat] at h;obtain ⟨h1,h2⟩:=Bd h.2;exact ⟨fun q hq=>by rcases List.mem_cons.1 hq with rfl|hq;exact h.1;exact h1 q hq,h2⟩
def dw:Option Nat->V->List (Nat×V)
 | some d,v=> [(d,v)]
 | none,_=> []
def dW (N:Nat):Option Nat->Bool
 | some d=>Nat.blt d N
 | none=>true
def aV (all:List Oper) (o:Oper):List Nat:=
 (o.op.operands.toList.filterMap fun | .tmp t=>some t|_=>none) ++
  (match o.guard with|some (j,_)=>(match all[j]? with|some oj=>oj.dst.toList|none=> [])|none=> [])
def hO (all:List Oper) (tm:List (Nat×V)) (o:Oper):Option Bool:=
 match o.guard with
 | none=>some true
 | some (j,want)=>match all[j]? with
  | some oj=>match oj.dst with
   | some dj=>match dL tm dj with
    | .kb b=>some (b==want)
    | .tup []=>some false
    | _=>none
   | none=>none
  | none=>none
def Sf (all:List Oper) (i:Nat):Bool:=all.any fun o=>match o.guard with|some (j,_)=>Nat.beq j i|none=>false
def qu (H:a6):Nat->List Nat->List Nat->List Nat
 | 0,_,acc=>acc
 | n+1,new,acc=>
  let add:=new.filter fun h=>!aX acc h
  let nxt:=add.flatMap fun h=>match H h with|some b=>b.hs|none=> []
  match add with
  | []=>acc
  | _=>qu H n nxt (add++acc)
def qa (R:List Nat) (m K:Nat) (l:List Nat):Bool:=l.all fun h=>aX R h ||(Nat.ble m h&&Nat.blt h (m+K))
def jK (H:a6) (R:List Nat) (m K:Nat) (v:V) (dh:List (Nat×bd)):Bool:=
 (R.all fun h=>match H h with|some b=>qa R m K b.hs|none=>false)&&(dh.all fun q=>qa R m K [q.1]&&qa R m K q.2.hs)&&qa R m K v.hs
def bn (C:Cfg) (m:Nat) (H:a6) (ev:Operand->V) (o:Op):Option (List Ob×V×List (Nat×bd)):=
 match du C.tb H ev o with
 | some (ps,dh)=>some (ps,.tup [],dh)
 | none=>match c7 C.tb C.Γ m H ev o with
  | .val ps v dh=>some (ps,v,dh)
  | _=>none
structure Rec where
 dst:Option Nat
 v:V
 dh:List (Nat×bd)
 R:List Nat
 rs:List Nat
def py (C:Cfg) (dr:Bool) (rs:List Nat) (tm:List (Nat×V)) (H:a6) (m:Nat) (o:Oper):Option (List Ob×V×List (Nat×bd)×List Nat):=
 match dr with
 | false=>match bn C m H (Mt tm) o.op with
  | some (ps,v,dh)=>some (ps,v,dh,[])
  | none=>none
 | true=>
  let ev:=bV rs tm
  let R:=qu H 8 (o.op.operands.toList.flatMap fun x=>(ev x).hs) []
  match bn C m (cg H R) ev o.op with
  | some (ps,v,dh)=>bif jK H R m C.K v dh then some (ps,v,dh,R) else none
  | none=>none
def rH (ev:Operand->V):Op->Bool
 | .move _ | .assign _ | .pick _ _ _ | .alloc _ | .box _ _ | .build _ _ | .load _ _ | .nilCheck _ | .binOp _ _ _ _ _ | .unOp _ _ _ | .convert _ _ _ | .makeFunc _ _ _=>true
 | .fieldAddr _ _ _ | .field _ _ _ | .indexAddr _ _ _ | .index _ _ _ | .extract _ _ | .slice _ _ _ _ _=>true
 | .store _ a _=>match ev a with
  | .ptr _ _=>true
  | .gp _ _ _=>true
  | _=>false
 | .call c=>match c.callee with
  | .builtin .len=>true
  | .builtin .append=>true
  | _=>false
 | _=>false
def WK (ev:Operand->V) (op:Op):List Nat:=
 match op with
 | .move _=> []
 | .assign _=> []
 | .nilCheck _=> []
 | .fieldAddr _ _ _=> []
 | op=>op.operands.toList.flatMap fun x=>(ev x).hs
def QB (C:Cfg) (dr:Bool) (rs:List Nat) (tm:List (Nat×V)) (H:a6) (m:Nat) (o:Oper):Option (List Ob×V×List (Nat×bd)×List Nat):=
 match dr with
 | false=>py C false rs tm H m o
 | true=>match rH (bV rs tm) o.op with
  | true=>match bn C m H (bV rs tm) o.op with
   | some (ps,v,dh)=>some (ps,v,dh,WK (bV rs tm) o.op)
   | none=>none
  | false=>py C true rs tm H m o
def rY (acc:List Nat):List Edge->Nat
 | []=>0
 | e::es=>if Region.binds .any e then (rY acc es ||| 2 ^ e.on) |||(acc[e.on]?).getD 0 else rY acc es
def cM:List Oper->List Nat->List Nat
 | [],acc=>acc
 | o::os,acc=>cM os (acc++[rY acc o.after.toList])
def dT:Nat->List Oper->Bool
 | _,[]=>true
 | i,o::os=>(o.after.toList.all fun e=>!Region.binds .any e||Nat.blt e.on i)&&dT (i+1) os
def vh (l r:List Nat):Bool:=l.all fun x=>!aX r x
def comm (r s:Rec):Bool:=
 vh r.dst.toList s.dst.toList&&vh r.dst.toList s.rs&&vh s.dst.toList r.rs &&
  (vh (r.dh.map (·.1)) (s.dh.map (·.1))&&vh (r.dh.map (·.1)) s.R&&vh (s.dh.map (·.1)) r.R)
def uh (ms:List Nat) (i:Nat) (r:Rec):Nat->List Rec->Bool
 | _,[]=>true
 | j,s::ss=>(((ms[j]?).getD 0).testBit i||comm r s)&&uh ms i r (j+1) ss
def fV (ms:List Nat):Nat->List Rec->Bool
 | _,[]=>true
 | i,r::rs=>uh ms i r (i+1) rs&&fV ms (i+1) rs
def DX (g:Bool) (v:V) (k:V->Tr):Tr:=
 match g,v with
 | true,.bool b=> .br b (k (.kb true)) (k (.kb false))
 | _,v=>k v
theorem xZ {Q:Lf->Dl->Nat->Prop} {g:Bool} {v:V} {k:V->Tr} (h :(DX g v k).sat Q) :∃ v',(v'=v\/∃ b,v = .bool b/\v' = .kb b)/\(k v').sat Q:=by
 unfold DX at h;split at h
 ·simp only [Tr.sat] at h;rename_i b
  cases b with
  | true=>exact ⟨_,.inr ⟨true,rfl,rfl⟩,h.1 rfl⟩
  | false=>exact ⟨_,.inr ⟨false,rfl,rfl⟩,h.2 rfl⟩
 ·exact ⟨_,.inl rfl,h⟩
def DY (kd:IntKind) (n:Int) (k:V->Tr):Nat->Nat->Tr
 | 0,_=> .need False .done
 | m+1,j=> .br (n ==(j:Int)) (k (.int kd j)) (DY kd n k m (j+1))
def CV (tb:bG) (d:Option Nat):List Oper->Nat
 | []=>0
 | o::os=>match o.op,d with
  | .indexAddr t _ (.tmp i),some d=>bif Nat.beq i d then (match tb t with|some td=>(match td.kind with | .arr len _=>len|_=>CV tb (some d) os)|none=>0) else CV tb (some d) os
  | _,_=>CV tb d os
def I5 (g:Bool) (l:Nat) (v:V) (k:V->Tr):Tr:=
 match l with
 | 0=>DX g v k
 | l+1=>match v with
  | .int kd n=>DY kd n k (l+1) 0
  | v=>DX g v k
theorem ya {Q:Lf->Dl->Nat->Prop} {kd:IntKind} {n:Int} {k:V->Tr} :∀ {m j:Nat},(DY kd n k m j).sat Q->(k (.int kd n)).sat Q
 | 0,j,h=>h.1.elim
 | m+1,j,h=>by
  simp only [DY,Tr.sat] at h
  cases hb:n ==(j:Int) with
  | true=>
   have:n =(j:Int):=by simpa using hb
   have:=h.1 hb
   rwa [<-‹n =(j:Int)›] at this
  | false=>exact ya (h.2 hb)
theorem I6 {Q:Lf->Dl->Nat->Prop} {g:Bool} {l:Nat} {v:V} {k:V->Tr} (h :(I5 g l v k).sat Q) :∃ v',(v'=v\/∃ b,v = .bool b/\v' = .kb b)/\(k v').sat Q:=by
 unfold I5 at h;split at h
 ·exact xZ h
 ·split at h
  ·exact ⟨_,.inl rfl,ya h⟩
  ·exact xZ h
def wE (C:Cfg) (dr:Bool) (all:List Oper) (st:St):Nat->List Oper->Dl->List Rec->Tr
 | _,[],d,recs=>if dr=false\/(dT 0 all=true/\fV (cM all []) 0 recs=true) then .leaf .nrm d (st.nx+all.length*C.K) else .bad
 | i,o::rest,d,recs=>
  let tm:=d.tm++st.tm
  let rs:=aV all o
  bif dW C.N o.dst then
   match hO all tm o with
   | some false=>wE C dr all st (i+1) rest ⟨dw o.dst (.tup [])++d.tm,d.hp⟩ (recs++[⟨o.dst,.tup [],[],[],rs⟩])
   | some true=>match QB C dr rs tm (aQ st.H d.hp) (st.nx+i*C.K) o with
    | some (ps,v,dh,R)=>sn ps (I5 (Sf all i) (CV C.tb o.dst rest) v fun v=>wE C dr all st (i+1) rest ⟨dw o.dst v++d.tm,dh++d.hp⟩ (recs++[⟨o.dst,v,dh,R,rs⟩]))
    | none=> .bad
   | none=> .bad
  else .bad
inductive yA (C:Cfg) (dr:Bool) (all:List Oper) (tm:List (Nat×V)) (H:a6) (m:Nat) (o:Oper):Rec->Prop
 | skip:dW C.N o.dst=true->hO all tm o=some false->yA C dr all tm H m o ⟨o.dst,.tup [],[],[],aV all o⟩
 | run {ps:List Ob} {v v':V} {dh:List (Nat×bd)} {R:List Nat}:dW C.N o.dst=true->hO all tm o=some true->py C dr (aV all o) tm H m o=some (ps,v,dh,R)->(∀ p∈ps,p.holds)->
   (v'=v\/∃ b,v = .bool b/\v' = .kb b)->yA C dr all tm H m o ⟨o.dst,v',dh,R,aV all o⟩
 | dir {ps:List Ob} {v v':V} {dh:List (Nat×bd)}:dr=true->dW C.N o.dst=true->hO all tm o=some true->rH (bV (aV all o) tm) o.op=true->bn C m H (bV (aV all o) tm) o.op=some (ps,v,dh)->(∀ p∈ps,p.holds)->
   (v'=v\/∃ b,v = .bool b/\v' = .kb b)->yA C dr all tm H m o ⟨o.dst,v',dh,WK (bV (aV all o) tm) o.op,aV all o⟩
theorem yD {C:Cfg} {dr:Bool} {all:List Oper} {tm:List (Nat×V)} {H:a6} {m:Nat} {o:Oper} {ps:List Ob} {v v':V} {dh:List (Nat×bd)} {R:List Nat} (h1:dW C.N o.dst=true) (h2:hO all tm o=some true) (h3:QB C dr (aV all o) tm H m o=some (ps,v,dh,R)) (h4 :∀ p∈ps,p.holds)
  (h5:v'=v\/∃ b,v = .bool b/\v' = .kb b):yA C dr all tm H m o ⟨o.dst,v',dh,R,aV all o⟩:=by
 unfold QB at h3;split at h3
 ·exact .run h1 h2 h3 h4 h5
 ·split at h3
  ·rename_i hd;split at h3
   ·rename_i he;simp only [Option.some.injEq,Prod.mk.injEq] at h3;obtain ⟨rfl,rfl,rfl,rfl⟩:=h3;exact .dir rfl h1 h2 hd he h4 h5
   ·cases h3
  ·exact .run h1 h2 h3 h4 h5
inductive Run (C:Cfg) (dr:Bool) (all:List Oper) (st:St):Nat->List Oper->Dl->List Rec->Dl->List Rec->Prop
 | nil {i:Nat} {d:Dl} {recs:List Rec}:Run C dr all st i [] d recs d recs
 | cons {i:Nat} {o:Oper} {rest:List Oper} {d:Dl} {recs:List Rec} {r:Rec} {df:Dl} {rf:List Rec}:yA C dr all (d.tm++st.tm) (aQ st.H d.hp) (st.nx+i*C.K) o r->
   Run C dr all st (i+1) rest ⟨dw r.dst r.v++d.tm,r.dh++d.hp⟩ (recs++[r]) df rf->Run C dr all st i (o::rest) d recs df rf
theorem nz {C:Cfg} {dr:Bool} {all:List Oper} {st:St} {Q:Lf->Dl->Nat->Prop} :∀ (rest:List Oper) (i:Nat) (d:Dl) (recs:List Rec),(wE C dr all st i rest d recs).sat Q->
  ∃ df rf,Run C dr all st i rest d recs df rf/\(dr=false\/(dT 0 all=true/\fV (cM all []) 0 rf=true))/\Q .nrm df (st.nx+all.length*C.K)
 | [],i,d,recs,h=>by
  unfold wE at h;split at h
  ·rename_i hc;exact ⟨d,recs,.nil,hc,h⟩
  ·exact h.elim
 | o::rest,i,d,recs,h=>by
  unfold wE at h;dsimp only at h
  cases hd:dW C.N o.dst with
  | false=>rw [hd] at h;exact h.elim
  | true=>
   rw [hd] at h;simp only [cond_true] at h;split at h
   ·rename_i hg;obtain ⟨df,rf,h1,h2⟩:=nz rest _ _ _ h;exact ⟨df,rf,.cons (.skip hd hg) h1,h2⟩
   ·rename_i hg;split at h
    case h_2=>exact h.elim
    rename_i ps v dh R hs;obtain ⟨hps,h⟩:=Bd h;obtain ⟨v',hv,h⟩:=I6 h;obtain ⟨df,rf,h1,h2⟩:=nz rest _ _ _ h;exact ⟨df,rf,.cons (yD hd hg hs hps hv) h1,h2⟩
   ·exact h.elim
variable {P:Program}
structure nZ (B:aK) (N:Nat) (T:Nat->Option V) (H:a6) (U:Nat->Prop) (a:Act) (w:World):Prop where
 ex :∃ E,aM B E/\E.w=w/\E.H=H/\(B.G E/\∀ n,E.U n->U n)/\∀ s v,T s=some v->ae E v (a.tmps.getD s undef)
 size:a.tmps.size=N
 defers:a.defers=B.dfs
theorem cX {α:Type} (l r:List (Nat×α)) (i:Nat):find (l++r) i=match find l i with|some v=>some v|none=>find r i:=by
 induction l with
 | nil=>rfl
 | cons x l ih=>
  obtain ⟨k,v⟩:=x;simp only [List.cons_append,find]
  cases Nat.beq k i with
  | true=>rfl
  | false=>simpa using ih
theorem cY (H:a6) (l r:List (Nat×bd)):aQ H (l++r)=aQ (aQ H r) l:=by funext h;simp only [aQ,cX];cases find l h <;> rfl
theorem ja {E:Env} (v:Value):ae E (cv v) v:=by
 unfold cv;split
 ·split
  ·rename_i h;exact kJ h
  ·simp [ae]
 ·exact vkb _
 ·split
  ·rename_i h;exact MT h
  ·simp [ae]
 ·simp [ae]
 ·simp [ae]
 ·simp [ae]
 ·simp [ae]
 ·simp [ae]
def gC (E:Env) (T:Nat->Option V) (a:Act):Prop:=∀ s v,T s=some v->ae E v (a.tmps.getD s undef)
theorem dG {E:Env} {tm:List (Nat×V)} {a:Act} (h:gC E (find tm) a) (s:Nat):ae E (dL tm s) (a.tmps.getD s undef):=by
 unfold dL
 cases hf:find tm s with
 | some v=>exact h s v hf
 | none=>simp [ae]
theorem rj {E:Env} {tm:List (Nat×V)} {a:Act} (h:gC E (find tm) a) (x:Operand):ae E (Mt tm x) (a.eval x):=by
 cases x with
 | tmp t=>exact dG h t
 | const v=>exact ja v
 | func f=>simp only [Mt,ae,Act.eval];exact ⟨#[],rfl,by simp [ai]⟩
 | _=>simp [Mt,ae]
theorem yA.dW {C:Cfg} {dr:Bool} {all:List Oper} {tm:List (Nat×V)} {H:a6} {m:Nat} {o:Oper} {r:Rec} (h:yA C dr all tm H m o r):dW C.N o.dst=true/\r.dst=o.dst/\r.rs=aV all o:=by
 cases h with
 | skip h _=>exact ⟨h,rfl,rfl⟩
 | run h _ _ _ _=>exact ⟨h,rfl,rfl⟩
 | dir _ h _ _ _ _ _=>exact ⟨h,rfl,rfl⟩
theorem Dr {E E':Env} (X:Ext E E') {T:Nat->Option V} {a:Act} (h:gC E T a) {N:Nat} (hs:a.tmps.size=N) {dst:Option Nat} (hd:dW N dst=true) {v:V} {v':Value} (hv:ae E' v v') {T':Nat->Option V}
  (hT :∀ s u,T' s=some u->find (dw dst v) s=some u\/(find (dw dst v) s=none/\T s=some u)):gC E' T' (a.put dst v'):=by
 intro s u hu
 cases dst with
 | none=>
  rcases hT s u hu with h1|h1
  ·simp [dw,find] at h1
  ·exact ca X _ _ (h s u h1.2)
 | some d=>
  simp only [aa.dW,Nat.blt_eq] at hd;simp only [Act.put];rcases hT s u hu with h1 |⟨h1,h2⟩
  ·simp only [dw,find] at h1
   cases hb:Nat.beq d s with
   | true=>
    rw [hb] at h1;simp only [cond_true,Option.some.injEq] at h1;subst h1;obtain rfl:=Nat.eq_of_beq_eq_true hb;have :(a.tmps.setIfInBounds d v').getD d undef=v':=by simp [Array.getD_eq_getD_getElem?,hs,hd]
    rw [this];exact hv
   | false=>rw [hb] at h1;simp at h1
  ·simp only [dw,find] at h1
   cases hb:Nat.beq d s with
   | true=>rw [hb] at h1;simp at h1
   | false=>
    have hne:d≠s:=fun e=>by subst e;rw [Nat.beq_refl] at hb;cases hb
    have :(a.tmps.setIfInBounds d v').getD s undef=a.tmps.getD s undef:=by simp [Array.getD_eq_getD_getElem?,Array.getElem?_setIfInBounds_ne hne]
    rw [this];exact ca X _ _ (h s u h2)
theorem oZ {a:Act} {dst:Option Nat} {v:Value} :(a.put dst v).tmps.size=a.tmps.size:=by cases dst <;> simp [Act.put]
theorem ky {a:Act} {dst:Option Nat} {v:Value} :(a.put dst v).defers=a.defers:=by cases dst <;> simp [Act.put]
theorem N7 {t:Array Value} {d:Nat} {v:Value} (h:t.getD d undef=v) (hv:v≠undef):t[d]?=some v:=by
 rw [Array.getD_eq_getD_getElem?] at h
 cases hx:t[d]? with
 | none=>rw [hx] at h;exact absurd h.symm hv
 | some u=>rw [hx] at h;simpa using h
theorem oJ {E:Env} {all:List Oper} {T:Nat->V} {a:Act} (hT :∀ s,ae E (T s) (a.tmps.getD s undef)) {o:Oper} {b:Bool}
  (h :(match o.guard with
   | none=>some true
   | some (j,want)=>match all[j]? with
    | some oj=>match oj.dst with
     | some dj=>match T dj with
      | .kb b=>some (b==want)
      | .tup []=>some false
      | _=>none
     | none=>none
    | none=>none:Option Bool)=some b):Region.wanted o (yielded all.toArray a.tmps)=b:=by
 unfold Region.wanted
 cases hg:o.guard with
 | none=>rw [hg] at h;simpa using h
 | some q=>
  obtain ⟨j,want⟩:=q;rw [hg] at h;simp only at h ⊢
  cases hj:all[j]? with
  | none=>rw [hj] at h;simp at h
  | some oj=>
   rw [hj] at h;simp only at h
   cases hd:oj.dst with
   | none=>rw [hd] at h;simp at h
   | some dj=>
    rw [hd] at h;simp only at h;have hv:=hT dj
    have hy:yielded all.toArray a.tmps j=match a.tmps[dj]? with|some (.bool b)=>some b|_=>none:=by unfold yielded;simp only [List.getElem?_toArray,hj,Option.bind_some,hd];rfl
    rw [hy];split at h
    ·rename_i b' hb;rw [hb] at hv;simp only [ae] at hv;rw [N7 hv (by simp [undef])];simp only [Option.some.injEq] at h;subst h;cases b' <;> cases want <;> rfl
    ·rename_i hb;rw [hb] at hv;simp only [ae] at hv;obtain ⟨l,hl,hv⟩:=hv;have hl0:l.toList=[]:=by cases hx:l.toList with|nil=>rfl|cons=>rw [hx] at hv;simp [ai] at hv
     have hl1:l=#[]:=by apply Array.ext';simpa using hl0
     subst hl1;simp only [Option.some.injEq] at h;subst h;rw [Array.getD_eq_getD_getElem?] at hl
     cases hx:a.tmps[dj]? with
     | none=>rfl
     | some u=>rw [hx] at hl;simp only [Option.getD_some] at hl;subst hl;rfl
    ·cases h
theorem ql {E:Env} {all:List Oper} {tm:List (Nat×V)} {a:Act} (hT:gC E (find tm) a) {o:Oper} {b:Bool} (h:hO all tm o=some b):Region.wanted o (yielded all.toArray a.tmps)=b:=
 oJ (E:=E) (T:=dL tm) (fun s=>dG hT s) h
theorem fv {B:aK} {E:Env} (hE:aM B E) {C:Cfg} (hT:cn P C.tb) (hK:1<=C.K) (hΓ :∀ f c,C.Γ f=some c->aR P C.K f c) {m:Nat} (hm :∀ n,m<=n->n<m+C.K->¬ E.U n) {ev:Operand->V} {a:Act} (hev :∀ x,ae E (ev x) (a.eval x))
  {o:Oper} {ps:List Ob} {v:V} {dh:List (Nat×bd)} (h:bn C m E.H ev o.op=some (ps,v,dh)) (hps :∀ p∈ps,p.holds) {next:Act->World->Prop} {Q:Exit->Act->World->Prop}
  (hn :∀ v' E',GoodK B E m C.K dh E'.w E'->ae E' v v'->next (a.put o.dst v') E'.w):o.wp P a E.w next Q:=by
 unfold bn at h;split at h
 ·rename_i ps' dh' hs;cases h;exact HF hE hT hK hev hs hps fun E' G=>hn _ _ G (by simp [ae,undef,ai])
 ·split at h
  case h_2=>cases h
  rename_i ps' v' dh' hs;cases h;exact HE hE hT hK hΓ hm hev hs hps hn
theorem MS {E:Env} {v v':V} {u:Value} (h:v'=v\/∃ b,v = .bool b/\v' = .kb b) (hv:ae E v u):ae E v' u:=by
 rcases h with rfl |⟨b,rfl,rfl⟩
 ·exact hv
 ·simpa [ae] using hv
structure CfgOK (P:Program) (C:Cfg):Prop where
 tb:cn P C.tb
 K:1<=C.K
 Γ :∀ f c,C.Γ f=some c->aR P C.K f c
theorem Dz {C:Cfg} (hC:CfgOK P C) {B:aK} {all:List Oper} {st:St} {Q:Exit->Act->World->Prop} :∀ (rest:List Oper) (i:Nat) (d:Dl) (recs:List Rec) (df:Dl) (rf:List Rec),Run C false all st i rest d recs df rf->
  (∀ a w,nZ B C.N (find (df.tm++st.tm)) (aQ st.H df.hp) (fun n=>n<st.nx +(i+rest.length)*C.K) a w->Q .normal a w)->
  ∀ a w,nZ B C.N (find (d.tm++st.tm)) (aQ st.H d.hp) (fun n=>n<st.nx+i*C.K) a w->wpList P all.toArray Q rest a w
 | [],i,d,recs,df,rf,hr,hQ,a,w,hs=>by cases hr;exact wpList_nil (hQ a w (by simpa using hs))
 | o::rest,i,d,recs,df,rf,hr,hQ,a,w,hs=>by
  cases hr with
  | @cons _ _ _ _ _ r _ _ hdo hrun=>
   have ih:=Dz hC (B:=B) (Q:=Q) rest (i+1) _ _ _ _ hrun (fun a w h=>hQ a w (by
    have e:i+1+rest.length=i +(o::rest).length:=by simp;omega
    rw [e] at h;exact h))
   obtain ⟨⟨E,hE,rfl,hH,⟨hG,hU⟩,hT⟩,hsz,hdf⟩:=hs;have hTm:gC E (find (d.tm++st.tm)) a:=hT
   have after :∀ (E':Env) (v':Value),GoodK B E (st.nx+i*C.K) C.K r.dh E'.w E'->ae E' r.v v'->dW C.N o.dst=true->r.dst=o.dst->
     nZ B C.N (find (dw r.dst r.v++d.tm++st.tm)) (aQ st.H (r.dh++d.hp)) (fun n=>n<st.nx +(i+1)*C.K) (a.put o.dst v') E'.w:=fun E' v' G hv hd he=>by
    refine ⟨⟨E',G.rel,rfl,by rw [G.h,cY,hH],⟨B.clo _ _ hG G.ext,fun n hn=>?_⟩,?_⟩,by rw [oZ];exact hsz,by rw [ky];exact hdf⟩
    ·rw [Nat.add_mul,Nat.one_mul];rcases G.u n hn with h|h
     ·have:=hU n h;omega
     ·omega
    ·rw [he]
     exact Dr G.ext hTm hsz hd hv (fun s u hu=>by
      rw [List.append_assoc,cX] at hu
      cases hf:find (dw o.dst r.v) s with
      | some x=>rw [hf] at hu;exact .inl hu
      | none=>rw [hf] at hu;exact .inr ⟨rfl,hu⟩)
   obtain ⟨hd,he,_⟩:=hdo.dW;unfold wpList
   cases hdo with
   | dir hdr=>cases hdr
   | skip _ hg=>
    have hw:=ql (E:=E) hTm hg;rw [hw];simp only [Bool.false_eq_true,if_false];exact ih _ _ (after E undef ⟨hE,Ext.refl E,rfl,rfl,fun n h=> .inl h⟩ (by simp [ae,undef,ai]) hd rfl)
   | @run ps v v' dh R _ hg hst hps hv=>
    have hw:=ql (E:=E) hTm hg;rw [hw];simp only [if_true];simp only [py] at hst;split at hst
    case h_2=>cases hst
    rename_i ps' v2 dh' hev;cases hst;rw [<-hH] at hev;exact .inl (fv hE hC.tb hC.K hC.Γ (fun n h1 h2 hu=>by have:=hU n hu;omega) (rj hTm) hev hps fun v'' E' G hv'=>ih _ _ (after E' v'' G (MS hv hv') hd rfl))
end
section
open Go.RowKit
variable {P:Program}
def fb {α:Type} (f:Nat->Option α) (l:List (Nat×α)):Nat->Option α:=fun k=>match find l k with|some v=>some v|none=>f k
def cG {α:Type} (L:Nat->Bool) :(Nat->Option α)->Nat->List (List (Nat×α))->(Nat->Option α)
 | f,_,[]=>f
 | f,i,u::us=>cG L (if L i=true then fb f u else f) (i+1) us
theorem jU {α:Type} {f:Nat->Option α} {u:List (Nat×α)} {k:Nat} (h:find u k=none):fb f u k=f k:=by simp [fb,h]
theorem iC {α:Type} {f:Nat->Option α} {u:List (Nat×α)} {k:Nat} {v:α} (h:find u k=some v):fb f u k=some v:=by simp [fb,h]
theorem iJ {α:Type} {L L':Nat->Bool} {k:Nat} :∀ (us:List (List (Nat×α))) (i:Nat) (f f':Nat->Option α),f k=f' k->(∀ j u,us[j]?=some u->find u k≠none->L (i+j)=L' (i+j))->cG L f i us k=cG L' f' i us k
 | [],_,_,_,h,_=>h
 | u::us,i,f,f',h,hu=>by
  unfold cG
  refine iJ us (i+1) _ _ ?_ (fun j u' hj hf=>by
   have:=hu (j+1) u' (by simpa using hj) hf
   rwa [show i +(j+1)=i+1+j by omega] at this)
  cases hf:find u k with
  | none=>
   have e1 :(if L i=true then fb f u else f) k=f k:=by split <;> simp [jU hf]
   have e2 :(if L' i=true then fb f' u else f') k=f' k:=by split <;> simp [jU hf]
   rw [e1,e2,h]
  | some v=>
   have:=hu 0 u (by simp) (by rw [hf];simp)
   simp only [Nat.add_zero] at this;rw [this];split
   ·rw [iC hf,iC hf]
   ·exact h
theorem BD {α:Type} {L:Nat->Bool} {k:Nat} {v:α} :∀ (us:List (List (Nat×α))) (i:Nat) (f:Nat->Option α) (j0:Nat) (u0:List (Nat×α)),us[j0]?=some u0->L (i+j0)=true->find u0 k=some v->
  (∀ j u,j0<j->us[j]?=some u->L (i+j)=true->find u k=none)->cG L f i us k=some v
 | [],_,_,j0,u0,h,_,_,_=>by simp at h
 | u::us,i,f,0,u0,h,hL,hf,hl=>by
  simp only [List.getElem?_cons_zero,Option.some.injEq] at h;subst h;unfold cG;simp only [Nat.add_zero] at hL;rw [if_pos hL]
  have key :∀ (us:List (List (Nat×α))) (i:Nat) (g:Nat->Option α),g k=some v->(∀ j u,us[j]?=some u->L (i+j)=true->find u k=none)->cG L g i us k=some v:=by
   intro us
   induction us with
   | nil=>intro i g hg _;exact hg
   | cons u us ih=>
    intro i g hg hh;unfold cG;refine ih _ _ ?_ (fun j u' hj hLj=>hh (j+1) u' (by simpa using hj) (by rwa [show i +(j+1)=i+1+j by omega]));split
    ·rename_i hL0;rw [jU (hh 0 u (by simp) (by simpa using hL0))];exact hg
    ·exact hg
  refine key us (i+1) _ (iC hf) (fun j u' hj hLj=>hl (j+1) u' (by omega) (by simpa using hj) (by rwa [show i +(j+1)=i+1+j by omega]))
 | u::us,i,f,j0+1,u0,h,hL,hf,hl=>by
  unfold cG
  exact BD us (i+1) _ j0 u0 (by simpa using h) (by rwa [show i+1+j0=i +(j0+1) by omega]) hf
   (fun j u' hj hu' hLj=>hl (j+1) u' (by omega) (by simpa using hu') (by rwa [show i +(j+1)=i+1+j by omega]))
theorem GT {α:Type} {L L':Nat->Bool} (us:List (List (Nat×α))) (f:Nat->Option α) (i:Nat) (u0:List (Nat×α)) (hi:us[i]?=some u0) (hL' :∀ j,L' j=if j=i then true else L j)
  (hd :∀ j u,i<j->us[j]?=some u->L j=true->∀ k,find u0 k≠none->find u k=none):cG L' f 0 us=fb (cG L f 0 us) u0:=by
 funext k
 cases hf:find u0 k with
 | none=>
  rw [jU hf];refine iJ us 0 f f rfl (fun j u hj hu=>?_);rw [Nat.zero_add,hL' j];by_cases e:j=i
  ·subst e;rw [hi] at hj;cases hj;exact absurd hf hu
  ·rw [if_neg e]
 | some v=>rw [iC hf];refine BD us 0 f i u0 hi (by rw [Nat.zero_add,hL',if_pos rfl]) hf (fun j u hj hu hLj=>?_);rw [Nat.zero_add,hL',if_neg (by omega)] at hLj;exact hd j u hj hu hLj k (by rw [hf];simp)
theorem nB {α:Type} :∀ (us:List (List (Nat×α))) (f:Nat->Option α) (i n:Nat),cG (fun j=>Nat.blt j (i+n)) f i us =(us.take n).foldl fb f
 | [],f,i,n=>by simp [cG]
 | u::us,f,i,0=>by
  have hall :∀ (us:List (List (Nat×α))) (f:Nat->Option α) (k:Nat),i<=k->cG (fun j=>Nat.blt j (i+0)) f k us=f:=by
   intro us
   induction us with
   | nil=>intro f k _;rfl
   | cons u us ih=>
    intro f k hk;unfold cG
    have:Nat.blt k (i+0)=false:=by cases hb:Nat.blt k (i+0) with|false=>rfl|true=>rw [Nat.blt_eq] at hb;omega
    rw [this];simp only [Bool.false_eq_true,if_false];exact ih _ _ (by omega)
  rw [hall _ _ _ (Nat.le_refl i)];rfl
 | u::us,f,i,n+1=>by
  unfold cG
  have:Nat.blt i (i +(n+1))=true:=by rw [Nat.blt_eq];omega
  rw [this];simp only [if_true,List.take_succ_cons,List.foldl_cons]
  have:=nB us (fb f u) (i+1) n
  rw [show i+1+n=i +(n+1) by omega] at this;exact this
theorem pK (H:a6) (l:List (Nat×bd)):aQ H l=fb H l:=by funext h;unfold aQ fb;cases find l h <;> rfl
theorem zM (tm r:List (Nat×V)):find (r++tm)=fb (find tm) r:=by funext k;rw [cX];rfl
def gm (r:Rec):List (Nat×V):=dw r.dst r.v
theorem GE {C:Cfg} {dr:Bool} {all:List Oper} {st:St} :∀ (rest:List Oper) (i:Nat) (d:Dl) (recs:List Rec) (df:Dl) (rf:List Rec),Run C dr all st i rest d recs df rf->recs.length=i->
  find (d.tm++st.tm) =(recs.map gm).foldl fb (find st.tm)->aQ st.H d.hp =(recs.map Rec.dh).foldl fb st.H->
  (∃ more,rf=recs++more/\more.length=rest.length)/\find (df.tm++st.tm) =(rf.map gm).foldl fb (find st.tm)/\aQ st.H df.hp =(rf.map Rec.dh).foldl fb st.H/\
  ∀ j o,rest[j]?=some o->∃ r tm H,rf[i+j]?=some r/\yA C dr all tm H (st.nx +(i+j)*C.K) o r/\find tm =((rf.take (i+j)).map gm).foldl fb (find st.tm)/\H =((rf.take (i+j)).map Rec.dh).foldl fb st.H
 | [],i,d,recs,df,rf,hr,hl,h1,h2=>by cases hr;exact ⟨⟨[],by simp,rfl⟩,h1,h2,fun j o h=>by simp at h⟩
 | o::rest,i,d,recs,df,rf,hr,hl,h1,h2=>by
  cases hr with
  | @cons _ _ _ _ _ r _ _ hdo hrun=>
   obtain ⟨⟨more,e1,e2⟩,g1,g2,g3⟩:=GE rest (i+1) _ _ _ _ hrun (by simp [hl])
    (by rw [List.append_assoc,zM,h1];simp [gm]) (by rw [cY,h2];simp [pK])
   refine ⟨⟨r::more,by rw [e1];simp,by simp [e2]⟩,g1,g2,fun j o' hj=>?_⟩
   cases j with
   | zero=>
    simp only [List.getElem?_cons_zero,Option.some.injEq] at hj;subst hj;have et:rf.take i=recs:=by rw [e1,List.append_assoc,List.take_append_of_le_length (by omega),List.take_of_length_le (by omega)]
    refine ⟨r,_,_,?_,hdo,?_,?_⟩
    ·rw [e1,Nat.add_zero,List.append_assoc,List.getElem?_append_right (by omega)];simp [hl]
    ·rw [Nat.add_zero,et];exact h1
    ·rw [Nat.add_zero,et];exact h2
   | succ j=>obtain ⟨r',tm,H,k1,k2,k3,k4⟩:=g3 j o' (by simpa using hj);rw [show i+1+j=i +(j+1) by omega] at k1 k2 k3 k4;exact ⟨r',tm,H,k1,k2,k3,k4⟩
theorem pO (acc:List Nat) (j:Nat) :∀ (es:List Edge),(rY acc es).testBit j=true->∃ e∈es,Region.binds .any e=true/\(j=e.on\/((acc[e.on]?).getD 0).testBit j=true)
 | [],h=>by simp [rY] at h
 | e::es,h=>by
  unfold rY at h;split at h
  ·rename_i hb;simp only [Nat.testBit_or,Bool.or_eq_true] at h;rcases h with (h|h)|h
   ·obtain ⟨e',h1,h2⟩:=pO acc j es h;exact ⟨e',List.mem_cons_of_mem _ h1,h2⟩
   ·have:j=e.on:=by rw [Nat.testBit_two_pow] at h;simpa using (of_decide_eq_true h).symm
    exact ⟨e,List.mem_cons_self,hb,.inl this⟩
   ·exact ⟨e,List.mem_cons_self,hb,.inr h⟩
  ·obtain ⟨e',h1,h2⟩:=pO acc j es h;exact ⟨e',List.mem_cons_of_mem _ h1,h2⟩
theorem qX :∀ (os:List Oper) (acc:List Nat),(∃ more,cM os acc=acc++more/\more.length=os.length)/\
  ∀ j o,os[j]?=some o->(cM os acc)[acc.length+j]?=some (rY ((cM os acc).take (acc.length+j)) o.after.toList)
 | [],acc=>⟨⟨[],by simp [cM],rfl⟩,fun j o h=>by simp at h⟩
 | o::os,acc=>by
  obtain ⟨⟨more,e1,e2⟩,h⟩:=qX os (acc++[rY acc o.after.toList]);unfold cM;refine ⟨⟨rY acc o.after.toList::more,by rw [e1];simp,by simp [e2]⟩,fun j o' hj=>?_⟩
  cases j with
  | zero=>simp only [List.getElem?_cons_zero,Option.some.injEq] at hj;subst hj;rw [e1,Nat.add_zero,List.append_assoc,List.getElem?_append_right (Nat.le_refl _),List.take_append_of_le_length (Nat.le_refl _),List.take_of_length_le (Nat.le_refl _)];simp
  | succ j=>
   have:=h j o' (by simpa using hj)
   rw [List.length_append,List.length_singleton,show acc.length+1+j=acc.length +(j+1) by omega] at this;exact this
theorem gX :∀ (os:List Oper) (i:Nat),dT i os=true->∀ j o,os[j]?=some o->∀ e∈o.after,Region.binds .any e=true->e.on<i+j
 | [],_,_,j,o,h,_,_,_=>by simp at h
 | o::os,i,h,j,o',hj,e,he,hb=>by
  simp only [dT,Bool.and_eq_true] at h
  cases j with
  | zero=>
   simp only [List.getElem?_cons_zero,Option.some.injEq] at hj;subst hj
   have:=List.all_eq_true.1 h.1 e (by simpa using he)
   rw [hb] at this;simp only [Bool.not_true,Bool.false_or,Nat.blt_eq] at this;omega
  | succ j=>
   have:=gX os (i+1) h.2 j o' (by simpa using hj) e he hb
   omega
theorem eC {all:List Oper} (hE:dT 0 all=true) {listed:Array Bool} (hclosed :∀ j oj,all[j]?=some oj->listed.getD j false=true->∀ e∈oj.after,Region.binds .any e=true->listed.getD e.on false=true) :
  ∀ (n i:Nat),i<=n->∀ oi,all[i]?=some oi->(∀ e∈oi.after,Region.binds .any e=true->listed.getD e.on false=true)->∀ j,(((cM all [])[i]?).getD 0).testBit j=true->listed.getD j false=true
 | 0,i,hn,oi,hoi,hdir,j,hj=>by
  have hm:=(qX all []).2 i oi hoi;simp only [List.length_nil,Nat.zero_add] at hm;rw [hm] at hj;obtain ⟨e,he,hb,h1⟩:=pO _ j _ hj
  have:=gX all 0 hE i oi hoi e (by simpa using he) hb
  omega
 | n+1,i,hn,oi,hoi,hdir,j,hj=>by
  have hm:=(qX all []).2 i oi hoi;simp only [List.length_nil,Nat.zero_add] at hm;rw [hm] at hj;obtain ⟨e,he,hb,h1⟩:=pO _ j _ hj;have he':e∈oi.after:=by simpa using he
  have hlt:=gX all 0 hE i oi hoi e he' hb;have hl:=hdir e he' hb;rcases h1 with rfl|h1
  ·exact hl
  ·have hilt:i<all.length:=(List.getElem?_eq_some_iff.1 hoi).1;have helt:e.on<all.length:=by omega
   have hoe:all[e.on]?=some all[e.on]:=List.getElem?_eq_getElem helt;rw [List.getElem?_take_of_lt (by omega)] at h1;exact eC hE hclosed n e.on (by omega) _ hoe (hclosed _ _ hoe hl) j h1
structure Comm (r s:Rec):Prop where
 d :∀ x,x∈r.dst.toList->x∈s.dst.toList->False
 ds :∀ x,x∈r.dst.toList->x∈s.rs->False
 sd :∀ x,x∈s.dst.toList->x∈r.rs->False
 k :∀ x,x∈r.dh.map (·.1)->x∈s.dh.map (·.1)->False
 kR :∀ x,x∈r.dh.map (·.1)->x∈s.R->False
 sk :∀ x,x∈s.dh.map (·.1)->x∈r.R->False
theorem Comm.symm {r s:Rec} (h:Comm r s):Comm s r:=⟨fun x a b=>h.d x b a,h.sd,h.ds,fun x a b=>h.k x b a,h.sk,h.kR⟩
theorem jR {l r:List Nat} (h:vh l r=true) :∀ x,x∈l->x∈r->False:=fun x hl hr=>by
 have:=List.all_eq_true.1 h x hl
 rw [bp.2 hr] at this;cases this
theorem K7 {r s:Rec} (h:comm r s=true):Comm r s:=by simp only [comm,Bool.and_eq_true] at h;exact ⟨jR h.1.1.1,jR h.1.1.2,jR h.1.2,jR h.2.1.1,jR h.2.1.2,jR h.2.2⟩
theorem uW {ms:List Nat} {i:Nat} {r:Rec} :∀ (rs:List Rec) (j:Nat),uh ms i r j rs=true->∀ k s,rs[k]?=some s->(((ms[j+k]?).getD 0).testBit i=true\/Comm r s)
 | [],_,_,k,s,h=>by simp at h
 | s::ss,j,h,k,s',hk=>by
  simp only [uh,Bool.and_eq_true,Bool.or_eq_true] at h
  cases k with
  | zero=>simp only [List.getElem?_cons_zero,Option.some.injEq] at hk;subst hk;exact h.1.imp id K7
  | succ k=>
   have:=uW ss (j+1) h.2 k s' (by simpa using hk)
   rwa [show j+1+k=j +(k+1) by omega] at this
theorem iZ {ms:List Nat} :∀ (rs:List Rec) (i:Nat),fV ms i rs=true->∀ a b r s,a<b->rs[a]?=some r->rs[b]?=some s->(((ms[i+b]?).getD 0).testBit (i+a)=true\/Comm r s)
 | [],_,_,a,b,r,s,_,h,_=>by simp at h
 | r0::rs,i,h,a,b,r,s,hab,ha,hb=>by
  simp only [fV,Bool.and_eq_true] at h
  cases b with
  | zero=>omega
  | succ b=>
   cases a with
   | zero=>
    simp only [List.getElem?_cons_zero,Option.some.injEq] at ha;subst ha
    have:=uW rs (i+1) h.1 b s (by simpa using hb)
    rwa [show i+1+b=i +(b+1) by omega] at this
   | succ a=>
    have:=iZ rs (i+1) h.2 a b r s (by omega) (by simpa using ha) (by simpa using hb)
    rwa [show i+1+b=i +(b+1) by omega,show i+1+a=i +(a+1) by omega] at this
end
section
open Go.RowKit
variable {P:Program}
section
variable {H1 H2:a6}
theorem CE {td:TD} {v:V} (h :∀ k∈v.hs,H1 k=H2 k):gY td H1 v=gY td H2 v:=by
 cases v with
 | ptr a o=>simp only [gY,oz,h a (by simp [V.hs])]
 | gp a v o=>simp only [gY,h a (by simp [V.hs])]
 | rp a v i o=>simp only [gY,oz,h a (by simp [V.hs])]
 | _=>rfl
theorem yL {tb:bG} {td:TD} {v i:V} (h :∀ k∈v.hs,H1 k=H2 k):fw tb td H1 v i=fw tb td H2 v i:=by
 cases v with
 | gsl a v e o l=>simp only [fw,h a (by simp [V.hs])]
 | osl a v=>simp only [fw,rL,h a (by simp [V.hs])]
 | _=>rfl
theorem yO {tb:bG} {td:TD} {v:V} {lo hi mx:Option V} (h :∀ k∈v.hs,H1 k=H2 k):gZ tb td H1 v lo hi mx=gZ tb td H2 v lo hi mx:=by
 cases v with
 | gsl a v e o l=>simp only [gZ,h a (by simp [V.hs])]
 | osl a v=>simp only [gZ,vC,Xa,h a (by simp [V.hs])]
 | _=>rfl
theorem ET {td:TD} {v:V} (h :∀ k∈v.hs,H1 k=H2 k):lC td H1 v=lC td H2 v:=by
 obtain ⟨kd,a1,a2,a3,a4⟩:=td
 cases v with
 | gsl a v e o l=>cases kd <;> first|rfl|simp only [lC,h a (by simp [V.hs])]
 | osl a v=>cases kd <;> first|rfl|simp only [lC,zH,h a (by simp [V.hs])]
 | _=>cases kd <;> rfl
theorem E8 {n:Nat} {v:V} (h :∀ k∈v.hs,H1 k=H2 k):lF H1 n v=lF H2 n v:=by
 cases v with
 | gsl a v e o l=>simp only [lF,h a (by simp [V.hs])]
 | fsl t xs=>cases xs <;> rfl
 | _=>rfl
theorem FD {t:Ty} {v:V} (h :∀ k∈v.hs,H1 k=H2 k):ub H1 t v=ub H2 t v:=by
 cases v with
 | osl a v=>simp only [ub,h a (by simp [V.hs])]
 | _=>rfl
theorem yH {tb:bG} {td:TD} {m:Nat} {s x:V} (h :∀ k∈s.hs,H1 k=H2 k) (h' :∀ k∈x.hs,H1 k=H2 k):lZ tb td H1 m s x=lZ tb td H2 m s x:=by
 unfold lZ;simp only [FD h']
 cases s with
 | osl a v=>simp only [h a (by simp [V.hs])]
 | _=>rfl
theorem wu {tb:bG} {td:TD} {m:Nat} {s x:V} (h :∀ k∈s.hs,H1 k=H2 k) (h' :∀ k∈x.hs,H1 k=H2 k):fN tb td H1 m s x=fN tb td H2 m s x:=by
 unfold fN;simp only [E8 h',yH h h']
 cases s with
 | gsl a v e o l=>simp only [h a (by simp [V.hs])]
 | _=>rfl
end
theorem EH {C:Cfg} {m:Nat} {H1 H2:a6} {ev:Operand->V} {op:Op} (hd:rH ev op=true) (h :∀ x∈op.operands.toList,∀ k∈(ev x).hs,H1 k=H2 k):bn C m H1 ev op=bn C m H2 ev op:=by
 cases op with
 | load t a=>
  have h1:=h a (by simp [Op.operands]);simp only [bn,du,c7,CE h1]
 | indexAddr t x i=>
  have h1:=h x (by simp [Op.operands]);simp only [bn,du,c7,yL h1]
 | slice t x lo hi mx=>
  have h1:=h x (by simp [Op.operands]);simp only [bn,du,c7,yO h1]
 | makeFunc fn first caps=>cases fn <;> rfl
 | store t a x=>
  have ha:=h a (by simp [Op.operands]);simp only [rH] at hd;generalize hva:ev a=va at hd ha
  cases va with
  | ptr k o=>
   have e1:=ha k (by simp [V.hs]);simp only [bn,du,c7,hva,hJ,eJ,rO,e1]
  | gp k v o=>
   have e1:=ha k (by simp [V.hs]);simp only [bn,du,c7,hva,hJ,eJ,e1]
  | _=>simp only [Bool.false_eq_true] at hd
 | call c=>
  simp only [rH] at hd;split at hd
  ·rename_i hc
   have key:c7 C.tb C.Γ m H1 ev (.call c)=c7 C.tb C.Γ m H2 ev (.call c):=by
    simp only [c7,hc];generalize hat:c.argTypes.toList=tl;generalize hx:c.args.toList=xl
    match tl,xl,hx with
    | [t],[x],hx=>
     have h1:=h x (by simp [Op.operands,Call.operands,hx]);simp only
     cases C.tb t with
     | none=>rfl
     | some td=>exact ET h1
    | [],_,_=>rfl
    | [_],[],_=>rfl
    | [_],_::_::_,_=>rfl
    | _::_::_,_,_=>rfl
   simp only [bn,du,key]
  ·rename_i hc
   have key:c7 C.tb C.Γ m H1 ev (.call c)=c7 C.tb C.Γ m H2 ev (.call c):=by
    simp only [c7,hc];generalize hat:c.argTypes.toList=tl;generalize hx:c.args.toList=xl
    match tl,xl,hx with
    | [t,t2],[s,x],hx=>
     have h1:=h s (by simp [Op.operands,Call.operands,hx]);have h2:=h x (by simp [Op.operands,Call.operands,hx]);simp only [wu h1 h2]
    | [],_,_=>rfl
    | [_],_,_=>rfl
    | [_,_],[],_=>rfl
    | [_,_],[_],_=>rfl
    | [_,_],_::_::_::_,_=>rfl
    | _::_::_::_,_,_=>rfl
   simp only [bn,du,key]
  ·cases hd
 | _=>first|rfl |(simp only [rH,Bool.false_eq_true] at hd)
theorem zE {C:Cfg} {m:Nat} {H1 H2:a6} {ev:Operand->V} {op:Op} (hd:rH ev op=true) (h :∀ k∈WK ev op,H1 k=H2 k):bn C m H1 ev op=bn C m H2 ev op:=by
 have key :(∀ k∈op.operands.toList.flatMap (fun x=>(ev x).hs),H1 k=H2 k)->bn C m H1 ev op=bn C m H2 ev op:=fun h=>EH hd fun x hx k hk=>h k (List.mem_flatMap.2 ⟨x,hx,hk⟩)
 cases op with
 | move a=>rfl
 | assign a=>rfl
 | nilCheck a=>rfl
 | fieldAddr t a i=>rfl
 | _=>exact key h
theorem Ext.cg (E:Env) (R:List Nat):Ext E { E with H:=aa.cg E.H R }:=by
 have get :∀ h k,aa.cg E.H R h=some k->E.H h=some k:=fun h k hh=>by
  unfold aa.cg at hh
  cases hm:aX R h with
  | false=>rw [hm] at hh;cases hh
  | true=>rw [hm] at hh;exact hh
 exact ⟨fun _ h=>h,fun _ h=>h,fun _ _=>rfl,fun h cs _ hx=>⟨⟨cs,get _ _ hx⟩,rfl⟩,fun h ver rw t xs _ _ hx=>⟨rw,xs,get _ _ hx,rfl,rfl,fun b c T fr _ hw=>⟨c,T,fr,hw,rfl⟩⟩,fun h ver esz cs _ _ hx=>⟨cs,get _ _ hx,rfl,rfl,fun b c T fr _ hw=>⟨c,T,fr,hw,rfl⟩⟩,fun h es _ hx=>⟨⟨es,get _ _ hx⟩,rfl⟩,fun h k t x _ hx=>⟨⟨x,get _ _ hx⟩,rfl⟩⟩
theorem gj {α:Type} {l:List (Nat×α)} {k:Nat} (h:find l k≠none):k∈l.map (·.1):=by
 induction l with
 | nil=>simp [find] at h
 | cons x l ih=>
  obtain ⟨a,v⟩:=x;simp only [find] at h
  cases hb:Nat.beq a k with
  | true=>simp [Nat.eq_of_beq_eq_true hb]
  | false=>rw [hb] at h;simp only [cond_false] at h;simp only [List.map_cons,List.mem_cons];exact .inr (ih h)
theorem aB {α:Type} {l:List (Nat×α)} {k:Nat} {v:α} (h:find l k=some v) :(k,v)∈l:=by
 induction l with
 | nil=>simp [find] at h
 | cons q l ih=>
  obtain ⟨a,b⟩:=q;simp only [find] at h
  cases hb:Nat.beq a k with
  | true=>rw [hb] at h;simp only [cond_true,Option.some.injEq] at h;simp [Nat.eq_of_beq_eq_true hb,h]
  | false=>rw [hb] at h;simp only [cond_false] at h;exact List.mem_cons_of_mem _ (ih h)
theorem mH {r:Rec} {k:Nat} (h:find (gm r) k≠none):k∈r.dst.toList:=by
 unfold gm at h
 cases hd:r.dst with
 | none=>rw [hd] at h;simp [dw,find] at h
 | some d=>
  rw [hd] at h
  have:=gj h
  simpa [dw] using this
theorem gM {R:List Nat} {m K:Nat} {l:List Nat} (h:qa R m K l=true) :∀ x∈l,x∈R\/(m<=x/\x<m+K):=fun x hx=>by
 have:=List.all_eq_true.1 h x hx
 simp only [Bool.or_eq_true,Bool.and_eq_true,bp,Nat.blt_eq] at this;exact this.imp id fun h=>⟨Nat.le_of_ble_eq_true h.1,h.2⟩
theorem dt {E:Env} {all:List Oper} {tm:List (Nat×V)} {a:Act} {o:Oper} {b:Bool} (hT :∀ s∈aV all o,ae E (dL tm s) (a.tmps.getD s undef)) (h:hO all tm o=some b) :
  Region.wanted o (yielded all.toArray a.tmps)=b:=by
 refine oJ (E:=E) (T:=fun s=>bif aX (aV all o) s then dL tm s else .any) (fun s=>?_) ?_
 ·cases hm:aX (aV all o) s with
  | true=>simpa using hT s (bp.1 hm)
  | false=>simp [ae]
 ·unfold hO at h
  cases hg:o.guard with
  | none=>rw [hg] at h;exact h
  | some q=>
   obtain ⟨j,want⟩:=q;rw [hg] at h;simp only at h ⊢
   cases hj:all[j]? with
   | none=>rw [hj] at h;exact h
   | some oj=>
    rw [hj] at h;simp only at h ⊢
    cases hd:oj.dst with
    | none=>rw [hd] at h;exact h
    | some dj=>
     rw [hd] at h
     have hm:aX (aV all o) dj=true:=by rw [bp];unfold aV;rw [hg];simp [hj,hd]
     simp only [hm,cond_true];exact h
structure Inv (C:Cfg) (B:aK) (E0:Env) (st:St) (rf:List Rec) (L:Nat->Bool) (a:Act) (w:World):Prop where
 ex :∃ E,aM B E/\E.w=w/\Ext E0 E/\E.H=cG L st.H 0 (rf.map Rec.dh)/\(∀ n,E.U n->E0.U n\/∃ i,i<rf.length/\L i=true/\st.nx+i*C.K<=n/\n<st.nx+i*C.K+C.K)/\gC E (cG L (find st.tm) 0 (rf.map gm)) a
 size:a.tmps.size=C.N
 defers:a.defers=B.dfs
theorem Om {C:Cfg} (hC:CfgOK P C) {B:aK} {E0:Env} {all:List Oper} {st:St} {rf:List Rec} (hfr0 :∀ n,st.nx<=n->n<st.nx+rf.length*C.K->¬ E0.U n) {L L':Nat->Bool} {i:Nat} {o:Oper} {r:Rec} (ho:all[i]?=some o) (hr:rf[i]?=some r) (hLi:L i=false) (hL' :∀ j,L' j=if j=i then true else L j)
  {tm:List (Nat×V)} {H:a6} (hdo:yA C true all tm H (st.nx+i*C.K) o r) (htm:find tm=cG (fun j=>Nat.blt j i) (find st.tm) 0 (rf.map gm)) (hH:H=cG (fun j=>Nat.blt j i) st.H 0 (rf.map Rec.dh))
  (hcomm :∀ j s,rf[j]?=some s->(j<i/\L j=false)\/(i<j/\L j=true)->Comm r s) {Q:Exit->Act->World->Prop} {a:Act} {w:World} (hI:Inv C B E0 st rf L a w) {K:Act->World->Prop} (hK :∀ a w,Inv C B E0 st rf L' a w->K a w) :
  wpOp P all.toArray Q i K a w:=by
 obtain ⟨⟨E,hE,rfl,hX,hEH,hU,hT⟩,hsz,hdf⟩:=hI;obtain ⟨hd,he,hrs⟩:=hdo.dW;have hiL:i<rf.length:=(List.getElem?_eq_some_iff.1 hr).1
 have hLsel :∀ {α:Type} (us:List (List (Nat×α))) (f:Nat->Option α) (k:Nat) (g:Rec->List (Nat×α)),us=rf.map g->(∀ j s,rf[j]?=some s->find (g s) k≠none->j≠i->Comm r s->False)->cG L f 0 us k=cG (fun j=>Nat.blt j i) f 0 us k:=by
  intro α us f k g hus hno;refine iJ us 0 f f rfl (fun j u hj hu=>?_);rw [Nat.zero_add];subst hus;rw [List.getElem?_map] at hj
  cases hs:rf[j]? with
  | none=>rw [hs] at hj;simp at hj
  | some s=>
   rw [hs] at hj;simp only [Option.map_some,Option.some.injEq] at hj;subst hj;by_cases hji:j=i
   ·subst hji;rw [hLi]
    cases hb:Nat.blt j j with
    | false=>rfl
    | true=>rw [Nat.blt_eq] at hb;omega
   ·rcases Nat.lt_or_gt_of_ne hji with hlt|hgt
    ·have hb:Nat.blt j i=true:=by rw [Nat.blt_eq];exact hlt
     rw [hb]
     cases hLj:L j with
     | true=>rfl
     | false=>exact (hno j s hs hu hji (hcomm j s hs (.inl ⟨hlt,hLj⟩))).elim
    ·have hb:Nat.blt j i=false:=by cases hb:Nat.blt j i with|false=>rfl|true=>rw [Nat.blt_eq] at hb;omega
     rw [hb]
     cases hLj:L j with
     | false=>rfl
     | true=>exact (hno j s hs hu hji (hcomm j s hs (.inr ⟨hgt,hLj⟩))).elim
 have hslot :∀ s∈aV all o,cG L (find st.tm) 0 (rf.map gm) s=find tm s:=fun s hs=>by rw [htm];refine hLsel _ _ s gm rfl (fun j s' hs' hne hji hc=>?_);exact hc.sd s (mH hne) (by rw [hrs];exact hs)
 have hlook :∀ s∈aV all o,ae E (dL tm s) (a.tmps.getD s undef):=fun s hs=>by
  unfold dL
  cases hf:find tm s with
  | none=>simp [ae]
  | some v=>exact hT s v (by rw [hslot s hs];exact hf)
 have hL0 :∀ {α:Type} (us:List (List (Nat×α))) (f:Nat->Option α) (g:Rec->List (Nat×α)),us=rf.map g->(∀ j s,i<j->rf[j]?=some s->Comm r s->∀ k,find (g r) k≠none->find (g s) k=none)->cG L' f 0 us=fb (cG L f 0 us) (g r):=by
  intro α us f g hus hno;subst hus;refine GT (rf.map g) f i (g r) (by rw [List.getElem?_map,hr];rfl) hL' (fun j u hj hu hLj k hk=>?_);rw [List.getElem?_map] at hu
  cases hs:rf[j]? with
  | none=>rw [hs] at hu;simp at hu
  | some s=>rw [hs] at hu;simp only [Option.map_some,Option.some.injEq] at hu;subst hu;exact hno j s hj hs (hcomm j s hs (.inr ⟨hj,hLj⟩)) k hk
 have none_of :∀ {α:Type} {l:List (Nat×α)} {k:Nat},(k∈l.map (·.1)->False)->find l k=none:=fun {α l k} h=>by
  cases hf:find l k with
  | none=>rfl
  | some v=>exact (h (gj (by rw [hf];simp))).elim
 have hT':cG L' (find st.tm) 0 (rf.map gm)=fb (cG L (find st.tm) 0 (rf.map gm)) (gm r):=hL0 _ _ gm rfl (fun j s _ _ hc k hk=>by
  cases hf:find (gm s) k with
  | none=>rfl
  | some v=>exact (hc.d k (mH hk) (mH (by rw [hf];simp))).elim)
 have hH':cG L' st.H 0 (rf.map Rec.dh)=fb (cG L st.H 0 (rf.map Rec.dh)) r.dh:=hL0 _ _ Rec.dh rfl (fun j s _ _ hc k hk=>none_of fun hm=>hc.k k (gj hk) hm)
 have after :∀ (E':Env) (v':Value),GoodK B E (st.nx+i*C.K) C.K r.dh E'.w E'->ae E' r.v v'->Inv C B E0 st rf L' (a.put o.dst v') E'.w:=fun E' v' G hv=>by
  refine ⟨⟨E',G.rel,rfl,hX.trans G.ext,by rw [G.h,hH',hEH,pK],fun n hn=>?_,?_⟩,by rw [oZ];exact hsz,by rw [ky];exact hdf⟩
  ·rcases G.u n hn with h|h
   ·rcases hU n h with h1 |⟨j,h1,h2,h3⟩
    ·exact .inl h1
    ·refine .inr ⟨j,h1,?_,h3⟩;rw [hL'];split
     ·rfl
     ·exact h2
   ·exact .inr ⟨i,hiL,by rw [hL',if_pos rfl],h.1,h.2⟩
  ·rw [hT']
   exact Dr G.ext hT hsz hd (v:=r.v) hv (fun s u hu=>by
    unfold fb gm at hu;rw [he] at hu
    cases hf:find (dw o.dst r.v) s with
    | some x=>rw [hf] at hu;exact .inl hu
    | none=>rw [hf] at hu;exact .inr ⟨rfl,hu⟩)
 unfold wpOp;simp only [List.getElem?_toArray,ho]
 cases hdo with
 | skip _ hg=>rw [dt hlook hg];simp only [Bool.false_eq_true,if_false];exact hK _ _ (after E undef ⟨hE,Ext.refl E,rfl,rfl,fun n h=> .inl h⟩ (by simp [ae,undef,ai]))
 | @dir ps v v' dh _ _ hg hdr hev hps hv=>
  rw [dt hlook hg];simp only [if_true]
  left
  have hfresh :∀ n,st.nx+i*C.K<=n->n<st.nx+i*C.K+C.K->¬ E.U n:=fun n h1 h2 hu=>by
   have hiK:=Nat.mul_le_mul_right C.K (show i+1<=rf.length from hiL);rw [Nat.add_mul] at hiK;rcases hU n hu with h3 |⟨j,h3,h4,h5,h6⟩
   ·exact hfr0 n (by omega) (by omega) h3
   ·have hji:j≠i:=fun e=>by subst e;rw [hLi] at h4;cases h4
    rcases Nat.lt_or_gt_of_ne hji with hlt|hgt
    ·have:=Nat.mul_le_mul_right C.K (show j+1<=i from hlt)
     rw [Nat.add_mul] at this;omega
    ·have:=Nat.mul_le_mul_right C.K (show i+1<=j from hgt)
     rw [Nat.add_mul] at this;omega
  have hev2:=zE (C:=C) (m:=st.nx+i*C.K) (H1:=E.H) (H2:=H) hdr fun k hk=>by rw [hEH,hH];refine hLsel _ _ k Rec.dh rfl (fun j s hs hne hji hc=>?_);exact hc.sk k (gj hne) hk
  rw [hev] at hev2
  have hevm :∀ x,ae E (bV (aV all o) tm x) (a.eval x):=fun x=>by
   cases x with
   | tmp t=>
    simp only [bV]
    cases hm:aX (aV all o) t with
    | false=>simp [ae]
    | true=>exact hlook t (bp.1 hm)
   | const v=>exact ja v
   | func f=>simp only [bV,ae,Act.eval];exact ⟨#[],rfl,by simp [ai]⟩
   | _=>simp [bV,ae]
  exact fv hE hC.tb hC.K hC.Γ hfresh hevm hev2 hps fun v'' E' G hv'=>hK _ _ (after E' _ G (MS hv hv'))
 | @run ps v v' dh R _ hg hst hps hv=>
  rw [dt hlook hg];simp only [if_true]
  left
  simp only [py] at hst;split at hst
  case h_2=>cases hst
  rename_i ps' v2 dh' hev
  cases hfr:jK H (qu H 8 (o.op.operands.toList.flatMap fun x=>(bV (aV all o) tm x).hs) []) (st.nx+i*C.K) C.K v2 dh' with
  | false=>rw [hfr] at hst;cases hst
  | true=>
   rw [hfr] at hst;simp only [cond_true,Option.some.injEq,Prod.mk.injEq] at hst;obtain ⟨rfl,rfl,rfl,hR⟩:=hst;rw [hR] at hfr hev
   have hHR :∀ h∈R,E.H h=H h:=fun h hh=>by rw [hEH,hH];refine hLsel _ _ h Rec.dh rfl (fun j s hs hne hji hc=>?_);exact hc.sk h (gj hne) hh
   have hrest:cg H R=cg E.H R:=by
    funext h;unfold cg
    cases hm:aX R h with
    | false=>rfl
    | true=>simp only [cond_true];exact (hHR h (bp.1 hm)).symm
   simp only [jK,Bool.and_eq_true] at hfr;obtain ⟨⟨f1,f2⟩,f3⟩:=hfr
   have fR :∀ h∈R,∃ b,H h=some b/\qa R (st.nx+i*C.K) C.K b.hs=true:=fun h hh=>by
    have:=List.all_eq_true.1 f1 h hh
    split at this
    ·rename_i b hb;exact ⟨b,hb,this⟩
    ·cases this
   have hfresh :∀ n,st.nx+i*C.K<=n->n<st.nx+i*C.K+C.K->¬ E.U n:=fun n h1 h2 hu=>by
    have hiK:=Nat.mul_le_mul_right C.K (show i+1<=rf.length from hiL);rw [Nat.add_mul] at hiK;rcases hU n hu with h3 |⟨j,h3,h4,h5,h6⟩
    ·exact hfr0 n (by omega) (by omega) h3
    ·have hji:j≠i:=fun e=>by subst e;rw [hLi] at h4;cases h4
     rcases Nat.lt_or_gt_of_ne hji with hlt|hgt
     ·have:=Nat.mul_le_mul_right C.K (show j+1<=i from hlt)
      rw [Nat.add_mul] at this;omega
     ·have:=Nat.mul_le_mul_right C.K (show i+1<=j from hgt)
      rw [Nat.add_mul] at this;omega
   have hEs:=hE.cg R;have Xs:=Ext.cg E R;rw [hrest] at hev
   have hevm :∀ x,ae { E with H:=aa.cg E.H R } (bV (aV all o) tm x) (a.eval x):=fun x=>by
    cases x with
    | tmp t=>
     simp only [bV]
     cases hm:aX (aV all o) t with
     | false=>simp [ae]
     | true=>exact ca Xs _ _ (hlook t (bp.1 hm))
    | const v=>exact ja v
    | func f=>simp only [bV,ae,Act.eval];exact ⟨#[],rfl,by simp [ai]⟩
    | _=>simp [bV,ae]
   exact fv (E:={ E with H:=aa.cg E.H R }) hEs hC.tb hC.K hC.Γ hfresh hevm hev hps fun v'' Es G hv'=>by
    obtain ⟨E',G',tr⟩:=Uy hE hfresh G (fun h hh=>by obtain ⟨b,hb,_⟩:=fR h hh;exact ⟨b,by rw [hHR h hh];exact hb⟩)
     (fun h hh k hk x hx=>by
      obtain ⟨b,hb,hb2⟩:=fR h hh;rw [hHR h hh,hb] at hk;cases hk
      exact gM hb2 x hx)
     (fun h k hk=>by
      have hq:=aB hk
      have:=List.all_eq_true.1 f2 _ hq
      simp only [Bool.and_eq_true] at this
      exact ⟨gM this.1 h (by simp),gM this.2⟩)
    have hw:E'.w=Es.w:=G'.w;have hv2:ae E' v2 v'':=tr _ _ (gM f3) hv'
    have:=hK _ _ (after E' _ (by rw [hw];exact G') (MS hv hv2))
    rw [hw] at this;exact this
def unl (n:Nat) (listed:Array Bool):Nat:=((List.range n).filter fun i=>!listed.getD i true).length
theorem qS {p q:Nat->Bool} {i:Nat} (hp:p i=true) (hq:q i=false) (hs :∀ j,j≠i->q j=p j) :∀ (l:List Nat),l.Nodup->i∈l->(l.filter q).length+1 =(l.filter p).length
 | [],_,h=>by simp at h
 | x::l,hn,hm=>by
  have hn':=List.nodup_cons.1 hn;by_cases e:x=i
  ·subst e
   have:l.filter q=l.filter p:=List.filter_congr fun y hy=>hs y (fun e=>by subst e;exact hn'.1 hy)
   simp [hp,hq,this]
  ·have hm':i∈l:=by
    rcases List.mem_cons.1 hm with h|h
    ·exact absurd h.symm e
    ·exact h
   have ih:=qS hp hq hs l hn'.2 hm';simp only [List.filter_cons,hs x e];split
   ·simp [ih]
   ·exact ih
theorem NK {C:Cfg} (hC:CfgOK P C) {B:aK} {E0:Env} {all:List Oper} {st:St} {df:Dl} {rf:List Rec} (hrun:Run C true all st 0 all ⟨[],[]⟩ [] df rf) (hE:dT 0 all=true) (hck:fV (cM all []) 0 rf=true) {Q:Exit->Act->World->Prop}
  (hfr0 :∀ n,st.nx<=n->n<st.nx+all.length*C.K->¬ E0.U n)
  (hQ :∀ E a,aM B E->Ext E0 E->E.H=aQ st.H df.hp->(∀ n,E.U n->E0.U n\/(st.nx<=n/\n<st.nx+all.length*C.K))->gC E (find (df.tm++st.tm)) a->a.tmps.size=C.N->a.defers=B.dfs->Q .normal a E.w) :
  ∀ (fuel:Nat) (listed:Array Bool) (a:Act) (w:World),listed.size=all.length->unl all.length listed=fuel->
   (∀ j oj,all[j]?=some oj->listed.getD j false=true->∀ e∈oj.after,Region.binds .any e=true->listed.getD e.on false=true)->
   Inv C B E0 st rf (fun i=>listed.getD i false) a w->wpAny P .any all.toArray Q fuel listed a w:=by
 obtain ⟨⟨more,e1,e2⟩,g1,g2,g3⟩:=GE all 0 ⟨[],[]⟩ [] df rf hrun rfl rfl rfl;have hlen:rf.length=all.length:=by rw [e1];simpa using e2
 have full :∀ (listed:Array Bool),listed.size=all.length->Region.ready .any all.toArray listed=[]->∀ i,i<all.length->listed.getD i false=true:=by
  intro listed hsz hrd i
  induction i using Nat.strongRecOn with
  | _ i ih=>
   intro hi
   cases hb:listed.getD i false with
   | true=>rfl
   | false=>
    have hun:listed.getD i true=false:=by
     have:i<listed.size:=by omega
     simp [this] at hb ⊢;exact hb
    have hoi:all[i]?=some all[i]:=List.getElem?_eq_getElem hi
    have:i∈Region.ready .any all.toArray listed:=mem_ready.2 ⟨hun,all[i],by simp,fun e he hbd=>by
     have:=gX all 0 hE i _ hoi e he hbd
     exact ih e.on (by omega) (by omega)⟩
    rw [hrd] at this;cases this
 have close :∀ (listed:Array Bool) (a:Act) (w:World),listed.size=all.length->(∀ i,i<all.length->listed.getD i false=true)->Inv C B E0 st rf (fun i=>listed.getD i false) a w->Q .normal a w:=by
  intro listed a w hsz hall hI;obtain ⟨⟨E,hE',rfl,hX,hEH,hU,hT⟩,hs,hd⟩:=hI
  have hsel :∀ {α:Type} (us:List (List (Nat×α))) (f:Nat->Option α),us.length=all.length->cG (fun i=>listed.getD i false) f 0 us=us.foldl fb f:=fun us f hl=>by have h1:=nB us f 0 us.length;rw [List.take_of_length_le (Nat.le_refl _)] at h1;rw [<-h1];funext k;refine iJ us 0 f f rfl (fun j u hj _=>?_);have hjl:j<us.length:=(List.getElem?_eq_some_iff.1 hj).1;rw [Nat.zero_add,hall j (by omega)];exact (by rw [Nat.blt_eq];omega:Nat.blt j (0+us.length)=true).symm
  refine hQ E a hE' hX ?_ (fun n hn=>?_) (fun s v hv=>?_) hs hd
  ·rw [hEH,hsel _ _ (by simp [hlen]),g2]
  ·rcases hU n hn with h |⟨i,h1,_,h3,h4⟩
   ·exact .inl h
   ·have:=Nat.mul_le_mul_right C.K (show i+1<=all.length by omega)
    rw [Nat.add_mul] at this;exact .inr ⟨by omega,by omega⟩
  ·refine hT s v ?_;rw [hsel _ _ (by simp [hlen]),<-g1];exact hv
 intro fuel
 induction fuel with
 | zero=>
  intro listed a w hsz hun _ hI
  have hall :∀ i,i<all.length->listed.getD i false=true:=fun i hi=>by
   have h0 :(List.range all.length).filter (fun i=>!listed.getD i true)=[]:=List.eq_nil_of_length_eq_zero hun
   have:=List.filter_eq_nil_iff.1 h0 i (List.mem_range.2 hi)
   have hi':i<listed.size:=by omega
   simp [hi'] at this ⊢;exact this
  refine ⟨?_,close listed a w hsz hall hI⟩
  cases hr:Region.ready .any all.toArray listed with
  | nil=>rfl
  | cons i l=>
   have hm:i∈Region.ready .any all.toArray listed:=by rw [hr];exact List.mem_cons_self
   obtain ⟨h1,o,h2,_⟩:=mem_ready.1 hm
   have hi:i<all.length:=by
    have:=(Array.getElem?_eq_some_iff.1 h2).1
    simpa using this
   have h3:=hall i hi;have hi':i<listed.size:=by omega
   simp [hi'] at h1 h3;rw [h1] at h3;cases h3
 | succ fuel ih=>
  intro listed a w hsz hun hclosed hI;refine ⟨fun hr=>close listed a w hsz (full listed hsz hr) hI,fun i hi=>?_⟩;obtain ⟨h1,o,h2,hdir⟩:=mem_ready.1 hi;have ho:all[i]?=some o:=by simpa using h2
  have hil:i<all.length:=(List.getElem?_eq_some_iff.1 ho).1;have his:i<listed.size:=by omega
  have hLi:listed.getD i false=false:=by simp [his] at h1 ⊢;exact h1
  obtain ⟨r,tm,H,k1,k2,k3,k4⟩:=g3 i o ho;simp only [Nat.zero_add] at k1 k2 k3 k4
  have hget :∀ j,(listed.setIfInBounds i true).getD j false=if j=i then true else listed.getD j false:=fun j=>by
   by_cases e:j=i
   ·subst e;simp [his]
   ·simp [e,Array.getElem?_setIfInBounds_ne (Ne.symm e),Array.getD_eq_getD_getElem?]
  have hgetT :∀ j,j≠i->(listed.setIfInBounds i true).getD j true=listed.getD j true:=fun j e=>by simp [Array.getElem?_setIfInBounds_ne (Ne.symm e),Array.getD_eq_getD_getElem?]
  refine Om hC (E0:=E0) (by rw [hlen];exact hfr0) (L:=fun i=>listed.getD i false) (L':=fun j=>(listed.setIfInBounds i true).getD j false) ho k1 hLi hget k2 ?_ ?_ (fun j s hs hor=>?_) hI (fun a w hI'=>ih _ a w (by simpa using hsz) ?_ ?_ hI')
  ·rw [k3]
   have:=nB (rf.map gm) (find st.tm) 0 i
   rw [<-List.map_take,] at this;simpa using this.symm
  ·rw [k4]
   have:=nB (rf.map Rec.dh) st.H 0 i
   rw [<-List.map_take] at this;simpa using this.symm
  ·rcases hor with ⟨hlt,hLj⟩ |⟨hgt,hLj⟩
   ·rcases iZ rf 0 hck j i s r hlt hs k1 with h|h
    ·simp only [Nat.zero_add] at h
     have:=eC hE hclosed i i (Nat.le_refl _) o ho hdir j h
     rw [this] at hLj;cases hLj
    ·exact h.symm
   ·rcases iZ rf 0 hck i j r s hgt k1 hs with h|h
    ·simp only [Nat.zero_add] at h;have hjl:j<all.length:=by rw [<-hlen];exact (List.getElem?_eq_some_iff.1 hs).1
     have hoj:all[j]?=some all[j]:=List.getElem?_eq_getElem hjl
     have:=eC hE hclosed j j (Nat.le_refl _) _ hoj (hclosed j _ hoj hLj) i h
     rw [this] at hLi;cases hLi
    ·exact h
  ·have:=qS (p:=fun j=>!listed.getD j true) (q:=fun j=>!(listed.setIfInBounds i true).getD j true) (i:=i) (by simp [h1]) (by simp [his]) (fun j e=>by simp [hgetT j e]) (List.range all.length) List.nodup_range (List.mem_range.2 hil)
   unfold unl at hun ⊢;omega
  ·intro j oj hj hlj e he hb;rw [hget] at hlj ⊢;by_cases e1:e.on=i
   ·rw [if_pos e1]
   ·rw [if_neg e1];by_cases e2:j=i
    ·subst e2;rw [ho] at hj;cases hj;exact hdir e he hb
    ·rw [if_neg e2] at hlj;exact hclosed j oj hj hlj e he hb
theorem Lm {C:Cfg} (hC:CfgOK P C) {B:aK} {all:List Oper} {st:St} {df:Dl} {rf:List Rec} (hrun:Run C true all st 0 all ⟨[],[]⟩ [] df rf) (hE:dT 0 all=true) (hck:fV (cM all []) 0 rf=true) {Q:Exit->Act->World->Prop}
  {E:Env} (hE':aM B E) (hH:E.H=st.H) {a:Act} (hT:gC E (find st.tm) a) (hsz:a.tmps.size=C.N) (hdf:a.defers=B.dfs)
  (hfr0 :∀ n,st.nx<=n->n<st.nx+all.length*C.K->¬ E.U n)
  (hQ :∀ E' a,aM B E'->Ext E E'->E'.H=aQ st.H df.hp->(∀ n,E'.U n->E.U n\/(st.nx<=n/\n<st.nx+all.length*C.K))->gC E' (find (df.tm++st.tm)) a->a.tmps.size=C.N->a.defers=B.dfs->Q .normal a E'.w) :
  wpAny P .any all.toArray Q all.toArray.size (Array.replicate all.toArray.size false) a { E.w with drawn:=E.w.drawn+1 }:=by
 obtain ⟨R,X⟩:=BH hE' { E.w with drawn:=E.w.drawn+1 } rfl rfl rfl rfl
 have hfalse :∀ i,(Array.replicate all.toArray.size false).getD i false=false:=fun i=>by
  rcases Nat.lt_or_ge i all.length with h|h
  ·simp [h]
  ·simp [h]
 have hno :∀ {α:Type} (us:List (List (Nat×α))) (f:Nat->Option α) (i:Nat),cG (fun i=>(Array.replicate all.toArray.size false).getD i false) f i us=f:=by
  intro α us
  induction us with
  | nil=>intro f i;rfl
  | cons u us ih=>intro f i;unfold cG;rw [hfalse];simp only [Bool.false_eq_true,if_false];exact ih f _
 refine NK hC (E0:={ E with w:={ E.w with drawn:=E.w.drawn+1 } }) hrun hE hck hfr0 (fun E1 a1 r1 x1 h1 u1 t1 s1 d1=>hQ E1 a1 r1 (X.trans x1) h1 u1 t1 s1 d1) _ _ a _ (by simp) ?_ (fun j oj hj hl=>by rw [hfalse] at hl;cases hl) ⟨⟨_,R,rfl,Ext.refl _,?_,fun n hn=> .inl hn,fun s v hv=>?_⟩,hsz,hdf⟩
 ·unfold unl
  have :(List.range all.length).filter (fun i=>!(Array.replicate all.toArray.size false).getD i true)=List.range all.length:=List.filter_eq_self.2 fun i hi=>by
   have:=List.mem_range.1 hi
   simp [this]
  rw [this];simp
 ·rw [hno _ _ _];exact hH
 ·rw [hno] at hv;exact ca X _ _ (hT s v hv)
theorem EI {C:Cfg} (hC:CfgOK P C) {B:aK} {all:List Oper} {st:St} {df:Dl} {rf:List Rec} (hrun:Run C true all st 0 all ⟨[],[]⟩ [] df rf) (hE:dT 0 all=true) (hck:fV (cM all []) 0 rf=true) {Q:Exit->Act->World->Prop}
  (hQ :∀ a w,nZ B C.N (find (df.tm++st.tm)) (aQ st.H df.hp) (fun n=>n<st.nx+all.length*C.K) a w->Q .normal a w) {a:Act} {w:World} (hs:nZ B C.N (find st.tm) st.H (fun n=>n<st.nx) a w) :
  wpAny P .any all.toArray Q all.toArray.size (Array.replicate all.toArray.size false) a { w with drawn:=w.drawn+1 }:=by
 obtain ⟨⟨E,hE',rfl,hH,⟨hG,hU⟩,hT⟩,hsz,hdf⟩:=hs;refine Lm hC hrun hE hck hE' hH hT hsz hdf (fun n h1 _ hu=>?_) (fun E1 a1 r1 x1 h1 u1 t1 s1 d1=>hQ _ _ ⟨⟨E1,r1,rfl,h1,⟨B.clo _ _ hG x1,fun n hn=>?_⟩,t1⟩,s1,d1⟩)
 ·have:=hU n hu;omega
 ·rcases u1 n hn with h|h
  ·have:=hU n h;omega
  ·exact h.2
theorem wg {C:Cfg} (hC:CfgOK P C) (hP:P.follows .mixedOrders=true) {B:aK} {all:List Oper} {st:St} {df:Dl} {rf:List Rec} (hrun:Run C true all st 0 all ⟨[],[]⟩ [] df rf) (hE:dT 0 all=true) (hck:fV (cM all []) 0 rf=true) {Q:Exit->Act->World->Prop}
  (hQ :∀ a w,nZ B C.N (find (df.tm++st.tm)) (aQ st.H df.hp) (fun n=>n<st.nx+all.length*C.K) a w->Q .normal a w) {a:Act} {w:World} (hs:nZ B C.N (find st.tm) st.H (fun n=>n<st.nx) a w) (id:Nat) :
  (Code.region id all.toArray true).wp P Q a w:=
 wp_region_any hP (EI hC hrun hE hck hQ hs)
end
section
open Go.RowKit
variable {P:Program}
def Tr.pre (d:Dl):Tr->Tr
 | .leaf e d' nx=> .leaf e ⟨d'.tm++d.tm,d'.hp++d.hp⟩ nx
 | .br b t e=> .br b (t.pre d) (e.pre d)
 | .need p t=> .need p (t.pre d)
 | .both t u=> .both (t.pre d) (u.pre d)
 | .when b t=> .when b (t.pre d)
 | .done=> .done
 | .bad=> .bad
def Tr.qk (k:Dl->Nat->Tr):Tr->Tr
 | .leaf .nrm d nx=>(k d nx).pre d
 | .leaf e d nx=> .leaf e d nx
 | .br b t e=> .br b (t.qk k) (e.qk k)
 | .need p t=> .need p (t.qk k)
 | .both t u=> .both (t.qk k) (u.qk k)
 | .when b t=> .when b (t.qk k)
 | .done=> .done
 | .bad=> .bad
def Tr.nN:Tr->Nat
 | .leaf .nrm _ _=>1
 | .leaf _ _ _=>0
 | .br _ t e=>t.nN+e.nN
 | .need _ t=>t.nN
 | .both t u=>t.nN+u.nN
 | .when _ t=>t.nN
 | .done | .bad=>0
def Tr.cut:Tr->Tr
 | .leaf .nrm _ _=> .done
 | .leaf e d nx=> .leaf e d nx
 | .br b t e=> .br b t.cut e.cut
 | .need p t=> .need p t.cut
 | .both t u=> .both t.cut u.cut
 | .when b t=> .when b t.cut
 | .done=> .done
 | .bad=> .bad
def Tr.clean:Tr->Bool
 | .leaf .nrm _ _=>true
 | .br _ t e=>t.clean&&e.clean
 | _=>false
inductive KB where
 | yes|no|is (b:Bool)
def KB.val:KB->Bool
 | .yes=>true
 | .no=>false
 | .is b=>b
def KB.ite (b:Bool):KB->KB->KB
 | .yes,.yes=> .yes
 | .no,.no=> .no
 | .yes,.no=> .is b
 | .no,.yes=> .is (!b)
 | x,y=> .is (cond b x.val y.val)
def KB.or:KB->KB->KB
 | .yes,_=> .yes
 | _,.yes=> .yes
 | .no,y=>y
 | x,.no=>x
 | x,y=> .is (x.val||y.val)
def KB.and (b:Bool):KB->KB
 | .yes=> .is b
 | .no=> .no
 | .is c=> .is (b&&c)
def Tr.Oo:Tr->KB
 | .leaf .nrm _ _=> .yes
 | .leaf _ _ _=> .no
 | .br b t e=>KB.ite b t.Oo e.Oo
 | .need _ t=>t.Oo
 | .both t u=>KB.or t.Oo u.Oo
 | .when b t=>KB.and b t.Oo
 | .done | .bad=> .no
mutual
def cF (p:Bool):V->V->Option V
 | .any,_=>some .any
 | .hint _ _,_=>some .any
 | .int k a,y=>match y with | .int k' b=>(if k=k' then some (.int k (cond p a b)) else none) | .any=>some .any|_=>none
 | .bool a,y=>match y with | .bool b=>some (.bool (cond p a b)) | .kb b=>some (.bool (cond p a b)) | .any=>some .any|_=>none
 | .kb a,y=>match y with
  | .bool b=>some (.bool (cond p a b))
  | .kb b=>(match a,b with|true,true=>some (.kb true)|false,false=>some (.kb false)|true,false=>some (.bool p)|false,true=>some (.bool (!p)))
  | .any=>some .any
  | _=>none
 | .str a,y=>match y with | .str b=>some (.str (cond p a b)) | .any=>some .any|_=>none
 | .nilptr,y=>match y with | .nilptr=>some .nilptr | .any=>some .any|_=>none
 | .ptr h o,y=>match y with | .ptr h' o'=>(if h=h'/\o=o' then some (.ptr h o) else none) | .any=>some .any|_=>none
 | .fp t xs i o,y=>match y with | .fp t' ys j o'=>(if e:t'=t then (if o=o' then some (.fp t (cond p xs (e▸ys)) (cond p i j) o) else none) else none) | .any=>some .any|_=>none
 | .rp h ver i o,y=>match y with | .rp h' ver' j o'=>(if h=h'/\ver=ver'/\o=o' then some (.rp h ver (cond p i j) o) else none) | .any=>some .any|_=>none
 | .nilsl,y=>match y with | .nilsl=>some .nilsl | .fsl t ys=>some (.fsl t (cond p [] ys)) | .any=>some .any|_=>none
 | .esl,y=>match y with | .esl=>some .esl | .any=>some .any|_=>none
 | .osl h ver,y=>match y with | .osl h' ver'=>(if h=h'/\ver=ver' then some (.osl h ver) else none) | .any=>some .any|_=>none
 | .fsl t xs,y=>match y with | .fsl t' ys=>(if e:t'=t then some (.fsl t (cond p xs (e▸ys))) else none) | .nilsl=>some (.fsl t (cond p xs [])) | .any=>some .any|_=>none
 | .gsl h ver e o l,y=>match y with | .gsl h' ver' e' o' l'=>(if h=h'/\ver=ver'/\e=e'/\o=o'/\l=l' then some (.gsl h ver e o l) else none) | .any=>some .any|_=>none
 | .gp h ver o,y=>match y with | .gp h' ver' o'=>(if h=h'/\ver=ver'/\o=o' then some (.gp h ver o) else none) | .any=>some .any|_=>none
 | .mpv h,y=>match y with | .mpv h'=>(if h=h' then some (.mpv h) else none) | .any=>some .any|_=>none
 | .av k h,y=>match y with | .av k' h'=>(if k=k'/\h=h' then some (.av k h) else none) | .any=>some .any|_=>none
 | .nilfn,y=>match y with | .nilfn=>some .nilfn | .any=>some .any|_=>none
 | .nilmap,y=>match y with | .nilmap=>some .nilmap | .any=>some .any|_=>none
 | .fn f cs,y=>match y with | .fn f' ds=>(if f=f' then (match iW p cs ds with|some l=>some (.fn f l)|none=>none) else none) | .any=>some .any|_=>none
 | .agg cs,y=>match y with | .agg ds=>(match iW p cs ds with|some l=>some (.agg l)|none=>none) | .any=>some .any|_=>none
 | .tup cs,y=>match y with | .tup ds=>(match iW p cs ds with|some l=>some (.tup l)|none=>none) | .any=>some .any|_=>none
def iW (p:Bool):List V->List V->Option (List V)
 | [],[]=>some []
 | x::xs,y::ys=>match cF p x y with
  | some v=>match iW p xs ys with
   | some l=>some (v::l)
   | none=>none
  | none=>none
 | _,_=>none
end
def vF:V->Bool
 | .tup []=>true
 | _=>false
def C6 (p:Bool) (x y:V):Option V:=bif vF x||vF y then some .any else cF p x y
def C4 (p:Bool):bd->bd->Option bd
 | .cells cs,.cells ds=>match iW p cs ds with|some l=>some (.cells l)|none=>none
 | .row ver rw t xs,.row ver' rw' t' ys=>if e:t'=t then (if ver=ver'/\rw=rw' then some (.row ver rw t (cond p xs (e▸ys))) else none) else none
 | .abs k t x,.abs k' t' y=>if e:t'=t then (if k=k' then some (.abs k t (cond p x (e▸y))) else none) else none
 | _,_=>none
def lH {α:Type}:List (Nat×α)->List Nat->List Nat
 | [],acc=>acc
 |(k,_)::r,acc=>bif aX acc k then lH r acc else lH r (k::acc)
def nk (p:Bool) (t1 t2:List (Nat×V)):List Nat->Option (List (Nat×V))
 | []=>some []
 | k::ks=>match C6 p (dL t1 k) (dL t2 k) with
  | some v=>match nk p t1 t2 ks with
   | some l=>some ((k,v)::l)
   | none=>none
  | none=>none
def pP (p:Bool) (H H1 H2:a6):List Nat->Option (List (Nat×bd))
 | []=>some []
 | k::ks=>match H1 k,H2 k with
  | some b1,some b2=>match C4 p b1 b2 with
   | some b=>match pP p H H1 H2 ks with
    | some l=>some ((k,b)::l)
    | none=>none
   | none=>none
  | _,_=>match H k with
   | some _=>none
   | none=>pP p H H1 H2 ks
def C5 (p:Bool) (st:St) (d1 d2:Dl):Option Dl:=
 match nk p (d1.tm++st.tm) (d2.tm++st.tm) (lH d1.tm (lH d2.tm [])) with
 | some tm=>match pP p st.H (aQ st.H d1.hp) (aQ st.H d2.hp) (lH d1.hp (lH d2.hp [])) with
  | some hp=>some ⟨tm,hp⟩
  | none=>none
 | none=>none
def Tr.yy (st:St):Tr->Option (Option (Dl×Nat))
 | .leaf .nrm d nx=>some (some (d,nx))
 | .leaf _ _ _=>some none
 | .br b t e=>match t.yy st,e.yy st with
  | some none,r=>r
  | r,some none=>r
  | some (some (d1,n1)),some (some (d2,n2))=>match C5 b st d1 d2 with
   | some d=>some (some (d,Nat.max n1 n2))
   | none=>none
  | _,_=>none
 | .need _ t=>t.yy st
 | .both t u=>match t.yy st,u.yy st with
  | some none,r=>r
  | r,some none=>r
  | _,_=>none
 | .when _ t=>t.yy st
 | .done | .bad=>some none
def Qy (st:St) (t:Tr) (k:Dl->Nat->Tr):Tr:=
 bif Nat.ble t.nN 1 then t.qk k
 else match t.yy st with
  | some (some (d,nx))=>bif t.clean then (k d nx).pre d else .both t.cut (.when t.Oo.val ((k d nx).pre d))
  | _=>t.qk k
def Tr.qf (id:Nat):Tr->Tr
 | .leaf (.ext id') d nx=>if id'=id then .leaf .nrm d nx else .leaf (.ext id') d nx
 | .leaf e d nx=> .leaf e d nx
 | .br b t e=> .br b (t.qf id) (e.qf id)
 | .need p t=> .need p (t.qf id)
 | .both t u=> .both (t.qf id) (u.qf id)
 | .when b t=> .when b (t.qf id)
 | .done=> .done
 | .bad=> .bad
def IT:Code->Option Nat
 | .region id _ _=>some id
 | .seq a b=>match IT a with|some n=>some n|none=>IT b
 | .cond _ a b=>match IT a with|some n=>some n|none=>IT b
 | .block _ b=>IT b
 | .loop b=>IT b
 | _=>none
def fo (c:Code):Nat:=match IT c with|some n=>n|none=>0
structure aw where
 pre:St->Prop
 T:St->Tr
def yp (f:St->Tr):Nat->St->Tr
 | 0,_=> .bad
 | n+1,st=>Qy st (f st) fun d nx=>yp f n (st.app d nx)
def ly:Nat:=100000
def cR (C:Cfg) (Λ:Nat->Option aw):Code->St->Tr
 | .skip,st=> .leaf .nrm ⟨[],[]⟩ st.nx
 | .region _ ops dr,st=>wE C dr ops.toList st 0 ops.toList ⟨[],[]⟩ []
 | .seq a b,st=>Qy st (cR C Λ a st) fun d nx=>cR C Λ b (st.app d nx)
 | .cond c x y,st=>match Mt st.tm c with
  | .kb true=>cR C Λ x st
  | .kb false=>cR C Λ y st
  | .bool b=>match b with|true=>cR C Λ x st|false=>cR C Λ y st
  | .hint q true=> .both (.when q (cR C Λ x st)) (cR C Λ y st)
  | .hint q false=> .both (.when q (cR C Λ y st)) (cR C Λ x st)
  | _=> .bad
 | .block id b,st=>(cR C Λ b st).qf id
 | .loop b,st=>match Λ (fo b) with
  | some L=> .need (L.pre st) (L.T st)
  | none=>yp (cR C Λ b) ly st
 | .exit id,st=> .leaf (.ext id) ⟨[],[]⟩ st.nx
 | .ret,st=> .leaf .ret ⟨[],[]⟩ st.nx
 | _,_=> .bad
def cw (C:Cfg) (Λ:Nat->Option aw):Code->St->Tr
 | .skip,st=> .leaf .nrm ⟨[],[]⟩ st.nx
 | .region _ ops dr,st=>wE C dr ops.toList st 0 ops.toList ⟨[],[]⟩ []
 | .seq a b,st=>Qy st (cw C Λ a st) fun d nx=>cw C Λ b (st.app d nx)
 | .cond c x y,st=>match Mt st.tm c with
  | .kb true=>cw C Λ x st
  | .kb false=>cw C Λ y st
  | .bool b=> .br b (cw C Λ x st) (cw C Λ y st)
  | .hint q true=> .both (.when q (cw C Λ x st)) (cw C Λ y st)
  | .hint q false=> .both (.when q (cw C Λ y st)) (cw C Λ x st)
  | _=> .bad
 | .block id b,st=>(cw C Λ b st).qf id
 | .loop b,st=>match Λ (fo b) with
  | some L=> .need (L.pre st) (L.T st)
  | none=>yp (cR C Λ b) ly st
 | .exit id,st=> .leaf (.ext id) ⟨[],[]⟩ st.nx
 | .ret,st=> .leaf .ret ⟨[],[]⟩ st.nx
 | _,_=> .bad
def bF (Λ:Nat->Option aw):Code->List Code
 | .seq a b=>bF Λ a++bF Λ b
 | .cond _ a b=>bF Λ a++bF Λ b
 | .block _ b=>bF Λ b
 | .loop b=>b ::(match Λ (fo b) with|some _=> []|none=>bF Λ b)
 | _=> []
def ni:Code->List Code
 | .seq a b=>ni a++ni b
 | .cond _ a b=>ni a++ni b
 | .block _ b=>ni b
 | .loop b=> [b]
 | _=> []
end
section
open Go.RowKit
variable {P:Program}
set_option maxHeartbeats 1000000 in
mutual
theorem si {E:Env} {p:Bool} :∀ (x y v:V) (u:Value),cF p x y=some v->(p=true->ae E x u)->(p=false->ae E y u)->ae E v u
 | .any,y,v,u,h,_,_=>by simp only [cF,Option.some.injEq] at h;subst h;simp [ae]
 | .int k a,y,v,u,h,h1,h2=>by
  cases y <;> simp only [cF,reduceCtorEq,Option.some.injEq] at h
  case any=>subst h;simp [ae]
  case int k' b=>
   split at h
   case isFalse=>cases h
   rename_i e;subst e;cases h;cases p
   ·exact h2 rfl
   ·exact h1 rfl
 | .bool a,y,v,u,h,h1,h2=>by
  cases y <;> simp only [cF,reduceCtorEq,Option.some.injEq] at h
  case any=>subst h;simp [ae]
  all_goals (subst h;cases p <;> first|exact h1 rfl |(have:=h2 rfl;simpa [ae] using this))
 | .kb a,y,v,u,h,h1,h2=>by
  cases y <;> simp only [cF,reduceCtorEq,Option.some.injEq] at h
  case any=>subst h;simp [ae]
  case bool b=>subst h;cases p <;> first |(have:=h1 rfl;simpa [ae] using this) |(have:=h2 rfl;simpa [ae] using this)
  case kb b=>
   cases a <;> cases b <;> simp only [Option.some.injEq] at h <;> subst h <;> cases p <;> first |(have:=h1 rfl;simpa [ae] using this) |(have:=h2 rfl;simpa [ae] using this)
 | .str a,y,v,u,h,h1,h2=>by
  cases y <;> simp only [cF,reduceCtorEq,Option.some.injEq] at h
  case any=>subst h;simp [ae]
  case str b=>subst h;cases p <;> first|exact h1 rfl|exact h2 rfl
 | .nilptr,y,v,u,h,h1,h2=>by
  cases y <;> simp only [cF,reduceCtorEq,Option.some.injEq] at h
  case any=>subst h;simp [ae]
  case nilptr=>subst h;cases p <;> first|exact h1 rfl|exact h2 rfl
 | .ptr hh o,y,v,u,h,h1,h2=>by
  cases y <;> simp only [cF,reduceCtorEq,Option.some.injEq] at h
  case any=>subst h;simp [ae]
  case ptr h' o'=>
   split at h
   case isFalse=>cases h
   rename_i e;obtain ⟨rfl,rfl⟩:=e;cases h;cases p <;> first|exact h1 rfl|exact h2 rfl
 | .fp t xs i o,y,v,u,h,h1,h2=>by
  cases y <;> simp only [cF,reduceCtorEq,Option.some.injEq] at h
  case any=>subst h;simp [ae]
  case fp t' ys j o'=>
   split at h
   case isFalse=>cases h
   rename_i e;subst e;split at h
   case isFalse=>cases h
   rename_i e;subst e;cases h;cases p <;> first|exact h1 rfl|exact h2 rfl
 | .rp hh ver i o,y,v,u,h,h1,h2=>by
  cases y <;> simp only [cF,reduceCtorEq,Option.some.injEq] at h
  case any=>subst h;simp [ae]
  case rp h' ver' j o'=>
   split at h
   case isFalse=>cases h
   rename_i e;obtain ⟨rfl,rfl,rfl⟩:=e;cases h;cases p <;> first|exact h1 rfl|exact h2 rfl
 | .nilsl,y,v,u,h,h1,h2=>by
  cases y <;> simp only [cF,reduceCtorEq,Option.some.injEq] at h
  case any=>subst h;simp [ae]
  case nilsl=>subst h;cases p <;> first|exact h1 rfl|exact h2 rfl
  case fsl t ys=>
   subst h;cases p
   ·exact h2 rfl
   ·have:=h1 rfl
    simp only [ae] at this ⊢;subst this;exact .nil
 | .esl,y,v,u,h,h1,h2=>by
  cases y <;> simp only [cF,reduceCtorEq,Option.some.injEq] at h
  case any=>subst h;simp [ae]
  case esl=>subst h;cases p <;> first|exact h1 rfl|exact h2 rfl
 | .osl hh ver,y,v,u,h,h1,h2=>by
  cases y <;> simp only [cF,reduceCtorEq,Option.some.injEq] at h
  case any=>subst h;simp [ae]
  case osl h' ver'=>
   split at h
   case isFalse=>cases h
   rename_i e;obtain ⟨rfl,rfl⟩:=e;cases h;cases p <;> first|exact h1 rfl|exact h2 rfl
 | .fsl t xs,y,v,u,h,h1,h2=>by
  cases y <;> simp only [cF,reduceCtorEq,Option.some.injEq] at h
  case any=>subst h;simp [ae]
  case fsl t' ys=>
   split at h
   case isFalse=>cases h
   rename_i e;subst e;cases h;cases p <;> first|exact h1 rfl|exact h2 rfl
  case nilsl=>
   subst h;cases p
   ·have:=h2 rfl
    simp only [ae] at this ⊢;subst this;exact .nil
   ·exact h1 rfl
 | .hint _ _,y,v,u,h,h1,h2=>by simp only [cF,Option.some.injEq] at h;subst h;simp [ae]
 | .gsl hh ver e o l,y,v,u,h,h1,h2=>by
  cases y <;> simp only [cF,reduceCtorEq,Option.some.injEq] at h
  case any=>subst h;simp [ae]
  case gsl h' ver' e' o' l'=>
   split at h
   case isFalse=>cases h
   rename_i e;obtain ⟨rfl,rfl,rfl,rfl,rfl⟩:=e;cases h;cases p <;> first|exact h1 rfl|exact h2 rfl
 | .gp hh ver o,y,v,u,h,h1,h2=>by
  cases y <;> simp only [cF,reduceCtorEq,Option.some.injEq] at h
  case any=>subst h;simp [ae]
  case gp h' ver' o'=>
   split at h
   case isFalse=>cases h
   rename_i e;obtain ⟨rfl,rfl,rfl⟩:=e;cases h;cases p <;> first|exact h1 rfl|exact h2 rfl
 | .mpv hh,y,v,u,h,h1,h2=>by
  cases y <;> simp only [cF,reduceCtorEq,Option.some.injEq] at h
  case any=>subst h;simp [ae]
  case mpv h'=>
   split at h
   case isFalse=>cases h
   rename_i e;subst e;cases h;cases p <;> first|exact h1 rfl|exact h2 rfl
 | .av k hh,y,v,u,h,h1,h2=>by
  cases y <;> simp only [cF,reduceCtorEq,Option.some.injEq] at h
  case any=>subst h;simp [ae]
  case av k' h'=>
   split at h
   case isFalse=>cases h
   rename_i e;obtain ⟨rfl,rfl⟩:=e;cases h;cases p <;> first|exact h1 rfl|exact h2 rfl
 | .nilfn,y,v,u,h,h1,h2=>by
  cases y <;> simp only [cF,reduceCtorEq,Option.some.injEq] at h
  case any=>subst h;simp [ae]
  case nilfn=>subst h;cases p <;> first|exact h1 rfl|exact h2 rfl
 | .nilmap,y,v,u,h,h1,h2=>by
  cases y <;> simp only [cF,reduceCtorEq,Option.some.injEq] at h
  case any=>subst h;simp [ae]
  case nilmap=>subst h;cases p <;> first|exact h1 rfl|exact h2 rfl
 | .fn f cs,y,v,u,h,h1,h2=>by
  cases y <;> simp only [cF,reduceCtorEq,Option.some.injEq] at h
  case any=>subst h;simp [ae]
  case fn f' ds=>
   split at h
   case isFalse=>cases h
   rename_i e;subst e;split at h
   case h_2=>cases h
   rename_i l hl;cases h;simp only [ae] at h1 h2 ⊢
   cases p with
   | true=>obtain ⟨l',e1,e2⟩:=h1 rfl;exact ⟨l',e1,cE cs ds l l'.toList hl (fun _=>e2) (fun e=>by cases e)⟩
   | false=>obtain ⟨l',e1,e2⟩:=h2 rfl;exact ⟨l',e1,cE cs ds l l'.toList hl (fun e=>by cases e) (fun _=>e2)⟩
 | .agg cs,y,v,u,h,h1,h2=>by
  cases y <;> simp only [cF,reduceCtorEq,Option.some.injEq] at h
  case any=>subst h;simp [ae]
  case agg ds=>
   split at h
   case h_2=>cases h
   rename_i l hl;cases h;simp only [ae] at h1 h2 ⊢
   cases p with
   | true=>obtain ⟨l',e1,e2⟩:=h1 rfl;exact ⟨l',e1,cE cs ds l l'.toList hl (fun _=>e2) (fun e=>by cases e)⟩
   | false=>obtain ⟨l',e1,e2⟩:=h2 rfl;exact ⟨l',e1,cE cs ds l l'.toList hl (fun e=>by cases e) (fun _=>e2)⟩
 | .tup cs,y,v,u,h,h1,h2=>by
  cases y <;> simp only [cF,reduceCtorEq,Option.some.injEq] at h
  case any=>subst h;simp [ae]
  case tup ds=>
   split at h
   case h_2=>cases h
   rename_i l hl;cases h;simp only [ae] at h1 h2 ⊢
   cases p with
   | true=>obtain ⟨l',e1,e2⟩:=h1 rfl;exact ⟨l',e1,cE cs ds l l'.toList hl (fun _=>e2) (fun e=>by cases e)⟩
   | false=>obtain ⟨l',e1,e2⟩:=h2 rfl;exact ⟨l',e1,cE cs ds l l'.toList hl (fun e=>by cases e) (fun _=>e2)⟩
theorem cE {E:Env} {p:Bool} :∀ (xs ys l:List V) (us:List Value),iW p xs ys=some l->(p=true->ai E xs us)->(p=false->ai E ys us)->ai E l us
 | [],[],l,us,h,h1,h2=>by
  simp only [iW,Option.some.injEq] at h;subst h;cases p
  ·exact h2 rfl
  ·exact h1 rfl
 | _::_,[],l,us,h,_,_=>by simp [iW] at h
 | [],_::_,l,us,h,_,_=>by simp [iW] at h
 | x::xs,y::ys,l,us,h,h1,h2=>by
  simp only [iW] at h;split at h
  case h_2=>cases h
  rename_i v hv;split at h
  case h_2=>cases h
  rename_i l' hl;cases h
  cases us with
  | nil=>
   cases p
   ·have:=h2 rfl;simp [ai] at this
   ·have:=h1 rfl;simp [ai] at this
  | cons u us=>simp only [ai] at h1 h2 ⊢;exact ⟨si x y v u hv (fun e=>(h1 e).1) (fun e=>(h2 e).1),cE xs ys l' us hl (fun e=>(h1 e).2) (fun e=>(h2 e).2)⟩
end
theorem aM.Ra {B:aK} {E:Env} (hE:aM B E) (H':a6) (h :∀ h k',H' h=some k'->∃ k,E.H h=some k/\(k'=k\/∃ cs cs',k = .cells cs/\k' = .cells cs'/\∀ l,ai E cs l->ai E cs' l)) :
  aM B { E with H:=H' }/\Ext E { E with H:=H' }:=by
 have X:Ext E { E with H:=H' }:=by
  refine ⟨fun _ h=>h,fun _ h=>h,fun _ _=>rfl,fun hh cs _ hx=>?_,fun hh ver rw t xs _ _ hx=>?_,fun hh ver esz cs _ _ hx=>?_,fun hh es _ hx=>?_,fun hh kk t x _ hx=>?_⟩
  case refine_5=>
   obtain ⟨k,h1,h2⟩:=h _ _ hx;rcases h2 with h2 |⟨cs1,cs2,h2,h3,_⟩
   ·subst h2;exact ⟨⟨x,h1⟩,rfl⟩
   ·cases h3
  ·obtain ⟨k,h1,h2⟩:=h _ _ hx;rcases h2 with h2 |⟨cs1,cs2,h2,h3,_⟩
   ·subst h2;exact ⟨⟨_,h1⟩,rfl⟩
   ·subst h2;exact ⟨⟨_,h1⟩,rfl⟩
  ·obtain ⟨k,h1,h2⟩:=h _ _ hx;rcases h2 with h2 |⟨cs1,cs2,h2,h3,_⟩
   ·subst h2;exact ⟨rw,xs,h1,rfl,rfl,fun b c T fr _ hw=>⟨c,T,fr,hw,rfl⟩⟩
   ·cases h3
  ·obtain ⟨k,h1,h2⟩:=h _ _ hx;rcases h2 with h2 |⟨cs1,cs2,h2,h3,_⟩
   ·subst h2;exact ⟨cs,h1,rfl,rfl,fun b c T fr _ hw=>⟨c,T,fr,hw,rfl⟩⟩
   ·cases h3
  ·obtain ⟨k,h1,h2⟩:=h _ _ hx;rcases h2 with h2 |⟨cs1,cs2,h2,h3,_⟩
   ·subst h2;exact ⟨⟨es,h1⟩,rfl⟩
   ·cases h3
 have tk :∀ {hh k b},H' hh=some k->fJ { E with H:=H' } hh k b->∃ k0,E.H hh=some k0/\fJ E hh k0 b:=fun hx ht=>by
  obtain ⟨k0,h1,h2⟩:=h _ _ hx;rcases h2 with h2 |⟨cs1,cs2,h2,h3,_⟩
  ·subst h2;exact ⟨_,h1,ht⟩
  ·subst h2;subst h3;exact ⟨_,h1,.inl (ht.of rfl)⟩
 refine ⟨⟨fun hh b hx=>?_,hE.stab,fun hh k b hx hb=>?_,fun h1 h2 k1 k2 b x1 x2 b1 b2=>?_,fun hh k hx=>?_,hE.keeps,fun hh k b hx hb=>?_,hE.s0,hE.sb⟩,X⟩
 ·obtain ⟨k,h1,_⟩:=h _ _ hx;exact hE.used _ _ h1
 ·obtain ⟨k,h1,h2⟩:=tk hx hb;exact hE.lt' _ _ _ h1 h2
 ·obtain ⟨_,y1,z1⟩:=tk x1 b1;obtain ⟨_,y2,z2⟩:=tk x2 b2;exact hE.inj' _ _ _ _ _ y1 y2 z1 z2
 ·obtain ⟨k0,h1,h2⟩:=h _ _ hx;rcases h2 with h2 |⟨cs1,cs2,h2,h3,h4⟩
  ·subst h2;exact di X rfl (fun _ _=>rfl) (fun _ _ _ h=>h) (hE.blk _ _ h1)
  ·subst h2;subst h3;obtain ⟨b,c,T,fr,g1,g2,g3,g4,g5⟩:=hE.blk _ _ h1;exact ⟨b,c,T,fr,g1,g2,g3,g4,bD X _ _ (h4 _ g5)⟩
 ·obtain ⟨k,h1,h2⟩:=tk hx hb;exact hE.own' _ _ _ h1 h2
theorem fA {α:Type} :∀ (l:List (Nat×α)) (acc:List Nat) (k:Nat),(k∈acc\/find l k≠none)->k∈lH l acc
 | [],acc,k,h=>by
  rcases h with h|h
  ·exact h
  ·simp [find] at h
 |(a,b)::l,acc,k,h=>by
  unfold lH
  cases hm:aX acc a with
  | true=>
   refine fA l acc k ?_;rcases h with h|h
   ·exact .inl h
   ·simp only [find] at h
    cases hb:Nat.beq a k with
    | true=>obtain rfl:=Nat.eq_of_beq_eq_true hb;exact .inl (bp.1 hm)
    | false=>rw [hb] at h;exact .inr h
  | false=>
   refine fA l (a::acc) k ?_;rcases h with h|h
   ·exact .inl (List.mem_cons_of_mem _ h)
   ·simp only [find] at h
    cases hb:Nat.beq a k with
    | true=>obtain rfl:=Nat.eq_of_beq_eq_true hb;exact .inl List.mem_cons_self
    | false=>rw [hb] at h;exact .inr h
theorem sf {E:Env} {p:Bool} {x y v:V} {u:Value} (h:C6 p x y=some v) (h1:p=true->ae E x u) (h2:p=false->ae E y u):ae E v u:=by
 unfold C6 at h
 cases hb:vF x||vF y with
 | true=>rw [hb] at h;simp only [cond_true,Option.some.injEq] at h;subst h;simp [ae]
 | false=>rw [hb] at h;exact si _ _ _ _ h h1 h2
theorem np {p:Bool} {t1 t2:List (Nat×V)} :∀ {ks:List Nat} {l:List (Nat×V)},nk p t1 t2 ks=some l->∀ s v,find l s=some v->s∈ks/\C6 p (dL t1 s) (dL t2 s)=some v
 | [],l,h,s,v,hf=>by simp only [nk,Option.some.injEq] at h;subst h;simp [find] at hf
 | k::ks,l,h,s,v,hf=>by
  simp only [nk] at h;split at h
  case h_2=>cases h
  rename_i v0 hv;split at h
  case h_2=>cases h
  rename_i l' hl;cases h;simp only [find] at hf
  cases hb:Nat.beq k s with
  | true=>obtain rfl:=Nat.eq_of_beq_eq_true hb;rw [hb] at hf;simp only [cond_true,Option.some.injEq] at hf;subst hf;exact ⟨List.mem_cons_self,hv⟩
  | false=>rw [hb] at hf;obtain ⟨h1,h2⟩:=np hl s v hf;exact ⟨List.mem_cons_of_mem _ h1,h2⟩
theorem se {p:Bool} {t1 t2:List (Nat×V)} :∀ {ks:List Nat} {l:List (Nat×V)},nk p t1 t2 ks=some l->∀ s,find l s=none->s∉ks
 | [],l,h,s,hf=>by simp
 | k::ks,l,h,s,hf=>by
  simp only [nk] at h;split at h
  case h_2=>cases h
  split at h
  case h_2=>cases h
  rename_i l' hl;cases h;simp only [find] at hf
  cases hb:Nat.beq k s with
  | true=>rw [hb] at hf;cases hf
  | false=>
   rw [hb] at hf;intro hm;rcases List.mem_cons.1 hm with rfl|hm
   ·rw [Nat.beq_refl] at hb;cases hb
   ·exact se hl s hf hm
theorem nj {p:Bool} {H H1 H2:a6} :∀ {ks:List Nat} {l:List (Nat×bd)},pP p H H1 H2 ks=some l->
  (∀ h b,find l h=some b->∃ b1 b2,H1 h=some b1/\H2 h=some b2/\C4 p b1 b2=some b)/\(∀ h,find l h=none->h∈ks->H h=none)
 | [],l,h=>by simp only [pP,Option.some.injEq] at h;subst h;exact ⟨fun h b hf=>by simp [find] at hf,fun h _ hm=>by simp at hm⟩
 | k::ks,l,h=>by
  simp only [pP] at h;split at h
  ·rename_i b1 b2 e1 e2;split at h
   case h_2=>cases h
   rename_i b hb;split at h
   case h_2=>cases h
   rename_i l' hl;cases h;obtain ⟨g1,g2⟩:=nj hl;refine ⟨fun h b' hf=>?_,fun h hf hm=>?_⟩
   ·simp only [find] at hf
    cases hbq:Nat.beq k h with
    | true=>obtain rfl:=Nat.eq_of_beq_eq_true hbq;rw [hbq] at hf;simp only [cond_true,Option.some.injEq] at hf;subst hf;exact ⟨b1,b2,e1,e2,hb⟩
    | false=>rw [hbq] at hf;exact g1 h b' hf
   ·simp only [find] at hf
    cases hbq:Nat.beq k h with
    | true=>rw [hbq] at hf;cases hf
    | false=>
     rw [hbq] at hf;rcases List.mem_cons.1 hm with rfl|hm
     ·rw [Nat.beq_refl] at hbq;cases hbq
     ·exact g2 h hf hm
  ·split at h
   ·cases h
   ·rename_i hH;obtain ⟨g1,g2⟩:=nj h;refine ⟨g1,fun h hf hm=>?_⟩;rcases List.mem_cons.1 hm with rfl|hm
    ·exact hH
    ·exact g2 h hf hm
theorem sa {E:Env} {p:Bool} {b1 b2 b:bd} (h:C4 p b1 b2=some b) :
  (p=true->b=b1\/∃ cs cs',b1 = .cells cs/\b = .cells cs'/\∀ l,ai E cs l->ai E cs' l)/\(p=false->b=b2\/∃ cs cs',b2 = .cells cs/\b = .cells cs'/\∀ l,ai E cs l->ai E cs' l):=by
 unfold C4 at h;split at h
 ·rename_i cs ds;split at h
  case h_2=>cases h
  rename_i l hl;cases h;exact ⟨fun e=> .inr ⟨cs,l,rfl,rfl,fun us hu=>cE cs ds l us hl (fun _=>hu) (fun e'=>by rw [e] at e';cases e')⟩,fun e=> .inr ⟨ds,l,rfl,rfl,fun us hu=>cE cs ds l us hl (fun e'=>by rw [e] at e';cases e') (fun _=>hu)⟩⟩
 ·split at h
  case isFalse=>cases h
  rename_i e;subst e;split at h
  case isFalse=>cases h
  rename_i e;obtain ⟨rfl,rfl⟩:=e;cases h;exact ⟨fun e=> .inl (by subst e;rfl),fun e=> .inl (by subst e;rfl)⟩
 ·split at h
  case isFalse=>cases h
  rename_i e;subst e;split at h
  case isFalse=>cases h
  rename_i e;subst e;cases h;exact ⟨fun e=> .inl (by subst e;rfl),fun e=> .inl (by subst e;rfl)⟩
 ·cases h
theorem nZ.Ra {B:aK} {N:Nat} {T T':Nat->Option V} {H H':a6} {U U':Nat->Prop} {a:Act} {w:World} (hs:nZ B N T H U a w) (hU :∀ n,U n->U' n)
  (hH :∀ E:Env,E.H=H->∀ h k',H' h=some k'->∃ k,H h=some k/\(k'=k\/∃ cs cs',k = .cells cs/\k' = .cells cs'/\∀ l,ai E cs l->ai E cs' l))
  (hT :∀ E:Env,gC E T a->∀ s v,T' s=some v->ae E v (a.tmps.getD s undef)):nZ B N T' H' U' a w:=by
 obtain ⟨⟨E,hE,rfl,hEH,⟨hG,hEU⟩,hET⟩,hsz,hd⟩:=hs;obtain ⟨R,X⟩:=hE.Ra H' (fun h k' hx=>by rw [hEH];exact hH E hEH h k' hx);exact ⟨⟨_,R,rfl,rfl,⟨B.clo _ _ hG X,fun n hn=>hU n (hEU n hn)⟩,fun s v hv=>ca X _ _ (hT E hET s v hv)⟩,hsz,hd⟩
theorem qm {B:aK} {N:Nat} {p:Bool} {st:St} {d1 d2 d:Dl} (h:C5 p st d1 d2=some d) {U U':Nat->Prop} (hU :∀ n,U n->U' n) {a:Act} {w:World} :
  (p=true->nZ B N (find (d1.tm++st.tm)) (aQ st.H d1.hp) U a w->nZ B N (find (d.tm++st.tm)) (aQ st.H d.hp) U' a w)/\
  (p=false->nZ B N (find (d2.tm++st.tm)) (aQ st.H d2.hp) U a w->nZ B N (find (d.tm++st.tm)) (aQ st.H d.hp) U' a w):=by
 unfold C5 at h;split at h
 case h_2=>cases h
 rename_i tm htm;split at h
 case h_2=>cases h
 rename_i hp hhp;cases h;obtain ⟨g1,g2⟩:=nj hhp
 have hTn :∀ s,find tm s=none->find d1.tm s=none/\find d2.tm s=none:=fun s hs=>by
  have hn:=se htm s hs;constructor
  ·cases hf:find d1.tm s with
   | none=>rfl
   | some v=>exact absurd (fA _ _ _ (.inr (by rw [hf];simp))) hn
  ·cases hf:find d2.tm s with
   | none=>rfl
   | some v=>exact absurd (fA _ _ _ (.inl (fA _ _ _ (.inr (by rw [hf];simp))))) hn
 have hHn :∀ h,find hp h=none->(find d1.hp h=none/\find d2.hp h=none)\/st.H h=none:=fun h hs=>by
  by_cases hm:h∈lH d1.hp (lH d2.hp [])
  ·exact .inr (g2 h hs hm)
  ·left
   constructor
   ·cases hf:find d1.hp h with
    | none=>rfl
    | some v=>exact absurd (fA _ _ _ (.inr (by rw [hf];simp))) hm
   ·cases hf:find d2.hp h with
    | none=>rfl
    | some v=>exact absurd (fA _ _ _ (.inl (fA _ _ _ (.inr (by rw [hf];simp))))) hm
 refine ⟨fun hp1 hs=>hs.Ra hU (fun E hEH h k' hx=>?_) (fun E hE s v hv=>?_),fun hp1 hs=>hs.Ra hU (fun E hEH h k' hx=>?_) (fun E hE s v hv=>?_)⟩
 ·simp only [aQ] at hx ⊢
  cases hf:find hp h with
  | some b=>rw [hf] at hx;simp only [Option.some.injEq] at hx;subst hx;obtain ⟨b1,b2,e1,e2,e3⟩:=g1 h b hf;exact ⟨b1,by simpa [aQ] using e1,(sa (E:=E) e3).1 hp1⟩
  | none=>
   rw [hf] at hx;rcases hHn h hf with ⟨h1,h2⟩|h1
   ·rw [h1];exact ⟨k',hx,.inl rfl⟩
   ·simp only at hx;rw [h1] at hx;cases hx
 ·rw [cX] at hv
  cases hf:find tm s with
  | some x=>rw [hf] at hv;simp only [Option.some.injEq] at hv;subst hv;exact sf (np htm s x hf).2 (fun _=>dG hE s) (fun e=>by rw [hp1] at e;cases e)
  | none=>rw [hf] at hv;refine hE s v ?_;rw [cX,(hTn s hf).1];exact hv
 ·simp only [aQ] at hx ⊢
  cases hf:find hp h with
  | some b=>rw [hf] at hx;simp only [Option.some.injEq] at hx;subst hx;obtain ⟨b1,b2,e1,e2,e3⟩:=g1 h b hf;exact ⟨b2,by simpa [aQ] using e2,(sa (E:=E) e3).2 hp1⟩
  | none=>
   rw [hf] at hx;rcases hHn h hf with ⟨h1,h2⟩|h1
   ·rw [h2];exact ⟨k',hx,.inl rfl⟩
   ·simp only at hx;rw [h1] at hx;cases hx
 ·rw [cX] at hv
  cases hf:find tm s with
  | some x=>rw [hf] at hv;simp only [Option.some.injEq] at hv;subst hv;exact sf (np htm s x hf).2 (fun e=>by rw [hp1] at e;cases e) (fun _=>dG hE s)
  | none=>rw [hf] at hv;refine hE s v ?_;rw [cX,(hTn s hf).2];exact hv
end
section
open Go.RowKit
variable {P:Program}
def at_ (B:aK) (N:Nat) (st:St) (d:Dl) (nx:Nat) (a:Act) (w:World):Prop:=nZ B N (find (d.tm++st.tm)) (aQ st.H d.hp) (fun n=>n<nx) a w
def jM (B:aK) (N:Nat) (st:St) (a:Act) (w:World):Prop:=nZ B N (find st.tm) st.H (fun n=>n<st.nx) a w
theorem pC {B:aK} {N:Nat} {st:St} {d:Dl} {nx:Nat} {a:Act} {w:World}:at_ B N st d nx a w↔jM B N (st.app d nx) a w:=by unfold at_ jM St.app St.H;rw [cY]
theorem Hj {B:aK} {N:Nat} {st:St} {d d':Dl} {nx nx':Nat} {a:Act} {w:World}:at_ B N (st.app d nx) d' nx' a w↔at_ B N st ⟨d'.tm++d.tm,d'.hp++d.hp⟩ nx' a w:=by unfold at_ St.app St.H;simp only [cY,List.append_assoc]
def iw:Lf->Exit
 | .nrm=> .normal
 | .ext id=> .exit id
 | .ret=> .ret
theorem jO {Q:Lf->Dl->Nat->Prop} {d:Dl} :∀ {t:Tr},(t.pre d).sat Q↔t.sat fun e d' nx=>Q e ⟨d'.tm++d.tm,d'.hp++d.hp⟩ nx
 | .leaf _ _ _=>Iff.rfl
 | .br b t e=>by simp only [Tr.pre,Tr.sat,jO (t:=t),jO (t:=e)]
 | .need p t=>by simp only [Tr.pre,Tr.sat,jO (t:=t)]
 | .both t u=>by simp only [Tr.pre,Tr.sat,jO (t:=t),jO (t:=u)]
 | .when b t=>by simp only [Tr.pre,Tr.sat,jO (t:=t)]
 | .done=>Iff.rfl
 | .bad=>Iff.rfl
theorem Tr.dH {Q Q':Lf->Dl->Nat->Prop} (h :∀ e d nx,Q e d nx->Q' e d nx) :∀ {t:Tr},t.sat Q->t.sat Q'
 | .leaf _ _ _,hs=>h _ _ _ hs
 | .br _ _ _,hs=>⟨fun hb=>dH h (hs.1 hb),fun hb=>dH h (hs.2 hb)⟩
 | .need _ _,hs=>⟨hs.1,dH h hs.2⟩
 | .both _ _,hs=>⟨dH h hs.1,dH h hs.2⟩
 | .when _ _,hs=>fun hb=>dH h (hs hb)
 | .done,hs=>hs
 | .bad,hs=>hs
def GY (Y:Dl->Nat->Prop) (Q:Lf->Dl->Nat->Prop):Lf->Dl->Nat->Prop
 | .nrm,d,nx=>Y d nx
 | e,d,nx=>Q e d nx
theorem iB {Q:Lf->Dl->Nat->Prop} {k:Dl->Nat->Tr} :∀ {t:Tr},(t.qk k).sat Q->t.sat (GY (fun d nx=>((k d nx).pre d).sat Q) Q)
 | .leaf .nrm _ _,h=>h
 | .leaf (.ext _) _ _,h=>h
 | .leaf .ret _ _,h=>h
 | .br _ _ _,h=>⟨fun hb=>iB (h.1 hb),fun hb=>iB (h.2 hb)⟩
 | .need _ _,h=>⟨h.1,iB h.2⟩
 | .both _ _,h=>⟨iB h.1,iB h.2⟩
 | .when _ _,h=>fun hb=>iB (h hb)
 | .done,h=>h
 | .bad,h=>h
theorem KB.ite_val (b:Bool) (x y:KB) :(KB.ite b x y).val=cond b x.val y.val:=by cases x <;> cases y <;> cases b <;> simp [KB.ite,KB.val]
theorem KB.or_val (x y:KB) :(KB.or x y).val =(x.val||y.val):=by cases x <;> cases y <;> simp [KB.or,KB.val]
theorem KB.and_val (b:Bool) (x:KB) :(KB.and b x).val =(b&&x.val):=by cases x <;> simp [KB.and,KB.val]
theorem gd {st:St} {Q:Lf->Dl->Nat->Prop} {Y:Dl->Nat->Prop} :∀ {t:Tr},t.yy st=some none->t.cut.sat Q->t.sat (GY Y Q)
 | .leaf .nrm d nx,h,_=>by simp [Tr.yy] at h
 | .leaf (.ext id) d nx,_,hs=>hs
 | .leaf .ret d nx,_,hs=>hs
 | .br b t e,h,hs=>by
  simp only [Tr.yy] at h
  have h2:t.yy st=some none/\e.yy st=some none:=by
   split at h
   ·rename_i h1;exact ⟨h1,h⟩
   ·rename_i h1 _;exact ⟨h,h1⟩
   ·split at h <;> simp at h
   ·simp at h
  exact ⟨fun hb=>gd h2.1 (hs.1 hb),fun hb=>gd h2.2 (hs.2 hb)⟩
 | .need p t,h,hs=>⟨hs.1,gd (t:=t) h hs.2⟩
 | .both t u,h,hs=>by
  simp only [Tr.yy] at h
  have h2:t.yy st=some none/\u.yy st=some none:=by
   split at h
   ·rename_i h1;exact ⟨h1,h⟩
   ·rename_i h1 _;exact ⟨h,h1⟩
   ·simp at h
  exact ⟨gd h2.1 hs.1,gd h2.2 hs.2⟩
 | .when b t,h,hs=>fun hb=>gd (t:=t) h (hs hb)
 | .done,_,hs=>hs
 | .bad,_,hs=>hs
theorem gg {B:aK} {N:Nat} {st:St} {Q:Lf->Dl->Nat->Prop} {Y:Act->World->Prop} :∀ {t:Tr} {d:Dl} {nx:Nat},t.yy st=some (some (d,nx))->t.cut.sat Q->(t.Oo.val=true->∀ a w,at_ B N st d nx a w->Y a w)->
  t.sat (GY (fun d nx=>∀ a w,at_ B N st d nx a w->Y a w) Q)
 | .leaf .nrm d' nx',d,nx,h,_,hy=>by simp only [Tr.yy,Option.some.injEq,Prod.mk.injEq] at h;obtain ⟨rfl,rfl⟩:=h;exact hy rfl
 | .leaf (.ext id) _ _,d,nx,h,_,_=>by simp [Tr.yy] at h
 | .leaf .ret _ _,d,nx,h,_,_=>by simp [Tr.yy] at h
 | .br b t e,d,nx,h,hs,hy=>by
  simp only [Tr.Oo,KB.ite_val] at hy;simp only [Tr.yy] at h;split at h
  ·rename_i h1;refine ⟨fun hb=>gd h1 (hs.1 hb),fun hb=>gg h (hs.2 hb) (fun hn=>hy (by rw [hb];exact hn))⟩
  ·rename_i h1 _;refine ⟨fun hb=>gg h (hs.1 hb) (fun hn=>hy (by rw [hb];exact hn)),fun hb=>gd h1 (hs.2 hb)⟩
  ·rename_i d1 n1 d2 n2 e1 e2;split at h
   case h_2=>cases h
   rename_i dm hm;simp only [Option.some.injEq,Prod.mk.injEq] at h;obtain ⟨rfl,rfl⟩:=h;refine ⟨fun hb=>gg e1 (hs.1 hb) (fun hn a w ha=>?_),fun hb=>gg e2 (hs.2 hb) (fun hn a w ha=>?_)⟩
   ·refine hy (by rw [hb];exact hn) a w ?_;exact (qm hm (fun n h=>Nat.lt_of_lt_of_le h (Nat.le_max_left n1 n2))).1 hb ha
   ·refine hy (by rw [hb];exact hn) a w ?_;exact (qm hm (fun n h=>Nat.lt_of_lt_of_le h (Nat.le_max_right n1 n2))).2 hb ha
  ·simp at h
 | .need p t,d,nx,h,hs,hy=>⟨hs.1,gg (t:=t) h hs.2 hy⟩
 | .both t u,d,nx,h,hs,hy=>by
  simp only [Tr.Oo,KB.or_val,Bool.or_eq_true] at hy;simp only [Tr.yy] at h;split at h
  ·rename_i h1;exact ⟨gd h1 hs.1,gg h hs.2 (fun hn=>hy (.inr hn))⟩
  ·rename_i h1 _;exact ⟨gg h hs.1 (fun hn=>hy (.inl hn)),gd h1 hs.2⟩
  ·simp at h
 | .when b t,d,nx,h,hs,hy=>fun hb=>gg (t:=t) h (hs hb) (fun hn=>hy (by simp only [Tr.Oo,KB.and_val,hb,hn,Bool.and_self]))
 | .done,_,_,h,_,_=>by simp [Tr.yy] at h
 | .bad,_,_,_,hs,_=>hs.elim
theorem ta {Q:Lf->Dl->Nat->Prop} :∀ {t:Tr},t.clean=true->t.cut.sat Q
 | .leaf .nrm _ _,_=>trivial
 | .leaf (.ext _) _ _,h=>by simp [Tr.clean] at h
 | .leaf .ret _ _,h=>by simp [Tr.clean] at h
 | .br b t e,h=>by simp only [Tr.clean,Bool.and_eq_true] at h;exact ⟨fun _=>ta h.1,fun _=>ta h.2⟩
 | .need _ _,h=>by simp [Tr.clean] at h
 | .both _ _,h=>by simp [Tr.clean] at h
 | .when _ _,h=>by simp [Tr.clean] at h
 | .done,h=>by simp [Tr.clean] at h
 | .bad,h=>by simp [Tr.clean] at h
theorem xR {B:aK} {N:Nat} {st:St} {t:Tr} {k:Dl->Nat->Tr} {Q:Lf->Dl->Nat->Prop} {Y:Act->World->Prop} (h :(Qy st t k).sat Q)
  (hk :∀ d nx,((k d nx).pre d).sat Q->∀ a w,at_ B N st d nx a w->Y a w):t.sat (GY (fun d nx=>∀ a w,at_ B N st d nx a w->Y a w) Q):=by
 have byGraft :(t.qk k).sat Q->t.sat (GY (fun d nx=>∀ a w,at_ B N st d nx a w->Y a w) Q):=fun hg=>
  Tr.dH (fun e d nx hq=>by
   cases e with
   | nrm=>exact hk d nx hq
   | ext id=>exact hq
   | ret=>exact hq) (iB hg)
 unfold Qy at h
 cases hb:Nat.ble t.nN 1 with
 | true=>rw [hb] at h;exact byGraft h
 | false=>
  rw [hb] at h;simp only [cond_false] at h;split at h
  ·rename_i d nx hm
   cases hc:t.clean with
   | true=>rw [hc] at h;exact gg hm (ta hc) (fun _=>hk d nx h)
   | false=>rw [hc] at h;simp only [cond_false,Tr.sat] at h;exact gg hm h.1 (fun hn=>hk d nx (h.2 hn))
  ·exact byGraft h
theorem gG {Q:Lf->Dl->Nat->Prop} {id:Nat} :∀ {t:Tr},(t.qf id).sat Q->t.sat fun e d nx=>match e with | .ext id'=>if id'=id then Q .nrm d nx else Q (.ext id') d nx|e=>Q e d nx
 | .leaf .nrm d nx,h=>h
 | .leaf (.ext id') d nx,h=>by
  simp only [Tr.qf] at h;simp only [Tr.sat];split
  ·rename_i e;rw [if_pos e] at h;exact h
  ·rename_i e;rw [if_neg e] at h;exact h
 | .leaf .ret d nx,h=>h
 | .br b t e,h=>⟨fun hb=>gG (h.1 hb),fun hb=>gG (h.2 hb)⟩
 | .need p t,h=>⟨h.1,gG h.2⟩
 | .both t u,h=>⟨gG h.1,gG h.2⟩
 | .when b t,h=>fun hb=>gG (h hb)
 | .done,h=>h
 | .bad,h=>h
def vO (P:Program) (N:Nat) (B:aK) (body:Code) (L:aw):Prop:=
 ∀ (st:St) (Q:Lf->Dl->Nat->Prop) (CQ:Exit->Act->World->Prop),L.pre st->(L.T st).sat Q->(∀ e d nx a w,Q e d nx->at_ B N st d nx a w->CQ (iw e) a w)->∀ a w,jM B N st a w->(Code.loop body).wp P CQ a w
def aK.free (B:aK):Prop:=∀ E,B.G E
def dU (P:Program) (N:Nat) (body:Code) (L:aw):Prop:=∀ (B:aK),B.free->vO P N B body L
theorem dU.Ji {N:Nat} {B:aK} {body:Code} {L:aw} (h:dU P N body L) (hB:B.free):vO P N B body L:=h B hB
theorem mf {B:aK} {N:Nat} {st:St} {a:Act} {w:World} (h:jM B N st a w):at_ B N st ⟨[],[]⟩ st.nx a w:=h
theorem nK {B:aK} {N:Nat} {b:Code} {f:St->Tr}
  (hb :∀ (st:St) (Q:Lf->Dl->Nat->Prop) (CQ:Exit->Act->World->Prop),(f st).sat Q->(∀ e d nx a w,Q e d nx->at_ B N st d nx a w->CQ (iw e) a w)->∀ a w,jM B N st a w->b.wp P CQ a w) :
  ∀ (n:Nat) (st:St) (Q:Lf->Dl->Nat->Prop) (CQ:Exit->Act->World->Prop),(yp f n st).sat Q->(∀ e d nx a w,Q e d nx->at_ B N st d nx a w->CQ (iw e) a w)->∀ a w,jM B N st a w->Code.rounds P b CQ n a w
 | 0,_,_,_,h,_,_,_,_=>h.elim
 | n+1,st,Q,CQ,h,hQ,a,w,hs=>by
  unfold yp at h
  have h2:=xR (B:=B) (N:=N) (Y:=fun a w=>Code.rounds P b CQ n a w) h (fun d nx hk a w ha=>by
   rw [jO] at hk
   exact nK hb n (st.app d nx) _ CQ hk (fun e d' nx' a w hq hat=>hQ e _ _ a w hq (Hj.1 hat)) a w (pC.1 ha))
  rw [rounds_succ];refine hb st _ _ h2 (fun e d nx a w hq hat=>?_) a w hs
  cases e with
  | nrm=>exact hq a w hat
  | ext id=>exact hQ (.ext id) d nx a w hq hat
  | ret=>exact hQ .ret d nx a w hq hat
theorem dJ {C:Cfg} (hC:CfgOK P C) (hP:P.follows .mixedOrders=true) {Λ:Nat->Option aw} {B:aK} :∀ (c:Code),(∀ b∈bF Λ c,∀ L,Λ (fo b)=some L->vO P C.N B b L)->
  ∀ (st:St) (Q:Lf->Dl->Nat->Prop) (CQ:Exit->Act->World->Prop),(cR C Λ c st).sat Q->(∀ e d nx a w,Q e d nx->at_ B C.N st d nx a w->CQ (iw e) a w)->∀ a w,jM B C.N st a w->c.wp P CQ a w
 | .skip,_,st,Q,CQ,h,hQ,a,w,hs=>wp_skip (hQ .nrm _ _ a w h (mf hs))
 | .ret,_,st,Q,CQ,h,hQ,a,w,hs=>wp_ret (hQ .ret _ _ a w h (mf hs))
 | .exit id,_,st,Q,CQ,h,hQ,a,w,hs=>wp_exit (hQ (.ext id) _ _ a w h (mf hs))
 | .region id ops dr,_,st,Q,CQ,h,hQ,a,w,hs=>by
  simp only [cR] at h;obtain ⟨df,rf,hrun,hc,hq⟩:=nz _ _ _ _ h;have hfin :∀ a w,nZ B C.N (find (df.tm++st.tm)) (aQ st.H df.hp) (fun n=>n<st.nx+ops.toList.length*C.K) a w->CQ .normal a w:=fun a w h'=>hQ .nrm _ _ a w hq h'
  cases dr with
  | false=>
   refine wp_region_list ?_
   have:=Dz hC ops.toList 0 _ _ _ _ hrun (Q:=CQ) (B:=B) (fun a w h'=>hfin a w (by simpa using h')) a w (by simpa [jM,rU] using hs)
   simpa using this
  | true=>
   rcases hc with hc|hc
   ·cases hc
   ·have:=wg hC hP hrun hc.1 hc.2 hfin hs id
    simpa using this
 | .seq x y,hL,st,Q,CQ,h,hQ,a,w,hs=>by
  simp only [cR] at h;have hx:=dJ hC hP (Λ:=Λ) (B:=B) x (fun b hb=>hL b (by simp [bF,hb]));have hy:=dJ hC hP (Λ:=Λ) (B:=B) y (fun b hb=>hL b (by simp [bF,hb]))
  have h2:=xR (B:=B) (N:=C.N) (Y:=fun a w=>y.wp P CQ a w) h (fun d nx hk a w ha=>by
   rw [jO] at hk
   exact hy (st.app d nx) _ CQ hk (fun e d' nx' a w hq hat=>hQ e _ _ a w hq (Hj.1 hat)) a w (pC.1 ha))
  refine wp_seq (hx st _ _ h2 (fun e d nx a w hq hat=>?_) a w hs)
  cases e with
  | nrm=>exact hq a w hat
  | ext id=>exact hQ (.ext id) d nx a w hq hat
  | ret=>exact hQ .ret d nx a w hq hat
 | .cond c x y,hL,st,Q,CQ,h,hQ,a,w,hs=>by
  simp only [cR] at h;have hx:=dJ hC hP (Λ:=Λ) (B:=B) x (fun b hb=>hL b (by simp [bF,hb]));have hy:=dJ hC hP (Λ:=Λ) (B:=B) y (fun b hb=>hL b (by simp [bF,hb]))
  have hv :∃ E:Env,gC E (find st.tm) a:=by obtain ⟨⟨E,_,_,_,_,hT⟩,_⟩:=hs;exact ⟨E,hT⟩
  obtain ⟨E,hT⟩:=hv;have hc:=rj hT c;split at h
  ·rename_i e;rw [e] at hc;simp only [ae] at hc;exact wp_cond_true hc (hx st Q CQ h hQ a w hs)
  ·rename_i e;rw [e] at hc;simp only [ae] at hc;exact wp_cond_false hc (hy st Q CQ h hQ a w hs)
  ·rename_i b e;rw [e] at hc;simp only [ae] at hc
   cases b with
   | true=>exact wp_cond_true hc (hx st Q CQ h hQ a w hs)
   | false=>exact wp_cond_false hc (hy st Q CQ h hQ a w hs)
  ·rename_i q e;rw [e] at hc;simp only [ae] at hc;obtain ⟨b,hc,hq⟩:=hc;exact wp_cond_split hc (fun hb=>hx st Q CQ (h.1 (hq hb)) hQ a w hs) (fun _=>hy st Q CQ h.2 hQ a w hs)
  ·rename_i q e;rw [e] at hc;simp only [ae] at hc;obtain ⟨b,hc,hq⟩:=hc;exact wp_cond_split hc (fun _=>hx st Q CQ h.2 hQ a w hs) (fun hb=>hy st Q CQ (h.1 (hq hb)) hQ a w hs)
  ·exact h.elim
 | .block id b,hL,st,Q,CQ,h,hQ,a,w,hs=>by
  simp only [cR] at h;refine wp_block (dJ hC hP b (fun b' hb=>hL b' (by simpa [bF] using hb)) st _ _ (gG h) (fun e d nx a w hq hat=>?_) a w hs)
  cases e with
  | nrm=>exact hQ .nrm d nx a w hq hat
  | ret=>exact hQ .ret d nx a w hq hat
  | ext id'=>
   simp only [iw,Exit.inBlock];simp only at hq;split
   ·rename_i e;rw [if_pos e] at hq;exact hQ .nrm d nx a w hq hat
   ·rename_i e;rw [if_neg e] at hq;exact hQ (.ext id') d nx a w hq hat
 | .loop b,hL,st,Q,CQ,h,hQ,a,w,hs=>by
  simp only [cR] at h;split at h
  ·rename_i L hl;exact hL b (by simp [bF]) L hl st Q CQ h.1 h.2 hQ a w hs
  ·rename_i hl;have hb:=dJ hC hP (Λ:=Λ) (B:=B) b (fun b' hb'=>hL b' (by simp [bF,hl,hb']));exact wp_loop_rounds ly (nK hb ly st Q CQ h hQ a w hs)
 | .rangeFunc _ _ _ _,_,_,_,_,h,_,_,_,_=>h.elim
 | .scope _,_,_,_,_,h,_,_,_,_=>h.elim
 | .label _,_,_,_,_,h,_,_,_,_=>h.elim
 | .goto _,_,_,_,_,h,_,_,_,_=>h.elim
 | .refuse _,_,_,_,_,h,_,_,_,_=>h.elim
theorem cS {C:Cfg} (hC:CfgOK P C) (hP:P.follows .mixedOrders=true) {Λ:Nat->Option aw} {B:aK} :∀ (c:Code),(∀ b∈bF Λ c,∀ L,Λ (fo b)=some L->vO P C.N B b L)->
  ∀ (st:St) (Q:Lf->Dl->Nat->Prop) (CQ:Exit->Act->World->Prop),(cw C Λ c st).sat Q->(∀ e d nx a w,Q e d nx->at_ B C.N st d nx a w->CQ (iw e) a w)->∀ a w,jM B C.N st a w->c.wp P CQ a w
 | .skip,_,st,Q,CQ,h,hQ,a,w,hs=>wp_skip (hQ .nrm _ _ a w h (mf hs))
 | .ret,_,st,Q,CQ,h,hQ,a,w,hs=>wp_ret (hQ .ret _ _ a w h (mf hs))
 | .exit id,_,st,Q,CQ,h,hQ,a,w,hs=>wp_exit (hQ (.ext id) _ _ a w h (mf hs))
 | .region id ops dr,_,st,Q,CQ,h,hQ,a,w,hs=>by
  simp only [cw] at h;obtain ⟨df,rf,hrun,hc,hq⟩:=nz _ _ _ _ h;have hfin :∀ a w,nZ B C.N (find (df.tm++st.tm)) (aQ st.H df.hp) (fun n=>n<st.nx+ops.toList.length*C.K) a w->CQ .normal a w:=fun a w h'=>hQ .nrm _ _ a w hq h'
  cases dr with
  | false=>
   refine wp_region_list ?_
   have:=Dz hC ops.toList 0 _ _ _ _ hrun (Q:=CQ) (B:=B) (fun a w h'=>hfin a w (by simpa using h')) a w (by simpa [jM,rU] using hs)
   simpa using this
  | true=>
   rcases hc with hc|hc
   ·cases hc
   ·have:=wg hC hP hrun hc.1 hc.2 hfin hs id
    simpa using this
 | .seq x y,hL,st,Q,CQ,h,hQ,a,w,hs=>by
  simp only [cw] at h;have hx:=cS hC hP (Λ:=Λ) (B:=B) x (fun b hb=>hL b (by simp [bF,hb]));have hy:=cS hC hP (Λ:=Λ) (B:=B) y (fun b hb=>hL b (by simp [bF,hb]))
  have h2:=xR (B:=B) (N:=C.N) (Y:=fun a w=>y.wp P CQ a w) h (fun d nx hk a w ha=>by
   rw [jO] at hk
   exact hy (st.app d nx) _ CQ hk (fun e d' nx' a w hq hat=>hQ e _ _ a w hq (Hj.1 hat)) a w (pC.1 ha))
  refine wp_seq (hx st _ _ h2 (fun e d nx a w hq hat=>?_) a w hs)
  cases e with
  | nrm=>exact hq a w hat
  | ext id=>exact hQ (.ext id) d nx a w hq hat
  | ret=>exact hQ .ret d nx a w hq hat
 | .cond c x y,hL,st,Q,CQ,h,hQ,a,w,hs=>by
  simp only [cw] at h;have hx:=cS hC hP (Λ:=Λ) (B:=B) x (fun b hb=>hL b (by simp [bF,hb]));have hy:=cS hC hP (Λ:=Λ) (B:=B) y (fun b hb=>hL b (by simp [bF,hb]))
  have hv :∃ E:Env,gC E (find st.tm) a:=by obtain ⟨⟨E,_,_,_,_,hT⟩,_⟩:=hs;exact ⟨E,hT⟩
  obtain ⟨E,hT⟩:=hv;have hc:=rj hT c;split at h
  ·rename_i e;rw [e] at hc;simp only [ae] at hc;exact wp_cond_true hc (hx st Q CQ h hQ a w hs)
  ·rename_i e;rw [e] at hc;simp only [ae] at hc;exact wp_cond_false hc (hy st Q CQ h hQ a w hs)
  ·rename_i b e;rw [e] at hc;simp only [ae] at hc;exact wp_cond_split hc (fun hb=>hx st Q CQ (h.1 hb) hQ a w hs) (fun hb=>hy st Q CQ (h.2 hb) hQ a w hs)
  ·rename_i q e;rw [e] at hc;simp only [ae] at hc;obtain ⟨b,hc,hq⟩:=hc;exact wp_cond_split hc (fun hb=>hx st Q CQ (h.1 (hq hb)) hQ a w hs) (fun _=>hy st Q CQ h.2 hQ a w hs)
  ·rename_i q e;rw [e] at hc;simp only [ae] at hc;obtain ⟨b,hc,hq⟩:=hc;exact wp_cond_split hc (fun _=>hx st Q CQ h.2 hQ a w hs) (fun hb=>hy st Q CQ (h.1 (hq hb)) hQ a w hs)
  ·exact h.elim
 | .block id b,hL,st,Q,CQ,h,hQ,a,w,hs=>by
  simp only [cw] at h;refine wp_block (cS hC hP b (fun b' hb=>hL b' (by simpa [bF] using hb)) st _ _ (gG h) (fun e d nx a w hq hat=>?_) a w hs)
  cases e with
  | nrm=>exact hQ .nrm d nx a w hq hat
  | ret=>exact hQ .ret d nx a w hq hat
  | ext id'=>
   simp only [iw,Exit.inBlock];simp only at hq;split
   ·rename_i e;rw [if_pos e] at hq;exact hQ .nrm d nx a w hq hat
   ·rename_i e;rw [if_neg e] at hq;exact hQ (.ext id') d nx a w hq hat
 | .loop b,hL,st,Q,CQ,h,hQ,a,w,hs=>by
  simp only [cw] at h;split at h
  ·rename_i L hl;exact hL b (by simp [bF]) L hl st Q CQ h.1 h.2 hQ a w hs
  ·rename_i hl;have hb:=dJ hC hP (Λ:=Λ) (B:=B) b (fun b' hb'=>hL b' (by simp [bF,hl,hb']));exact wp_loop_rounds ly (nK hb ly st Q CQ h hQ a w hs)
 | .rangeFunc _ _ _ _,_,_,_,_,h,_,_,_,_=>h.elim
 | .scope _,_,_,_,_,h,_,_,_,_=>h.elim
 | .label _,_,_,_,_,h,_,_,_,_=>h.elim
 | .goto _,_,_,_,_,h,_,_,_,_=>h.elim
 | .refuse _,_,_,_,_,h,_,_,_,_=>h.elim
end
section
open Go.RowKit
variable {P:Program}
structure RowD where
 t:Ty
 xs:List (Den t)
inductive RT where
 | ret (v:V) (rows:List RowD)
 | br (b:Bool) (t e:RT)
 | need (p:Prop) (t:RT)
 | both (t u:RT)
 | when (b:Bool) (t:RT)
 | done
 | bad
def RT.sat (Q:V->List RowD->Prop):RT->Prop
 | .ret v rows=>Q v rows
 | .br b t e=>(b=true->t.sat Q)/\(b=false->e.sat Q)
 | .need p t=>p/\t.sat Q
 | .both t u=>t.sat Q/\u.sat Q
 | .when b t=>b=true->t.sat Q
 | .done=>True
 | .bad=>False
mutual
def iY (H:a6):V->List (Nat×RowD)->Option (V×List (Nat×RowD))
 | .osl h ver,acc=>match H h with
  | some (.row ver' rw t xs)=>if ver=ver' then (bif rw then (bif aX (acc.map (·.1)) h then none else some (.osl acc.length acc.length,acc++[(h,⟨t,xs⟩)])) else some (.fsl t xs,acc)) else none
  | _=>none
 | .agg cs,acc=>match zy H cs acc with|some (l,acc')=>some (.agg l,acc')|none=>none
 | .tup cs,acc=>match zy H cs acc with|some (l,acc')=>some (.tup l,acc')|none=>none
 | .ptr _ _,_ | .rp _ _ _ _,_ | .fp _ _ _ _,_ | .fn _ _,_ | .hint _ _,_ | .gsl _ _ _ _ _,_ | .gp _ _ _,_ | .mpv _,_ | .av _ _,_=>none
 | v,acc=>some (v,acc)
def zy (H:a6):List V->List (Nat×RowD)->Option (List V×List (Nat×RowD))
 | [],acc=>some ([],acc)
 | v::vs,acc=>match iY H v acc with
  | some (v',acc')=>match zy H vs acc' with
   | some (l,acc'')=>some (v'::l,acc'')
   | none=>none
  | none=>none
end
def Dx (tb:bG) (tm:List (Nat×V)) (H:a6):ResultVar->Option V
 | .tmp t=>some (dL tm t)
 | .cell a t=>match tb t with
  | some td=>match oz td H (dL tm a) with
   | .val _ v _=>some v
   | _=>none
  | none=>none
def rm (tb:bG) (tm:List (Nat×V)) (H:a6):List ResultVar->Option (List V)
 | []=>some []
 | r::rs=>match Dx tb tm H r with
  | some v=>match rm tb tm H rs with
   | some l=>some (v::l)
   | none=>none
  | none=>none
def sI (tb:bG) (tm:List (Nat×V)) (H:a6) (rs:List ResultVar):Option V:=
 match rm tb tm H rs with
 | some [v]=>some v
 | some l=>some (.tup l)
 | none=>none
def BG:Nat->Ty->List (Option Ty)
 | 0,_=> []
 | f+1,.prod a b=>BG f a++BG f b
 | f+1,.nm n=>BG f n.n7
 | _+1,.slice t=> [some t]
 | _+1,.unit=> []
 | _+1,_=> [none]
def ud:List (Option Ty)->List V->Nat->List V×List (Nat×bd)
 | o::ts,v::vs,n=>match o,v with
  | some t,.nilsl=>(.osl n n ::(ud ts vs (n+1)).1,(ud ts vs (n+1)).2++[(n,.row n true t [])])
  | _,v=>(v ::(ud ts vs n).1,(ud ts vs n).2)
 | _,vs,_=>(vs,[])
def OM (o:Option Ty) (v:V) (n:Nat):V×List (Nat×bd):=match o with
 | some ty=>match v with
  | .agg cs=>(.agg (ud (BG gb ty) cs n).1,(ud (BG gb ty) cs n).2)
  | .nilsl=>match ty with
   | .slice t=>(.osl n n,[(n,.row n true t [])])
   | _=>(.nilsl,[])
  | v=>(v,[])
 | none=>(v,[])
def ZX (tb:bG) (t:TypeId):Option Ty:=match tb t with
 | some td=>td.ty
 | none=>none
def yS (tb:bG):List TypeId->List V->Nat->List V×List (Nat×bd)
 | t::ts,v::vs,n=>let r:=OM (ZX tb t) v n;let q:=yS tb ts vs (n+r.2.length);(r.1::q.1,q.2++r.2)
 | _,vs,_=>(vs,[])
def C2 (tb:bG) (ts:List TypeId) (v:V) (n:Nat):V×List (Nat×bd):=match ts with
 | [t]=>OM (ZX tb t) v n
 | ts=>match v with
  | .tup vs=>(.tup (yS tb ts vs n).1,(yS tb ts vs n).2)
  | v=>(v,[])
def zf (tb:bG) (rs:List ResultVar) (ts:List TypeId) (st:St):Tr->RT
 | .leaf (.ext _) _ _=> .bad
 | .leaf _ d nx=>match sI tb (d.tm++st.tm) (aQ st.H d.hp) rs with
  | some v=>match iY (aQ (aQ st.H d.hp) (C2 tb ts v nx).2) (C2 tb ts v nx).1 [] with
   | some (v',acc)=> .ret v' (acc.map (·.2))
   | none=> .bad
  | none=> .bad
 | .br b t e=> .br b (zf tb rs ts st t) (zf tb rs ts st e)
 | .need p t=> .need p (zf tb rs ts st t)
 | .both t u=> .both (zf tb rs ts st t) (zf tb rs ts st u)
 | .when b t=> .when b (zf tb rs ts st t)
 | .done=> .done
 | .bad=> .bad
def dz {α:Type}:Nat->List α->List (Nat×α)
 | _,[]=> []
 | n,x::xs=>(n,x)::dz (n+1) xs
def nD (args:List V):St:=⟨dz 0 args,[],fun _=>none,0⟩
def dD (C:Cfg) (Λ:Nat->Option aw) (fn:Func) (args:List V):RT:=
 match fn.body with
 | some c=>zf C.tb fn.results.toList fn.resultTypes.toList (nD args) (cw C Λ c (nD args))
 | none=> .bad
def fq :(ps:Ty)->Den ps->List V
 | .prod a b,x=>gz a x.1::fq b x.2
 | _,_=> []
def dZ (H:a6) :(ps:Ty)->List V->Option (Den ps)
 | .prod a b,v::vs=>bif lQ a==hY v then (match cellsOf v with
  | some cs=>match xA H a cs with
   | some x=>match dZ H b vs with
    | some y=>some (x,y)
    | none=>none
   | none=>none
  | none=>none) else none
 | .unit,[]=>some ()
 | _,_=>none
structure mL where
 sn:List Prop
 v:V
 rows:List RowD
mutual
def V.Ml:V->Bool
 | .fsl _ _ | .fp _ _ _ _=>false
 | .fn _ cs=>Db cs
 | .agg cs=>Db cs
 | .tup cs=>Db cs
 | _=>true
def Db:List V->Bool
 | []=>true
 | v::vs=>v.Ml&&Db vs
end
mutual
def V.shift (m:Nat):V->V
 | .osl h ver=> .osl (m+h) (m+ver)
 | .agg cs=> .agg (lL m cs)
 | .tup cs=> .tup (lL m cs)
 | v=>v
def lL (m:Nat):List V->List V
 | []=> []
 | v::vs=>v.shift m::lL m vs
end
def kD (m:Nat):Nat->List RowD->List (Nat×bd)
 | _,[]=> []
 | i,r::rs=>(m+i,.row (m+i) true r.t r.xs)::kD m (i+1) rs
def mL.flat (r:mL):Bool:=r.v.Ml&&r.rows.all fun q=>q.t.fh
def bq (K:Nat) (ps:Ty) (spec:Den ps->mL):dR:=fun args H m=>
 let L:=tG args
 match dZ (vb H L) ps args with
 | some x=>
  let r:=spec x
  bif Nat.ble r.rows.length K then
   some (r.sn,r.v.shift m,kD m 0 r.rows ++(bif r.flat then [] else gl H L))
  else none
 | none=>none
end
section
open Go.RowKit
variable {P:Program}
def zg (t:Ty) (x:Den t):Prop:=∃ (S:Nat->Prop) (w:World) (cs:List Value),Rd S w t x cs
theorem kr {B:aK} {E:Env} (hE:aM B E) {Ec:Env} (hS:Ec.S=E.S) (hw:Ec.w=E.w) :∀ {ps:Ty} {args:List V} {av:List Value} {x:Den ps},ai E args av->dZ E.H ps args=some x->ai Ec (fq ps x) av/\∃ cs,Rd E.S E.w ps x cs
 | .unit,[],av,x,hv,_=>by
  cases av with
  | nil=>exact ⟨trivial,[],.unit⟩
  | cons=>simp [ai] at hv
 | .prod a b,v::vs,av,x,hv,h=>by
  simp only [dZ] at h
  cases hg:lQ a==hY v with
  | false=>rw [hg] at h;cases h
  | true=>
   rw [hg] at h;simp only [cond_true] at h;split at h
   case h_2=>cases h
   rename_i cs hcs;split at h
   case h_2=>cases h
   rename_i x1 hx1;split at h
   case h_2=>cases h
   rename_i y1 hy1;cases h
   cases av with
   | nil=>simp [ai] at hv
   | cons u us=>
    simp only [ai] at hv;obtain ⟨ih,cs2,hrd2⟩:=kr hE hS hw hv.2 hy1;have hrd:=dK hE hx1 (cC hv.1 hcs);have hrdc:Rd Ec.S Ec.w a x1 u.cells.toList:=by rw [hS,hw];exact hrd
    refine ⟨?_,?_⟩
    ·simp only [fq,ai];refine ⟨?_,ih⟩;simp only [beq_iff_eq] at hg
     have one:lQ a=false->u.cells.toList=[u]:=fun e=>by
      rw [e] at hg
      have h1:u.oneCell'=true:=by cases v <;> simp only [hY,Bool.false_eq_true] at hg <;> simp only [cellsOf,reduceCtorEq] at hcs <;> exact jf rfl hv.1
      rw [uf h1]
     have agg:lQ a=true->∃ l,u = .agg l:=fun e=>by
      rw [e] at hg;cases v <;> simp only [hY,Bool.true_eq_false] at hg
      have:=hv.1
      simp only [ae] at this;obtain ⟨l,hl,_⟩:=this;exact ⟨l,hl⟩
     cases a with
     | int k=>rw [one rfl] at hrdc;cases hrdc with|int hk=>simp only [gz];exact kJ hk
     | bool=>rw [one rfl] at hrdc;cases hrdc with|bool=>simp only [gz,ae]
     | str=>rw [one rfl] at hrdc;cases hrdc with|str hk=>simp only [gz];exact MT hk
     | slice t=>rw [one rfl] at hrdc;simp only [gz,ae];exact hrdc
     | unit=>obtain ⟨l,rfl⟩:=agg rfl;simp only [gz,ae];refine ⟨l,rfl,?_⟩;have h0:l.toList=[]:=List.eq_nil_of_length_eq_zero hrdc.len;rw [h0];simp [ai]
     | prod c d=>obtain ⟨l,rfl⟩:=agg rfl;simp only [gz,ae];exact ⟨l,rfl,hrdc.flat gb⟩
     | nm n=>obtain ⟨l,rfl⟩:=agg rfl;simp only [gz,ae];exact ⟨l,rfl,hrdc.flat gb⟩
    ·exact ⟨_,.prod hrd hrd2⟩
 | .int _,_,_,_,_,h=>by simp [dZ] at h
 | .bool,_,_,_,_,h=>by simp [dZ] at h
 | .str,_,_,_,_,h=>by simp [dZ] at h
 | .slice _,_,_,_,_,h=>by simp [dZ] at h
 | .nm _,_,_,_,_,h=>by simp [dZ] at h
 | .unit,_::_,_,_,_,h=>by simp [dZ] at h
 | .prod _ _,[],_,_,_,h=>by simp [dZ] at h
end
section
open Go.RowKit
variable {P:Program}
abbrev Acc:=List (Nat×RowD)
structure AccOK (E:Env) (acc:Acc):Prop where
 nodup :(acc.map (·.1)).Nodup
 row :∀ h r,(h,r)∈acc->∃ ver,E.H h=some (.row ver true r.t r.xs)
def Ren (E E2:Env) (m:Nat) (acc:Acc):Prop:=∀ i h r,acc[i]?=some (h,r)->E2.U (m+i)/\E2.ρ (m+i)=E.ρ h/\E2.H (m+i)=some (.row (m+i) true r.t r.xs)
theorem Ren.front {E E2:Env} {m:Nat} {acc suf:Acc} (h:Ren E E2 m (acc++suf)):Ren E E2 m acc:=fun i hh r hi=>h i hh r (by
 have:i<acc.length:=by
  rcases Nat.lt_or_ge i acc.length with h1|h1
  ·exact h1
  ·rw [List.getElem?_eq_none h1] at hi;cases hi
 rw [List.getElem?_append_left this];exact hi)
structure CanOK (E:Env) (m:Nat) (acc acc':Acc) (v:V) (u:Value):Prop where
 pre :∃ suf,acc'=acc++suf
 acc:AccOK E acc->AccOK E acc'
 rel :∀ E2:Env,E2.w=E.w->((∀ b,E.S b->E2.S b)\/v.Ml=true)->Ren E E2 m acc'->ae E2 (v.shift m) u
structure CansOK (E:Env) (m:Nat) (acc acc':Acc) (v:List V) (u:List Value):Prop where
 pre :∃ suf,acc'=acc++suf
 acc:AccOK E acc->AccOK E acc'
 rel :∀ E2:Env,E2.w=E.w->((∀ b,E.S b->E2.S b)\/Db v=true)->Ren E E2 m acc'->ai E2 (lL m v) u
theorem eG {E:Env} {m:Nat} {acc:Acc} {v:V} {u:Value} (h :∀ E2:Env,E2.w=E.w->((∀ b,E.S b->E2.S b)\/v.Ml=true)->ae E2 (v.shift m) u):CanOK E m acc acc v u:=
 ⟨⟨[],by simp⟩,fun h=>h,fun E2 hw hs _=>h E2 hw hs⟩
mutual
theorem vZ {B:aK} {E:Env} (hE:aM B E) (m:Nat) :∀ (v0:V) (acc:Acc) (v:V) (acc':Acc) (u:Value),iY E.H v0 acc=some (v,acc')->ae E v0 u->CanOK E m acc acc' v u
 | .osl h ver,acc,v,acc',u,hc,hv=>by
  simp only [iY] at hc;split at hc
  case h_2=>cases hc
  rename_i ver' rw t xs hH;split at hc
  case isFalse=>cases hc
  rename_i e;subst e;have hrow:=nr hE hH hv
  cases rw with
  | true=>
   simp only [cond_true] at hc
   cases hm:aX (acc.map (·.1)) h with
   | true=>rw [hm] at hc;cases hc
   | false=>
    rw [hm] at hc;simp only [cond_false,Option.some.injEq,Prod.mk.injEq] at hc;obtain ⟨rfl,rfl⟩:=hc;have hnm:h∉acc.map (·.1):=fun hh=>by rw [bp.2 hh] at hm;cases hm
    refine ⟨⟨_,rfl⟩,fun ha=>⟨?_,fun h2 r hr=>?_⟩,fun E2 hw _ hren=>?_⟩
    ·rw [List.map_append,List.nodup_append];refine ⟨ha.nodup,by simp,fun a ha' b hb=>?_⟩;simp only [List.map_cons,List.map_nil,List.mem_singleton] at hb;subst hb;exact fun e=>hnm (e▸ha')
    ·rcases List.mem_append.1 hr with hr|hr
     ·exact ha.row _ _ hr
     ·simp only [List.mem_singleton,Prod.mk.injEq] at hr;obtain ⟨rfl,rfl⟩:=hr;exact ⟨_,hH⟩
    ·obtain ⟨h1,h2,h3⟩:=hren acc.length h ⟨t,xs⟩ (by simp);simp only [V.shift,ae];refine ⟨h1,h1,?_,fun rw' t' xs' hx=>?_⟩
     ·rcases hrow with ⟨_,_,a,ha⟩ |⟨b,cap,c,T,fr,_,hh,_⟩
      ·exact ⟨_,_,_,ha⟩
      ·exact ⟨_,_,_,hh⟩
     ·rw [h3] at hx;cases hx;rw [h2,hw];rcases hrow with ⟨k1,_,k3⟩ |⟨b,cap,c,T,fr,k1,k2,k3,k4,k5,_⟩
      ·exact .inl ⟨k1,k3⟩
      ·exact .inr ⟨b,cap,c,T,fr,k1,k2,k3,k4,k5⟩
  | false=>
   simp only [cond_false,Option.some.injEq,Prod.mk.injEq] at hc;obtain ⟨rfl,rfl⟩:=hc;refine eG fun E2 hw hs=>?_;rcases hs with hs|hs
   case inr=>simp [V.Ml] at hs
   simp only [V.shift,ae];rcases hrow with ⟨_,rfl,a,rfl⟩ |⟨b,cap,c,T,fr,_,rfl,k3,k4,k5,_,_,k8,k9,k10,k11⟩
   ·exact .nil
   ·exact .slice (hs _ (k8 rfl)) (by rw [hw];exact k3) (by simpa using k9) k5 k10 (fun i hi=>by
     have:=(k11 i hi).ext hs (w':=E2.w) (fun b _=>by rw [hw])
     simpa using this)
 | .agg cs,acc,v,acc',u,hc,hv=>by
  simp only [iY] at hc;split at hc
  case h_2=>cases hc
  rename_i l acc2 hcs;simp only [Option.some.injEq,Prod.mk.injEq] at hc;obtain ⟨rfl,rfl⟩:=hc;simp only [ae] at hv;obtain ⟨l',rfl,hv⟩:=hv;obtain ⟨h1,h2,h3⟩:=od hE m cs acc l acc2 _ hcs hv;refine ⟨h1,h2,fun E2 hw hs hren=>?_⟩;simp only [V.shift,ae];exact ⟨l',rfl,h3 E2 hw hs hren⟩
 | .tup cs,acc,v,acc',u,hc,hv=>by
  simp only [iY] at hc;split at hc
  case h_2=>cases hc
  rename_i l acc2 hcs;simp only [Option.some.injEq,Prod.mk.injEq] at hc;obtain ⟨rfl,rfl⟩:=hc;simp only [ae] at hv;obtain ⟨l',rfl,hv⟩:=hv;obtain ⟨h1,h2,h3⟩:=od hE m cs acc l acc2 _ hcs hv;refine ⟨h1,h2,fun E2 hw hs hren=>?_⟩;simp only [V.shift,ae];exact ⟨l',rfl,h3 E2 hw hs hren⟩
 | .ptr _ _,_,_,_,_,hc,_=>by simp [iY] at hc
 | .rp _ _ _ _,_,_,_,_,hc,_=>by simp [iY] at hc
 | .fp _ _ _ _,_,_,_,_,hc,_=>by simp [iY] at hc
 | .fn _ _,_,_,_,_,hc,_=>by simp [iY] at hc
 | .hint _ _,_,_,_,_,hc,_=>by simp [iY] at hc
 | .any,acc,v,acc',u,hc,hv=>by simp only [iY,Option.some.injEq,Prod.mk.injEq] at hc;obtain ⟨rfl,rfl⟩:=hc;exact eG fun E2 hw hs=>by simp [V.shift,ae]
 | .int k n,acc,v,acc',u,hc,hv=>by simp only [iY,Option.some.injEq,Prod.mk.injEq] at hc;obtain ⟨rfl,rfl⟩:=hc;exact eG fun E2 hw hs=>by simpa [V.shift,ae] using hv
 | .bool b,acc,v,acc',u,hc,hv=>by simp only [iY,Option.some.injEq,Prod.mk.injEq] at hc;obtain ⟨rfl,rfl⟩:=hc;exact eG fun E2 hw hs=>by simpa [V.shift,ae] using hv
 | .kb b,acc,v,acc',u,hc,hv=>by simp only [iY,Option.some.injEq,Prod.mk.injEq] at hc;obtain ⟨rfl,rfl⟩:=hc;exact eG fun E2 hw hs=>by simpa [V.shift,ae] using hv
 | .str s,acc,v,acc',u,hc,hv=>by simp only [iY,Option.some.injEq,Prod.mk.injEq] at hc;obtain ⟨rfl,rfl⟩:=hc;exact eG fun E2 hw hs=>by simpa [V.shift,ae] using hv
 | .nilptr,acc,v,acc',u,hc,hv=>by simp only [iY,Option.some.injEq,Prod.mk.injEq] at hc;obtain ⟨rfl,rfl⟩:=hc;exact eG fun E2 hw hs=>by simpa [V.shift,ae] using hv
 | .nilsl,acc,v,acc',u,hc,hv=>by simp only [iY,Option.some.injEq,Prod.mk.injEq] at hc;obtain ⟨rfl,rfl⟩:=hc;exact eG fun E2 hw hs=>by simpa [V.shift,ae] using hv
 | .esl,acc,v,acc',u,hc,hv=>by simp only [iY,Option.some.injEq,Prod.mk.injEq] at hc;obtain ⟨rfl,rfl⟩:=hc;exact eG fun E2 hw hs=>by simpa [V.shift,ae] using hv
 | .fsl t xs,acc,v,acc',u,hc,hv=>by
  simp only [iY,Option.some.injEq,Prod.mk.injEq] at hc;obtain ⟨rfl,rfl⟩:=hc;refine eG fun E2 hw hs=>?_;rcases hs with hs|hs
  case inr=>simp [V.Ml] at hs
  simp only [V.shift,ae] at hv ⊢;exact hv.ext hs (fun b _=>by rw [hw])
 | .nilfn,acc,v,acc',u,hc,hv=>by simp only [iY,Option.some.injEq,Prod.mk.injEq] at hc;obtain ⟨rfl,rfl⟩:=hc;exact eG fun E2 hw hs=>by simpa [V.shift,ae] using hv
 | .nilmap,acc,v,acc',u,hc,hv=>by simp only [iY,Option.some.injEq,Prod.mk.injEq] at hc;obtain ⟨rfl,rfl⟩:=hc;exact eG fun E2 hw hs=>by simpa [V.shift,ae] using hv
theorem od {B:aK} {E:Env} (hE:aM B E) (m:Nat) :∀ (v0:List V) (acc:Acc) (v:List V) (acc':Acc) (u:List Value),zy E.H v0 acc=some (v,acc')->ai E v0 u->CansOK E m acc acc' v u
 | [],acc,v,acc',u,hc,hv=>by simp only [zy,Option.some.injEq,Prod.mk.injEq] at hc;obtain ⟨rfl,rfl⟩:=hc;exact ⟨⟨[],by simp⟩,fun h=>h,fun E2 hw hs _=>by cases u <;> simp_all [lL,ai]⟩
 | x::xs,acc,v,acc',u,hc,hv=>by
  simp only [zy] at hc;split at hc
  case h_2=>cases hc
  rename_i v1 acc1 h1;split at hc
  case h_2=>cases hc
  rename_i l2 acc2 h2;simp only [Option.some.injEq,Prod.mk.injEq] at hc;obtain ⟨rfl,rfl⟩:=hc
  cases u with
  | nil=>simp [ai] at hv
  | cons u us=>simp only [ai] at hv;obtain ⟨⟨s1,e1⟩,a2,a3⟩:=vZ hE m x acc v1 acc1 u h1 hv.1;obtain ⟨⟨s2,e2⟩,b2,b3⟩:=od hE m xs acc1 l2 acc2 us h2 hv.2;refine ⟨⟨s1++s2,by rw [e2,e1,List.append_assoc]⟩,fun h=>b2 (a2 h),fun E2 hw hs hren=>?_⟩;simp only [lL,ai];simp only [Db,Bool.and_eq_true] at hs;exact ⟨a3 E2 hw (hs.imp id (·.1)) (by rw [e2] at hren;exact hren.front),b3 E2 hw (hs.imp id (·.2)) hren⟩
end
def rd1 (tmps:Array Value):ResultVar->Sem Value
 | .tmp t=>pure (tmps.getD t undef)
 | .cell c t=>do loadVar t (<-asAddr (tmps.getD c undef))
theorem xL (fn:Func) (tmps:Array Value):results fn tmps =((fn.results.mapM (rd1 tmps)) >>= fun (vs:Array Value)=>pure (if h:vs.size=1 then vs[0] else .tuple vs)):=by unfold results;congr
theorem IR {B:aK} {E:Env} (hE:aM B E) {tb:bG} (hT:cn P tb) {tm:List (Nat×V)} {a:Act} (ha:gC E (find tm) a) {r:ResultVar} {v:V} (h:Dx tb tm E.H r=some v) :
  ∃ v',(rd1 a.tmps r).run P E.w = .ok v' E.w/\ae E v v':=by
 cases r with
 | tmp t=>simp only [Dx,Option.some.injEq] at h;subst h;exact ⟨_,rfl,dG ha t⟩
 | cell c t=>
  simp only [Dx] at h;split at h
  case h_2=>cases h
  rename_i td htd;split at h
  case h_2=>cases h
  rename_i ps v2 dh hl;simp only [Option.some.injEq] at h;subst h;obtain ⟨_,v',h1,h2⟩:=rM hE (hT _ _ htd) (dG ha c) hl;refine ⟨v',?_,h2⟩
  have :∀ x:Value,(Instr.loadAt t x).run P E.w = .ok v' E.w->((do loadVar t (<-asAddr x):Sem Value).run P E.w = .ok v' E.w):=fun x hx=>by
   cases x with
   | pointer o=>
    cases o with
    | some ad=>simpa [Instr.loadAt,Instr.sureAddr,asAddr] using hx
    | none=>simp [Instr.loadAt,Instr.sureAddr] at hx
   | _=>simp [Instr.loadAt,Instr.sureAddr] at hx
  exact this _ h1
theorem sM {α:Type} {E:Env} {w:World} (f:α->Sem Value) (g:α->Option V) (hfg :∀ x v,g x=some v->∃ v',(f x).run P w = .ok v' w/\ae E v v') :∀ (l:List α) (vs:List V),l.length=vs.length->(∀ (i:Nat) (x:α) (v:V),l[i]?=some x->vs[i]?=some v->g x=some v)->
  ∃ us,(l.mapM f).run P w = .ok us w/\ai E vs us
 | [],[],_,_=>⟨[],rfl,by simp [ai]⟩
 | [],_::_,h,_=>by simp at h
 | _::_,[],h,_=>by simp at h
 | x::l,v::vs,h,hg=>by obtain ⟨v',h1,h2⟩:=hfg x v (hg 0 x v rfl rfl);obtain ⟨us,h3,h4⟩:=sM f g hfg l vs (by simpa using h) (fun i y u hy hu=>hg (i+1) y u (by simpa using hy) (by simpa using hu));refine ⟨v'::us,?_,by simp only [ai];exact ⟨h2,h4⟩⟩;simp [List.mapM_cons,h1,h3]
theorem GD {tb:bG} {tm:List (Nat×V)} {H:a6} :∀ {rs:List ResultVar} {l:List V},rm tb tm H rs=some l->rs.length=l.length/\∀ (i:Nat) (x:ResultVar) (v:V),rs[i]?=some x->l[i]?=some v->Dx tb tm H x=some v
 | [],l,h=>by simp only [rm,Option.some.injEq] at h;subst h;exact ⟨rfl,fun i x v hx=>by simp at hx⟩
 | r::rs,l,h=>by
  simp only [rm] at h;split at h
  case h_2=>cases h
  rename_i v1 h1;split at h
  case h_2=>cases h
  rename_i l2 h2;simp only [Option.some.injEq] at h;subst h;obtain ⟨k1,k2⟩:=GD h2;refine ⟨by simp [k1],fun i x v hx hv=>?_⟩
  cases i with
  | zero=>simp only [List.getElem?_cons_zero,Option.some.injEq] at hx hv;subst hx;subst hv;exact h1
  | succ i=>exact k2 i x v (by simpa using hx) (by simpa using hv)
theorem rn {B:aK} {E:Env} (hE:aM B E) {tb:bG} (hT:cn P tb) {tm:List (Nat×V)} {a:Act} (ha:gC E (find tm) a) {fn:Func} {v:V} (h:sI tb tm E.H fn.results.toList=some v) :
  ∃ v',(results fn a.tmps).run P E.w = .ok v' E.w/\ae E v v':=by
 unfold sI at h
 have key :∀ l,rm tb tm E.H fn.results.toList=some l->∃ us,(fn.results.mapM (rd1 a.tmps)).run P E.w = .ok us E.w/\ai E l us.toList:=fun l hl=>by obtain ⟨k1,k2⟩:=GD hl;obtain ⟨us,h1,h2⟩:=sM (P:=P) (E:=E) (w:=E.w) (rd1 a.tmps) (Dx tb tm E.H) (fun x v hx=>IR hE hT ha hx) _ _ k1 k2;refine ⟨us.toArray,?_,by simpa using h2⟩;rw [Array.mapM_eq_mapM_toList,Sem.run_map,h1];rfl
 split at h
 ·rename_i v1 hl;simp only [Option.some.injEq] at h;subst h;obtain ⟨us,h1,h2⟩:=key _ hl;have hsz:us.size=1:=by have:=bk h2;simpa using this.symm
  refine ⟨us[0],?_,?_⟩
  ·rw [xL,Sem.run_bind,h1];simp [hsz]
  ·have:us.toList=[us[0]]:=by
    apply List.ext_getElem?;intro i
    cases i with
    | zero=>simp [hsz]
    | succ i=>simp [hsz]
   rw [this] at h2;simp only [ai] at h2;exact h2.1
 ·rename_i l hne hl;simp only [Option.some.injEq] at h;subst h;obtain ⟨us,h1,h2⟩:=key _ hl
  have hsz :¬ us.size=1:=fun hs=>by
   have:=bk h2
   have h3:l.length=1:=by simpa [hs] using this
   obtain ⟨x,rfl⟩:=List.length_eq_one_iff.1 h3;exact hne x rfl
  refine ⟨.tuple us,?_,?_⟩
  ·rw [xL,Sem.run_bind,h1];simp [hsz]
  ·simp only [ae];exact ⟨us,rfl,h2⟩
 ·cases h
end
section
open Go.RowKit
variable {P:Program}
theorem uF (m:Nat) :∀ (rows:List RowD) (i h:Nat),find (kD m i rows) h=if m+i<=h/\h<m+i+rows.length then (rows[h - (m+i)]?).map fun r=> .row h true r.t r.xs else none
 | [],i,h=>by simp [kD,find]
 | r::rs,i,h=>by
  simp only [kD,find]
  cases hb:Nat.beq (m+i) h with
  | true=>obtain rfl:=Nat.eq_of_beq_eq_true hb;simp
  | false=>
   have hne:m+i≠h:=fun e=>by subst e;rw [Nat.beq_refl] at hb;cases hb
   simp only [cond_false];rw [uF m rs (i+1) h];by_cases hc:m+i<=h/\h<m+i +(r::rs).length
   ·have hc2:m +(i+1)<=h/\h<m +(i+1)+rs.length:=by simp at hc;omega
    rw [if_pos hc,if_pos hc2]
    have:h - (m+i) =(h - (m +(i+1)))+1:=by omega
    rw [this,List.getElem?_cons_succ]
   ·have hc2 :¬(m +(i+1)<=h/\h<m +(i+1)+rs.length):=by simp at hc;omega
    rw [if_neg hc,if_neg hc2]
theorem Nb {B:aK} {Eb:Env} (hEb:aM B Eb) {m K:Nat} (hm :∀ n,m<=n->n<m+K->¬ Eb.U n) {S1:Nat->Prop} (_ :∀ b,Eb.S b->S1 b) {Ec:Env} (hEc:aM (Eu Eb.w (fun _=>False) S1 hEb.JD) Ec) {acc:Acc} (ha:AccOK Ec acc) (hK:acc.length<=K)
  (hfl :(∀ b,S1 b->Eb.S b)\/∀ q∈acc,q.2.t.fh=true) :
  ∃ E',GoodK B Eb m K (kD m 0 (acc.map (·.2))) Ec.w E'/\Ren Ec E' m acc/\((∀ b,S1 b->Eb.S b)->∀ b,Ec.S b->E'.S b):=by
 classical
 let D:Nat->Prop:=fun h=>m<=h/\h<m+K
 let ρ':Nat->Option Nat:=fun h=>if D h then (match acc[h - m]? with|some q=>Ec.ρ q.1|none=>none) else Eb.ρ h
 let E':Env:=⟨fun n=>Eb.U n\/D n,ρ',fun b=>Eb.S b\/(Ec.S b/\Eb.w.heap.size<=b),Ec.w,aQ Eb.H (kD m 0 (acc.map (·.2)))⟩
 have hfind :∀ h,find (kD m 0 (acc.map (·.2))) h=if m<=h/\h<m+acc.length then (acc[h - m]?).map fun q=>bd.row h true q.2.t q.2.xs else none:=fun h=>by rw [uF];simp only [Nat.add_zero,List.length_map,List.getElem?_map,Option.map_map];rfl
 have hHn :∀ h,¬ D h->E'.H h=Eb.H h:=fun h hd=>by show aQ Eb.H _ h=Eb.H h;unfold aQ;rw [hfind,if_neg (fun hc=>hd ⟨hc.1,by omega⟩)]
 have hρn :∀ h,¬ D h->E'.ρ h=Eb.ρ h:=fun h hd=>if_neg hd
 have hHd :∀ h k,D h->E'.H h=some k->∃ h0 r,acc[h - m]?=some (h0,r)/\k = .row h true r.t r.xs:=fun h k hd hk=>by
  have hk':aQ Eb.H (kD m 0 (acc.map (·.2))) h=some k:=hk;unfold aQ at hk';rw [hfind] at hk';by_cases hc:m<=h/\h<m+acc.length
  ·rw [if_pos hc] at hk'
   cases hq:acc[h - m]? with
   | none=>rw [List.getElem?_eq_none_iff] at hq;omega
   | some q=>obtain ⟨h0,r⟩:=q;rw [hq] at hk';simp only [Option.map_some,Option.some.injEq] at hk';exact ⟨h0,r,rfl,hk'.symm⟩
  ·rw [if_neg hc] at hk';simp only at hk';exact absurd (hEb.used _ _ hk') (hm h hd.1 hd.2)
 have hρd :∀ h h0 r,D h->acc[h - m]?=some (h0,r)->E'.ρ h=Ec.ρ h0:=fun h h0 r hd hq=>by show (if D h then _ else _)=_;rw [if_pos hd,hq]
 have used' :∀ h k,Eb.H h=some k->¬ D h:=fun h k hx hd=>hm h hd.1 hd.2 (hEb.used _ _ hx);have hw0:Eb.w.heap.size<=Ec.w.heap.size:=hEc.keeps.size;have hB0:B.w0.heap.size<=Eb.w.heap.size:=hEb.keeps.size;have same :∀ b,b<Eb.w.heap.size->Ec.w.heap[b]?=Eb.w.heap[b]?:=fun b hb=>hEc.keeps.block b hb (fun h=>h)
 have newb :∀ h0 r b,(h0,r)∈acc->Ec.ρ h0=some b->Eb.w.heap.size<=b:=fun h0 r b hq hb=>by
  obtain ⟨ver,hx⟩:=ha.row _ _ hq;rcases hEc.own _ _ _ hx hb with h|h
  ·exact h.elim
  ·exact h
 have X:Ext Eb E':=by
  refine ⟨fun _ h=> .inl h,fun _ h=> .inl h,fun b hb=>same b (hEb.stab b hb),fun h cs hu hx=>?_,fun h ver rw t xs hu hv hx=>?_,fun h ver esz cs hu hv hx=>?_,fun h es hu hx=>?_,fun h kk t x hu hx=>?_⟩
  case refine_5=>
   have hd :¬ D h:=fun hd=>hm h hd.1 hd.2 hu;rw [hHn h hd] at hx;exact ⟨⟨x,hx⟩,hρn h hd⟩
  ·have hd :¬ D h:=fun hd=>hm h hd.1 hd.2 hu;rw [hHn h hd] at hx;exact ⟨⟨cs,hx⟩,hρn h hd⟩
  ·have hd :¬ D h:=fun hd=>hm h hd.1 hd.2 hu;rw [hHn h hd] at hx;exact ⟨rw,xs,hx,rfl,hρn h hd,fun b c T fr hb hw=>⟨c,T,fr,by rw [show E'.w=Ec.w from rfl,same b (hEb.lt _ _ _ hx hb)];exact hw,rfl⟩⟩
  ·have hd :¬ D h:=fun hd=>hm h hd.1 hd.2 hu;rw [hHn h hd] at hx;exact ⟨cs,hx,rfl,hρn h hd,fun b c T fr hb hw=>⟨c,T,fr,by rw [show E'.w=Ec.w from rfl,same b (hEb.lt _ _ _ hx hb)];exact hw,rfl⟩⟩
  ·have hd :¬ D h:=fun hd=>hm h hd.1 hd.2 hu;rw [hHn h hd] at hx;exact ⟨⟨es,hx⟩,hρn h hd⟩
 have tN :∀ {h k b},¬ D h->Eb.H h=some k->fJ E' h k b->fJ Eb h k b:=fun hd hx ht=>ht.mv (hρn _ hd) fun b hb=>same b (hEb.lt _ _ _ hx hb)
 have R:aM B E':=by
  refine ⟨fun h k hx=>?_,fun b hs=>?_,fun h k b hx hb=>?_,fun h h' k k' b h1 h2 b1 b2=>?_,fun h k hx=>?_,?_,fun h k b hx hb=>?_,fun b hs=> .inl (hEb.s0 b hs),fun b hs=>?_⟩
  ·by_cases hd:D h
   ·exact .inr hd
   ·rw [hHn h hd] at hx;exact .inl (hEb.used _ _ hx)
  ·rcases hs with hs|hs
   ·exact Nat.lt_of_lt_of_le (hEb.stab b hs) hw0
   ·exact hEc.stab b hs.1
  ·by_cases hd:D h
   ·obtain ⟨h0,r,hq,rfl⟩:=hHd h k hd hx
    replace hb:=hb.of rfl
    rw [hρd h h0 r hd hq] at hb;obtain ⟨ver,hx0⟩:=ha.row _ _ (List.mem_of_getElem? hq);exact hEc.lt _ _ _ hx0 hb
   ·rw [hHn h hd] at hx;exact Nat.lt_of_lt_of_le (hEb.lt' _ _ _ hx (tN hd hx hb)) hw0
  ·have mix :∀ h h' k k',D h->¬ D h'->E'.H h=some k->E'.H h'=some k'->fJ E' h k b->fJ E' h' k' b->False:=fun h h' k k' hd hd' h1 h2 b1 b2=>by
    obtain ⟨h0,r,hq,rfl⟩:=hHd h k hd h1
    replace b1:=b1.of rfl
    rw [hρd h h0 r hd hq] at b1;rw [hHn h' hd'] at h2;have h3:=newb _ _ _ (List.mem_of_getElem? hq) b1;have h4:=hEb.lt' _ _ _ h2 (tN hd' h2 b2);omega
   by_cases hd:D h <;> by_cases hd':D h'
   ·obtain ⟨a0,r,hq,rfl⟩:=hHd h k hd h1;obtain ⟨a0',r',hq',rfl⟩:=hHd h' k' hd' h2
    replace b1:=b1.of rfl
    replace b2:=b2.of rfl
    rw [hρd h _ _ hd hq] at b1;rw [hρd h' _ _ hd' hq'] at b2;obtain ⟨_,x1⟩:=ha.row _ _ (List.mem_of_getElem? hq);obtain ⟨_,x2⟩:=ha.row _ _ (List.mem_of_getElem? hq');have e:=hEc.inj _ _ _ _ _ x1 x2 b1 b2;have n1 :(acc.map (·.1))[h - m]?=some a0:=by simp [hq]
    have n2 :(acc.map (·.1))[h' - m]?=some a0:=by simp [hq',e]
    have hl:h - m <(acc.map (·.1)).length:=by
     rcases Nat.lt_or_ge (h - m) (acc.map (·.1)).length with h1|h1
     ·exact h1
     ·rw [List.getElem?_eq_none h1] at n1;cases n1
    have:=(List.getElem?_inj hl ha.nodup).1 (n1.trans n2.symm)
    have:=hd.1;have:=hd'.1
    omega
   ·exact (mix h h' k k' hd hd' h1 h2 b1 b2).elim
   ·exact (mix h' h k' k hd' hd h2 h1 b2 b1).elim
   ·rw [hHn h hd] at h1;rw [hHn h' hd'] at h2;exact hEb.inj' _ _ _ _ _ h1 h2 (tN hd h1 b1) (tN hd' h2 b2)
  ·by_cases hd:D h
   ·obtain ⟨h0,r,hq,rfl⟩:=hHd h k hd hx;have hmem:=List.mem_of_getElem? hq;obtain ⟨ver,hx0⟩:=ha.row _ _ hmem;obtain ⟨_,hbl⟩:=hEc.blk _ _ hx0;refine ⟨.inr hd,?_⟩;rw [hρd h h0 r hd hq];rcases hbl with hbl |⟨b,c,T,fr,k1,k2,k3,k4,k5,k6,k7,k8⟩
    ·exact .inl hbl
    ·refine .inr ⟨b,c,T,fr,k1,k2,k3,fun _ hs=>?_,(fun h=>by cases h),k6,k7,fun i hi=>?_⟩
     ·rcases hs with hs|hs
      ·have h3:=hEb.stab b hs;have h4:=newb _ _ _ hmem k1;omega
      ·exact k4 rfl hs.1
     ·rcases hfl with hfl|hfl
      ·refine (k8 i hi).ext (fun b hs=>?_) (fun b _=>rfl);rcases hEc.sb b hs with h|h|h
       ·exact .inl (hfl b h)
       ·exact h.elim
       ·exact .inr ⟨hs,h⟩
      ·exact (k8 i hi).fh (hfl _ hmem)
   ·have hx':=hx;rw [hHn h hd] at hx';refine di X (hρn h hd) (fun b hb=>same b (hEb.lt' _ _ _ hx' hb)) (fun b hb _ hs hs'=>?_) (hEb.blk _ _ hx');rcases hs' with hs'|hs'
    ·exact hs hs'
    ·have h4:=hEb.lt' _ _ _ hx' hb
     have:=hs'.2
     omega
  ·exact hEb.keeps.trans hEc.keeps (fun b h=>h.elim)
  ·by_cases hd:D h
   ·obtain ⟨h0,r,hq,rfl⟩:=hHd h k hd hx
    replace hb:=hb.of rfl
    rw [hρd h h0 r hd hq] at hb;exact .inr (Nat.le_trans hB0 (newb _ _ _ (List.mem_of_getElem? hq) hb))
   ·rw [hHn h hd] at hx;exact hEb.own' _ _ _ hx (tN hd hx hb)
  ·rcases hs with hs|hs
   ·exact hEb.sb b hs
   ·exact .inr (.inr (Nat.le_trans hB0 hs.2))
 refine ⟨E',⟨R,X,rfl,rfl,fun n h=>h⟩,fun i h0 r hq=>?_,fun hs b hb=>?_⟩
 ·have hi:i<acc.length:=by
   rcases Nat.lt_or_ge i acc.length with h1|h1
   ·exact h1
   ·rw [List.getElem?_eq_none h1] at hq;cases hq
  have hd:D (m+i):=⟨by omega,by omega⟩;refine ⟨.inr hd,hρd _ h0 r hd (by rw [Nat.add_sub_cancel_left];exact hq),?_⟩;show aQ Eb.H _ (m+i)=_;unfold aQ;rw [hfind,if_pos ⟨by omega,by omega⟩,Nat.add_sub_cancel_left,hq];rfl
 ·rcases hEc.sb b hb with h|h|h
  ·exact .inl (hs b h)
  ·exact h.elim
  ·exact .inr ⟨hb,h⟩
theorem gK {α:Type} :∀ (l:List α) (n i:Nat),find (dz n l) i=if n<=i then l[i - n]? else none
 | [],n,i=>by simp [dz,find]
 | x::l,n,i=>by
  simp only [dz,find]
  cases hb:Nat.beq n i with
  | true=>obtain rfl:=Nat.eq_of_beq_eq_true hb;simp
  | false=>
   have hne:n≠i:=fun e=>by subst e;rw [Nat.beq_refl] at hb;cases hb
   simp only [cond_false];rw [gK l (n+1) i];by_cases hc:n<=i
   ·rw [if_pos hc,if_pos (by omega)]
    have:i - n =(i - (n+1))+1:=by omega
    rw [this,List.getElem?_cons_succ]
   ·rw [if_neg hc,if_neg (by omega)]
structure BV (B:aK) (E:Env) (n:Nat) (dh:List (Nat×bd)) (E':Env):Prop where
 rel:aM B E'
 ext:Ext E E'
 w:E'.w=E.w
 h:E'.H=aQ E.H dh
 u :∀ k,E'.U k->k<n+dh.length
theorem BV.refl {B:aK} {E:Env} (hE:aM B E) {n:Nat} (hn :∀ k,E.U k->k<n):BV B E n [] E:=
 ⟨hE,Ext.refl E,rfl,by funext h;simp [aQ,find],by simpa using hn⟩
theorem BV.trans {B:aK} {E E1 E2:Env} {n:Nat} {d1 d2:List (Nat×bd)} (h1:BV B E n d1 E1) (h2:BV B E1 (n+d1.length) d2 E2):BV B E n (d2++d1) E2:=
 ⟨h2.rel,h1.ext.trans h2.ext,h2.w.trans h1.w,by rw [h2.h,h1.h,cY],fun k hk=>by have:=h2.u k hk;simp only [List.length_append];omega⟩
theorem JZ {B:aK} {E:Env} (hE:aM B E) {n:Nat} (hn :∀ k,E.U k->k<n) (t:Ty) :∃ E',BV B E n [(n,.row n true t [])] E'/\ae E' (.osl n n) (.slice none 0 0):=by
 have hnot :¬ E.U n:=fun h=>Nat.lt_irrefl _ (hn n h)
 obtain ⟨R,X⟩:=nX hE n (.row n true t []) none E.w (fun k=>E.U k\/k=n) (fun _ h=> .inl h) (.inr rfl) (dA.refl _ _) (fun b h=>by cases h) (fun b h=>by cases h) (fun cs h=>by cases h) (fun _ _ _ _ _ h=>absurd h hnot)
  (fun _=>⟨.inr rfl,.inl ⟨aE _ _ _,rfl⟩⟩)
 refine ⟨_,⟨R,X,rfl,(cL _ _ _).symm,fun k hk=>?_⟩,?_⟩
 ·rcases hk with hk|rfl
  ·have:=hn k hk;simp only [List.length_cons,List.length_nil];omega
  ·simp
 ·simp only [ae];exact ⟨.inr trivial,.inr trivial,⟨_,_,_,rfl⟩,fun rw t' xs hx=> .inl ⟨aE _ _ _,_,rfl⟩⟩
theorem qY {B:aK} :∀ (ts:List (Option Ty)) (cs:List V) (n:Nat) (E:Env) (vs:List Value),aM B E->(∀ k,E.U k->k<n)->ai E cs vs->
  ∃ E',BV B E n (ud ts cs n).2 E'/\ai E' (ud ts cs n).1 vs
 | [],cs,n,E,vs,hE,hn,hv=>⟨E,by simpa [ud] using BV.refl hE hn,by simpa [ud] using hv⟩
 | _::_,[],n,E,vs,hE,hn,hv=>⟨E,by simpa [ud] using BV.refl hE hn,by simpa [ud] using hv⟩
 | o::ts,c::cs,n,E,vs,hE,hn,hv=>by
  cases vs with
  | nil=>simp [ai] at hv
  | cons v vs=>
   simp only [ai] at hv;simp only [ud];split
   ·rename_i t;have hv1:=hv.1;simp only [ae] at hv1;subst hv1;obtain ⟨E1,M1,r1⟩:=JZ hE hn t;obtain ⟨E2,M2,r2⟩:=qY ts cs (n+1) E1 vs M1.rel (fun k hk=>by simpa using M1.u k hk) (bD M1.ext _ _ hv.2);exact ⟨E2,M1.trans M2,by simp only [ai];exact ⟨ca M2.ext _ _ r1,r2⟩⟩
   ·obtain ⟨E2,M2,r2⟩:=qY ts cs n E vs hE hn hv.2;exact ⟨E2,M2,by simp only [ai];exact ⟨ca M2.ext _ _ hv.1,r2⟩⟩
theorem xk {B:aK} {E:Env} (hE:aM B E) {n:Nat} (hn :∀ k,E.U k->k<n) (o:Option Ty) {v:V} {u:Value} (hv:ae E v u) :∃ E',BV B E n (OM o v n).2 E'/\ae E' (OM o v n).1 u:=by
 unfold OM;split
 ·split
  ·rename_i ty _ cs;simp only [ae] at hv;obtain ⟨l,rfl,hl⟩:=hv;obtain ⟨E',M,r⟩:=qY (BG gb ty) cs n E l.toList hE hn hl;exact ⟨E',M,by simp only [ae];exact ⟨l,rfl,r⟩⟩
  ·split
   ·simp only [ae] at hv;subst hv;exact JZ hE hn _
   ·exact ⟨E,BV.refl hE hn,hv⟩
  ·exact ⟨E,BV.refl hE hn,hv⟩
 ·exact ⟨E,BV.refl hE hn,hv⟩
theorem xj {B:aK} (tb:bG) :∀ (ts:List TypeId) (vs:List V) (n:Nat) (E:Env) (us:List Value),aM B E->(∀ k,E.U k->k<n)->ai E vs us->
  ∃ E',BV B E n (yS tb ts vs n).2 E'/\ai E' (yS tb ts vs n).1 us
 | [],vs,n,E,us,hE,hn,hv=>⟨E,by simpa [yS] using BV.refl hE hn,by simpa [yS] using hv⟩
 | _::_,[],n,E,us,hE,hn,hv=>⟨E,by simpa [yS] using BV.refl hE hn,by simpa [yS] using hv⟩
 | t::ts,v::vs,n,E,us,hE,hn,hv=>by
  cases us with
  | nil=>simp [ai] at hv
  | cons u us=>simp only [ai] at hv;simp only [yS];obtain ⟨E1,M1,r1⟩:=xk hE hn (ZX tb t) hv.1;obtain ⟨E2,M2,r2⟩:=xj tb ts vs _ E1 us M1.rel M1.u (bD M1.ext _ _ hv.2);exact ⟨E2,M1.trans M2,by simp only [ai];exact ⟨ca M2.ext _ _ r1,r2⟩⟩
theorem H8 {B:aK} {E:Env} (hE:aM B E) {n:Nat} (hn :∀ k,E.U k->k<n) (tb:bG) (ts:List TypeId) {v:V} {u:Value} (hv:ae E v u) :∃ E',BV B E n (C2 tb ts v n).2 E'/\ae E' (C2 tb ts v n).1 u:=by
 unfold C2;split
 ·exact xk hE hn _ hv
 ·split
  ·rename_i vs;simp only [ae] at hv;obtain ⟨l,rfl,hl⟩:=hv;obtain ⟨E',M,r⟩:=xj tb ts vs n E l.toList hE hn hl;exact ⟨E',M,by simp only [ae];exact ⟨l,rfl,r⟩⟩
  ·exact ⟨E,BV.refl hE hn,hv⟩
def aed (_:aK) (Q:V->List RowD->Prop) (tb:bG) (rs:List ResultVar) (ts:List TypeId) (st:St):Lf->Dl->Nat->Prop
 | .ext _,_,_=>False
 | _,d,nx=>∃ v0 v acc,sI tb (d.tm++st.tm) (aQ st.H d.hp) rs=some v0/\iY (aQ (aQ st.H d.hp) (C2 tb ts v0 nx).2) (C2 tb ts v0 nx).1 []=some (v,acc)/\Q v (acc.map (·.2))
theorem kI {B:aK} {Q:V->List RowD->Prop} {tb:bG} {rs:List ResultVar} {ts:List TypeId} {st:St} :∀ {t:Tr},(zf tb rs ts st t).sat Q->t.sat (aed B Q tb rs ts st)
 | .leaf (.ext _) _ _,h=>h.elim
 | .leaf .nrm d nx,h=>by
  simp only [zf] at h;split at h
  case h_2=>exact h.elim
  rename_i v0 hv;split at h
  case h_2=>exact h.elim
  rename_i v acc hc;exact ⟨v0,v,acc,hv,hc,h⟩
 | .leaf .ret d nx,h=>by
  simp only [zf] at h;split at h
  case h_2=>exact h.elim
  rename_i v0 hv;split at h
  case h_2=>exact h.elim
  rename_i v acc hc;exact ⟨v0,v,acc,hv,hc,h⟩
 | .br b t e,h=>⟨fun hb=>kI (h.1 hb),fun hb=>kI (h.2 hb)⟩
 | .need p t,h=>⟨h.1,kI h.2⟩
 | .both t u,h=>⟨kI h.1,kI h.2⟩
 | .when b t,h=>fun hb=>kI (h hb)
 | .done,h=>h
 | .bad,h=>h
theorem HD {C:Cfg} (hC:CfgOK P C) (hP:P.follows .mixedOrders=true) {Λ:Nat->Option aw} {f:FuncId} {fn:Func} (hf:P.funcs[f]?=some fn) (hN:C.N=fn.ntmps)
  (hΛ :∀ c,fn.body=some c->∀ b∈bF Λ c,∀ L,Λ (fo b)=some L->dU P C.N b L) {args:List V} {Q:V->List RowD->Prop} (h :(dD C Λ fn args).sat Q)
  {B:aK} {E:Env} (hE:aM B E) (hF:B.free) (hB:B.dfs=[]) (hH:E.H=fun _=>none) (hU :∀ n,¬ E.U n) {av:List Value} (hav:ai E args av) (hlen:av.length<=fn.ntmps) :
  Calls P f av.toArray E.w fun e w'=>∃ Ec v' v0 v acc,e = .returned v'/\aM B Ec/\Ec.w=w'/\ae Ec v0 v'/\iY Ec.H v0 []=some (v,acc)/\Q v (acc.map (·.2)):=by
 unfold dD at h;split at h
 case h_2=>exact h.elim
 rename_i c hc;refine calls_of_wp hf hc ?_;have hs:=kI (B:=B) h;refine cS hC hP (B:=B) c (fun b hb L hL=>dU.Ji (hΛ c hc b hb L hL) hF) (nD args) _ _ hs (fun e d nx a w hq hat=>?_) _ _ ?_
 ·obtain ⟨⟨Ec,hEc,rfl,hHc,hUc,hT⟩,hsz,hdf⟩:=hat
  have fin :(∃ v0 v acc,sI C.tb (d.tm ++(nD args).tm) (aQ (nD args).H d.hp) fn.results.toList=some v0/\iY (aQ (aQ (nD args).H d.hp) (C2 C.tb fn.resultTypes.toList v0 nx).2) (C2 C.tb fn.resultTypes.toList v0 nx).1 []=some (v,acc)/\Q v (acc.map (·.2)))->
    ∃ v',(results fn a.tmps).run P Ec.w = .ok v' Ec.w/\∃ Ec' v'' v0 v acc,(Ending.returned v') = .returned v''/\aM B Ec'/\Ec'.w=Ec.w/\ae Ec' v0 v''/\iY Ec'.H v0 []=some (v,acc)/\Q v (acc.map (·.2)):=fun ⟨v0,v,acc,h1,h2,h3⟩=>by
   rw [<-hHc] at h1 h2;obtain ⟨v',k1,k2⟩:=rn hEc hC.tb hT h1;obtain ⟨Em,Mm,k3⟩:=H8 hEc hUc.2 C.tb fn.resultTypes.toList k2;rw [<-Mm.h] at h2;exact ⟨v',k1,Em,v',_,v,acc,rfl,Mm.rel,Mm.w,k3,h2,h3⟩
  cases e with
  | ext id=>exact hq.elim
  | nrm=>exact ⟨hdf.trans hB,fin hq⟩
  | ret=>exact ⟨hdf.trans hB,fin hq⟩
 ·refine ⟨⟨E,hE,rfl,?_,⟨hF E,fun n hn=>absurd hn (hU n)⟩,fun s v hv=>?_⟩,?_,hB.symm⟩
  ·rw [hH];rfl
  ·simp only [nD,gK,Nat.zero_le,if_true,Nat.sub_zero] at hv;obtain ⟨v',h1,h2⟩:=eQ hav s v hv
   have :(av.toArray++Array.replicate (fn.ntmps - av.toArray.size) undef).getD s undef=v':=by
    rw [Array.getD_eq_getD_getElem?]
    have hl:s<av.toArray.size:=by
     rcases Nat.lt_or_ge s av.length with h3|h3
     ·simpa using h3
     ·rw [List.getElem?_eq_none h3] at h1;cases h1
    rw [Array.getElem?_append_left hl];simp [h1]
   rw [this];exact h2
  ·simp only [Array.size_append,Array.size_replicate,List.size_toArray];omega
def wQ (b:Bool) (p:Prop):Prop:=match b with|true=>p|false=>False
theorem b7 {b:Bool} {p:Prop}:wQ b p↔b=true/\p:=by cases b <;> simp [wQ]
mutual
def hZ:V->V->Prop
 | .any,.any=>True
 | .int k n,.int k' n'=>wQ (decide (k=k')) (n=n')
 | .bool b,.bool b'=>b=b'
 | .bool b,.kb b'=>b=b'
 | .kb b,.bool b'=>b=b'
 | .kb b,.kb b'=>b=b'
 | .str s,.str s'=>s=s'
 | .nilptr,.nilptr=>True
 | .nilfn,.nilfn=>True
 | .nilmap,.nilmap=>True
 | .nilsl,.nilsl=>True
 | .esl,.esl=>True
 | .nilsl,.fsl _ xs=>xs=[]
 | .esl,.fsl _ xs=>xs=[]
 | .fsl t xs,.fsl t' xs'=>RowD.mk t xs=RowD.mk t' xs'
 | .osl h ver,.osl h' ver'=>h=h'/\ver=ver'
 | .agg cs,.agg cs'=>xd cs cs'
 | .tup cs,.tup cs'=>xd cs cs'
 | _,_=>False
def xd:List V->List V->Prop
 | [],[]=>True
 | x::xs,y::ys=>hZ x y/\xd xs ys
 | _,_=>False
end
mutual
theorem ua {E:Env} {m:Nat} :∀ (x y:V) (u:Value),hZ x y->ae E (x.shift m) u->ae E (y.shift m) u
 | x,.any,u,h,hv=>by simp [V.shift,ae]
 | x,.int k n,u,h,hv=>by cases x <;> simp only [hZ] at h;obtain ⟨h1,rfl⟩:=b7.1 h;obtain rfl:=of_decide_eq_true h1;exact hv
 | x,.bool b,u,h,hv=>by cases x <;> simp only [hZ] at h <;> subst h <;> simpa [V.shift,ae] using hv
 | x,.kb b,u,h,hv=>by cases x <;> simp only [hZ] at h <;> subst h <;> simpa [V.shift,ae] using hv
 | x,.str b,u,h,hv=>by cases x <;> simp only [hZ] at h <;> subst h <;> exact hv
 | x,.nilptr,u,h,hv=>by cases x <;> simp only [hZ] at h;exact hv
 | x,.nilfn,u,h,hv=>by cases x <;> simp only [hZ] at h;exact hv
 | x,.nilmap,u,h,hv=>by cases x <;> simp only [hZ] at h;exact hv
 | x,.nilsl,u,h,hv=>by cases x <;> simp only [hZ] at h;exact hv
 | x,.esl,u,h,hv=>by cases x <;> simp only [hZ] at h;exact hv
 | x,.fsl t xs,u,h,hv=>by
  cases x <;> simp only [hZ] at h
  ·subst h;simp only [V.shift,ae] at hv ⊢;subst hv;exact .nil
  ·subst h;simp only [V.shift,ae] at hv ⊢;obtain ⟨a,rfl⟩:=hv;exact .nil
  ·cases h;exact hv
 | x,.osl t xs,u,h,hv=>by cases x <;> simp only [hZ] at h;obtain ⟨rfl,rfl⟩:=h;exact hv
 | x,.agg cs,u,h,hv=>by cases x <;> simp only [hZ] at h;simp only [V.shift,ae] at hv ⊢;obtain ⟨l,rfl,hl⟩:=hv;exact ⟨l,rfl,qV _ _ _ h hl⟩
 | x,.tup cs,u,h,hv=>by cases x <;> simp only [hZ] at h;simp only [V.shift,ae] at hv ⊢;obtain ⟨l,rfl,hl⟩:=hv;exact ⟨l,rfl,qV _ _ _ h hl⟩
 | x,.ptr _ _,u,h,hv=>by cases x <;> simp only [hZ] at h
 | x,.fp _ _ _ _,u,h,hv=>by cases x <;> simp only [hZ] at h
 | x,.rp _ _ _ _,u,h,hv=>by cases x <;> simp only [hZ] at h
 | x,.fn _ _,u,h,hv=>by cases x <;> simp only [hZ] at h
 | x,.hint _ _,u,h,hv=>by cases x <;> simp only [hZ] at h
 | x,.gsl _ _ _ _ _,u,h,hv=>by cases x <;> simp only [hZ] at h
 | x,.gp _ _ _,u,h,hv=>by cases x <;> simp only [hZ] at h
 | x,.mpv _,u,h,hv=>by cases x <;> simp only [hZ] at h
 | x,.av _ _,u,h,hv=>by cases x <;> simp only [hZ] at h
theorem qV {E:Env} {m:Nat} :∀ (xs ys:List V) (us:List Value),xd xs ys->ai E (lL m xs) us->ai E (lL m ys) us
 | [],[],us,_,hv=>hv
 | [],_::_,_,h,_=>by simp [xd] at h
 | _::_,[],_,h,_=>by simp [xd] at h
 | x::xs,y::ys,us,h,hv=>by
  cases us with
  | nil=>simp [lL,ai] at hv
  | cons u us=>simp only [xd] at h;simp only [lL,ai] at hv ⊢;exact ⟨ua _ _ _ h.1 hv.1,qV _ _ _ h.2 hv.2⟩
end
mutual
theorem JR :∀ (x y:V),hZ x y->y.Ml=true->x.Ml=true
 | x,.any,h,_=>by cases x <;> simp only [hZ] at h;rfl
 | x,.int k n,h,_=>by cases x <;> simp only [hZ] at h;rfl
 | x,.bool b,h,_=>by cases x <;> simp only [hZ] at h <;> rfl
 | x,.kb b,h,_=>by cases x <;> simp only [hZ] at h <;> rfl
 | x,.str b,h,_=>by cases x <;> simp only [hZ] at h;rfl
 | x,.nilptr,h,_=>by cases x <;> simp only [hZ] at h;rfl
 | x,.nilfn,h,_=>by cases x <;> simp only [hZ] at h;rfl
 | x,.nilmap,h,_=>by cases x <;> simp only [hZ] at h;rfl
 | x,.nilsl,h,_=>by cases x <;> simp only [hZ] at h;rfl
 | x,.esl,h,_=>by cases x <;> simp only [hZ] at h;rfl
 | x,.fsl t xs,h,hf=>by simp [V.Ml] at hf
 | x,.osl t xs,h,_=>by cases x <;> simp only [hZ] at h;rfl
 | x,.agg cs,h,hf=>by cases x <;> simp only [hZ] at h;simp only [V.Ml] at hf ⊢;exact xe _ _ h hf
 | x,.tup cs,h,hf=>by cases x <;> simp only [hZ] at h;simp only [V.Ml] at hf ⊢;exact xe _ _ h hf
 | x,.ptr _ _,h,_=>by cases x <;> simp only [hZ] at h
 | x,.fp _ _ _ _,h,_=>by cases x <;> simp only [hZ] at h
 | x,.rp _ _ _ _,h,_=>by cases x <;> simp only [hZ] at h
 | x,.fn _ _,h,_=>by cases x <;> simp only [hZ] at h
 | x,.hint _ _,h,_=>by cases x <;> simp only [hZ] at h
 | x,.gsl _ _ _ _ _,h,_=>by cases x <;> simp only [hZ] at h
 | x,.gp _ _ _,h,_=>by cases x <;> simp only [hZ] at h
 | x,.mpv _,h,_=>by cases x <;> simp only [hZ] at h
 | x,.av _ _,h,_=>by cases x <;> simp only [hZ] at h
theorem xe :∀ (xs ys:List V),xd xs ys->Db ys=true->Db xs=true
 | [],[],_,_=>rfl
 | [],_::_,h,_=>by simp [xd] at h
 | _::_,[],h,_=>by simp [xd] at h
 | x::xs,y::ys,h,hf=>by simp only [xd] at h;simp only [Db,Bool.and_eq_true] at hf ⊢;exact ⟨JR _ _ h.1 hf.1,xe _ _ h.2 hf.2⟩
end
theorem ie {C:Cfg} (hC:CfgOK P C) (hP:P.follows .mixedOrders=true) {f:FuncId} {fn:Func} (hf:P.funcs[f]?=some fn) (hbody:fn.body.isSome=true) (hname :(fn.name == "runtime.NumGoroutine")=false) (hN:C.N=fn.ntmps)
  {ps:Ty} {spec:Den ps->mL} {Λ:Den ps->Nat->Option aw}
  (hΛ :∀ x:Den ps,zg ps x->(∀ p∈(spec x).sn,p)->∀ c,fn.body=some c->∀ b∈bF (Λ x) c,∀ L,Λ x (fo b)=some L->dU P C.N b L) (hlen :∀ x:Den ps,(fq ps x).length<=fn.ntmps)
  (h :∀ x:Den ps,zg ps x->(∀ p∈(spec x).sn,p)->(dD C (Λ x) fn (fq ps x)).sat fun v rows=>hZ v (spec x).v/\rows =(spec x).rows):aR P C.K f (bq C.K ps spec):=by
 refine ⟨⟨fn,hf,hbody,hname⟩,fun B E hE args av hav m hm ps' v dh hct hps=>?_⟩;unfold bq at hct;simp only at hct;split at hct
 case h_2=>cases hct
 rename_i x hx
 cases hle:Nat.ble (spec x).rows.length C.K with
 | false=>rw [hle] at hct;cases hct
 | true=>
  rw [hle] at hct;simp only [cond_true,Option.some.injEq,Prod.mk.injEq] at hct;obtain ⟨rfl,rfl,rfl⟩:=hct;obtain ⟨hSE,XS⟩:=dI hE (tG args)
  let E0:Env:=⟨fun _=>False,fun _=>none,(cb E (tG args)).S,E.w,fun _=>none⟩
  have hE0:aM (Eu E.w (fun _=>False) (cb E (tG args)).S hE.JD) E0:=by refine ⟨fun h b hx=>?_,fun b hb=>hSE.stab b hb,fun h k b hx=>?_,fun h h' k k' b hx=>?_,fun h k hx=>?_,dA.refl _ _,fun h k b hx=>?_,fun _ h=>h,fun _ h=> .inl h⟩ <;> cases hx
  obtain ⟨hav0,cs,hrd⟩:=kr hSE (Ec:=E0) rfl rfl (bD XS _ _ hav) hx;have hwf:zg ps x:=⟨_,_,_,hrd⟩;have hl0:av.length<=fn.ntmps:=by rw [<-bk hav0];exact hlen x
  refine Calls.mono (HD hC hP hf hN (hΛ x hwf hps) (h x hwf hps) hE0 (fun _=>trivial) rfl rfl (fun _ h=>h) hav0 hl0) fun e w' hr=>?_;obtain ⟨Ec,v',v0,v,acc,rfl,hEc,rfl,hv,hcan,hq1,hq2⟩:=hr;have hcs:=vZ hEc m v0 [] v acc v' hcan hv;have hacc:=hcs.acc ⟨by simp,fun h r hr=>by simp at hr⟩
  have hlenK:acc.length<=C.K:=by
   have:=Nat.le_of_ble_eq_true hle
   rw [<-hq2] at this;simpa using this
  cases hfl :(spec x).flat with
  | true=>
   simp only [mL.flat,Bool.and_eq_true,List.all_eq_true] at hfl;obtain ⟨E',G,hren,_⟩:=Nb hE hm (S1:=(cb E (tG args)).S) (fun b hb=> .inl hb) hEc hacc hlenK (.inr fun q hq=>hfl.2 _ (by rw [<-hq2];exact List.mem_map_of_mem hq));refine ⟨E',v',rfl,?_,?_⟩
   ·simp only [cond_true,List.append_nil];rw [<-hq2];exact G
   ·exact ua _ _ _ hq1 (hcs.rel E' G.w (.inr (JR _ _ hq1 hfl.1)) hren)
  | false=>
   have hm' :∀ n,m<=n->n<m+C.K->¬(cb E (tG args)).U n:=hm;obtain ⟨E',G,hren,hs⟩:=Nb hSE hm' (S1:=(cb E (tG args)).S) (fun b hb=>hb) hEc hacc hlenK (.inl fun b hb=>hb);refine ⟨E',v',rfl,⟨G.rel,XS.trans G.ext,G.w,?_,G.u⟩,?_⟩
   ·rw [G.h,hq2];simp only [cond_false];rw [cY];congr 1;funext h;exact (mU E.H (tG args) h).symm
   ·exact ua _ _ _ hq1 (hcs.rel E' G.w (.inl (hs fun b hb=>hb)) hren)
end
end Go.aa
