/- Texts of the mirror and contracts, put together. -/
import Derived.Test.YtjcbhomccohklaaGreatDoorPC0
import Derived.DeepKeys3
import Derived.MapKept
namespace Go.Mir
section
open Go.RowKit
variable {P:Program}
theorem memN_iff {l:List Nat} {i:Nat}:memN l i=true↔i∈l:=by
 induction l with
 | nil=>simp [memN]
 | cons k r ih=>simp only [memN,Bool.or_eq_true,ih,List.mem_cons,Nat.beq_eq];exact ⟨fun h=>h.imp Eq.symm id,fun h=>h.imp Eq.symm id⟩
theorem roL_cells {H:aw} {L:List Nat} {h:Nat} {cs:List V}:roL H L h=some (.cells cs)↔H h=some (.cells cs):=by
 unfold roL
 cases hx:H h with
 | none=>simp
 | some k=>cases k <;> simp
theorem sj {H:aw} {L:List Nat} {h ver:Nat} {rw':Bool} {t:Ty} {xs:List (Den t)} (hr:roL H L h=some (.row ver rw' t xs)) :∃ rw,H h=some (.row ver rw t xs)∧rw' =(bif memN L h then false else rw):=by
 unfold roL at hr
 cases hx:H h with
 | none=>rw [hx] at hr;cases hr
 | some k=>
  rw [hx] at hr
  cases k with
  | row ver rw t xs=>simp only [Option.some.injEq] at hr;cases hr;exact ⟨rw,rfl,rfl⟩
  | _=>cases hr
theorem uu {H:aw} {L:List Nat} {h ver esz:Nat} {cs:List V} (hr:roL H L h=some (.grow ver esz cs)):H h=some (.grow ver esz cs):=by
 unfold roL at hr
 split at hr
 ·cases hr
 ·exact hr
theorem EM {H:aw} {L:List Nat} {h:Nat} {es:List (V×V)} (hr:roL H L h=some (.mp es)):H h=some (.mp es):=by
 unfold roL at hr
 split at hr
 ·cases hr
 ·exact hr
theorem Ai {H:aw} {L:List Nat} {h k:Nat} {t:Ty} {x:Den t} (hr:roL H L h=some (.abs k t x)):H h=some (.abs k t x):=by
 unfold roL at hr
 split at hr
 ·cases hr
 ·exact hr
theorem pL {H:aw} {L:List Nat} {h:Nat} {k:Blk} (hr:roL H L h=some k) :∃ k0,H h=some k0∧∀ w b,qQ w k b=qQ w k0 b:=by
 cases k with
 | cells cs=>exact ⟨_,roL_cells.1 hr,fun _ _=>rfl⟩
 | row ver rw t xs=>obtain ⟨rw0,h1,_⟩:=sj hr;exact ⟨_,h1,fun _ _=>rfl⟩
 | grow ver esz cs=>exact ⟨_,uu hr,fun _ _=>rfl⟩
 | mp es=>exact ⟨_,EM hr,fun _ _=>rfl⟩
 | abs k t x=>exact ⟨_,Ai hr,fun _ _=>rfl⟩
theorem Kw {H:aw} {L:List Nat} {h:Nat} {k:Blk} (hr:roL H L h=some k) :∃ k0,H h=some k0:=by
 unfold roL at hr
 cases hx:H h with
 | none=>rw [hx] at hr;cases hr
 | some k=>exact ⟨k,rfl⟩
def U4 (E:Env) (L:List Nat) (b:Nat):Prop:=∃ h,h∈L∧(∃ (ver:Nat) (rw:Bool) (t:Ty) (xs:List (Den t)),E.H h=some (.row ver rw t xs))∧E.ρ h=some b
def bh (E:Env) (L:List Nat):Env:=⟨E.U,E.ρ,fun b=>E.S b∨U4 E L b,E.w,roL E.H L⟩
theorem cx {B:Base} {E:Env} (hE:HRel B E) (L:List Nat):HRel B (bh E L)∧Ext E (bh E L):=by
 have X:Ext E (bh E L):=by
  refine ⟨fun _ h=>h,fun _ h=> .inl h,fun _ _=>rfl,fun h cs _ hx=>⟨⟨cs,roL_cells.1 hx⟩,rfl⟩,fun h ver rw' t xs _ _ hx=>?_,fun h ver esz cs _ _ hx=>⟨cs,uu hx,rfl,rfl,fun b c T fr _ hw=>⟨c,T,fr,hw,rfl⟩⟩,fun h es _ hx=>⟨⟨es,EM hx⟩,rfl⟩,fun h k t x _ hx=>⟨⟨x,Ai hx⟩,rfl⟩⟩
  obtain ⟨rw,h1,_⟩:=sj hx
  exact ⟨rw,xs,h1,rfl,rfl,fun b c T fr _ hw=>⟨c,T,fr,hw,rfl⟩⟩
 refine ⟨⟨fun h b hx=>?_,fun b hs=>?_,fun h k b hx hb=>?_,fun h1 h2 k1 k2 b x1 x2 b1 b2=>?_,fun h k hx=>?_,hE.keeps,fun h k b hx hb=>?_,fun b hs=> .inl (hE.s0 b hs),fun b hs=>?_⟩,X⟩
 ·obtain ⟨k0,h1⟩:=Kw hx;exact hE.used _ _ h1
 ·rcases hs with hs |⟨h,_,⟨ver,rw,t,xs,hx⟩,hb⟩
  ·exact hE.stab b hs
  ·exact hE.lt _ _ _ hx hb
 ·obtain ⟨k0,h1,h2⟩:=pL hx;exact hE.lt' _ _ _ h1 (hb.imp id fun ⟨b0,c1,c2⟩=>⟨b0,c1,by rw [←h2];exact c2⟩)
 ·obtain ⟨_,y1,z1⟩:=pL x1
  obtain ⟨_,y2,z2⟩:=pL x2
  exact hE.inj' _ _ _ _ _ y1 y2 (b1.imp id fun ⟨b0,c1,c2⟩=>⟨b0,c1,by rw [←z1];exact c2⟩) (b2.imp id fun ⟨b0,c1,c2⟩=>⟨b0,c1,by rw [←z2];exact c2⟩)
 ·have notS :∀ k0 b,E.H h=some k0→(∀ (ver:Nat) (rw:Bool) (t:Ty) (xs:List (Den t)),k0 = .row ver rw t xs→h∉L)→Tch E h k0 b→¬ E.S b→¬(bh E L).S b:=fun k0 b hk hnot hb hs hs'=>by
   rcases hs' with hs' |⟨h2,hm,⟨ver,rw,t,xs,hx2⟩,hb2⟩
   ·exact hs hs'
   ·have:=hE.inj' _ _ _ _ _ hk hx2 hb (.inl hb2)
    subst this
    rw [hk] at hx2
    exact hnot _ _ _ _ (Option.some.inj hx2) hm
  cases k with
  | cells cs=>
   have h0:=roL_cells.1 hx
   exact bX X rfl (fun _ _=>rfl) (fun b hb _ hs=>notS _ b h0 (fun _ _ _ _ e=>by cases e) hb hs) (hE.blk _ _ h0)
  | grow ver esz cs=>
   have h0:=uu hx
   exact bX X rfl (fun _ _=>rfl) (fun b hb _ hs=>notS _ b h0 (fun _ _ _ _ e=>by cases e) hb hs) (hE.blk _ _ h0)
  | abs kk t x=>
   have h0:=Ai hx
   exact bX X rfl (fun _ _=>rfl) (fun b hb _ hs=>notS _ b h0 (fun _ _ _ _ e=>by cases e) hb hs) (hE.blk _ _ h0)
  | mp es=>
   have h0:=EM hx
   exact bX X rfl (fun _ _=>rfl) (fun b hb _ hs=>notS _ b h0 (fun _ _ _ _ e=>by cases e) hb hs) (hE.blk _ _ h0)
  | row ver rw' t xs=>
   obtain ⟨rw,h0,e⟩:=sj hx
   obtain ⟨hu,hk⟩:=hE.blk _ _ h0
   refine ⟨hu,?_⟩
   rcases hk with ⟨k1,k2⟩ |⟨b,c,T,fr,k1,k2,k3,k4,k5,k6,k7,k8⟩
   ·exact .inl ⟨k1,k2⟩
   ·refine .inr ⟨b,c,T,fr,k1,k2,k3,fun e'=>?_,fun e'=>?_,k6,k7,fun i hi=>(k8 i hi).ext X.s X.keepS⟩
    ·cases hm:memN L h with
     | true=>rw [hm] at e;simp only [cond_true] at e;rw [e] at e';cases e'
     | false=>
      rw [hm] at e;simp only [cond_false] at e
      exact notS _ b h0 (fun _ _ _ _ _ hl=>by rw [memN_iff.2 hl] at hm;cases hm) (.inl k1) (k4 (by rw [←e];exact e'))
    ·cases hm:memN L h with
     | true=>exact .inr ⟨h,memN_iff.1 hm,⟨ver,rw,t,xs,h0⟩,k1⟩
     | false=>
      rw [hm] at e;simp only [cond_false] at e
      exact .inl (k5 (by rw [←e];exact e'))
 ·obtain ⟨k0,h1,h2⟩:=pL hx;exact hE.own' _ _ _ h1 (hb.imp id fun ⟨b0,c1,c2⟩=>⟨b0,c1,by rw [←h2];exact c2⟩)
 ·rcases hs with hs |⟨h,_,⟨ver,rw,t,xs,hx⟩,hb⟩
  ·exact hE.sb b hs
  ·exact .inr (hE.own _ _ _ hx hb)
theorem kJ (H:aw) (L:List Nat) (h:Nat):au H (eC H L) h=roL H L h:=by
 have key:find (eC H L) h=if h∈L then (match H h with|some (.row ver _ t xs)=>some (.row ver false t xs)|_=>none) else none:=by
  induction L with
  | nil=>simp [eC,find]
  | cons x L ih=>
   by_cases hx:x=h
   ·subst hx
    simp only [List.mem_cons,true_or,if_true]
    cases hH:H x with
    | none=>simp only [eC,hH];rw [ih];simp [hH]
    | some k=>
     cases k with
     | row ver rw t xs=>simp [eC,hH,find]
     | _=>simp only [eC,hH];rw [ih];simp [hH]
   ·have hmem:h∈x::L↔h∈L:=by simp [Ne.symm hx]
    have hs:find (eC H (x::L)) h=find (eC H L) h:=by
     cases hH:H x with
     | none=>simp only [eC,hH]
     | some k=>
      cases k with
      | row ver rw t xs=>
       simp only [eC,hH,find]
       cases hb:Nat.beq x h with
       | true=>exact absurd (Nat.eq_of_beq_eq_true hb) hx
       | false=>rfl
      | _=>simp only [eC,hH]
    rw [hs,ih]
    simp only [hmem]
 unfold au roL
 rw [key]
 by_cases hm:h∈L
 ·rw [if_pos hm]
  cases hH:H h with
  | none=>rfl
  | some k=>
   cases k with
   | row ver rw t xs=>simp [memN_iff.2 hm]
   | _=>rfl
 ·rw [if_neg hm]
  have hf:memN L h=false:=by cases hx:memN L h with|true=>exact absurd (memN_iff.1 hx) hm|false=>rfl
  cases hH:H h with
  | none=>rfl
  | some k=>
   cases k with
   | row ver rw t xs=>simp [hf]
   | _=>rfl
theorem pb (H:aw) (l r:List (Nat×Blk)):au H (l++r)=au (au H r) l:=by
 have key :∀ (l r:List (Nat×Blk)) (i:Nat),find (l++r) i=match find l i with|some v=>some v|none=>find r i:=fun l r i=>by
  induction l with
  | nil=>rfl
  | cons x l ih=>
   obtain ⟨k,v⟩:=x
   simp only [List.cons_append,find]
   cases Nat.beq k i with
   | true=>rfl
   | false=>simpa using ih
 funext h
 simp only [au,key]
 cases find l h <;> rfl
theorem Cy {E E':Env} (X:Ext E E') :∀ {parts:List (Nat×V)} {pv:List (Nat×Value)},nw E parts pv→nw E' parts pv
 | [],[],_=>trivial
 | _::_,[],h=>by simp [nw] at h
 | [],_::_,h=>by simp [nw] at h
 | _::_,_::_,h=>⟨h.1,bb X _ _ h.2.1,Cy X h.2.2⟩
theorem nq {B:Base} {E:Env} (hE:HRel B E) {tb:Tbl} (hT:a6 P tb) {t:TypeId} {td:TD} (ht:TDok P t td) (m:Nat) (hm :¬ E.U m) {n:Nat} {parts:List (Nat×V)} {pv:Array (Nat×Value)} (hp:nw E parts pv.toList)
  {ps:List Ob} {v:V} {dh:List (Nat×Blk)} (h:ej tb td E.H m n parts = .val ps v dh) :∃ v' w' E',(Instr.buildSlice t n pv).run P E.w = .ok v' w'∧Good B E m dh w' E'∧aa E' v v':=by
 unfold ej at h
 split at h
 case h_2=>exact iq hE hT ht m hm hp h
 cases he:Pc tb td with
 | false=>rw [he] at h;cases h
 | true=>
  rw [he] at h
  simp only [cond_true] at h
  unfold lR at h
  split at h
  ·rename_i ps' v0 dh' hb
   cases h
   obtain ⟨R,X⟩:=cx hE (hss (parts.map (·.2)))
   obtain ⟨v',w',E',h1,G,h3⟩:=iq (E:=bh E (hss (parts.map (·.2)))) R hT ht m hm (Cy X hp) (n:=n) (show cR tb td (bh E (hss (parts.map (·.2)))).H m n parts = .val ps v dh' from hb)
   refine ⟨v',w',E',h1,⟨G.rel,X.trans G.ext,G.w,?_,G.u⟩,h3⟩
   rw [G.h,pb]
   congr 1
   funext k
   exact (kJ E.H _ k).symm
  ·rename_i hne
   exact absurd h (hne _ _ _)
end
section
open Go.RowKit
variable {P:Program}
theorem fj {E:Env} {α:Type} (f:α→V) (g:α→Value) (h :∀ x,aa E (f x) (g x)) :∀ l:List α,ab E (l.map f) (l.map g)
 | []=>by simp [ab]
 | x::l=>by simp only [List.map_cons,ab];exact ⟨h x,fj f g h l⟩
structure GBlk (E:Env) (h esz off len:Nat) (cs:List V) (v:Value) (b cap:Nat) (c:Array Value) (T:TypeId) (fr:Nat×Nat):Prop where
 at_:E.ρ h=some b
 val:v = .slice (some ⟨b,off*esz,none⟩) len cap
 blk:E.w.heap[b]?=some (.cells c T fr)
 room :(off+cap)*esz≤c.size
 fits:len≤cap
 known :(off+len)*esz≤cs.length
 frz:pA fr c.size
 S :¬ E.S b
 rel:ab E cs (c.toList.take cs.length)
 le:cs.length≤c.size
theorem Bq {f:Nat→Option (Nat×Nat)} :∀ {parts:List (Nat×V)} {cs cs':List V},iw f cs parts=some cs'→cs'.length=cs.length
 | [],cs,cs',h=>by simp only [iw,Option.some.injEq] at h;rw [h]
 |(i,v)::ps,cs,cs',h=>by
  simp only [iw] at h
  split at h
  case h_2=>cases h
  split at h
  case h_2=>cases h
  split at h
  case isFalse=>cases h
  split at h
  case isFalse=>cases h
  rename_i h2
  rw [Bq h]
  unfold splice
  simp
  omega
theorem mQ {B:Base} {E:Env} (hE:HRel B E) {h ver esz off len:Nat} {cs:List V} (hH:E.H h=some (.grow ver esz cs)) {v:Value} (hv:aa E (.gsl h ver esz off len) v) :
  ∃ b cap c T fr,GBlk E h esz off len cs v b cap c T fr:=by
 simp only [aa] at hv
 obtain ⟨b,cap,c,T,fr,h1,h2,h3,h4,h5,h6⟩:=hv.2.2.2 _ hH
 obtain ⟨_,b',c',T',fr',k1,k2,k3,k4,k5⟩:=hE.blk _ _ hH
 rw [h1] at k1;cases k1
 rw [h3] at k2;cases k2
 have:=aI k5
 simp only [List.length_take,Array.length_toList] at this
 exact ⟨b,cap,c,T,fr,h1,h2,h3,h4,h5,h6,k3,k4,k5,by omega⟩
theorem vu {B:Base} {E:Env} (hE:HRel B E) {t:TypeId} {td:TD} (ht:TDok P t td) {a:V} {av:Value} (ha:aa E a av) {ps:List Ob} {v:V} {dh:List (Nat×Blk)} (h:fo td E.H a = .val ps v dh) :
  dh=[]∧∃ v',(Instr.loadAt t av).run P E.w = .ok v' E.w∧aa E v v':=by
 unfold fo at h
 split at h
 ·rename_i hh ver off
  split at h
  case h_2=>cases h
  rename_i ver' esz cs hH
  split at h
  case isFalse=>cases h
  rename_i e
  subst e
  simp only [aa] at ha
  obtain ⟨_,b,c,T,fr,k1,k2,k3,k4,k5⟩:=hE.blk _ _ hH
  obtain ⟨b',hb',rfl⟩:=ha.2.2.2 _ _ hH
  rw [k1] at hb';cases hb'
  have hl:=aI k5
  simp only [List.length_take,Array.length_toList] at hl
  have:=pg ht k2 (p:=0) (n:=cs.length) (by omega) (by simpa [seg] using k5) h
  simpa [Instr.loadAt,Instr.sureAddr] using this
 ·exact oR hE ht ha h
theorem iu {B:Base} {E:Env} (hE:HRel B E) {t:TypeId} {td:TD} (ht:TDok P t td) {a x:V} {av xv:Value} (ha:aa E a av) (hx:aa E x xv) (m:Nat) {ps:List Ob} {dh:List (Nat×Blk)} (h:cZ td E.H a x = .skip ps dh) :
  ∃ w' E',(Instr.storeAt t av xv).run P E.w = .ok () w'∧Good B E m dh w' E':=by
 unfold cZ at h
 split at h
 ·rename_i hh ver off
  split at h
  case h_2=>cases h
  rename_i xs hxs
  split at h
  case isFalse=>cases h
  rename_i hlen
  obtain ⟨hlen,hone⟩:=hlen
  split at h
  case h_2=>cases h
  rename_i ver' esz cs hH
  split at h
  case isFalse=>cases h
  rename_i hsz
  obtain ⟨e,hsz⟩:=hsz
  subst e
  cases h
  have hvs:=bp hx hxs
  have hvl:xv.cells.toList.length=td.size:=by rw [←aI hvs];exact hlen
  have hvl':xv.cells.size=td.size:=by simpa using hvl
  have h1c:=rR hone hvs
  simp only [aa] at ha
  obtain ⟨hU,b,c,T,fr,h1,h2,h3,h4,h5⟩:=hE.blk _ _ hH
  obtain ⟨b',hb',rfl⟩:=ha.2.2.2 _ _ hH
  rw [h1] at hb';cases hb'
  have hl:=aI h5
  simp only [List.length_take,Array.length_toList] at hl
  have run :(Instr.storeAt t (.pointer (some ⟨b,off,none⟩)) xv).run P E.w = .ok () (E.w.setCells b off xv.cells.toList):=by
   have:=run_storeCells_cells (P:=P) b off xv.cells.toList 0 E.w (fun j hj=>by rw [fZ h2];simp;omega) (fun j hj=>mO h2 h3 (by omega)) h1c
   simp only [Instr.storeAt,Instr.sureAddr,storeVar,Sem.run_bind,Sem.run_pure,Result.andThen_ok,ht.sizeOf,hvl',ne_eq,not_true_eq_false,if_false,this,Nat.add_zero]
  obtain ⟨c',g1,g2⟩:=di b xv.cells.toList off E.w c h2 (by omega)
  have hcs:c'.size=c.size:=by
   have:=congrArg List.length g2
   simp at this
   omega
  have hsl :(splice cs off xs).length=cs.length:=by
   unfold splice;simp;omega
  obtain ⟨R,X⟩:=ju hE hh (.grow ver esz (splice cs off xs)) (some b) (E.w.setCells b off xv.cells.toList) E.U (fun _ h=>h) (hE.used _ _ hH)
   (cL b (fun b1=>some b=some b1) rfl _ _ _) (fun b1 e=>by cases e;exact .inr ⟨h1,_,hH,rfl⟩) (fun b1 e=>by cases e;exact h4) (fun _ e _=>by cases e) (fun _ _ _ _ e=>by cases e)
   (fun X=>⟨hU,b,c',T,fr,ah _ _ _,g1,iI h3 hcs,h4,by
    rw [g2,hsl]
    have h6:=gZ (aR X _ _ h5) (aR X _ _ hvs) off
    have e :(c.toList.take off++xv.cells.toList++c.toList.drop (off+xv.cells.toList.length)).take cs.length =(c.toList.take cs.length).take off++xv.cells.toList ++(c.toList.take cs.length).drop (off+xv.cells.toList.length):=by
     have e1 :(c.toList.take off++xv.cells.toList).length=off+td.size:=by simp only [List.length_append,List.length_take,Array.length_toList,hvl];omega
     rw [List.take_append,List.take_of_length_le (by rw [e1];exact hsz),e1,List.take_take,Nat.min_eq_left (by omega),hvl]
     congr 1
     rw [List.drop_take]
    rw [e]
    exact h6⟩)
   (fun ver2 esz2 cs2 e _ _=>by
    cases e
    exact ⟨cs,hH,hsl.symm,h1.symm,fun b2 c2 T2 fr2 hb2 hw2=>by
     rw [h1] at hb2;cases hb2
     rw [h2] at hw2;cases hw2
     exact ⟨c',T,fr,g1,hcs⟩⟩)
  exact ⟨_,_,run,R,X,rfl,(bn _ _ _).symm,fun _ h=> .inl h⟩
 ·exact vy hE ht ha hx m h
theorem sR {E:Env} {tb:Tbl} (hT:a6 P tb) {t:TypeId} {td:TD} (ht:TDok P t td) {x:V} {xv:Value} (hx:aa E x xv) {f:Nat} {ps:List Ob} {v:V} {dh:List (Nat×Blk)}
  (h:jR tb td x f = .val ps v dh):dh=[]∧∃ v',(Instr.fieldAt t xv f).run P E.w = .ok v' E.w∧aa E v v':=by
 unfold jR at h
 split at h
 ·rename_i hh ver off
  split at h
  case h_2=>cases h
  rename_i fs hk
  have hkd:=ht.kind
  rw [hk] at hkd
  obtain ⟨fields,hu,hfs⟩:=hkd
  split at h
  case h_2=>cases h
  rename_i o ft hf
  obtain ⟨fl,h1,h2,h3⟩:=ln hfs hf
  split at h
  case h_2=>cases h
  rename_i tf htf
  have htf':=hT _ _ htf
  split at h
  case isTrue=>cases h
  rename_i hsz
  cases h
  have run' :∀ (a:Addr),(Instr.fieldAt t (.pointer (some a)) f).run P E.w = .ok (.pointer (some (a.add o))) E.w:=fun a=>by
   simp [Instr.fieldAt,run_underlying hu,h1,Instr.sureAddr,fieldPlace,h3,htf'.sizeOf,hsz,h2]
  refine ⟨rfl,?_⟩
  simp only [aa] at hx ⊢
  obtain ⟨a,rfl⟩:=hx.2.2.1
  refine ⟨_,run' a,hx.1,hx.2.1,⟨_,rfl⟩,fun esz cs hcs=>?_⟩
  obtain ⟨b,hb,he⟩:=hx.2.2.2 _ _ hcs
  cases he
  exact ⟨b,hb,by rw [bq]⟩
 ·exact vp hT ht hx h
theorem sV {B:Base} {E:Env} (hE:HRel B E) {tb:Tbl} (hT:a6 P tb) {t:TypeId} {td:TD} (ht:TDok P t td) {x i:V} {xv iv:Value} (hx:aa E x xv) (hi:aa E i iv) {ps:List Ob} {v:V} {dh:List (Nat×Blk)}
  (h:dC tb td E.H x i = .val ps v dh) (hps :∀ p∈ps,p.holds):dh=[]∧∃ v',(Instr.indexAt t xv iv).run P E.w = .ok v' E.w∧aa E v v':=by
 unfold dC at h
 have hkd:=ht.kind
 split at h
 ·rename_i hh ver esz off len
  split at h
  case h_2=>cases h
  rename_i k n
  simp only [aa] at hi
  obtain ⟨rfl,_⟩:=hi
  split at h
  case h_2=>cases h
  rename_i e hk
  rw [hk] at hkd
  simp only [aN] at hkd
  split at h
  case h_2=>cases h
  rename_i te hte
  have hte':=hT _ _ hte
  split at h
  case h_2=>cases h
  rename_i ver' esz' cs hH
  split at h
  case isFalse=>cases h
  rename_i hc
  obtain ⟨hsz,rfl,rfl⟩:=hc
  cases h
  have hp:=hps _ (List.mem_singleton.2 rfl)
  simp only [Ob.holds] at hp
  have hx0:=hx
  simp only [aa] at hx0
  obtain ⟨b,cap,c,T,fr,G⟩:=mQ hE hH hx
  have e:=G.val
  subst e
  refine ⟨rfl,.pointer (some ⟨b,(off+n.toNat)*esz,none⟩),?_,?_⟩
  ·have e2 :(off+n.toNat)*esz=off*esz+n.toNat*esz:=Nat.add_mul _ _ _
   rw [e2]
   simp [Instr.indexAt,asIntOf,run_underlying hkd,hte'.sizeOf,hp.1,hp.2,bq,hsz]
  ·simp only [aa]
   refine ⟨hx0.1,hx0.2.1,⟨_,rfl⟩,fun esz2 cs2 hH2=>?_⟩
   exact ⟨b,G.at_,rfl⟩
 ·rename_i hh ver off
  split at h
  case h_2=>cases h
  rename_i k n
  simp only [aa] at hi
  obtain ⟨rfl,_⟩:=hi
  split at h
  case h_2=>cases h
  rename_i len e hk
  rw [hk] at hkd
  simp only [aN] at hkd
  split at h
  case h_2=>cases h
  rename_i te hte
  have hte':=hT _ _ hte
  cases h
  have hp:=hps _ (List.mem_singleton.2 rfl)
  simp only [Ob.holds] at hp
  refine ⟨rfl,?_⟩
  simp only [aa] at hx
  obtain ⟨hU,hU2,⟨a,rfl⟩,hx⟩:=hx
  refine ⟨.pointer (some (a.add (n.toNat*te.size))),?_,?_⟩
  ·simp [Instr.indexAt,asIntOf,run_underlying hkd,hte'.sizeOf,hp.1,hp.2,Instr.sureAddr]
  ·simp only [aa]
   refine ⟨hU,hU2,⟨_,rfl⟩,fun esz cs hcs=>?_⟩
   obtain ⟨b,hb,he⟩:=hx _ cs hcs
   cases he
   exact ⟨b,hb,by rw [bq]⟩
 ·exact vr hE hT ht hx hi h hps
theorem s7 {B:Base} {E:Env} (hE:HRel B E) {tb:Tbl} (hT:a6 P tb) {t:TypeId} {td:TD} (ht:TDok P t td) (m:Nat) {x:V} {lo hi mx:Option V} {xv:Value} {lov hiv mxv:Option Value} (hx:aa E x xv) (hlo:gu E lo lov) (hhi:gu E hi hiv) (hmx:gu E mx mxv)
  {ps:List Ob} {v:V} {dh:List (Nat×Blk)}
  (h:fq tb td E.H x lo hi mx = .val ps v dh) (hps :∀ p∈ps,p.holds) :∃ v' E',(Instr.sliceAt t xv lov hiv mxv).run P E.w = .ok v' E.w∧Good B E m dh E.w E'∧aa E' v v':=by
 unfold fq at h
 have hkd:=ht.kind
 have fP :∀ (e:TypeId) (te:TD) (_:td.kind = .slice e) (_:TDok P e te) (a:Option Addr) (len cap l h m:Nat),(Instr.sliceBounds true len cap lov hiv mxv).run P E.w = .ok (l,h,m) E.w→
   (Instr.sliceAt t (.slice a len cap) lov hiv mxv).run P E.w = .ok (.slice (if m=l then a else a.map (·.add (l*te.size))) (h - l) (m - l)) E.w:=fun e te hk hte a len cap l h m hr=>by
  rw [hk] at hkd
  simp only [aN] at hkd
  simp [Instr.sliceAt,Instr.slice,run_underlying hkd,hr,hte.sizeOf]
 split at h
 ·rename_i hh ver esz off len
  split at h
  ·rename_i k0 n0
   split at h
   case isFalse=>cases h
   rename_i hc
   obtain ⟨rfl,h1,h2,h3⟩:=hc
   cases h
   obtain ⟨n,hn⟩:=Option.isSome_iff_exists.1 h3
   obtain ⟨e,te,hk,hte,_⟩:=hY hT hn
   obtain ⟨kl,rfl⟩:=pd h1 hlo
   obtain ⟨kh,rfl⟩:=pd h2 hhi
   have hmv :∃ km,mxv=some (.int km 0):=by
    cases mxv with
    | none=>simp [gu] at hmx
    | some v=>simp only [gu,aa] at hmx;exact ⟨_,by rw [hmx.1]⟩
   obtain ⟨km,rfl⟩:=hmv
   simp only [aa] at hx
   obtain ⟨_,_,⟨a,l,c,rfl⟩,_⟩:=hx
   refine ⟨_,E,fP e te hk hte (some a) l c 0 0 0 (by simp [Instr.sliceBounds,Instr.sliceBound,asIntOf]),c8 hE m,?_⟩
   simp [aa]
  ·cases h
  ·have hmv:mxv=none:=by
    cases mxv with
    | none=>rfl
    | some v=>simp [gu] at hmx
   subst hmv
   split at h
   case h_2=>cases h
   rename_i n l r hn el er
   split at h
   case h_2=>cases h
   rename_i ver' esz' cs hH
   split at h
   case isFalse=>cases h
   rename_i hc
   obtain ⟨rfl,rfl,rfl⟩:=hc
   cases h
   have hp:=hps _ (List.mem_singleton.2 rfl)
   simp only [Ob.holds] at hp
   obtain ⟨e,te,hk,hte,hts⟩:=hY hT hn
   have hx0:=hx
   simp only [aa] at hx0
   obtain ⟨b,cap,c,T,fr,G⟩:=mQ hE hH hx
   have ev:=G.val
   subst ev
   have hr:=fP e te hk hte (some ⟨b,off*n,none⟩) len cap _ _ cap (fQ (P:=P) hlo hhi true len cap G.fits el er hp.1 hp.2.1 hp.2.2)
   refine ⟨_,E,hr,c8 hE m,?_⟩
   have hcapl:=G.room
   have hlen:=G.fits
   have hcsl:=G.known
   cases hb:Nat.beq l.toNat 0||Nat.blt l.toNat r.toNat with
   | false=>
    simp only [cond_false,aa]
    simp only [Bool.or_eq_false_iff] at hb
    have h1 :¬ l.toNat<r.toNat:=fun h=>by
     have:Nat.blt l.toNat r.toNat=true:=by rw [Nat.blt_eq];exact h
     rw [this] at hb;cases hb.2
    rw [show r.toNat - l.toNat=0 by omega]
    exact .nil
   | true=>
    simp only [cond_true,aa]
    have hadd :(if cap=l.toNat then some (⟨b,off*n,none⟩:Addr) else (some (⟨b,off*n,none⟩:Addr)).map (·.add (l.toNat*te.size)))=some ⟨b,(off+l.toNat)*n,none⟩:=by
     simp only [Bool.or_eq_true,Nat.blt_eq] at hb
     split
     ·rename_i hcl
      have:l.toNat=0:=by
       rcases hb with h|h
       ·exact Nat.eq_of_beq_eq_true h
       ·omega
      rw [this];simp
     ·simp only [Option.map_some,bq,hts,Nat.add_mul]
    rw [hadd]
    refine ⟨hx0.1,hx0.2.1,⟨_,_,_,rfl⟩,fun cs2 hH2=>?_⟩
    rw [hH] at hH2;cases hH2
    refine ⟨b,cap - l.toNat,c,T,fr,G.at_,rfl,G.blk,?_,by omega,?_⟩
    ·rw [show off+l.toNat +(cap - l.toNat)=off+cap by omega];exact hcapl
    ·refine Nat.le_trans (Nat.mul_le_mul_right _ ?_) hcsl
     omega
 ·exact vx hE hT ht m hx hlo hhi hmx h hps
theorem B5 {B:Base} {E:Env} (hE:HRel B E) (m:Nat) (hm :¬ E.U m) (esz len cap:Nat) (cs:List V) (c:Array Value) (T:TypeId) (hc:ab E cs (c.toList.take cs.length)) (hcap:cap*esz≤c.size) (hl:len≤cap) (hcs:len*esz≤cs.length) :
  ∃ E',Good B E m [(m,.grow m esz cs)] { E.w with heap:=E.w.heap.push (.cells c T (0,0)) } E'∧aa E' (.gsl m m esz 0 len) (.slice (some ⟨E.w.heap.size,0,none⟩) len cap):=by
 obtain ⟨E',G,h1,h2,h3⟩:=qC hE m hm (.grow m esz cs) c T (fun E' X hu hρ hw hS _=>⟨hu,_,c,T,(0,0),hρ,hw,fun i _ h=>by simp at h,hS,aR X _ _ hc⟩) (fun n=>E.U n∨n=m) (fun _=>Iff.rfl)
 refine ⟨E',G,?_⟩
 simp only [aa]
 refine ⟨h1,h1,⟨_,_,_,rfl⟩,fun cs2 hH2=>⟨_,cap,c,T,(0,0),h2,by simp,h3,by simpa using hcap,hl,?_⟩⟩
 have:E'.H m=some (.grow m esz cs):=by rw [G.h,bn];exact ah _ _ _
 rw [this] at hH2;cases hH2
 simpa using hcs
theorem ym (z:Array Value) (sz N:Nat) (hzl:z.size=sz) :
  ∃ zc:Array Value,((N*sz=0∧zc=#[])∨(N*sz≠0∧zc=z))∧((Array.range (N*sz)).map (zc[· % zc.size]!)).toList =(List.replicate N z.toList).flatten:=by
 by_cases h0:N*sz=0
 ·refine ⟨#[],.inl ⟨h0,rfl⟩,?_⟩
  rw [h0]
  rcases Nat.mul_eq_zero.1 h0 with h0|h0
  ·subst h0;simp
  ·have:z.toList=[]:=List.eq_nil_of_length_eq_zero (by rw [Array.length_toList];omega)
   rw [this];simp
 ·refine ⟨z,.inr ⟨h0,rfl⟩,?_⟩
  rw [←hzl,Array.toList_map,Array.toList_range]
  exact kW _ _
theorem nr {B:Base} {E:Env} (hE:HRel B E) {tb:Tbl} (hT:a6 P tb) {t:TypeId} {td:TD} (ht:TDok P t td) (m:Nat) (hm :¬ E.U m) {n:Nat} {parts:List (Nat×V)} {pv:Array (Nat×Value)} (hp:nw E parts pv.toList)
  {ps:List Ob} {v:V} {dh:List (Nat×Blk)} (h:c7 tb td E.H m n parts = .val ps v dh) :∃ v' w' E',(Instr.buildSlice t n pv).run P E.w = .ok v' w'∧Good B E m dh w' E'∧aa E' v v':=by
 unfold c7 at h
 split at h
 case h_2=>exact nq hE hT ht m hm hp h
 have hk:=ht.kind
 split at h
 case h_2=>cases h
 rename_i e h1
 rw [h1] at hk
 simp only [aN] at hk
 split at h
 case h_2=>cases h
 rename_i te hte
 have hte':=hT _ _ hte
 split at h
 case isFalse=>cases h
 rename_i hc
 obtain ⟨c2,c3,c4⟩:=hc
 split at h
 case h_2=>cases h
 rename_i cs hcs
 cases h
 obtain ⟨z,hz,hzz⟩:=hte'.zeroValue E.w
 have hzr:ab E te.zero z.cells.toList:=ca hzz
 have hzl:z.cells.size=te.size:=by have:=aI hzr;simp at this;omega
 have hsmall :¬(n*te.size>2 ^ 24):=by
  have:=Nat.mul_le_mul c2 c3
  omega
 obtain ⟨zc,hz1,hz2⟩:=ym z.cells te.size n hzl
 have hzv:=fW hzr n
 rw [←hz2] at hzv
 obtain ⟨cells',r1,r2⟩:=iz hp hzv hcs
 have hl2:=aI r2
 have hl3:cells'.size=n*te.size:=by
  have e:=Bq hcs
  have e2 :(nz te.zero n).length=n*te.size:=by
   have:=aI (fW hzr n)
   rw [this];simp [hzl]
  have:=Array.length_toList (xs:=cells')
  omega
 obtain ⟨E',G,hv⟩:=B5 hE m hm te.size n n cs cells' e (by rw [List.take_of_length_le (by omega)];exact r2) (by omega) (Nat.le_refl _) (by have:=Array.length_toList (xs:=cells');omega)
 refine ⟨_,_,E',?_,G,hv⟩
 unfold Instr.buildSlice
 simp only [Sem.run_bind,run_underlying hk,Result.andThen_ok,hte'.sizeOf,hsmall,if_false]
 rcases hz1 with ⟨h0,rfl⟩ |⟨h0,rfl⟩
 ·simp only [h0,if_true,Sem.run_bind,Sem.run_pure,Result.andThen_ok] at r1 ⊢
  simp only [r1,newRow,Sem.run_bind,run_newObj,Result.andThen_ok,Sem.run_pure]
 ·simp only [h0,if_false,Sem.run_bind,hz,Sem.run_pure,Result.andThen_ok,r1,newRow,run_newObj]
theorem Kr {α:Type} (z:List α) (n N:Nat) (h:n≤N) :((List.replicate N z).flatten).take (n*z.length) =(List.replicate n z).flatten:=by
 obtain ⟨d,rfl⟩ :∃ d,N=n+d:=⟨N - n,by omega⟩
 rw [←List.replicate_append_replicate,List.flatten_append]
 have hl :((List.replicate n z).flatten).length=n*z.length:=by simp
 rw [←hl,List.take_left]
theorem n6 {B:Base} {E:Env} (hE:HRel B E) {tb:Tbl} (hT:a6 P tb) {t:TypeId} {td:TD} (ht:TDok P t td) (m:Nat) (hm :¬ E.U m) {l c:V} {lv cv:Value} (hl:aa E l lv) (hc:aa E c cv)
  {ps:List Ob} {v:V} {dh:List (Nat×Blk)} (h:gV tb td E.H m l c = .val ps v dh) (hps :∀ p∈ps,p.holds) :∃ v' w' E',(Instr.makeSlice t lv cv).run P E.w = .ok v' w'∧Good B E m dh w' E'∧aa E' v v':=by
 unfold gV at h
 split at h
 case h_2=>exact oS hE hT ht m hm hl hc h hps
 have hk:=ht.kind
 split at h
 case h_2=>cases h
 rename_i k1 n k2 c
 split at h
 case h_2=>cases h
 rename_i e h1
 rw [h1] at hk
 simp only [aN] at hk
 split at h
 case h_2=>cases h
 rename_i te hte
 have hte':=hT _ _ hte
 split at h
 case isFalse=>cases h
 rename_i hcc
 obtain ⟨c2,c4⟩:=hcc
 cases h
 have hp:=hps _ (List.mem_singleton.2 rfl)
 simp only [Ob.holds] at hp
 obtain ⟨p1,p2,p3⟩:=hp
 simp only [aa] at hl hc
 obtain ⟨rfl,_⟩:=hl
 obtain ⟨rfl,_⟩:=hc
 obtain ⟨z,hz,hzz⟩:=hte'.zeroValue E.w
 have hzr:ab E te.zero z.cells.toList:=ca hzz
 have hzl:z.cells.size=te.size:=by have:=aI hzr;simp at this;omega
 obtain ⟨M,rfl⟩:=Int.eq_ofNat_of_zero_le p1
 obtain ⟨N,rfl⟩:=Int.eq_ofNat_of_zero_le (Int.le_trans p1 p2)
 have hN:N≤17179869184:=by omega
 have hMN:M≤N:=by omega
 have hwrap :∀ (X:Nat),X≤N→IntKind.i64.wrap (X:Int) =(X:Int):=fun X hX=>by
  unfold IntKind.wrap
  simp [IntKind.bits,IntKind.signed]
  omega
 have hbytes :((te.bytes:Int) *(N:Int))≤281474976710656:=by
  have:te.bytes*N≤1000*17179869184:=Nat.mul_le_mul c2 hN
  have h2 :((te.bytes*N:Nat):Int)≤17179869184000:=by omega
  rw [Int.natCast_mul] at h2
  omega
 obtain ⟨hb1,hb2⟩:=hte'.bytes E.w
 obtain ⟨zc,hz1,hz2⟩:=ym z.cells te.size N hzl
 have hsz :((Array.range (N*te.size)).map (zc[· % zc.size]!)).size=N*te.size:=by simp
 have hlen0 :(nz te.zero M).length=M*te.size:=by
  have:=aI (fW hzr M)
  rw [this];simp [hzl]
 have htk :((Array.range (N*te.size)).map (zc[· % zc.size]!)).toList.take (nz te.zero M).length =(List.replicate M z.cells.toList).flatten:=by
  rw [hz2,hlen0]
  have:=Kr z.cells.toList M N hMN
  rw [show z.cells.toList.length=te.size by simpa using hzl] at this
  exact this
 obtain ⟨E',G,hv⟩:=B5 hE m hm te.size M N (nz te.zero M) ((Array.range (N*te.size)).map (zc[· % zc.size]!)) e (by rw [htk];exact fW hzr M) (by rw [hsz];exact Nat.le_refl _) hMN (by rw [hlen0];exact Nat.le_refl _)
 refine ⟨_,_,E',?_,by simpa using G,by simpa using hv⟩
 unfold Instr.makeSlice
 simp only [Sem.run_bind,run_underlying hk,Result.andThen_ok,asInt,asIntOf,Sem.run_pure,hb1,hb2,hwrap M hMN,hwrap N (Nat.le_refl _)]
 have hcond :¬((decide ((N:Int)<0)||decide ((te.bytes:Int) *(N:Int)>2 ^ 48)||decide ((M:Int)<0)||decide ((M:Int) >(N:Int)))=true):=by
  have e48 :(2:Int) ^ 48=281474976710656:=by decide
  rw [e48]
  simp only [Bool.or_eq_true,decide_eq_true_eq]
  omega
 rw [if_neg hcond]
 simp only [Sem.run_bind,run_askRoom,Result.andThen_ok,hte'.sizeOf,Int.toNat_natCast]
 rcases hz1 with ⟨h0,rfl⟩ |⟨h0,rfl⟩
 ·simp only [h0,if_true,Sem.run_bind,Sem.run_pure,Result.andThen_ok,newRow,run_newObj]
  rfl
 ·simp only [h0,if_false,Sem.run_bind,hz,Sem.run_pure,Result.andThen_ok,newRow,run_newObj]
  rfl
theorem zq {B:Base} {E:Env} (hE:HRel B E) {z:Nat} {x:V} {xv:Value} (hx:aa E x xv) {n:Nat} {ys:List V} (h:jB E.H z x=some (n,ys)) (hone:ys.all V.one=true) :
  ∃ a cap l,SrcC P E z n xv a cap l∧ab E ys l:=by
 have empty :∀ (a:Option Addr) (cap:Nat),n=0→ys=[]→xv = .slice a 0 cap→∃ a cap l,SrcC P E z n xv a cap l∧ab E ys l:=fun a cap e1 e3 e2=>by
  subst e1;subst e2;subst e3
  refine ⟨a,cap,[],⟨fun _=>rfl,by simp,fun w _=>?_,fun v hv=>by cases hv⟩,trivial⟩
  cases a with
  | none=>simp [Builtin.firstCells]
  | some a=>
   have:=run_loadCells_list (P:=P) w a [] (fun j v hj=>by simp at hj)
   simpa [Builtin.firstCells] using this
 unfold jB at h
 split at h
 ·cases h;simp only [aa] at hx;exact empty _ _ rfl rfl hx
 ·cases h;simp only [aa] at hx;obtain ⟨a,hx⟩:=hx;exact empty _ _ rfl rfl hx
 ·cases h
  simp only [aa] at hx
  generalize hl:[xv]=l0 at hx
  cases hx with
  | nil=>cases hl;exact empty _ _ rfl rfl rfl
  | slice=>cases hl;exact empty _ _ rfl rfl rfl
 ·rename_i hh ver esz off len
  split at h
  case h_2=>cases h
  rename_i ver' esz2 cs hH
  split at h
  case isFalse=>cases h
  rename_i e
  obtain ⟨rfl,rfl,rfl⟩:=e
  cases h
  obtain ⟨b,cap,c,T,fr,G⟩:=mQ hE hH hx
  have ev:=G.val
  subst ev
  have hkn:=G.known
  have hle:=G.le
  have h2:off*esz2+n*esz2≤cs.length:=by rw [←Nat.add_mul];exact hkn
  have hv:ab E ((cs.drop (off*esz2)).take (n*esz2)) (((c.toList.take cs.length).drop (off*esz2)).take (n*esz2)):=ja (fV G.rel _) _
  have hl :(((c.toList.take cs.length).drop (off*esz2)).take (n*esz2)).length=n*esz2:=by
   simp;omega
  refine ⟨some ⟨b,off*esz2,none⟩,cap,_,⟨fun _=>rfl,hl,fun w hw=>?_,rR hone hv⟩,hv⟩
  have hbw:w.heap[b]?=some (.cells c T fr):=by rw [hw];exact G.blk
  have:=run_loadCells_list (P:=P) w ⟨b,off*esz2,none⟩ (((c.toList.take cs.length).drop (off*esz2)).take (n*esz2)) (fun j v hj=>by
   rw [bq,fZ hbw]
   have hjl:j<n*esz2:=by
    rcases Nat.lt_or_ge j (n*esz2) with h1|h1
    ·exact h1
    ·rw [List.getElem?_eq_none (by omega)] at hj;cases hj
   rw [List.getElem?_take_of_lt hjl,List.getElem?_drop,List.getElem?_take_of_lt (by omega)] at hj
   exact hj)
  rw [hl] at this
  simpa [Builtin.firstCells] using this
 ·cases h
theorem CA {B:Base} {E:Env} (hE:HRel B E) (m:Nat) (hm :¬ E.U m) (h0:Nat) (hh:E.U h0∨h0=m) (esz len cap:Nat) (cs:List V) (c:Array Value) (T:TypeId) (hc:ab E cs (c.toList.take cs.length)) (hcap:cap*esz≤c.size) (hl:len≤cap) (hcs:len*esz≤cs.length) :
  ∃ E',Good B E m [(h0,.grow m esz cs)] { E.w with heap:=E.w.heap.push (.cells c T (0,0)) } E'∧aa E' (.gsl h0 m esz 0 len) (.slice (some ⟨E.w.heap.size,0,none⟩) len cap):=by
 have hS :¬ E.S E.w.heap.size:=fun h=>Nat.lt_irrefl _ (hE.stab _ h)
 have hget :(E.w.heap.push (.cells c T (0,0)))[E.w.heap.size]?=some (.cells c T (0,0)):=by simp
 obtain ⟨R,X⟩:=ju hE h0 (.grow m esz cs) (some E.w.heap.size) { E.w with heap:=E.w.heap.push (.cells c T (0,0)) } (fun n=>E.U n∨n=m) (fun n h=> .inl h) hh
  ⟨rfl,rfl,rfl,by simp,fun b hb' _=>Below.heap_alloc E.w _ b hb'⟩ (fun b e=>by cases e;exact .inl ⟨Nat.le_refl _,by simp⟩) (fun b e=>by cases e;exact hS)
  (fun _ e _=>by cases e) (fun _ _ _ _ e=>by cases e)
  (fun X=>⟨.inr rfl,_,c,T,(0,0),ah _ _ _,hget,(fun i _ h=>by simp at h),hS,aR X _ _ hc⟩)
  (fun _ _ _ e _ h=>by cases e;exact absurd h hm)
 refine ⟨_,⟨R,X,rfl,(bn _ _ _).symm,fun n h=>?_⟩,?_⟩
 ·rcases h with h|h
  ·exact .inl h
  ·exact .inr ⟨by omega,by unfold KN;omega⟩
 ·simp only [aa]
  refine ⟨hh,.inr trivial,⟨_,_,_,rfl⟩,fun cs2 hH=>⟨_,cap,c,T,(0,0),ah _ _ _,by simp,hget,by simpa using hcap,hl,?_⟩⟩
  simp only [ah,Option.some.injEq] at hH
  cases hH
  simpa using hcs
theorem rH {B:Base} {E:Env} (hE:HRel B E) {tb:Tbl} (hT:a6 P tb) {tS tX:TypeId} {tdS tdX:TD} (hS:TDok P tS tdS) (hX:TDok P tX tdX) (hkX:AppK tdX) (m:Nat) (hm :¬ E.U m) {s x:V} {sv xv:Value}
  (hs:aa E s sv) (hx:aa E x xv) (ty:TypeId) {ps:List Ob} {v:V} {dh:List (Nat×Blk)} (h:dQ tb tdS E.H m s x = .val ps v dh) (hps :∀ p∈ps,p.holds) :
  ∃ v' w' E',(Builtin.append_ #[tS,tX] ty #[sv,xv]).run P E.w = .ok v' w'∧Good B E m dh w' E'∧aa E' v v':=by
 unfold dQ at h
 split at h
 case h_2=>cases h
 rename_i e hk
 split at h
 case h_2=>cases h
 rename_i te hte0
 have hte:=hT _ _ hte0
 split at h
 case isFalse=>exact sO hE hT hS hX hkX m hm hs hx ty h hps
 split at h
 case isFalse=>cases h
 rename_i hc
 obtain ⟨c2,c3,c4⟩:=hc
 split at h
 case h_2=>cases h
 rename_i k ys hys
 split at h
 case isFalse=>cases h
 rename_i hone
 obtain ⟨a,cap,l,src,hyl⟩:=zq (P:=P) hE hx hys hone
 have hyl0:=aI hyl
 obtain ⟨R0,X0⟩:=yb hE E.w.drew rfl rfl rfl rfl
 split at h
 ·
  have hl0:l=[]:=List.eq_nil_of_length_eq_zero (by rw [src.len];omega)
  subst hl0
  have same :∀ (base:Option Addr) (sl sc:Nat),sl≤sc→(Builtin.append_ #[tS,tX] ty #[.slice base sl sc,xv]).run P E.w = .ok (.slice base sl sc) E.w:=fun base sl sc hle=>by
   have:=eF hS hX hk hkX hte rfl src base sl sc (by omega) ty E.w (fun a' _=>rfl) (fun _=>rfl)
   simpa using this
  split at h
  ·cases h
   simp only [aa] at hs
   subst hs
   exact ⟨_,_,E,same none 0 0 (Nat.le_refl _),c8 hE m,by simp [aa]⟩
  ·cases h
   simp only [aa] at hs
   obtain ⟨b0,rfl⟩:=hs
   exact ⟨_,_,E,same b0 0 0 (Nat.le_refl _),c8 hE m,by simp [aa]⟩
  ·split at h
   case h_2=>cases h
   rename_i ver' esz' cs hH
   split at h
   case isFalse=>cases h
   rename_i e1
   obtain ⟨rfl,rfl⟩:=e1
   cases h
   obtain ⟨b,cap',c,T,fr,G⟩:=mQ hE hH hs
   have ev:=G.val
   subst ev
   exact ⟨_,_,E,same _ _ _ G.fits,c8 hE m,hs⟩
  ·cases h
 ·rename_i k
  have onto :∀ (base:Option Addr),(k+1)*te.bytes≤70368744177664→sv = .slice base 0 0→
    ∃ v' w' E',(Builtin.append_ #[tS,tX] ty #[sv,xv]).run P E.w = .ok v' w'∧Good B E m [(m,.grow m te.size ys)] w' E'∧aa E' (.gsl m m te.size 0 (k+1)) v':=fun base hp esv=>by
   subst esv
   have hold :∀ (w:World),w.heap=E.w.heap→(Builtin.firstCells te.size 0 (.slice base 0 0)).run P w = .ok ([]:List Value).toArray w:=fun w _=>by
    cases base with
    | none=>simp [Builtin.firstCells]
    | some a=>simpa [Builtin.firstCells] using run_loadCells_list (P:=P) w a [] (fun j v hj=>by simp at hj)
   obtain ⟨nc,c,g1,g2,g3,g4⟩:=dU hE hS hX hk hkX hte rfl c4 c2 c3 src base 0 0 [] (by simp) hold (by omega) (by rw [Nat.zero_add];exact hp) ty
   simp only [Nat.zero_add,List.nil_append] at g1 g3 g4
   have hl1:l.length =(k+1)*te.size:=src.len
   obtain ⟨E',G,hv⟩:=CA R0 m hm m (.inr rfl) te.size (k+1) nc ys c e (by rw [hyl0,hl1,g3];exact aR X0 _ _ hyl) (by rw [g2];exact Nat.le_refl _) g1 (by rw [hyl0,hl1];exact Nat.le_refl _)
   exact ⟨_,_,E',g4,fK X0 G,hv⟩
  split at h
  ·cases h
   simp only [aa] at hs
   exact onto none (hps _ (List.mem_singleton.2 rfl)) hs
  ·cases h
   simp only [aa] at hs
   obtain ⟨b0,hs⟩:=hs
   exact onto b0 (hps _ (List.mem_singleton.2 rfl)) hs
  ·rename_i hh ver esz off len _
   split at h
   case h_2=>cases h
   rename_i ver' esz' cs hH
   split at h
   case isFalse=>cases h
   rename_i e1
   obtain ⟨rfl,rfl,rfl,rfl,hlen⟩:=e1
   cases h
   have hp:=hps _ (List.mem_singleton.2 rfl)
   simp only [Ob.holds] at hp
   have hU:=hE.used _ _ hH
   obtain ⟨b,cap',c,T,fr,G⟩:=mQ hE hH hs
   have ev:=G.val
   subst ev
   have hle:=G.le
   have hrm:=G.room
   have hl1:l.length =(k+1)*te.size:=src.len
   by_cases hroom:len +(k+1)≤cap'
   ·have hm2 :(len +(k+1))*te.size≤cap'*te.size:=Nat.mul_le_mul_right _ hroom
    rw [Nat.add_mul] at hm2
    simp only [Nat.zero_add] at hrm
    obtain ⟨c',g1,g2⟩:=di b l (len*te.size) E.w c G.blk (by omega)
    have hcs:c'.size=c.size:=by
     have:=congrArg List.length g2
     simp at this
     omega
    have hrun:=eF hS hX hk hkX hte rfl src (some ⟨b,0*te.size,none⟩) len cap' hroom ty (E.w.setCells b (len*te.size) l) (fun a' ea=>by
     cases ea
     have:=run_storeCells_cells (P:=P) b (len*te.size) l 0 E.w (fun j hj=>by rw [fZ G.blk];simp;omega) (fun j hj=>mO G.blk G.frz (by omega)) src.one
     rw [bq]
     simpa using this) (fun en=>by cases en)
    have htk:c'.toList.take (cs++ys).length=c.toList.take cs.length++l:=by
     rw [g2,hlen,List.length_append,hyl0,List.take_append_of_le_length (by simp;omega),List.take_of_length_le (by simp;omega)]
    obtain ⟨R,X⟩:=ju hE hh (.grow m te.size (cs++ys)) (some b) (E.w.setCells b (len*te.size) l) (fun n=>E.U n∨n=m) (fun n h=> .inl h) (.inl hU)
     (cL b (fun b1=>some b=some b1) rfl _ _ _) (fun b1 e=>by cases e;exact .inr ⟨G.at_,_,hH,rfl⟩) (fun b1 e=>by cases e;exact G.S)
     (fun _ e _=>by cases e) (fun _ _ _ _ e=>by cases e)
     (fun X=>⟨.inr rfl,b,c',T,fr,ah _ _ _,g1,iI G.frz hcs,G.S,by
      rw [htk]
      exact bk (aR X _ _ G.rel) (aR X _ _ hyl)⟩)
     (fun _ _ _ e _ h=>by cases e;exact absurd h hm)
    refine ⟨_,_,_,hrun,⟨R,X,rfl,(bn _ _ _).symm,fun n h=>?_⟩,?_⟩
    ·rcases h with h|h
     ·exact .inl h
     ·exact .inr ⟨by omega,by unfold KN;omega⟩
    ·simp only [aa]
     refine ⟨.inl hU,.inr trivial,⟨_,_,_,rfl⟩,fun cs2 hH2=>⟨b,cap',c',T,fr,ah _ _ _,rfl,g1,by rw [hcs];simpa using hrm,hroom,?_⟩⟩
     simp only [ah,Option.some.injEq] at hH2
     cases hH2
     rw [List.length_append,hyl0,hl1,←hlen,Nat.zero_add,Nat.add_mul]
     exact Nat.le_refl _
   ·have hl0 :(seg c 0 (len*te.size)).length=len*te.size:=sn _ _ _ (by omega)
    obtain ⟨nc,c',g1,g2,g3,g4⟩:=dU hE hS hX hk hkX hte rfl c4 c2 c3 src (some ⟨b,0*te.size,none⟩) len cap' (seg c 0 (len*te.size)) hl0 (fun w hw=>by
     have hbw:w.heap[b]?=some (.cells c T fr):=by rw [hw];exact G.blk
     have:=run_loadCells_list (P:=P) w ⟨b,0*te.size,none⟩ (seg c 0 (len*te.size)) (fun j v hj=>by
      rw [bq,fZ hbw]
      rw [kZ] at hj
      split at hj
      ·simpa using hj
      ·cases hj)
     rw [hl0] at this
     simpa [Builtin.firstCells] using this) (by omega) hp ty
    have htk:c'.toList.take (cs++ys).length=c.toList.take cs.length++l:=by
     rw [List.length_append,hyl0,hl1,←hlen,←Nat.add_mul,g3,seg,List.drop_zero]
    obtain ⟨E',G',hv⟩:=CA R0 m hm hh (.inl hU) te.size (len +(k+1)) nc (cs++ys) c' e (by
     rw [htk]
     exact bk (aR X0 _ _ G.rel) (aR X0 _ _ hyl)) (by rw [g2];exact Nat.le_refl _) g1 (by rw [List.length_append,hyl0,hl1,←hlen,←Nat.add_mul];exact Nat.le_refl _)
    exact ⟨_,_,E',g4,fK X0 G',hv⟩
  ·cases h
theorem sQ {B:Base} {E:Env} (hE:HRel B E) {tb:Tbl} (hT:a6 P tb) {s d:TypeId} {ts td:TD} (hs:TDok P s ts) (hd:TDok P d td) (m:Nat) (hm :¬ E.U m) {x:V} {xv:Value} (hx:aa E x xv) {ps:List Ob} {v:V} {dh:List (Nat×Blk)}
  (h:sP tb ts td m x = .val ps v dh) :∃ v' w' E',(convert s d xv).run P E.w = .ok v' w'∧Good B E m dh w' E'∧aa E' v v':=by
 have hsk:=hs.kind
 have hdk:=hd.kind
 unfold sP at h
 split at h
 case h_2=>cases h
 rename_i e str h1 h2
 split at h
 case h_2=>cases h
 rename_i te hte
 have hek:=(hT _ _ hte).kind
 split at h
 ·exact vn hE hT hs hd m hm hx h
 split at h
 case h_2=>cases h
 rename_i h3
 cases h
 rw [h1] at hsk;rw [h2] at hdk;rw [h3] at hek
 simp only [aN] at hsk hdk hek
 simp only [aa] at hx
 obtain ⟨rfl,hlen⟩:=hx
 obtain ⟨R0,X0⟩:=yb hE E.w.drew rfl rfl rfl rfl
 generalize hq :(Question.appendCap str.size 0 e).cut (E.w.tape E.w.drawn (Question.appendCap str.size 0 e))=cap
 have hcap:str.size≤cap:=by rw [←hq];simp only [Question.cut];omega
 let c:Array Value:=(str.data.map fun b=>Value.int .u8 b.toNat)++Array.replicate (cap - str.size) (.int .u8 0)
 have hds:str.data.size=str.size:=ByteArray.size_data
 have hcs:c.size=cap:=by simp [c,hds];omega
 have hl :((aJ str).map fun n=>V.int .u8 n).length=str.size:=by simp [aJ,hds]
 have hrel :∀ E2:Env,ab E2 ((aJ str).map fun n=>V.int .u8 n) (c.toList.take ((aJ str).map fun n=>V.int .u8 n).length):=fun E2=>by
  have e1:c.toList.take ((aJ str).map fun n=>V.int .u8 n).length=str.data.toList.map fun b=>Value.int .u8 b.toNat:=by
   rw [hl]
   simp only [c,Array.toList_append,Array.toList_map]
   rw [List.take_append_of_le_length (by simp [hds]),List.take_of_length_le (by simp [hds])]
  rw [e1]
  unfold aJ
  rw [List.map_map]
  exact fj _ _ (fun b=>fU (J2 b)) _
 have hS :¬ E.S E.w.heap.size:=fun h=>Nat.lt_irrefl _ (hE.stab _ h)
 have hget :(E.w.heap.push (.cells c e (c.size,c.size+1)))[E.w.heap.size]?=some (.cells c e (c.size,c.size+1)):=by simp
 obtain ⟨R,X⟩:=ju R0 m (.grow m 1 ((aJ str).map fun n=>V.int .u8 n)) (some E.w.heap.size) { E.w.drew with heap:=E.w.heap.push (.cells c e (c.size,c.size+1)) } (fun n=>E.U n∨n=m) (fun n h=> .inl h) (.inr rfl)
  ⟨rfl,rfl,rfl,by show E.w.heap.size≤(E.w.heap.push _).size;simp,fun b hb' _=>Below.heap_alloc E.w _ b hb'⟩ (fun b e=>by cases e;exact .inl ⟨Nat.le_refl _,by simp⟩) (fun b e=>by cases e;exact hS)
  (fun _ e _=>by cases e) (fun _ _ _ _ e=>by cases e)
  (fun X=>⟨.inr rfl,_,c,e,(c.size,c.size+1),ah _ _ _,hget,(fun i hi h=>by have:=h.1;simp at this;omega),hS,hrel _⟩)
  (fun _ _ _ e _ h=>by cases e;exact absurd h hm)
 refine ⟨.slice (some ⟨E.w.heap.size,0,none⟩) str.size cap,_,_,?_,fK X0 ⟨R,X,rfl,(bn _ _ _).symm,fun n h=>?_⟩,?_⟩
 ·have hfd:Question.forced (Question.appendCap str.size 0 e)=false:=rfl
  simp only [convert,Sem.run_bind,run_underlying hsk,run_underlying hdk,run_underlying hek,Result.andThen_ok,Conv.stringToBytes,run_choose,hfd,hq]
  simp only [Bool.false_eq_true,if_false,Result.andThen_ok,newRow,Sem.run_bind,run_newObj,Sem.run_pure,markStringish,run_shape]
  have hsh:World.shape? { E.w.drew with heap:=E.w.drew.heap.push (.cells c e (0,0)) } E.w.drew.heap.size=some (e,c.size):=by
   have hget :(E.w.drew.heap.push (.cells c e (0,0)))[E.w.drew.heap.size]?=some (.cells c e (0,0)):=Array.getElem?_push_size
   unfold World.shape?
   simp only [hget]
  have hfz:=qY E.w.drew c e
  simp only [World.drew] at hsh hfz ⊢
  simp only [c] at hsh hfz
  rw [hsh]
  simp only [Result.andThen_ok,run_freeze]
  rw [hfz]
 ·rcases h with h|h
  ·exact .inl h
  ·exact .inr ⟨by omega,by unfold KN;omega⟩
 ·simp only [aa]
  refine ⟨.inr trivial,.inr trivial,⟨_,_,_,rfl⟩,fun cs2 hH=>⟨_,cap,c,e,(c.size,c.size+1),ah _ _ _,by simp,hget,by omega,hcap,?_⟩⟩
  simp only [ah,Option.some.injEq] at hH
  cases hH
  rw [hl];omega
theorem za {B:Base} {E:Env} (hE:HRel B E) {t:TypeId} {td:TD} (ht:TDok P t td) {x:V} {xv:Value} (hx:aa E x xv) (ty:TypeId) {ps:List Ob} {v:V} {dh:List (Nat×Blk)}
  (h:jA td E.H x = .val ps v dh):dh=[]∧∃ v',(Builtin.len_ #[t] ty #[xv]).run P E.w = .ok v' E.w∧aa E v v':=by
 have hk:=ht.kind
 unfold jA at h
 split at h
 ·rename_i e hh ver esz off len h1
  rw [h1] at hk;simp only [aN] at hk
  split at h
  case h_2=>cases h
  rename_i ver' esz' cs hH
  split at h
  case isFalse=>cases h
  rename_i hc
  obtain ⟨rfl,rfl,hl⟩:=hc
  cases h
  obtain ⟨b,cap,c,T,fr,G⟩:=mQ hE hH hx
  have ev:=G.val
  subst ev
  exact ⟨rfl,_,by simp [Builtin.len_,run_underlying hk,goInt],fU (kT hl)⟩
 ·exact Bj hE ht hx ty h
end
section
open Go.RowKit
variable {P:Program}
theorem mK {E:Env} :∀ {i:Nat} {xs:List (V×V)} {es:List MapEntry},bJ E i xs es→xs.length=es.length
 | _,[],[],_=>rfl
 | _,_::_,[],h=>by simp [bJ] at h
 | _,[],_::_,h=>by simp [bJ] at h
 | i,x::xs,e::es,h=>by simp [mK h.2]
theorem hZ {E:Env} :∀ {i:Nat} {xs:List (V×V)} {es:List MapEntry},bJ E i xs es→∀ (j:Nat) (q:V×V),xs[j]?=some q→∃ e,es[j]?=some e∧aa E q.1 e.key∧aa E q.2 e.val∧e.born=i+j
 | _,[],[],_,j,q,hq=>by simp at hq
 | _,_::_,[],h,_,_,_=>by simp [bJ] at h
 | _,[],_::_,h,_,_,_=>by simp [bJ] at h
 | i,x::xs,e::es,h,j,q,hq=>by
  cases j with
  | zero=>simp only [List.getElem?_cons_zero,Option.some.injEq] at hq;subst hq;exact ⟨e,by simp,h.1.1,h.1.2.1,h.1.2.2⟩
  | succ j=>
   obtain ⟨e',h1,h2,h3,h4⟩:=hZ h.2 j q (by simpa using hq)
   exact ⟨e',by simpa using h1,h2,h3,by omega⟩
theorem mL {E:Env} :∀ {i:Nat} {xs:List (V×V)} {es:List MapEntry},bJ E i xs es→∀ (j:Nat) (q:V×V) (f:MapEntry→MapEntry),(∀ e,es[j]?=some e→aa E q.1 (f e).key∧aa E q.2 (f e).val∧(f e).born=e.born)→bJ E i (xs.set j q) (es.modify j f)
 | _,[],[],_,j,q,f,_=>by simp [bJ]
 | _,_::_,[],h,_,_,_,_=>by simp [bJ] at h
 | _,[],_::_,h,_,_,_,_=>by simp [bJ] at h
 | i,x::xs,e::es,h,j,q,f,hf=>by
  cases j with
  | zero=>
   obtain ⟨h1,h2,h3⟩:=hf e (by simp)
   simp only [List.set_cons_zero,List.modify_zero_cons,bJ]
   exact ⟨⟨h1,h2,by rw [h3];exact h.1.2.2⟩,h.2⟩
  | succ j=>
   simp only [List.set_cons_succ,List.modify_succ_cons,bJ]
   exact ⟨h.1,mL h.2 j q f (fun e' he=>hf e' (by simpa using he))⟩
theorem n4 {E:Env} :∀ {i:Nat} {xs:List (V×V)} {es:List MapEntry},bJ E i xs es→∀ (q:V×V) (e:MapEntry),aa E q.1 e.key→aa E q.2 e.val→e.born=i+xs.length→bJ E i (xs++[q]) (es++[e])
 | _,[],[],_,q,e,h1,h2,h3=>⟨⟨h1,h2,by simpa using h3⟩,trivial⟩
 | _,_::_,[],h,_,_,_,_,_=>by simp [bJ] at h
 | _,[],_::_,h,_,_,_,_,_=>by simp [bJ] at h
 | i,x::xs,e::es,h,q,e',h1,h2,h3=>⟨h.1,n4 h.2 q e' h1 h2 (by simp at h3;omega)⟩
def im (E:Env):List (V×V)→List MapEntry→Prop
 | [],[]=>True
 | x::xs,e::es=>(aa E x.1 e.key∧aa E x.2 e.val)∧im E xs es
 | _,_=>False
theorem kE {E:Env} :∀ {i:Nat} {xs:List (V×V)} {es:List MapEntry},bJ E i xs es→im E xs es
 | _,[],[],_=>trivial
 | _,_::_,[],h=>by simp [bJ] at h
 | _,[],_::_,h=>by simp [bJ] at h
 | _,_::_,_::_,h=>⟨⟨h.1.1,h.1.2.1⟩,kE h.2⟩
theorem tL {E:Env} :∀ (xs ys:List V) (vs us:List Value) (ks:List EK),eks xs=some ks→eks ys=some ks→ab E xs vs→ab E ys us→vs.map gK=us.map gK→vs=us
 | [],[],[],[],_,_,_,_,_,_=>rfl
 | [],[],_::_,_,_,_,_,h,_,_=>by simp [ab] at h
 | [],[],_,_::_,_,_,_,_,h,_=>by simp [ab] at h
 | [],y::ys,_,_,ks,h1,h2,_,_,_=>by
  obtain ⟨k,r,_,_,rfl⟩:=dA h2
  simp [eks] at h1
 | x::xs,[],_,_,ks,h1,h2,_,_,_=>by
  obtain ⟨k,r,_,_,rfl⟩:=dA h1
  simp [eks] at h2
 | _::_,_::_,[],_,_,_,_,h,_,_=>by simp [ab] at h
 | _::_,_::_,_::_,[],_,_,_,_,h,_=>by simp [ab] at h
 | x::xs,y::ys,v::vs,u::us,ks,h1,h2,hv,hu,he=>by
  obtain ⟨k,r,a1,a2,rfl⟩:=dA h1
  obtain ⟨k',r',b1,b2,e⟩:=dA h2
  cases e
  simp only [ab] at hv hu
  simp only [List.map_cons,List.cons.injEq] at he
  have ih:=tL xs ys vs us r a2 b2 hv.2 hu.2 he.2
  subst ih
  have h0:v=u:=by
   rcases cz a1 hv.1 with ⟨q,n,_,hk,rfl,_⟩ |⟨b,_,hk,rfl,_⟩ |⟨s,_,hk,rfl,_⟩
   ·rcases cz b1 hu.1 with ⟨q',n',_,hk',rfl,_⟩ |⟨b',_,hk',rfl,_⟩ |⟨s',_,hk',rfl,_⟩
    ·have:=he.1;simp only [gK,Lit.int.injEq] at this;obtain ⟨rfl,rfl⟩:=this;rfl
    ·rw [hk] at hk';cases hk'
    ·rw [hk] at hk';cases hk'
   ·rcases cz b1 hu.1 with ⟨q',n',_,hk',rfl,_⟩ |⟨b',_,hk',rfl,_⟩ |⟨s',_,hk',rfl,_⟩
    ·rw [hk] at hk';cases hk'
    ·have:=he.1;simp only [gK,Lit.bool.injEq] at this;subst this;rfl
    ·rw [hk] at hk';cases hk'
   ·rcases cz b1 hu.1 with ⟨q',n',_,hk',rfl,_⟩ |⟨b',_,hk',rfl,_⟩ |⟨s',_,hk',rfl,_⟩
    ·rw [hk] at hk';cases hk'
    ·rw [hk] at hk';cases hk'
    ·have:=he.1
     simp only [gK,Lit.string.injEq] at this
     have:s=s':=by
      cases s;cases s'
      simp only at this
      congr 1
      exact Array.ext' this
     rw [this]
  rw [h0]
theorem mD {E:Env} :∀ (xs:List V) (vs:List Value) (ks:List EK),eks xs=some ks→ab E xs vs→∀ n,∀ v∈vs,Instr.sameBits n v v=true
 | [],[],_,_,_,_,v,h=>by cases h
 | [],_::_,_,_,h,_,_,_=>by simp [ab] at h
 | _::_,[],_,_,h,_,_,_=>by simp [ab] at h
 | x::xs,u::vs,ks,h1,hv,n,v,hm=>by
  obtain ⟨k,r,a1,a2,rfl⟩:=dA h1
  simp only [ab] at hv
  rcases List.mem_cons.1 hm with rfl|hm
  ·rcases cz a1 hv.1 with ⟨q,n',_,_,rfl,_⟩ |⟨b,_,_,rfl,_⟩ |⟨s,_,_,rfl,_⟩
   ·cases n <;> simp [Instr.sameBits]
   ·cases n <;> simp [Instr.sameBits]
   ·cases n <;> simp [Instr.sameBits,Go.MapKept.bytes_beq]
  ·exact mD xs vs r a2 hv.2 n v hm
theorem vN {E:Env} {t:TypeId} {td:TD} (ht:TDok P t td) (hp:td.plain=true) {xs:List V} {cs:Array Value} (hx:ab E xs cs.toList) (h1:eks xs=eks td.zero) :
  (match P.underlying t with|some (.array _ _)|some (.struct _)=>true|_=>false)=true∧(∀ em,(Instr.checkKey em 10000 t (.agg cs)).run P E.w = .ok () E.w):=by
 have hp':=hp
 unfold TD.plain at hp'
 simp only [Bool.and_eq_true] at hp'
 obtain ⟨hagg,hsome⟩:=hp'
 obtain ⟨ks,hks⟩:=Option.isSome_iff_exists.1 hsome
 rw [hks] at h1
 have hB:=ht.eqk hp ks hks
 simp only [eqB,Bool.and_eq_true,decide_eq_true_eq,Bool.not_eq_true'] at hB
 obtain ⟨⟨hl,hkt⟩,hg⟩:=hB
 have len:P.keyLits 9 t cs.toList=some (cs.toList.map gK)∧cs.size=P.cellsOf t:=by
  obtain ⟨a1,a2,a3⟩:=zD (P:=P) 9 t ks [] hl cs.toList (DL xs _ ks h1 hx)
  have h0:cs.toList.drop (P.cellsOf t)=[]:=by
   cases hd:cs.toList.drop (P.cellsOf t) with
   | nil=>rfl
   | cons v l=>rw [hd] at a2;simp [lH] at a2
  have h3:cs.toList.length≤P.cellsOf t:=List.drop_eq_nil_iff.1 h0
  rw [List.take_of_length_le h3] at a1
  exact ⟨a1,by simp only [Array.length_toList] at h3 a3;omega⟩
 have hkd:=ht.kind
 have wide :(match P.underlying t with|some (.array _ _)|some (.struct _)=>true|_=>false)=true∧(Value.agg cs).formed P t=true:=by
  cases hk:td.kind <;> rw [hk] at hagg hkd <;> simp only [TK.agg,Bool.false_eq_true] at hagg <;> simp only [aN] at hkd
  ·obtain ⟨fs,hu,_⟩:=hkd
   exact ⟨by rw [hu],by simp [Value.formed,hu,len.2]⟩
  ·exact ⟨by rw [hkd],by simp [Value.formed,hkd,len.2]⟩
 refine ⟨wide.1,fun em=>?_⟩
 have:=run_checkKey_deep (P:=P) em 9991 9 t hkt
 exact this E.w 9 (.agg cs) _ wide.2 (by simpa [Value.cells] using len.1)
theorem cu {tk:TD} {k:V} (h:eV tk k=true) :(∃ q n,k = .int q n∧tk.kind = .int q)∨(∃ s,k = .str s∧tk.kind = .str)∨∃ xs,k = .agg xs∧tk.plain=true∧eks xs=eks tk.zero:=by
 cases k <;> simp only [eV,Bool.false_eq_true] at h
 ·split at h
  ·rename_i q' hk
   simp only [decide_eq_true_eq] at h
   subst h
   exact .inl ⟨_,_,rfl,hk⟩
  ·cases h
 ·split at h
  ·rename_i hk
   exact .inr (.inl ⟨_,rfl,hk⟩)
  ·cases h
 ·simp only [Bool.and_eq_true,decide_eq_true_eq] at h
  exact .inr (.inr ⟨_,rfl,h.1,h.2⟩)
theorem dV {E:Env} {kt:TypeId} {tk:TD} (ht:TDok P kt tk) {k:V} {kv:Value} (hk:aa E k kv) (h:eV tk k=true) (em:Bool) :(Instr.checkKey em 10000 kt kv).run P E.w = .ok () E.w:=by
 have hkd:=ht.kind
 rcases cu h with ⟨q,n,rfl,hq⟩ |⟨s,rfl,hq⟩ |⟨xs,rfl,h1,h2⟩
 ·rw [hq] at hkd
  simp only [aN] at hkd
  simp only [aa] at hk
  obtain ⟨rfl,_⟩:=hk
  exact Go.MapKept.run_checkKey hkd (by simp [Go.MapKept.IsKey]) em 9999
 ·rw [hq] at hkd
  simp only [aN] at hkd
  simp only [aa] at hk
  obtain ⟨rfl,_⟩:=hk
  exact Go.MapKept.run_checkKey hkd (by simp [Go.MapKept.IsKey]) em 9999
 ·simp only [aa] at hk
  obtain ⟨l,rfl,hl⟩:=hk
  exact (vN ht h1 hl h2).2 em
theorem Jg {E:Env} {tk:TD} {k k':V} {kv kv':Value} (h:eV tk k=true) (h':eV tk k'=true) (hk:aa E k kv) (hk':aa E k' kv') (he:jj k k'=true):kv'=kv∧Instr.sameBits 10000 kv kv=true:=by
 rcases cu h with ⟨q,n,rfl,hq⟩ |⟨s,rfl,hq⟩ |⟨xs,rfl,h1,h2⟩
 ·rcases cu h' with ⟨q',n',rfl,hq'⟩ |⟨s',rfl,hq'⟩ |⟨ys,rfl,h3,h4⟩
  ·rw [hq] at hq'
   cases hq'
   simp only [jj,eq1,beq_iff_eq] at he
   subst he
   simp only [aa] at hk hk'
   obtain ⟨rfl,_⟩:=hk
   obtain ⟨rfl,_⟩:=hk'
   exact ⟨rfl,by simp [Instr.sameBits]⟩
  ·rw [hq] at hq';cases hq'
  ·unfold TD.plain at h3;rw [hq] at h3;simp [TK.agg] at h3
 ·rcases cu h' with ⟨q',n',rfl,hq'⟩ |⟨s',rfl,hq'⟩ |⟨ys,rfl,h3,h4⟩
  ·rw [hq] at hq';cases hq'
  ·simp only [jj,eq1] at he
   rw [bytes_eq_iff] at he
   have:s=s':=by
    cases s;cases s'
    simp only at he
    congr 1
    exact Array.ext' he
   subst this
   simp only [aa] at hk hk'
   obtain ⟨rfl,_⟩:=hk
   obtain ⟨rfl,_⟩:=hk'
   exact ⟨rfl,by simp [Instr.sameBits,Go.MapKept.bytes_beq]⟩
  ·unfold TD.plain at h3;rw [hq] at h3;simp [TK.agg] at h3
 ·rcases cu h' with ⟨q',n',rfl,hq'⟩ |⟨s',rfl,hq'⟩ |⟨ys,rfl,h3,h4⟩
  ·unfold TD.plain at h1;rw [hq'] at h1;simp [TK.agg] at h1
  ·unfold TD.plain at h1;rw [hq'] at h1;simp [TK.agg] at h1
  ·simp only [jj] at he
   have hp':=h1
   unfold TD.plain at hp'
   simp only [Bool.and_eq_true] at hp'
   obtain ⟨ks,hks⟩:=Option.isSome_iff_exists.1 hp'.2
   rw [hks] at h2 h4
   simp only [aa] at hk hk'
   obtain ⟨l,rfl,hl⟩:=hk
   obtain ⟨l',rfl,hl'⟩:=hk'
   have e1:=(sJ xs ys l.toList l'.toList ks h2 h4 hl hl').1 he
   have e2:=tL xs ys l.toList l'.toList ks h2 h4 hl hl' e1
   have e3:l=l':=Array.ext' e2
   subst e3
   refine ⟨rfl,?_⟩
   have hs:=mD xs l.toList ks h2 hl 9999
   simp only [Instr.sameBits,beq_self_eq_true,Bool.true_and,List.all_eq_true]
   intro q hq
   obtain ⟨a,b⟩:=q
   have :∀ (l:List Value) (a b:Value),(a,b)∈l.zip l→a=b∧a∈l:=by
    intro l
    induction l with
    | nil=>intro a b h;simp at h
    | cons x l ih=>
     intro a b h
     simp only [List.zip_cons_cons,List.mem_cons,Prod.mk.injEq] at h
     rcases h with ⟨rfl,rfl⟩|h
     ·exact ⟨rfl,List.mem_cons_self⟩
     ·exact ⟨(ih a b h).1,List.mem_cons_of_mem _ (ih a b h).2⟩
   obtain ⟨rfl,hm⟩:=this l.toList a b hq
   exact hs a hm
def FindR (tk:TD) (k:V) (i:Nat) (xs:List (V×V)) (es:List MapEntry) (a:Option (Nat×Value)):Option (Nat×V)→Prop
 | none=>a=none
 | some (j,v)=>i≤j∧∃ e k',es[j - i]?=some e∧xs[j - i]?=some (k',v)∧a=some (j,e.val)∧eV tk k'=true∧jj k k'=true
theorem FindR.up {tk:TD} {k:V} {i:Nat} {x:V×V} {xs:List (V×V)} {e:MapEntry} {es:List MapEntry} {a:Option (Nat×Value)} {r:Option (Nat×V)} (h:FindR tk k (i+1) xs es a r):FindR tk k i (x::xs) (e::es) a r:=by
 cases r with
 | none=>exact h
 | some q=>
  obtain ⟨j,v⟩:=q
  obtain ⟨h1,e',k',h2,h3,h4⟩:=h
  refine ⟨by omega,e',k',?_,?_,h4⟩
  ·rw [show j - i =(j - (i+1))+1 by omega];simpa using h2
  ·rw [show j - i =(j - (i+1))+1 by omega];simpa using h3
theorem tc {E:Env} {tk:TD} {k:V} {kv:Value} {d:TypeDesc} (hc :∀ k' kv',eV tk k'=true→aa E k' kv'→Instr.sameNow d kv kv'=some (jj k k')) :∀ {xs:List (V×V)} {es:List MapEntry} {i:Nat},im E xs es→∀ r,fO tk k xs i=some r→∃ a,Instr.findNow d kv es i=some a∧FindR tk k i xs es a r
 | [],[],i,_,r,hr=>by
  simp only [fO,Option.some.injEq] at hr
  subst hr
  exact ⟨none,rfl,rfl⟩
 | _::_,[],_,h,_,_=>by simp [im] at h
 | [],_::_,_,h,_,_=>by simp [im] at h
 |(k',v)::xs,e::es,i,he,r,hr=>by
  obtain ⟨⟨e1,e2⟩,he⟩:=he
  simp only [fO] at hr
  split at hr
  case h_2=>cases hr
  rename_i hok
  have hcmp:=hc k' e.key hok e1
  split at hr
  ·rename_i hke
   rw [hke] at hcmp
   simp only [Option.some.injEq] at hr
   subst hr
   exact ⟨some (i,e.val),by simp [Instr.findNow,hcmp],Nat.le_refl _,e,k',by simp,by simp,rfl,hok,hke⟩
  ·rename_i hke
   rw [hke] at hcmp
   obtain ⟨a,h1,h2⟩:=tc hc he r hr
   exact ⟨a,by simp only [Instr.findNow,hcmp];exact h1,h2.up⟩
theorem Bt {E:Env} {tk:TD} {k:V} {kv:Value} {kt:TypeId} (hc :∀ k' kv',eV tk k'=true→aa E k' kv'→(Op.equal kt kv kv').run P E.w = .ok (jj k k') E.w) :∀ {xs:List (V×V)} {es:List MapEntry} {i:Nat},im E xs es→∀ r,fO tk k xs i=some r→∃ a,(Instr.findAsking kt kv es i).run P E.w = .ok a E.w∧FindR tk k i xs es a r
 | [],[],i,_,r,hr=>by
  simp only [fO,Option.some.injEq] at hr
  subst hr
  exact ⟨none,by simp [Instr.findAsking],rfl⟩
 | _::_,[],_,h,_,_=>by simp [im] at h
 | [],_::_,_,h,_,_=>by simp [im] at h
 |(k',v)::xs,e::es,i,he,r,hr=>by
  obtain ⟨⟨e1,e2⟩,he⟩:=he
  simp only [fO] at hr
  split at hr
  case h_2=>cases hr
  rename_i hok
  have hcmp:=hc k' e.key hok e1
  split at hr
  ·rename_i hke
   rw [hke] at hcmp
   simp only [Option.some.injEq] at hr
   subst hr
   exact ⟨some (i,e.val),by simp [Instr.findAsking,hcmp],Nat.le_refl _,e,k',by simp,by simp,rfl,hok,hke⟩
  ·rename_i hke
   rw [hke] at hcmp
   obtain ⟨a,h1,h2⟩:=Bt hc he r hr
   exact ⟨a,by simp [Instr.findAsking,hcmp,h1],h2.up⟩
theorem mX {td:TD} {k:TK} (hk:td.kind=k) (ha:k.agg=false) (h:td.plain=true):False:=by
 unfold TD.plain at h
 rw [hk,ha] at h
 cases h
theorem cS {E:Env} {kt:TypeId} {tk:TD} (ht:TDok P kt tk) {k:V} {kv:Value} (hk:aa E k kv) (h:eV tk k=true) {xs:List (V×V)} {es:List MapEntry} {i:Nat} (hi:i=0) (he:im E xs es) {r:Option (Nat×V)} (hr:fO tk k xs i=some r) :
  ∃ a,(Instr.findKey kt kv es).run P E.w = .ok a E.w∧FindR tk k i xs es a r:=by
 subst hi
 have hkd:=ht.kind
 rcases cu h with ⟨q,n,rfl,hq⟩ |⟨s,rfl,hq⟩ |⟨zs,rfl,h1,h2⟩
 ·rw [hq] at hkd
  simp only [aN] at hkd
  simp only [aa] at hk
  obtain ⟨rfl,_⟩:=hk
  obtain ⟨a,a1,a2⟩:=tc (d:= .int q) (kv:= .int q n) (tk:=tk) (k:= .int q n) (fun k' kv' hok' hv'=>by
   rcases cu hok' with ⟨q',n',rfl,hq'⟩ |⟨s',rfl,hq'⟩ |⟨ys,rfl,h3,h4⟩
   ·rw [hq] at hq'
    cases hq'
    simp only [aa] at hv'
    rw [hv'.1]
    simp [Instr.sameNow,jj,eq1]
   ·rw [hq] at hq';cases hq'
   ·exact (mX hq rfl h3).elim) he r hr
  exact ⟨a,Go.MapKept.run_findKey hkd a1,a2⟩
 ·rw [hq] at hkd
  simp only [aN] at hkd
  simp only [aa] at hk
  obtain ⟨rfl,_⟩:=hk
  obtain ⟨a,a1,a2⟩:=tc (d:= .string) (kv:= .string s) (tk:=tk) (k:= .str s) (fun k' kv' hok' hv'=>by
   rcases cu hok' with ⟨q',n',rfl,hq'⟩ |⟨s',rfl,hq'⟩ |⟨ys,rfl,h3,h4⟩
   ·rw [hq] at hq';cases hq'
   ·simp only [aa] at hv'
    rw [hv'.1]
    simp only [Instr.sameNow,jj,eq1,Option.some.injEq]
    cases hb :(s.toList==s'.toList) with
    | true=>
     rw [bytes_eq_iff] at hb
     rw [Go.MapKept.bytes_beq]
     cases s;cases s'
     simp only at hb
     congr 1
     exact Array.ext' hb
    | false=>
     cases hb2 :(s==s') with
     | false=>rfl
     | true=>
      rw [Go.MapKept.bytes_beq] at hb2
      subst hb2
      simp at hb
   ·exact (mX hq rfl h3).elim) he r hr
  exact ⟨a,Go.MapKept.run_findKey hkd a1,a2⟩
 ·simp only [aa] at hk
  obtain ⟨l,rfl,hl⟩:=hk
  have hw:=(vN ht h1 hl h2).1
  obtain ⟨a,a1,a2⟩:=Bt (P:=P) (kt:=kt) (kv:= .agg l) (tk:=tk) (k:= .agg zs) (fun k' kv' hok' hv'=>by
   rcases cu hok' with ⟨q',n',rfl,hq'⟩ |⟨s',rfl,hq'⟩ |⟨ys,rfl,h3,h4⟩
   ·exact (mX hq' rfl h1).elim
   ·exact (mX hq' rfl h1).elim
   ·simp only [aa] at hv'
    obtain ⟨l',rfl,hl'⟩:=hv'
    exact (uv ht h1 hl hl' h2 h4).1) he r hr
  exact ⟨a,by rw [run_findKey_eq E.w hw];exact a1,a2⟩
theorem oZ {w:World} {r:Nat} {es:Array MapEntry} {c:Nat} (hb:w.heap[r]?=some (.map es c)) :(getObj r).run P w = .ok (.map es c) w:=by
 simp [getObj,Sem.run,hb]
theorem uy {w:World} {r:Nat} {es:Array MapEntry} {c:Nat} (o:Obj) (hb:w.heap[r]?=some (.map es c)) :(setObj r o).run P w = .ok () { w with heap:=w.heap.setIfInBounds r o }:=by
 simp [setObj,Sem.run,hb]
theorem py {B:Base} {E:Env} (hE:HRel B E) {h:Nat} {es:List (V×V)} (hh:E.H h=some (.mp es)) {v:Value} (hv:aa E (.mpv h) v) :∃ b l,E.ρ h=some b∧v = .map (some b)∧E.w.heap[b]?=some (.map l l.size)∧¬ E.S b∧bJ E 0 es l.toList∧E.U h:=by
 simp only [aa] at hv
 obtain ⟨hU,_,hv⟩:=hv
 obtain ⟨b,h1,h2⟩:=hv es hh
 obtain ⟨b',l,k,g1,g2,g3,g4,g5⟩:=hE.blk h _ hh
 rw [h1] at g1
 cases g1
 subst g5
 exact ⟨b,l,h1,h2,g2,g3,g4,hU⟩
theorem uk {B:Base} {E:Env} (hE:HRel B E) (m:Nat) {h:Nat} {es es':List (V×V)} (hh:E.H h=some (.mp es)) {b:Nat} {l l':Array MapEntry} (hρ:E.ρ h=some b) (hb:E.w.heap[b]?=some (.map l l.size)) (hS :¬ E.S b) (hU:E.U h) (hes:bJ E 0 es' l'.toList) :
  ∃ E',Good B E m [(h,.mp es')] { E.w with heap:=E.w.heap.setIfInBounds b (.map l' l'.size) } E'∧Ext E E':=by
 have hlt:b<E.w.heap.size:=(Array.getElem?_eq_some_iff.1 hb).1
 obtain ⟨R,X⟩:=ju hE h (.mp es') (some b) { E.w with heap:=E.w.heap.setIfInBounds b (.map l' l'.size) } E.U (fun n h=>h) hU
  ⟨rfl,rfl,rfl,by simp,fun b' _ hne=>by
   have:b'≠b:=fun e=>hne (by rw [e])
   simp [Array.getElem?_setIfInBounds_ne (Ne.symm this)]⟩
  (fun b' e=>by cases e;exact .inr ⟨hρ,_,hh,rfl⟩) (fun b' e=>by cases e;exact hS)
  (fun _ e _=>by cases e) (fun _ _ _ _ e _ _=>by cases e)
  (fun X=>⟨b,l',l'.size,ah _ _ _,by simp [hlt],hS,qc X _ _ _ hes,rfl⟩)
  (fun _ _ _ e _ _=>by cases e) (fun es1 e _=>⟨⟨es,hh⟩,hρ.symm⟩)
 exact ⟨_,⟨R,X,rfl,(bn _ _ _).symm,fun n h=> .inl h⟩,X⟩
theorem nE {B:Base} {E:Env} (hE:HRel B E) (m:Nat) (hm :¬ E.U m) (t:TypeId) :∃ w' E',(Instr.makeMap t none).run P E.w = .ok (.map (some E.w.heap.size)) w'∧Good B E m [(m,.mp [])] w' E'∧aa E' (.mpv m) (.map (some E.w.heap.size)):=by
 have hS :¬ E.S E.w.heap.size:=fun h=>Nat.lt_irrefl _ (hE.stab _ h)
 have hrun :(Instr.makeMap t none).run P E.w = .ok (.map (some E.w.heap.size)) (E.w.alloc (.map #[] 0)):=by simp [Instr.makeMap,Result.andThen]
 have hw:E.w.alloc (.map #[] 0)={ E.w with heap:=E.w.heap.push (.map #[] 0) }:=rfl
 obtain ⟨R,X⟩:=ju hE m (.mp []) (some E.w.heap.size) { E.w with heap:=E.w.heap.push (.map #[] 0) } (fun n=>E.U n∨n=m) (fun n h=> .inl h) (.inr rfl)
  ⟨rfl,rfl,rfl,by simp,fun b hb' _=>Below.heap_alloc E.w _ b hb'⟩ (fun b e=>by cases e;exact .inl ⟨Nat.le_refl _,by simp⟩) (fun b e=>by cases e;exact hS)
  (fun _ _ h=>absurd h hm) (fun _ _ _ _ _ h _=>absurd h hm)
  (fun X=>⟨_,#[],0,ah _ _ _,by simp,hS,trivial,rfl⟩) (fun _ _ _ _ h _=>absurd h hm) (fun _ _ h=>absurd h hm)
 refine ⟨_,_,hrun,⟨R,X,hw.symm▸rfl,(bn _ _ _).symm,fun n h=>?_⟩,?_⟩
 ·rcases h with h|h
  ·exact .inl h
  ·exact .inr ⟨by omega,by unfold KN;omega⟩
 ·simp only [aa]
  exact ⟨.inr trivial,⟨_,rfl⟩,fun _ _=>⟨_,ah _ _ _,rfl⟩⟩
theorem eY {tb:Tbl} (hT:a6 P tb) {t:TypeId} {q:TD×TD} (h:fN tb t=some q) :∃ k e,P.underlying t=some (.map k e)∧TDok P k q.1∧TDok P e q.2:=by
 unfold fN at h
 split at h
 case h_2=>cases h
 rename_i td htd
 split at h
 case h_2=>cases h
 rename_i k e hk
 split at h
 case h_2=>cases h
 rename_i tk te h1 h2
 cases h
 have hkd:=(hT _ _ htd).kind
 rw [hk] at hkd
 exact ⟨k,e,hkd,hT _ _ h1,hT _ _ h2⟩
theorem Df {E:Env} {e:TypeId} {te:TD} (ht:TDok P e te) {z:V} (h:zV te=some z) :∃ zv,(zeroValue e).run P E.w = .ok zv E.w∧∀ E':Env,aa E' z zv:=by
 obtain ⟨i,z0,h1,h2,h3,h4,h5⟩:=ht.info
 have h6:=ht.zagg i z0 h1 h4
 refine ⟨z0,by simp [Go.zeroValue,typeInfo,h1,h4],fun E'=>?_⟩
 have hc:=ca (E:=E') h5
 unfold zV at h
 split at h
 ·rename_i ha
  cases h
  rw [ha] at h6
  cases z0 <;> simp only [od,Bool.false_eq_true] at h6
  simp only [aa]
  exact ⟨_,rfl,by simpa [Value.cells] using hc⟩
 ·rename_i ha
  rw [ha] at h6
  split at h
  case h_2=>cases h
  rename_i z1 hz
  cases h
  rw [hz] at hc
  have:z0.cells.toList=[z0]:=by cases z0 <;> first|rfl|simp [od] at h6
  rw [this] at hc
  simp only [ab] at hc
  exact hc.1
theorem sW {B:Base} {E:Env} (hE:HRel B E) {tb:Tbl} (hT:a6 P tb) {t:TypeId} {q:TD×TD} (hq:fN tb t=some q) {x k:V} {xv kv:Value} (hx:aa E x xv) (hk:aa E k kv) {ok:Bool} {ps:List Ob} {v:V} {dh:List (Nat×Blk)} (h:cq q.1 q.2 E.H x k ok = .val ps v dh) :
  dh=[]∧∃ v',(Instr.lookup t xv kv ok).run P E.w = .ok v' E.w∧aa E v v':=by
 obtain ⟨kt,et,hu,hkt,het⟩:=eY hT hq
 unfold cq at h
 split at h
 case h_2=>cases h
 rename_i es hko hes
 obtain ⟨l,hl,hrel⟩ :∃ l:Array MapEntry,((xv = .map none∧l=#[])∨∃ b,xv = .map (some b)∧(getObj b).run P E.w = .ok (.map l l.size) E.w)∧bJ E 0 es l.toList:=by
  unfold Mg at hes
  split at hes
  ·split at hes
   case h_2=>cases hes
   rename_i h0 es0 hh
   cases hes
   obtain ⟨b,l,g1,rfl,g2,_,g4,_⟩:=py hE hh hx
   exact ⟨l,.inr ⟨b,rfl,oZ g2⟩,g4⟩
  ·cases hes
   simp only [aa] at hx
   exact ⟨#[],.inl ⟨hx,rfl⟩,trivial⟩
  ·cases hes
 have hck :∀ em,(Instr.checkKey em 10000 kt kv).run P E.w = .ok () E.w:=fun em=>dV hkt hk hko em
 have finS :∀ (j:Nat) (u:Value),(Instr.findKey kt kv l.toList).run P E.w = .ok (some (j,u)) E.w→(Instr.lookup t xv kv ok).run P E.w = .ok (if ok then .tuple #[u,.bool true] else u) E.w:=fun j u h1=>by
  rcases hl with ⟨rfl,rfl⟩ |⟨b,rfl,hg⟩
  ·simp only [Instr.lookup,Sem.run_bind,run_underlying hu,Result.andThen_ok,Sem.run_pure,hck,h1]
  ·simp only [Instr.lookup,Sem.run_bind,run_underlying hu,Result.andThen_ok,Sem.run_pure,hg,hck,h1]
 have IM :∀ (u:Value),(Instr.findKey kt kv l.toList).run P E.w = .ok none E.w→(zeroValue et).run P E.w = .ok u E.w→(Instr.lookup t xv kv ok).run P E.w = .ok (if ok then .tuple #[u,.bool false] else u) E.w:=fun u h1 h2=>by
  rcases hl with ⟨rfl,rfl⟩ |⟨b,rfl,hg⟩
  ·simp only [Instr.lookup,Sem.run_bind,run_underlying hu,Result.andThen_ok,Sem.run_pure,hck,h1,h2]
  ·simp only [Instr.lookup,Sem.run_bind,run_underlying hu,Result.andThen_ok,Sem.run_pure,hg,hck,h1,h2]
 have lk :∀ (v:V) (v1:Value) (b1:Bool),aa E v v1→aa E (lkV ok v b1) (if ok then .tuple #[v1,.bool b1] else v1):=fun v v1 b1 hv=>by
  cases ok with
  | true=>simp only [lkV,if_true,aa];exact ⟨_,rfl,by simp only [ab,aa];exact ⟨hv,trivial,trivial⟩⟩
  | false=>simpa [lkV] using hv
 split at h
 ·rename_i j v0 hf
  cases h
  obtain ⟨a,a1,a2⟩:=cS hkt hk hko rfl (kE hrel) hf
  obtain ⟨_,e,k',b1,b2,rfl,_,_⟩:=a2
  obtain ⟨e',c1,_,c3,_⟩:=hZ hrel _ _ b2
  rw [c1] at b1
  cases b1
  exact ⟨rfl,_,finS _ e.val a1,lk _ _ true c3⟩
 ·rename_i hf
  split at h
  case h_2=>cases h
  rename_i z hz
  cases h
  obtain ⟨a,a1,a2⟩:=cS hkt hk hko rfl (kE hrel) hf
  have a2:a=none:=a2
  subst a2
  obtain ⟨zv,z1,z2⟩:=Df (E:=E) het hz
  exact ⟨rfl,_,IM zv a1 z1,lk _ _ false (z2 E)⟩
 ·cases h
theorem tG {E:Env} {tk:TD} {k k':V} {kv kv':Value} (h:eV tk k=true) (h':eV tk k'=true) (hk:aa E k kv) (hk':aa E k' kv') (he:jj k k'=true) :(Instr.keyThatStays kv' kv).run P E.w = .ok kv E.w:=by
 obtain ⟨rfl,hs⟩:=Jg h h' hk hk' he
 simp [Instr.keyThatStays,hs]
theorem sY {B:Base} {E:Env} (hE:HRel B E) {tb:Tbl} (hT:a6 P tb) {t:TypeId} {q:TD×TD} (hq:fN tb t=some q) {x k v:V} {xv kv vv:Value} (hx:aa E x xv) (hk:aa E k kv) (hv:aa E v vv) (m:Nat) {ps:List Ob} {dh:List (Nat×Blk)} (h:HD (sX q.1 E.H x k v)=some (ps,dh)) :
  ∃ w' E',(Instr.mapUpdate t xv kv vv).run P E.w = .ok () w'∧Good B E m dh w' E':=by
 obtain ⟨kt,et,hu,hkt,het⟩:=eY hT hq
 unfold sX at h
 split at h
 case h_2=>cases h
 rename_i h0 hko
 split at h
 case h_2=>cases h
 rename_i es hh
 obtain ⟨b,l,g1,rfl,g2,g3,g4,g5⟩:=py hE hh hx
 have hck:=dV hkt hk hko false
 split at h
 ·rename_i i v0 hf
  cases h
  obtain ⟨a,a1,a2⟩:=cS hkt hk hko rfl (kE g4) hf
  obtain ⟨_,e,k',b1,b2,rfl,b3,b4⟩:=a2
  obtain ⟨e',c1,c2,c3,_⟩:=hZ g4 _ _ b2
  rw [c1] at b1
  cases b1
  have hks:=tG (P:=P) hko b3 hk c2 b4
  have hi:l[i]?=some e:=by simpa using c1
  obtain ⟨E',G,_⟩:=uk hE m hh (es':=es.set i (k,v)) (l':=l.modify i fun e=>{ e with key:=kv,val:=vv }) g1 g2 g3 g5 (by
   rw [Array.toList_modify]
   exact mL g4 i (k,v) _ (fun e _=>⟨hk,hv,rfl⟩))
  refine ⟨_,E',?_,G⟩
  simp [Instr.mapUpdate,run_underlying hu,oZ g2,hck,a1,hi,hks,uy _ g2,Result.andThen]
 ·rename_i hf
  cases h
  obtain ⟨a,a1,a2⟩:=cS hkt hk hko rfl (kE g4) hf
  have a2:a=none:=a2
  subst a2
  have hl:=mK g4
  obtain ⟨E',G,_⟩:=uk hE m hh (es':=es++[(k,v)]) (l':=l.push { key:=kv,val:=vv,born:=l.size }) g1 g2 g3 g5 (by
   rw [Array.toList_push]
   exact n4 g4 (k,v) _ hk hv (by simp at hl ⊢;omega))
  refine ⟨_,E',?_,G⟩
  simp [Instr.mapUpdate,run_underlying hu,oZ g2,hck,a1,uy _ g2,Result.andThen]
 ·cases h
theorem qi {B:Base} {E:Env} (hE:HRel B E) {tb:Tbl} (hT:a6 P tb) {t:TypeId} {q:TD×TD} (hq:fN tb t=some q) {x k:V} {xv kv:Value} (hx:aa E x xv) (hk:aa E k kv) (m:Nat) {ps:List Ob} {v:V} {dh:List (Nat×Blk)} (h:n7 q.1 q.2 E.H x k = .val ps v dh) :
  ∃ v' w' E',(Instr.mapEntry t xv kv).run P E.w = .ok v' w'∧Good B E m dh w' E'∧aa E' v v':=by
 obtain ⟨kt,et,hu,hkt,het⟩:=eY hT hq
 unfold n7 at h
 split at h
 case h_2=>cases h
 rename_i h0 hko
 split at h
 case h_2=>cases h
 rename_i es hh
 split at h
 case isFalse=>cases h
 rename_i hlen
 obtain ⟨b,l,g1,rfl,g2,g3,g4,g5⟩:=py hE hh hx
 have hck:=dV hkt hk hko false
 have hl:=mK g4
 have okb :∀ n:Nat,n≤1000000→ok .i64 (n:Int):=fun n hn=>by unfold ok IntKind.min IntKind.max;simp [IntKind.bits,IntKind.signed];omega
 split at h
 ·rename_i i v0 hf
  cases h
  obtain ⟨a,a1,a2⟩:=cS hkt hk hko rfl (kE g4) hf
  obtain ⟨_,e,k',b1,b2,rfl,b3,b4⟩:=a2
  obtain ⟨e',c1,c2,c3,c4⟩:=hZ g4 _ _ b2
  rw [c1] at b1
  cases b1
  have hks:=tG (P:=P) hko b3 hk c2 b4
  have hi:l[i]?=some e:=by simpa using c1
  have hi2:i<es.length:=(List.getElem?_eq_some_iff.1 b2).1
  obtain ⟨E',G,X⟩:=uk hE m hh (es':=es.set i (k,v0)) (l':=l.modify i fun e=>{ e with key:=kv }) g1 g2 g3 g5 (by
   rw [Array.toList_modify]
   exact mL g4 i (k,v0) _ (fun e'' he=>⟨hk,by rw [show l.toList[i]?=some e from by simpa using hi] at he;cases he;exact c3,rfl⟩))
  refine ⟨.tuple #[e.val,goInt e.born],_,E',?_,G,?_⟩
  ·simp [Instr.mapEntry,run_underlying hu,oZ g2,hck,a1,hi,hks,uy _ g2,Result.andThen]
  ·simp only [aa]
   refine ⟨_,rfl,?_⟩
   simp only [ab]
   refine ⟨bb X _ _ c3,?_,trivial⟩
   rw [show e.born=i by omega]
   exact fU (okb i (by omega))
 ·rename_i hf
  split at h
  case h_2=>cases h
  rename_i z hz
  cases h
  obtain ⟨a,a1,a2⟩:=cS hkt hk hko rfl (kE g4) hf
  have a2:a=none:=a2
  subst a2
  obtain ⟨zv,z1,z2⟩:=Df (E:=E) het hz
  obtain ⟨E',G,X⟩:=uk hE m hh (es':=es++[(k,z)]) (l':=l.push { key:=kv,val:=zv,born:=l.size }) g1 g2 g3 g5 (by
   rw [Array.toList_push]
   exact n4 g4 (k,z) _ hk (z2 E) (by simp at hl ⊢;omega))
  refine ⟨.tuple #[zv,goInt l.size],_,E',?_,G,?_⟩
  ·simp [Instr.mapEntry,run_underlying hu,oZ g2,hck,a1,z1,uy _ g2,Result.andThen]
  ·simp only [aa]
   refine ⟨_,rfl,?_⟩
   simp only [ab]
   refine ⟨z2 E',?_,trivial⟩
   have:es.length=l.size:=by simpa using hl
   rw [this]
   exact fU (okb l.size (by omega))
 ·cases h
theorem n5 {B:Base} {E:Env} (hE:HRel B E) (t:TypeId) {x s v:V} {xv sv vv:Value} (hx:aa E x xv) (hs:aa E s sv) (hv:aa E v vv) (m:Nat) {ps:List Ob} {dh:List (Nat×Blk)} (h:HD (kF E.H x s v)=some (ps,dh)) :
  ∃ w' E',(Instr.entryStore t xv sv vv).run P E.w = .ok () w'∧Good B E m dh w' E':=by
 unfold kF at h
 split at h
 case h_2=>cases h
 rename_i h0 q n
 split at h
 case h_2=>cases h
 rename_i es hh
 split at h
 case isFalse=>cases h
 rename_i hn
 split at h
 case h_2=>cases h
 rename_i p hp
 cases h
 obtain ⟨b,l,g1,rfl,g2,g3,g4,g5⟩:=py hE hh hx
 simp only [aa] at hs
 obtain ⟨rfl,_⟩:=hs
 obtain ⟨e,c1,c2,c3,c4⟩:=hZ g4 _ _ hp
 have hi:l[n.toNat]?=some e:=by simpa using c1
 have hfind:l.findIdx? (fun e=>(e.born:Int)==n)=some n.toNat:=by
  rw [Array.findIdx?_eq_some_iff_getElem]
  have hlt:n.toNat<l.size:=(Array.getElem?_eq_some_iff.1 hi).1
  refine ⟨hlt,?_,fun j hj=>?_⟩
  ·have:l[n.toNat]=e:=(Array.getElem?_eq_some_iff.1 hi).2
   rw [this,beq_iff_eq]
   omega
  ·have hl:=mK g4
   have hjl:j<es.length:=by simp at hl;omega
   obtain ⟨e2,d1,_,_,d4⟩:=hZ g4 j es[j] (List.getElem?_eq_getElem hjl)
   have:l[j]=e2:=(Array.getElem?_eq_some_iff.1 (show l[j]?=some e2 by simpa using d1)).2
   rw [this]
   simp only [Bool.not_eq_true,beq_eq_false_iff_ne,ne_eq]
   omega
 obtain ⟨E',G,_⟩:=uk hE m hh (es':=es.set n.toNat (p.1,v)) (l':=l.modify n.toNat fun e=>{ e with val:=vv }) g1 g2 g3 g5 (by
  rw [Array.toList_modify]
  exact mL g4 n.toNat (p.1,v) _ (fun e' he=>⟨by rw [c1] at he;cases he;exact c2,hv,rfl⟩))
 refine ⟨_,E',?_,G⟩
 simp [Instr.entryStore,oZ g2,asInt,asIntOf,hfind,uy _ g2,Result.andThen]
end
section
open Go.RowKit
variable {P:Program}
theorem nf {v:Value} (h:v.oneCell'=true):v.cells=#[v]:=by cases v <;> first|rfl |(simp [Value.oneCell'] at h)
theorem Rd.flat0 {S S':Nat→Prop} {w w':World} {t:Ty} {x:Den t} {cs:List Value} (h:Rd S w t x cs) (hf:t.flat0=true):Rd S' w' t x cs:=by
 induction h with
 | int h=>exact .int h
 | bool=>exact .bool
 | str h=>exact .str h
 | unit=>exact .unit
 | prod _ _ ih1 ih2=>
  simp only [Ty.flat0,Bool.and_eq_true] at hf
  exact .prod (ih1 hf.1) (ih2 hf.2)
 | nm _ _=>simp [Ty.flat0] at hf
 | nil=>simp [Ty.flat0] at hf
 | slice=>simp [Ty.flat0] at hf
theorem Rd.flat1 {S S':Nat→Prop} {w w':World} {t:Ty} {x:Den t} {cs:List Value} (h:Rd S w t x cs) (hf:t.flat1=true):Rd S' w' t x cs:=by
 induction h with
 | int h=>exact .int h
 | bool=>exact .bool
 | str h=>exact .str h
 | unit=>exact .unit
 | prod _ _ ih1 ih2=>
  simp only [Ty.flat1,Bool.and_eq_true] at hf
  exact .prod (ih1 hf.1) (ih2 hf.2)
 | nm h _=>exact .nm (h.flat0 hf)
 | nil=>simp [Ty.flat1] at hf
 | slice=>simp [Ty.flat1] at hf
theorem Rd.flatB {S S':Nat→Prop} {w w':World} {t:Ty} {x:Den t} {cs:List Value} (h:Rd S w t x cs) (hf:t.flatB=true):Rd S' w' t x cs:=by
 induction h with
 | int h=>exact .int h
 | bool=>exact .bool
 | str h=>exact .str h
 | unit=>exact .unit
 | prod _ _ ih1 ih2=>
  simp only [Ty.flatB,Bool.and_eq_true] at hf
  exact .prod (ih1 hf.1) (ih2 hf.2)
 | nm h _=>exact .nm (h.flat1 hf)
 | nil=>simp [Ty.flatB] at hf
 | slice=>simp [Ty.flatB] at hf
theorem oG {E:Env} {t:Ty} {x:Den t} {v:Value} (h:Rd E.S E.w t x v.cells.toList) (hf :(fB t=true∧∃ l,v = .agg l)∨(fB t=false∧v.cells.toList=[v])):aa E (bD t x) v:=by
 rcases hf with ⟨h1,l,rfl⟩ |⟨h1,h2⟩
 ·cases t <;> simp only [fB,Bool.false_eq_true] at h1
  ·simp only [bD,aa]
   refine ⟨l,rfl,?_⟩
   have h0:l.toList=[]:=List.eq_nil_of_length_eq_zero h.len
   rw [h0];simp [ab]
  ·simp only [bD,aa];exact ⟨l,rfl,h.flat dx⟩
  ·simp only [bD,aa];exact ⟨l,rfl,h.flat dx⟩
 ·rw [h2] at h
  cases t <;> simp only [fB,reduceCtorEq] at h1
  ·cases h with|int hk=>exact fU hk
  ·cases h with|bool=>simp only [bD,aa]
  ·cases h with|str hk=>exact HN hk
  ·simp only [bD,aa];exact h
theorem iB {B:Base} {E:Env} (hE:HRel B E) {t:Ty} {v:V} {x:Den t} (h:qt E.H t v=some x) {u:Value} (hv:aa E v u):aa E (bD t x) u:=by
 unfold qt at h
 cases hg:fB t==dF v with
 | false=>rw [hg] at h;cases h
 | true=>
  rw [hg] at h
  simp only [cond_true] at h
  split at h
  case h_2=>cases h
  rename_i cs hcs
  have hrd:=bI hE h (bp hv hcs)
  simp only [beq_iff_eq] at hg
  refine oG hrd ?_
  cases e:fB t with
  | true=>
   rw [e] at hg
   cases v <;> simp only [dF,Bool.true_eq_false] at hg
   simp only [aa] at hv
   obtain ⟨l,hl,_⟩:=hv
   exact .inl ⟨rfl,l,hl⟩
  | false=>
   rw [e] at hg
   refine .inr ⟨rfl,?_⟩
   have h1:u.oneCell'=true:=by
    cases v <;> simp only [dF,Bool.false_eq_true] at hg <;> simp only [cellsOf,reduceCtorEq] at hcs <;> exact fh rfl hv
   rw [nf h1]
theorem sI :∀ {xs ys:List V} {ks js:List EK},eks xs=some ks→eks ys=some js→eks (xs++ys)=some (ks++js)
 | [],ys,ks,js,h,h'=>by simp only [eks,Option.some.injEq] at h;subst h;simpa using h'
 | x::xs,ys,ks,js,h,h'=>by
  obtain ⟨k,r,h1,h2,rfl⟩:=dA h
  have ih:=sI h2 h'
  simp only [List.cons_append,eks,h1,ih]
theorem jO :∀ (f:Nat) (t:Ty) (x:Den t) {ks:List EK},oN f t=some ks→eks (flat f t x)=some ks
 | 0,_,_,_,h=>by simp [oN] at h
 | _+1,.int k,n,ks,h=>by simp only [oN,Option.some.injEq] at h;subst h;rfl
 | _+1,.bool,b,ks,h=>by simp only [oN,Option.some.injEq] at h;subst h;rfl
 | _+1,.str,s,ks,h=>by simp only [oN,Option.some.injEq] at h;subst h;rfl
 | _+1,.unit,_,ks,h=>by simp only [oN,Option.some.injEq] at h;subst h;rfl
 | f+1,.prod a b,x,ks,h=>by
  simp only [oN] at h
  split at h
  ·rename_i k1 k2 h1 h2
   cases h
   exact sI (jO f a x.1 h1) (jO f b x.2 h2)
  ·cases h
 | _+1,.slice _,_,_,h=>by simp [oN] at h
 | f+1,.nm n,x,ks,h=>by simp only [oN] at h;exact jO f n.flds (n.to x) h
theorem ij {tk:TD} {kt:Ty} (h:rL tk kt=true):kt.flatB=true:=by
 unfold rL at h
 simp only [Bool.and_eq_true] at h
 exact h.1
theorem mS {tk:TD} {kt:Ty} (h:rL tk kt=true) (x:Den kt):eV tk (bD kt x)=true:=by
 unfold rL at h
 simp only [Bool.and_eq_true] at h
 have h:=h.2
 cases kt with
 | int q=>
  simp only at h
  simp only [bD,eV]
  split at h
  ·rename_i q' hk
   exact h
  ·cases h
 | bool=>simp at h
 | str=>
  simp only at h
  simp only [bD,eV]
  split at h
  ·rfl
  ·cases h
 | unit=>simp at h
 | slice t=>simp at h
 | prod a b=>
  simp only [Bool.and_eq_true,decide_eq_true_eq] at h
  obtain ⟨h1,h2,h3⟩:=h
  obtain ⟨ks,hks⟩:=Option.isSome_iff_exists.1 h3
  have:=jO dx (.prod a b) x (h2.trans hks)
  simp only [bD,eV,h1,Bool.true_and,decide_eq_true_eq]
  rw [this,hks]
 | nm n=>
  simp only [Bool.and_eq_true,decide_eq_true_eq] at h
  obtain ⟨h1,h2,h3⟩:=h
  obtain ⟨ks,hks⟩:=Option.isSome_iff_exists.1 h3
  have:=jO dx (.nm n) x (h2.trans hks)
  simp only [bD,eV,h1,Bool.true_and,decide_eq_true_eq]
  rw [this,hks]
theorem Flt.rel {E:Env} {t:Ty} {x:Den t} {v:Value} (h:Flt t x v) (hb:t.flatB=true):aa E (bD t x) v:=by
 obtain ⟨⟨w,h1⟩,h2⟩:=h
 exact oG (h1.flatB hb) h2
theorem pa {B:Base} {E:Env} (hE:HRel B E) {t:Ty} {v:V} {x:Den t} (h:qt E.H t v=some x) (hb:t.flatB=true) {u:Value} (hv:aa E v u):Flt t x u:=by
 unfold qt at h
 cases hg:fB t==dF v with
 | false=>rw [hg] at h;cases h
 | true=>
  rw [hg] at h
  simp only [cond_true] at h
  split at h
  case h_2=>cases h
  rename_i cs hcs
  have hrd:=bI hE h (bp hv hcs)
  simp only [beq_iff_eq] at hg
  refine ⟨⟨E.w,hrd.flatB hb⟩,?_⟩
  cases e:fB t with
  | true=>
   rw [e] at hg
   cases v <;> simp only [dF,Bool.true_eq_false] at hg
   simp only [aa] at hv
   obtain ⟨l,hl,_⟩:=hv
   exact .inl ⟨rfl,l,hl⟩
  | false=>
   rw [e] at hg
   refine .inr ⟨rfl,?_⟩
   have h1:u.oneCell'=true:=by
    cases v <;> simp only [dF,Bool.false_eq_true] at hg <;> simp only [cellsOf,reduceCtorEq] at hcs <;> exact fh rfl hv
   rw [nf h1]
theorem De {B:Base} {E:Env} (hE:HRel B E) {e:TypeId} {te:TD} (ht:TDok P e te) {vt:Ty} (hag:fB vt=te.kind.agg) (hb:vt.flatB=true) {z:Den vt} (h:pE E.H vt te.zero=some z) :∃ zv,(zeroValue e).run P E.w = .ok zv E.w∧Flt vt z zv:=by
 obtain ⟨i,z0,h1,h2,h3,h4,h5⟩:=ht.info
 have h6:=ht.zagg i z0 h1 h4
 have hr:=bI hE h (ca h5)
 refine ⟨z0,by simp [Go.zeroValue,typeInfo,h1,h4],⟨⟨E.w,hr.flatB hb⟩,?_⟩⟩
 rw [←hag] at h6
 cases ha:fB vt with
 | true=>
  rw [ha] at h6
  cases z0 <;> simp only [od,Bool.false_eq_true] at h6
  exact .inl ⟨rfl,_,rfl⟩
 | false=>
  rw [ha] at h6
  refine .inr ⟨rfl,?_⟩
  cases z0 <;> first|rfl|simp [od] at h6
abbrev mpV {kt vt:Ty} (xs:List (Den kt×Den vt)):List (V×V):=xs.map fun q=>(bD kt q.1,bD vt q.2)
theorem sf {tk:TD} {kt vt:Ty} (hk:rL tk kt=true) (k:Den kt) :∀ (xs:List (Den kt×Den vt)) (i:Nat),fO tk (bD kt k) (mpV xs) i=some (match lJ k xs with|some v=>some (i+dR k xs,bD vt v)|none=>none)
 | [],_=>rfl
 | q::r,i=>by
  simp only [mpV,List.map_cons,fO,mS hk q.1,lJ,dR]
  cases hq:jj (bD kt k) (bD kt q.1) with
  | true=>simp only [zz,hq,cond_true];rfl
  | false=>
   have ih:=sf hk k r (i+1)
   simp only [zz,hq,cond_false]
   rw [show (List.map (fun q:Den kt×Den vt=>(bD kt q.1,bD vt q.2)) r)=mpV r from rfl,ih]
   cases lJ k r with
   | none=>rfl
   | some v=>simp only;rw [show i+1+dR k r=i +(dR k r+1) by omega]
theorem se {kt vt:Ty} {k:Den kt} {v:Den vt} :∀ {xs:List (Den kt×Den vt)},lJ k xs=some v→∃ h:dR k xs<xs.length,xs[dR k xs].2=v
 | [],h=>by cases h
 | q::r,h=>by
  unfold lJ at h
  cases hq:zz kt k q.1 with
  | true=>
   rw [hq] at h
   cases h
   have e:dR k (q::r)=0:=by unfold dR;rw [hq];rfl
   simp only [e]
   exact ⟨Nat.succ_pos _,rfl⟩
  | false=>
   rw [hq] at h
   obtain ⟨h1,h2⟩:=se h
   have e:dR k (q::r)=dR k r+1:=by rw [dR,hq];rfl
   simp only [e]
   exact ⟨Nat.succ_lt_succ h1,h2⟩
theorem qz {kt vt:Ty} {k:Den kt} {v u:Den vt} :∀ {xs:List (Den kt×Den vt)},lJ k xs=some u→rN k v xs=xs.set (dR k xs) (k,v)
 | [],h=>by cases h
 | q::r,h=>by
  unfold lJ at h
  cases hq:zz kt k q.1 with
  | true=>rw [rN,dR,hq];rfl
  | false=>
   rw [hq] at h
   rw [rN,dR,hq]
   simp only [cond_false,List.set_cons_succ]
   rw [qz h]
theorem mU {kt vt:Ty} {k:Den kt} {v:Den vt} :∀ {xs:List (Den kt×Den vt)},lJ k xs=none→rN k v xs=xs++[(k,v)]∧dR k xs=xs.length
 | [],_=>⟨rfl,rfl⟩
 | q::r,h=>by
  unfold lJ at h
  cases hq:zz kt k q.1 with
  | true=>rw [hq] at h;cases h
  | false=>
   rw [hq] at h
   obtain ⟨h1,h2⟩:=mU (v:=v) h
   rw [rN,dR,hq]
   simp only [cond_false,List.cons_append,List.length_cons]
   rw [h1,h2]
   exact ⟨rfl,rfl⟩
structure EntsOf (l:Array MapEntry) (n:Nat) {kt vt:Ty} (xs:List (Den kt×Den vt)):Prop where
 size:l.size=xs.length
 at' :∀ (i:Nat) (h:i<xs.length) (e:MapEntry),l[i]?=some e→(n=1→e.born=i)∧Flt kt xs[i].1 e.key∧Flt vt xs[i].2 e.val
theorem EntsOf.rels {E:Env} {kt vt:Ty} (hk:kt.flatB=true) (hv:vt.flatB=true) :∀ {xs:List (Den kt×Den vt)} {es:List MapEntry},xs.length=es.length→(∀ (i:Nat) (h:i<xs.length) (e:MapEntry),es[i]?=some e→Flt kt xs[i].1 e.key∧Flt vt xs[i].2 e.val)→im E (mpV xs) es
 | [],[],_,_=>trivial
 | [],_::_,h,_=>by simp at h
 | _::_,[],h,_=>by simp at h
 | x::xs,e::es,hl,h=>by
  obtain ⟨h1,h2⟩:=h 0 (Nat.succ_pos _) e rfl
  refine ⟨⟨h1.rel hk,h2.rel hv⟩,EntsOf.rels hk hv (by simpa using hl) fun i hi e' he'=>?_⟩
  exact h (i+1) (Nat.succ_lt_succ hi) e' (by simpa using he')
theorem EntsOf.relF {E:Env} {l:Array MapEntry} {n:Nat} {kt vt:Ty} {xs:List (Den kt×Den vt)} (h:EntsOf l n xs) (hk:kt.flatB=true) (hv:vt.flatB=true):im E (mpV xs) l.toList:=
 EntsOf.rels hk hv (by rw [←h.size];simp) fun i hi e he=>(h.at' i hi e (by simpa using he)).2
theorem EntsOf.set {l:Array MapEntry} {n:Nat} {kt vt:Ty} {xs:List (Den kt×Den vt)} (h:EntsOf l n xs) (i:Nat) (q:Den kt×Den vt) (f:MapEntry→MapEntry) (hf :∀ e,l[i]?=some e→(f e).born=e.born∧Flt kt q.1 (f e).key∧Flt vt q.2 (f e).val):EntsOf (l.modify i f) n (xs.set i q):=by
 refine ⟨by rw [Array.size_modify,List.length_set];exact h.size,fun j hj e he=>?_⟩
 rw [List.length_set] at hj
 have hs:j<l.size:=by rw [h.size];exact hj
 rw [Array.getElem?_modify] at he
 by_cases hij:i=j
 ·subst hij
  rw [if_pos rfl,Array.getElem?_eq_getElem hs] at he
  cases he
  have h0:=h.at' i hj l[i] (Array.getElem?_eq_getElem hs)
  obtain ⟨g1,g2,g3⟩:=hf l[i] (Array.getElem?_eq_getElem hs)
  rw [List.getElem_set_self]
  exact ⟨fun e=>by rw [g1];exact h0.1 e,g2,g3⟩
 ·rw [if_neg hij] at he
  rw [List.getElem_set_ne hij]
  exact h.at' j hj e he
theorem EntsOf.push {l:Array MapEntry} {n:Nat} {kt vt:Ty} {xs:List (Den kt×Den vt)} (h:EntsOf l n xs) (q:Den kt×Den vt) (e:MapEntry) (h1:n=1→e.born=l.size) (h2:Flt kt q.1 e.key) (h3:Flt vt q.2 e.val):EntsOf (l.push e) n (xs++[q]):=by
 refine ⟨by simp [h.size],fun j hj e' he=>?_⟩
 rw [Array.getElem?_push] at he
 by_cases hl:j=l.size
 ·rw [if_pos hl] at he
  cases he
  have hjx:j=xs.length:=hl.trans h.size
  subst hjx
  rw [List.getElem_append_right (Nat.le_refl _)]
  simp only [Nat.sub_self,List.getElem_cons_zero]
  exact ⟨fun g=>by rw [h1 g];exact h.size,h2,h3⟩
 ·rw [if_neg hl] at he
  have hjl:j<xs.length:=by
   have:=(Array.getElem?_eq_some_iff.1 he).1
   rw [←h.size];exact this
  rw [List.getElem_append_left hjl]
  exact h.at' j hjl e' he
theorem EntsOf.nil {n:Nat} {kt vt:Ty}:EntsOf (kt:=kt) (vt:=vt) #[] n []:=⟨rfl,fun i h=>absurd h (Nat.not_lt_zero _)⟩
theorem tR {B:Base} {E:Env} (hE:HRel B E) {h n:Nat} {kt vt:Ty} {xs:List (Den kt×Den vt)} (hn:0<n) (hh:E.H h=some (.abs n (.slice (.prod kt vt)) xs)) {v:Value} (hv:aa E (.av n h) v) :
  ∃ b l c,E.ρ h=some b∧v = .map (some b)∧E.w.heap[b]?=some (.map l c)∧(n=1→c=l.size)∧EntsOf l n xs:=by
 simp only [aa] at hv
 obtain ⟨_,_,hv⟩:=hv
 obtain ⟨b,h1,h2⟩:=hv _ _ hh
 obtain ⟨b',g1,_,_,g4⟩:=hE.blk h _ hh
 rw [h1] at g1
 cases g1
 rcases g4 with ⟨e,_⟩ |⟨_,kt',vt',xs',e,l,c,a1,a2,a3,a4⟩
 ·omega
 ·injection e with e1 e2
  injection e1 with e1
  injection e1 with e3 e4
  subst e3
  subst e4
  obtain rfl:=eq_of_heq e2
  refine ⟨b,l,c,h1,?_,a1,a3,⟨a2,a4⟩⟩
  rw [h2]
  cases n with
  | zero=>omega
  | succ j=>rfl
theorem nh {B:Base} {E:Env} (hE:HRel B E) (m:Nat) {h n:Nat} {kt vt:Ty} {xs xs':List (Den kt×Den vt)} (hn:0<n) (hh:E.H h=some (.abs n (.slice (.prod kt vt)) xs)) {b c c':Nat} {l l':Array MapEntry} (hρ:E.ρ h=some b) (hb:E.w.heap[b]?=some (.map l c)) (hc:n=1→c'=l'.size) (hl:EntsOf l' n xs') :
  ∃ E',Good B E m [(h,.abs n (.slice (.prod kt vt)) xs')] { E.w with heap:=E.w.heap.setIfInBounds b (.map l' c') } E'∧Ext E E':=by
 have hlt:b<E.w.heap.size:=(Array.getElem?_eq_some_iff.1 hb).1
 have noB :∀ (w:World) (b:Nat),il n w b=none:=fun w b=>by cases n with|zero=>omega|succ j=>rfl
 obtain ⟨R,X⟩:=K1 hE h n (.slice (.prod kt vt)) xs' b { E.w with heap:=E.w.heap.setIfInBounds b (.map l' c') } E.U (fun n h=>h) (hE.used _ _ hh)
  ⟨rfl,rfl,rfl,by simp,fun b' _ hne=>by
   have:b'≠b:=fun e=>hne (.inl e)
   simp [Array.getElem?_setIfInBounds_ne (Ne.symm this)]⟩ (.inl ⟨⟨_,hh⟩,hρ⟩)
  (fun g hg=>by rw [noB] at hg;cases hg)
  (.inr ⟨hn,kt,vt,xs',rfl,l',c',by simp [hlt],hl.size,hc,hl.at'⟩)
 exact ⟨_,⟨R,X,rfl,(bn _ _ _).symm,fun n h=> .inl h⟩,X⟩
theorem FS {B:Base} {E:Env} (hE:HRel B E) (m:Nat) (hm :¬ E.U m) {n:Nat} (hn:0<n) (t:TypeId) (kt vt:Ty) :
  ∃ w' E',(Instr.makeMap t none).run P E.w = .ok (.map (some E.w.heap.size)) w'∧Good B E m [(m,.abs n (.slice (.prod kt vt)) ([]:List (Den kt×Den vt)))] w' E'∧aa E' (.av n m) (.map (some E.w.heap.size)):=by
 have hrun :(Instr.makeMap t none).run P E.w = .ok (.map (some E.w.heap.size)) (E.w.alloc (.map #[] 0)):=by simp [Instr.makeMap,Result.andThen]
 have hw:E.w.alloc (.map #[] 0)={ E.w with heap:=E.w.heap.push (.map #[] 0) }:=rfl
 have noB :∀ (w:World) (b:Nat),il n w b=none:=fun w b=>by cases n with|zero=>omega|succ j=>rfl
 obtain ⟨R,X⟩:=K1 hE m n (.slice (.prod kt vt)) ([]:List (Den kt×Den vt)) E.w.heap.size { E.w with heap:=E.w.heap.push (.map #[] 0) } (fun n=>E.U n∨n=m) (fun n h=> .inl h) (.inr rfl)
  ⟨rfl,rfl,rfl,by simp,fun b hb' _=>Below.heap_alloc E.w _ b hb'⟩ (.inr ⟨hm,Nat.le_refl _,by simp⟩)
  (fun g hg=>by rw [noB] at hg;cases hg)
  (.inr ⟨hn,kt,vt,[],rfl,#[],0,by simp,rfl,fun _=>rfl,fun i h=>absurd h (Nat.not_lt_zero _)⟩)
 refine ⟨_,_,hrun,⟨R,X,hw.symm▸rfl,(bn _ _ _).symm,fun n h=>?_⟩,?_⟩
 ·rcases h with h|h
  ·exact .inl h
  ·exact .inr ⟨by omega,by unfold KN;omega⟩
 ·simp only [aa]
  refine ⟨.inr trivial,⟨E.w.heap.size,?_⟩,fun _ _ _=>⟨_,ah _ _ _,?_⟩⟩ <;> cases n with
  | zero=>omega
  | succ j=>rfl
theorem tP {B:Base} {E:Env} (hE:HRel B E) (m:Nat) (hm :¬ E.U m) (t:TypeId) {td:Option TD} {ps:List Ob} {v:V} {dh:List (Nat×Blk)} (h:qh td m = .val ps v dh) :
  ∃ v' w' E',(Instr.makeMap t none).run P E.w = .ok v' w'∧Good B E m dh w' E'∧aa E' v v':=by
 unfold qh at h
 split at h
 ·split at h <;> cases h
  ·obtain ⟨w',E',h1,h2,h3⟩:=FS (P:=P) hE m hm (n:=1) (by decide) t _ _
   exact ⟨_,w',E',h1,h2,h3⟩
  ·obtain ⟨w',E',h1,h2,h3⟩:=FS (P:=P) hE m hm (n:=2) (by decide) t _ _
   exact ⟨_,w',E',h1,h2,h3⟩
  ·obtain ⟨w',E',h1,h2,h3⟩:=nE (P:=P) hE m hm t
   exact ⟨_,w',E',h1,h2,h3⟩
 ·cases h
  obtain ⟨w',E',h1,h2,h3⟩:=nE (P:=P) hE m hm t
  exact ⟨_,w',E',h1,h2,h3⟩
theorem rI {B:Base} {E:Env} (hE:HRel B E) {tb:Tbl} (hT:a6 P tb) {t:TypeId} {q:TD×TD} (hq:fN tb t=some q) {n h:Nat} {k:V} {xv kv:Value} (hx:aa E (.av n h) xv) (hk:aa E k kv) {ok:Bool} {ps:List Ob} {v:V} {dh:List (Nat×Blk)} (h0:qg q.1 q.2 E.H n h k ok = .val ps v dh) :
  dh=[]∧∃ v',(Instr.lookup t xv kv ok).run P E.w = .ok v' E.w∧aa E v v':=by
 obtain ⟨kt0,et,hu,hkt,het⟩:=eY hT hq
 unfold qg at h0
 split at h0
 case h_2=>cases h0
 rename_i n' kt vt xs hh
 cases hc :(Nat.beq n n'&&(Nat.blt 0 n&&(rL q.1 kt&&(vt.flatB&&(fB vt==q.2.kind.agg))))) with
 | false=>rw [hc] at h0;cases h0
 | true=>
  rw [hc] at h0
  simp only [cond_true] at h0
  simp only [Bool.and_eq_true,Nat.beq_eq,Nat.blt_eq,beq_iff_eq] at hc
  obtain ⟨rfl,hn,hkb,hvb,hag⟩:=hc
  split at h0
  case h_2=>cases h0
  rename_i kd z hkd hz
  cases h0
  obtain ⟨b,l,c,hρ,rfl,hb,_,hes⟩:=tR hE hn hh hx
  have hka:=iB hE hkd hk
  have hko:=mS hkb kd
  have hrel:=hes.relF (E:=E) (ij hkb) hvb
  obtain ⟨a,a1,a2⟩:=cS hkt hka hko rfl hrel (sf hkb kd xs 0)
  have hck:=dV (P:=P) hkt hka hko false
  have hck2:=dV (P:=P) hkt hka hko true
  have lk :∀ (v:V) (v1:Value) (b1:Bool),aa E v v1→aa E (lkB ok v b1) (if ok then .tuple #[v1,.bool b1] else v1):=fun v v1 b1 hv=>by
   cases ok with
   | true=>simp only [lkB,if_true,aa];exact ⟨_,rfl,by simp only [ab,aa];exact ⟨hv,trivial,trivial⟩⟩
   | false=>simpa [lkB] using hv
  cases hg:lJ kd (asL xs) with
  | none=>
   rw [hg] at a2
   have a2:a=none:=a2
   subst a2
   obtain ⟨zv,z1,z2⟩:=De hE het hag hvb hz
   refine ⟨rfl,(if ok then .tuple #[zv,.bool false] else zv),?_,?_⟩
   ·have :∀ em,(Instr.checkKey em 10000 kt0 kv).run P E.w = .ok () E.w:=fun em=>dV hkt hka hko em
    simp only [Instr.lookup,Sem.run_bind,run_underlying hu,Result.andThen_ok,Sem.run_pure,oZ hb,this,a1,z1]
   ·have e1:mg z kd (asL xs)=z:=by unfold mg;rw [hg];rfl
    have e2:Jr kd (asL xs)=false:=by unfold Jr;rw [hg];rfl
    rw [e1,e2]
    exact lk _ _ _ (z2.rel hvb)
  | some u=>
   rw [hg] at a2
   obtain ⟨_,e,k',b1,b2,rfl,_,_⟩:=a2
   obtain ⟨hi,hiu⟩:=se hg
   have hsz:dR kd (asL xs)<l.size:=by rw [hes.size];exact hi
   have b1:l.toList[dR kd (asL xs)]?=some e:=by simpa using b1
   obtain ⟨_,_,f3⟩:=hes.at' _ hi e (by simpa using b1)
   rw [hiu] at f3
   refine ⟨rfl,(if ok then .tuple #[e.val,.bool true] else e.val),?_,?_⟩
   ·have :∀ em,(Instr.checkKey em 10000 kt0 kv).run P E.w = .ok () E.w:=fun em=>dV hkt hka hko em
    simp only [Instr.lookup,Sem.run_bind,run_underlying hu,Result.andThen_ok,Sem.run_pure,oZ hb,this,a1]
   ·have e1:mg z kd (asL xs)=u:=by unfold mg;rw [hg];rfl
    have e2:Jr kd (asL xs)=true:=by unfold Jr;rw [hg];rfl
    rw [e1,e2]
    exact lk _ _ _ (f3.rel hvb)
theorem CY {B:Base} {E:Env} (hE:HRel B E) {tk:TD} {kt vt:Ty} (hkb:rL tk kt=true) {n:Nat} {l:Array MapEntry} {xs:List (Den kt×Den vt)} (hes:EntsOf l n xs) {kd:Den kt} {kv:Value} (hka:aa E (bD kt kd) kv) {u:Den vt} (hg:lJ kd xs=some u) {e:MapEntry} (he:l[dR kd xs]?=some e) :
  (Instr.keyThatStays e.key kv).run P E.w = .ok kv E.w:=by
 obtain ⟨hi,_⟩:=se hg
 obtain ⟨_,f2,_⟩:=hes.at' _ hi e he
 have hq :∀ {ys:List (Den kt×Den vt)} (hy:lJ kd ys=some u),∃ h:dR kd ys<ys.length,jj (bD kt kd) (bD kt ys[dR kd ys].1)=true:=by
  intro ys
  induction ys with
  | nil=>intro hy;cases hy
  | cons q r ih=>
   intro hy
   unfold lJ at hy
   cases hq:zz kt kd q.1 with
   | true=>
    have e:dR kd (q::r)=0:=by unfold dR;rw [hq];rfl
    simp only [e]
    exact ⟨Nat.succ_pos _,hq⟩
   | false=>
    rw [hq] at hy
    obtain ⟨h1,h2⟩:=ih hy
    have e:dR kd (q::r)=dR kd r+1:=by rw [dR,hq];rfl
    simp only [e]
    exact ⟨Nat.succ_lt_succ h1,h2⟩
 obtain ⟨_,hq⟩:=hq hg
 exact tG (P:=P) (mS hkb kd) (mS hkb _) hka (f2.rel (ij hkb)) hq
theorem rJ {B:Base} {E:Env} (hE:HRel B E) {tb:Tbl} (hT:a6 P tb) {t:TypeId} {q:TD×TD} (hq:fN tb t=some q) {n h:Nat} {k v:V} {xv kv vv:Value} (hx:aa E (.av n h) xv) (hk:aa E k kv) (hv:aa E v vv) (m:Nat) {ps:List Ob} {dh:List (Nat×Blk)} (h0:HD (qj q.1 E.H n h k v)=some (ps,dh)) :
  ∃ w' E',(Instr.mapUpdate t xv kv vv).run P E.w = .ok () w'∧Good B E m dh w' E':=by
 obtain ⟨kt0,et,hu,hkt,het⟩:=eY hT hq
 unfold qj at h0
 split at h0
 case h_2=>cases h0
 rename_i n' kt vt xs hh
 cases hc :(Nat.beq n n'&&(Nat.blt 0 n&&(rL q.1 kt&&vt.flatB))) with
 | false=>rw [hc] at h0;cases h0
 | true=>
  rw [hc] at h0
  simp only [cond_true] at h0
  simp only [Bool.and_eq_true,Nat.beq_eq,Nat.blt_eq] at hc
  obtain ⟨rfl,hn,hkb,hvb⟩:=hc
  split at h0
  case h_2=>cases h0
  rename_i kd vd hkd hvd
  cases h0
  obtain ⟨b,l,c,hρ,rfl,hb,hcl,hes⟩:=tR hE hn hh hx
  have hka:=iB hE hkd hk
  have hko:=mS hkb kd
  have hkf:=pa hE hkd (ij hkb) hk
  have hvf:=pa hE hvd hvb hv
  obtain ⟨a,a1,a2⟩:=cS hkt hka hko rfl (hes.relF (E:=E) (ij hkb) hvb) (sf hkb kd xs 0)
  have hck:=dV (P:=P) hkt hka hko false
  cases hg:lJ kd (asL xs) with
  | none=>
   rw [hg] at a2
   have a2:a=none:=a2
   subst a2
   obtain ⟨E',G,_⟩:=nh hE m (xs':=asL xs++[(kd,vd)]) (l':=l.push { key:=kv,val:=vv,born:=c }) (c':=c+1) hn hh hρ hb (fun e=>by rw [hcl e];simp) (hes.push (kd,vd) _ (fun e=>hcl e) hkf hvf)
   rw [show rN kd vd (asL xs)=asL xs++[(kd,vd)] from (mU hg).1]
   refine ⟨_,E',?_,G⟩
   simp [Instr.mapUpdate,run_underlying hu,oZ hb,hck,a1,uy _ hb,Result.andThen]
  | some u=>
   rw [hg] at a2
   obtain ⟨_,e,k',b1,b2,rfl,_,_⟩:=a2
   have b1:l[dR kd (asL xs)]?=some e:=by simpa using b1
   have hks:=CY (P:=P) hE hkb hes hka hg b1
   obtain ⟨E',G,_⟩:=nh hE m (xs':=(asL xs).set (dR kd (asL xs)) (kd,vd)) (l':=l.modify (dR kd (asL xs)) fun e=>{ e with key:=kv,val:=vv }) (c':=c) hn hh hρ hb (fun e=>by rw [hcl e,Array.size_modify]) (hes.set _ (kd,vd) _ (fun e _=>⟨rfl,hkf,hvf⟩))
   rw [show rN kd vd (asL xs)=_ from qz hg]
   refine ⟨_,E',?_,G⟩
   simp only [Nat.zero_add] at a1
   simp [Instr.mapUpdate,run_underlying hu,oZ hb,hck,a1,b1,hks,uy _ hb,Result.andThen]
theorem okb {n:Nat} (hn:n≤1000000):ok .i64 (n:Int):=by unfold ok IntKind.min IntKind.max;simp [IntKind.bits,IntKind.signed];omega
theorem oT {B:Base} {E:Env} (hE:HRel B E) {tb:Tbl} (hT:a6 P tb) {t:TypeId} {q:TD×TD} (hq:fN tb t=some q) {n h:Nat} {k:V} {xv kv:Value} (hx:aa E (.av n h) xv) (hk:aa E k kv) (m:Nat) {ps:List Ob} {v:V} {dh:List (Nat×Blk)} (h0:lV q.1 q.2 E.H n h k = .val ps v dh) (hps :∀ p∈ps,p.holds) :
  ∃ v' w' E',(Instr.mapEntry t xv kv).run P E.w = .ok v' w'∧Good B E m dh w' E'∧aa E' v v':=by
 obtain ⟨kt0,et,hu,hkt,het⟩:=eY hT hq
 unfold lV at h0
 split at h0
 case h_2=>cases h0
 rename_i n' kt vt xs hh
 cases hc :(Nat.beq n n'&&(Nat.beq n 1&&(rL q.1 kt&&(vt.flatB&&(fB vt==q.2.kind.agg))))) with
 | false=>rw [hc] at h0;cases h0
 | true=>
  rw [hc] at h0
  simp only [cond_true] at h0
  simp only [Bool.and_eq_true,Nat.beq_eq,beq_iff_eq] at hc
  obtain ⟨rfl,rfl,hkb,hvb,hag⟩:=hc
  split at h0
  case h_2=>cases h0
  rename_i kd z hkd hz
  cases h0
  have hlen :(asL xs).length≤1000000:=hps _ List.mem_cons_self
  obtain ⟨b,l,c,hρ,rfl,hb,hcl,hes⟩:=tR hE (Nat.succ_pos _) hh hx
  have hcl:=hcl rfl
  subst hcl
  have hka:=iB hE hkd hk
  have hko:=mS hkb kd
  have hkf:=pa hE hkd (ij hkb) hk
  obtain ⟨a,a1,a2⟩:=cS hkt hka hko rfl (hes.relF (E:=E) (ij hkb) hvb) (sf hkb kd xs 0)
  have hck:=dV (P:=P) hkt hka hko false
  cases hg:lJ kd (asL xs) with
  | none=>
   rw [hg] at a2
   have a2:a=none:=a2
   subst a2
   obtain ⟨zv,z1,z2⟩:=De hE het hag hvb hz
   have e1:mg z kd (asL xs)=z:=by unfold mg;rw [hg];rfl
   obtain ⟨E',G,X⟩:=nh hE m (xs':=asL xs++[(kd,z)]) (l':=l.push { key:=kv,val:=zv,born:=l.size }) (c':=l.size+1) (Nat.succ_pos _) hh hρ hb (fun e=>by simp) (hes.push (kd,z) _ (fun _=>rfl) hkf z2)
   rw [e1,show rN kd z (asL xs)=asL xs++[(kd,z)] from (mU hg).1,(mU (v:=z) hg).2]
   refine ⟨.tuple #[zv,goInt l.size],_,E',?_,G,?_⟩
   ·simp [Instr.mapEntry,run_underlying hu,oZ hb,hck,a1,z1,uy _ hb,Result.andThen]
   ·simp only [aa]
    refine ⟨_,rfl,?_⟩
    simp only [ab]
    refine ⟨z2.rel hvb,?_,trivial⟩
    rw [←hes.size]
    exact fU (okb (by rw [hes.size];exact hlen))
  | some u=>
   rw [hg] at a2
   obtain ⟨_,e,k',b1,b2,rfl,_,_⟩:=a2
   obtain ⟨hi,hiu⟩:=se hg
   have b1:l[dR kd (asL xs)]?=some e:=by simpa using b1
   obtain ⟨f1,f2,f3⟩:=hes.at' _ hi e b1
   rw [hiu] at f3
   have hks:=CY (P:=P) hE hkb hes hka hg b1
   have e1:mg z kd (asL xs)=u:=by unfold mg;rw [hg];rfl
   obtain ⟨E',G,X⟩:=nh hE m (xs':=(asL xs).set (dR kd (asL xs)) (kd,u)) (l':=l.modify (dR kd (asL xs)) fun e=>{ e with key:=kv }) (c':=l.size) (Nat.succ_pos _) hh hρ hb (fun e=>by rw [Array.size_modify])
    (hes.set _ (kd,u) _ (fun e' he'=>⟨rfl,hkf,by rw [b1] at he';cases he';exact f3⟩))
   rw [e1,show rN kd u (asL xs)=_ from qz hg]
   refine ⟨.tuple #[e.val,goInt e.born],_,E',?_,G,?_⟩
   ·simp only [Nat.zero_add] at a1
    simp [Instr.mapEntry,run_underlying hu,oZ hb,hck,a1,b1,hks,uy _ hb,Result.andThen]
   ·simp only [aa]
    refine ⟨_,rfl,?_⟩
    simp only [ab]
    refine ⟨f3.rel hvb,?_,trivial⟩
    rw [f1 rfl]
    exact fU (okb (Nat.le_trans (Nat.le_of_lt hi) hlen))
theorem ns {B:Base} {E:Env} (hE:HRel B E) (t:TypeId) {n h:Nat} {s v:V} {xv sv vv:Value} (hx:aa E (.av n h) xv) (hs:aa E s sv) (hv:aa E v vv) (m:Nat) {ps:List Ob} {dh:List (Nat×Blk)} (h0:HD (jz E.H n h s v)=some (ps,dh)) (hps :∀ p∈ps,p.holds) :
  ∃ w' E',(Instr.entryStore t xv sv vv).run P E.w = .ok () w'∧Good B E m dh w' E':=by
 unfold jz at h0
 split at h0
 case h_2=>cases h0
 rename_i q i n' kt vt xs hh
 cases hc :(Nat.beq n n'&&(Nat.beq n 1&&(kt.flatB&&vt.flatB))) with
 | false=>rw [hc] at h0;cases h0
 | true=>
  rw [hc] at h0
  simp only [cond_true] at h0
  simp only [Bool.and_eq_true,Nat.beq_eq] at hc
  obtain ⟨rfl,rfl,hkb,hvb⟩:=hc
  split at h0
  case h_2=>cases h0
  rename_i vd hvd
  cases h0
  have hr:0≤i∧i <((asL xs).length:Int):=hps _ List.mem_cons_self
  obtain ⟨b,l,c,hρ,rfl,hb,hcl,hes⟩:=tR hE (Nat.succ_pos _) hh hx
  have hcl:=hcl rfl
  subst hcl
  have hvf:=pa hE hvd hvb hv
  simp only [aa] at hs
  obtain ⟨rfl,_⟩:=hs
  have hi:i.toNat <(asL xs).length:=by omega
  have hil:i.toNat<l.size:=by rw [hes.size];exact hi
  have hget:l[i.toNat]?=some l[i.toNat]:=Array.getElem?_eq_getElem hil
  have hborn :∀ (j:Nat) (hj:j<l.size),l[j].born=j:=fun j hj=>(hes.at' j (by rw [←hes.size];exact hj) l[j] (Array.getElem?_eq_getElem hj)).1 rfl
  have hfind:l.findIdx? (fun e=>(e.born:Int)==i)=some i.toNat:=by
   rw [Array.findIdx?_eq_some_iff_getElem]
   refine ⟨hil,?_,fun j hj=>?_⟩
   ·rw [beq_iff_eq,hborn];omega
   ·simp only [Bool.not_eq_true,beq_eq_false_iff_ne,ne_eq]
    rw [hborn j (by omega)]
    omega
  obtain ⟨_,f2,_⟩:=hes.at' _ hi l[i.toNat] hget
  obtain ⟨E',G,_⟩:=nh hE m (xs':=(asL xs).set i.toNat (((asL xs)[i.toNat]).1,vd)) (l':=l.modify i.toNat fun e=>{ e with val:=vv }) (c':=l.size) (Nat.succ_pos _) hh hρ hb (fun e=>by rw [Array.size_modify])
   (hes.set i.toNat _ _ (fun e he=>⟨rfl,by rw [hget] at he;cases he;exact f2,hvf⟩))
  have e1:Qm i vd (asL xs) =(asL xs).set i.toNat (((asL xs)[i.toNat]).1,vd):=by
   unfold Qm
   rw [List.getElem?_eq_getElem hi]
  rw [e1]
  refine ⟨_,E',?_,G⟩
  simp [Instr.entryStore,oZ hb,asInt,asIntOf,hfind,uy _ hb,Result.andThen]
theorem vo {B:Base} {E:Env} (hE:HRel B E) {t:TypeId} {td:TD} (ht:TDok P t td) {x:V} {xv:Value} (hx:aa E x xv) (m:Nat) {ps:List Ob} {v:V} {dh:List (Nat×Blk)} (ty:TypeId) (h0:y6 td E.H x = .val ps v dh) :
  ∃ v' w' E',(Builtin.clear_ #[t] ty #[xv]).run P E.w = .ok v' w'∧Good B E m dh w' E'∧aa E' v v':=by
 unfold y6 at h0
 split at h0
 case h_2=>cases h0
 rename_i n h
 split at h0
 case h_2=>cases h0
 rename_i kk ee n' kt vt xs hkd hh
 cases hc :(Nat.beq n n'&&Nat.blt 1 n) with
 | false=>rw [hc] at h0;cases h0
 | true=>
  rw [hc] at h0
  cases h0
  simp only [Bool.and_eq_true,Nat.beq_eq,Nat.blt_eq] at hc
  obtain ⟨rfl,hn⟩:=hc
  have hu:=ht.kind
  rw [hkd] at hu
  have hu:P.underlying t=some (.map kk ee):=hu
  obtain ⟨b,l,c,hρ,rfl,hb,hcl,hes⟩:=tR hE (by omega) hh hx
  obtain ⟨E',G,_⟩:=nh hE m (xs':=([]:List (Den kt×Den vt))) (l':=#[]) (c':=c) (by omega) hh hρ hb (fun e=>by omega) EntsOf.nil
  refine ⟨.tuple #[],_,E',?_,G,by simp [aa,ab]⟩
  simp [Builtin.clear_,run_underlying hu,oZ hb,uy _ hb,Result.andThen]
end
section
open Go.RowKit
variable {P:Program}
theorem Mj {B:Base} {E:Env} (hE:HRel B E) (m:Nat) (hm :¬ E.U m) :
  ∃ E',Good B E m [(m,.abs 0 .str (ByteArray.empty:Den .str))] { E.w with heap:=E.w.heap.push (.cells #[.pointer none,.slice none 0 0] bTy (0,0)) } E'∧aa E' (.av 0 m) (.pointer (some ⟨E.w.heap.size,0,none⟩)):=by
 have hget :(E.w.heap.push (.cells #[.pointer none,.slice none 0 0] bTy (0,0)))[E.w.heap.size]?=some (.cells #[.pointer none,.slice none 0 0] bTy (0,0)):=by simp
 have hm0:E.H m=none:=by
  cases h:E.H m with
  | none=>rfl
  | some k=>exact absurd (hE.used _ _ h) hm
 obtain ⟨R,X⟩:=K1 hE m 0 .str (ByteArray.empty:Den .str) E.w.heap.size { E.w with heap:=E.w.heap.push (.cells #[.pointer none,.slice none 0 0] bTy (0,0)) } (fun n=>E.U n∨n=m) (fun n h=> .inl h) (.inr rfl)
  ⟨rfl,rfl,rfl,by simp,fun b hb' _=>Below.heap_alloc E.w _ b hb'⟩ (.inr ⟨hm,Nat.le_refl _,by simp⟩)
  (fun g hg=>by
   have h0:qP { E.w with heap:=E.w.heap.push (.cells #[.pointer none,.slice none 0 0] bTy (0,0)) } E.w.heap.size=none:=by unfold qP;rw [hget];rfl
   have hg:qP { E.w with heap:=E.w.heap.push (.cells #[.pointer none,.slice none 0 0] bTy (0,0)) } E.w.heap.size=some g:=hg
   rw [h0] at hg;cases hg)
  (.inl ⟨rfl,ByteArray.empty,rfl,Nat.zero_le _,.inl ⟨Nat.zero_le _,_,hget,World.ownsRowF_nil _ _ _ _,by simp [Value.ownBlock]⟩⟩)
 refine ⟨_,⟨R,X,rfl,(bn _ _ _).symm,fun n h=>?_⟩,?_⟩
 ·rcases h with h|h
  ·exact .inl h
  ·exact .inr ⟨by omega,by unfold KN;omega⟩
 ·simp only [aa]
  exact ⟨.inr trivial,⟨_,rfl⟩,fun _ _ _=>⟨_,ah _ _ _,rfl⟩⟩
theorem vj {Γ:FuncId→Option Ctr} {t:TypeId} {td:TD} {m:Nat} {ps:List Ob} {v:V} {dh:List (Nat×Blk)} (h:rU Γ t td m = .val ps v dh) :
  (ps=[]∧v = .ptr m 0∧dh=[(m,.cells td.zero)])∨(t=bTy∧DV td.zero=true∧ps=[]∧v = .av 0 m∧dh=[(m,.abs 0 .str (ByteArray.empty:Den .str))]):=by
 unfold rU at h
 split at h
 ·cases hb :(Nat.beq t bTy&&DV td.zero) with
  | false=>rw [hb] at h;cases h;exact .inl ⟨rfl,rfl,rfl⟩
  | true=>
   rw [hb] at h
   cases h
   simp only [Bool.and_eq_true,Nat.beq_eq] at hb
   exact .inr ⟨hb.1,hb.2,rfl,rfl,rfl⟩
 ·cases h;exact .inl ⟨rfl,rfl,rfl⟩
structure GoodK (B:Base) (E:Env) (m K:Nat) (dh:List (Nat×Blk)) (w':World) (E':Env):Prop where
 rel:HRel B E'
 ext:Ext E E'
 w:E'.w=w'
 h:E'.H=au E.H dh
 u :∀ n,E'.U n→E.U n∨(m≤n∧n<m+K)
theorem Good.toK {B:Base} {E:Env} {m K:Nat} {dh:List (Nat×Blk)} {w':World} {E':Env} (G:Good B E m dh w' E') (hK:1≤K):GoodK B E m K dh w' E':=
 ⟨G.rel,G.ext,G.w,G.h,fun n h=>(G.u n h).imp id fun h=>⟨h.1,by have:=h.2;unfold KN at this;omega⟩⟩
structure CtrOK (P:Program) (K:Nat) (f:FuncId) (c:Ctr):Prop where
 fn :∃ fn,P.funcs[f]?=some fn∧fn.body.isSome=true∧(fn.name == "runtime.NumGoroutine")=false
 calls :∀ (B:Base) (E:Env),HRel B E→∀ (args:List V) (av:List Value),ab E args av→∀ m,(∀ n,m≤n→n<m+K→¬ E.U n)→∀ ps v dh,c args E.H m=some (ps,v,dh)→(∀ p∈ps,p)→
  Calls P f av.toArray E.w fun e w'=>∃ E' v',e = .returned v'∧GoodK B E m K dh w' E'∧aa E' v v'
theorem uj {E:Env} (f:Operand→V) (g:Operand→Value) (h :∀ x,aa E (f x) (g x)) :∀ l:List (Nat×Operand),nw E (l.map fun p=>(p.1,f p.2)) (l.map fun p=>(p.1,g p.2))
 | []=>by simp [nw]
 | x::l=>by simp only [List.map_cons,nw];exact ⟨trivial,h _,uj f g h l⟩
theorem ua {E:Env} (f:Operand→V) (g:Operand→Value) (h :∀ x,aa E (f x) (g x)) (o:Option Operand):gu E (o.map f) (o.map g):=by
 cases o with
 | none=>simp [gu]
 | some x=>simp only [Option.map_some,gu];exact h x
variable {B:Base} {E:Env} {tb:Tbl} {K:Nat} {Γ:FuncId→Option Ctr} {m:Nat} {ev:Operand→V} {a:Act}
theorem zn {E:Env} {asz xs caps:List V} {av:List Value} {l:Array Value} {f:FuncId} (hx:qp asz caps=some xs) (ha:ab E asz av) (hl:ab E caps l.toList) :
  ∃ first cap,fnV f l = .func (.func f) first cap∧ab E xs (first.toList++av++cap.toList):=by
 obtain ⟨l⟩:=l
 cases caps with
 | nil=>
  cases l with
  | nil=>cases hx;exact ⟨#[],#[],rfl,by simpa using ha⟩
  | cons v vs=>simp [ab] at hl
 | cons c cs=>
  cases l with
  | nil=>simp [ab] at hl
  | cons v vs=>
   have hl0:=hl
   simp only [ab] at hl
   cases c <;> simp only [qp,reduceCtorEq,Option.some.injEq] at hx
   case ptr h o=>
    subst hx
    have h1:=hl.1
    simp only [aa] at h1
    obtain ⟨_,⟨a,rfl⟩,_⟩:=h1
    exact ⟨#[],⟨.pointer (some a)::vs⟩,rfl,by simpa using bk ha hl0⟩
   case nilmap=>
    subst hx
    have h1:=hl.1
    simp only [aa] at h1
    subst h1
    exact ⟨⟨vs⟩,#[],rfl,by simpa using bk hl.2 ha⟩
theorem y9 {E:Env} {f:FuncId} {xs cs:List V} {first caps:List Value} (hx:ab E xs first) (hc:ab E cs caps) {ps:List Ob} {v:V} {dh:List (Nat×Blk)} (h:qf f xs cs = .val ps v dh) :
  dh=[]∧aa E v (.func (.func f) first.toArray caps.toArray):=by
 cases xs with
 | nil=>
  cases first with
  | cons _ _=>simp [ab] at hx
  | nil=>
   cases cs with
   | nil=>
    cases caps with
    | cons _ _=>simp [ab] at hc
    | nil=>cases h;exact ⟨rfl,by simp only [aa];exact ⟨#[],rfl,by simp [ab]⟩⟩
   | cons c r=>
    cases c <;> simp only [qf,reduceCtorEq] at h
    case ptr k o=>
     cases h
     cases caps with
     | nil=>simp [ab] at hc
     | cons v vs=>
      have h1:=hc
      simp only [ab,aa] at h1
      obtain ⟨⟨_,⟨a,rfl⟩,_⟩,_⟩:=h1
      exact ⟨rfl,by simp only [aa];exact ⟨⟨.pointer (some a)::vs⟩,rfl,hc⟩⟩
 | cons x r=>
  cases cs with
  | nil=>
   cases h
   cases caps with
   | cons _ _=>simp [ab] at hc
   | nil=>exact ⟨rfl,by simp only [aa];exact ⟨⟨.map none::first⟩,rfl,by simp only [ab,aa];exact ⟨trivial,hx⟩⟩⟩
  | cons c r'=>simp only [qf,reduceCtorEq] at h
theorem yZ (hE:HRel B E) (hΓ :∀ f c,Γ f=some c→CtrOK P K f c) (hm :∀ n,m≤n→n<m+K→¬ E.U n) (hev :∀ x,aa E (ev x) (a.eval x)) {c:Call} {o:Oper} (ho:o.op = .call c) {f:Operand} (hf:c.callee = .value f) {g:FuncId} {caps asz:List V} (hg:ev f = .fn g caps) {ct:Ctr} (hct:Γ g=some ct) {ps:List Ob} {v:V} {dh:List (Nat×Blk)}
  (has:qp (c.args.toList.map ev) caps=some asz) (h:yY ct asz E.H m = .val ps v dh) (hps :∀ p∈ps,p.holds) {next:Act→World→Prop} {Q:Exit→Act→World→Prop}
  (hn :∀ v' E',GoodK B E m K dh E'.w E'→aa E' v v'→next (a.put o.dst v') E'.w):o.wp P a E.w next Q:=by
 have hfv:=hev f
 rw [hg] at hfv
 simp only [aa] at hfv
 obtain ⟨l,hfe,hl⟩:=hfv
 obtain ⟨first,cap,hfn,hargs⟩:=zn (f:=g) has (fj _ _ hev _) hl
 rw [hfn] at hfe
 unfold yY at h
 split at h
 case h_2=>cases h
 rename_i ps' v' dh' hc
 cases h
 have hok:=hΓ _ _ hct
 obtain ⟨fn,h1,h2,h3⟩:=hok.fn
 have hb :¬ fn.body=none:=by cases hb:fn.body with|none=>rw [hb] at h2;cases h2|some _=>simp
 have h4 :¬ fn.name = "runtime.NumGoroutine":=by simpa using h3
 have hcalls:=hok.calls B E hE _ _ hargs m hm _ _ _ hc (fun p hp=>hps (.prop p) (List.mem_map_of_mem hp))
 have hrun :(execOp a.eval o).run P E.w = .ok (.enter g (first.toList++c.args.toList.map a.eval++cap.toList).toArray) E.w:=by
  have e :(first.toList++c.args.toList.map a.eval++cap.toList).toArray=first++c.args.map a.eval++cap:=by
   apply Array.ext'
   simp
  rw [e]
  simp [execOp,ho,resolve,hf,Deferred.ofValue,hfe,invoke,callFunc,h1,h4,hb]
 unfold Oper.wp
 rw [hrun]
 simp only [Oper.upon]
 refine hcalls.mono fun e w' hh=>?_
 obtain ⟨E',v'',rfl,G,hv⟩:=hh
 have:=hn v'' E' (by rw [G.w];exact G) hv
 rw [G.w] at this
 exact this
theorem DF (hE:HRel B E) (hT:a6 P tb) (hK:1≤K) (hΓ :∀ f c,Γ f=some c→CtrOK P K f c) (hm :∀ n,m≤n→n<m+K→¬ E.U n) (hev :∀ x,aa E (ev x) (a.eval x)) {o:Oper} {ps:List Ob} {v:V} {dh:List (Nat×Blk)} (h:bO tb Γ m E.H ev o.op = .val ps v dh) (hps :∀ p∈ps,p.holds) {next:Act→World→Prop} {Q:Exit→Act→World→Prop}
  (hn :∀ v' E',GoodK B E m K dh E'.w E'→aa E' v v'→next (a.put o.dst v') E'.w):o.wp P a E.w next Q:=by
 have hm0 :¬ E.U m:=hm m (Nat.le_refl _) (by omega)
 have same :∀ {v'},(execOp a.eval o).run P E.w = .ok (.value v') E.w→dh=[]→aa E v v'→o.wp P a E.w next Q:=fun hrun hd hv=>by
  unfold Oper.wp
  rw [hrun]
  simp only [Oper.upon]
  subst hd
  exact hn _ E ((c8 hE m).toK hK) hv
 have step :∀ {v' w' E'},(execOp a.eval o).run P E.w = .ok (.value v') w'→Good B E m dh w' E'→aa E' v v'→o.wp P a E.w next Q:=fun hrun G hv=>by
  unfold Oper.wp
  rw [hrun]
  simp only [Oper.upon]
  have:=hn _ _ (by rw [G.w];exact G.toK hK) hv
  rw [G.w] at this
  exact this
 cases ho:o.op <;> rw [ho] at h <;> simp only [bO,reduceCtorEq] at h
 case move x=>cases h;exact same (by simp [execOp,ho]) rfl (hev x)
 case assign x=>cases h;exact same (by simp [execOp,ho]) rfl (hev x)
 case pick c x y=>
  obtain ⟨e,q,h1,h2⟩:=zf (P:=P) (hev c) (hev x) (hev y) h
  exact same (by simp [execOp,ho,h1]) e h2
 case alloc t=>
  split at h
  case h_2=>cases h
  rename_i td htd
  have ht:=hT _ _ htd
  obtain ⟨z,hz,hzz⟩:=ht.zeroValue E.w
  rcases vj h with ⟨rfl,rfl,rfl⟩ |⟨rfl,hb,rfl,rfl,rfl⟩
  ·obtain ⟨E',G,hv⟩:=xA hE m hm0 td.zero z.cells t (ca hzz)
   exact step (by simp [execOp,ho,Instr.alloc,hz,newVar,newRow]) G hv
  ·have hzv:=ca (E:=E) hzz
   generalize td.zero=zs at hb hzv
   match zs,hb with
   | [.nilptr,.nilsl],_=>
    generalize hl:z.cells.toList=l at hzv
    match l,hzv with
    | [a1,a2],hzv=>
     simp only [ab,aa] at hzv
     obtain ⟨rfl,rfl,_⟩:=hzv
     have hc:z.cells=#[.pointer none,.slice none 0 0]:=Array.toList_inj.1 hl
     obtain ⟨E',G,hv⟩:=Mj hE m hm0
     exact step (by simp [execOp,ho,Instr.alloc,hz,newVar,newRow,hc]) G hv
 case box t x=>
  split at h
  case h_2=>cases h
  rename_i cs hcs
  cases h
  obtain ⟨E',G,hv⟩:=xA hE m hm0 cs (a.eval x).cells t (bp (hev x) hcs)
  exact step (by simp [execOp,ho,Instr.box,newVar,newRow]) G hv
 case build t parts=>
  split at h
  case h_2=>cases h
  rename_i td htd
  obtain ⟨e,v',hr,hv⟩:=vm hT (hT _ _ htd) (pv:=parts.map fun p=>(p.1,a.eval p.2)) (by rw [Array.toList_map];exact uj _ _ hev _) h
  exact same (by simp [execOp,ho,hr]) e hv
 case buildSlice t n parts=>
  split at h
  case h_2=>cases h
  rename_i td htd
  obtain ⟨v',w',E',hr,G,hv⟩:=nr hE hT (hT _ _ htd) m hm0 (pv:=parts.map fun p=>(p.1,a.eval p.2)) (by rw [Array.toList_map];exact uj _ _ hev _) h
  exact step (by simp [execOp,ho,hr]) G hv
 case load t x=>
  split at h
  case h_2=>cases h
  rename_i td htd
  obtain ⟨e,v',hr,hv⟩:=vu hE (hT _ _ htd) (hev x) h
  exact same (by simp [execOp,ho,hr]) e hv
 case nilCheck x=>
  have hx:=hev x
  unfold Bm at h
  split at h
  ·rename_i hh off e;cases h;rw [e] at hx;have hx0:=hx;simp only [aa] at hx0;obtain ⟨ad,hx1⟩:=hx0.2.1
   exact same (v':=a.eval x) (by simp [execOp,ho,hx1]) rfl hx
  ·rename_i t' xs i off e;cases h;rw [e] at hx;have hx0:=hx;simp only [aa] at hx0
   obtain ⟨_,_,_,_,_,_,_,_,_,_,_,hx1⟩:=hx0
   exact same (v':=a.eval x) (by simp [execOp,ho,hx1]) rfl hx
  ·rename_i hh ver i off e;cases h;rw [e] at hx;have hx0:=hx;simp only [aa] at hx0;obtain ⟨ad,hx1⟩:=hx0.2.2.1
   exact same (v':=a.eval x) (by simp [execOp,ho,hx1]) rfl hx
  ·rename_i f caps e;cases h;rw [e] at hx;have hx0:=hx;simp only [aa] at hx0;obtain ⟨l,hx1,_⟩:=hx0
   exact same (v':=a.eval x) (by simp [execOp,ho,hx1,fnV]) rfl hx
  ·rename_i hh ver off e;cases h;rw [e] at hx;have hx0:=hx;simp only [aa] at hx0;obtain ⟨ad,hx1⟩:=hx0.2.2.1
   exact same (v':=a.eval x) (by simp [execOp,ho,hx1]) rfl hx
  ·cases h
 case binOp op t x y t'=>
  split at h
  case h_2=>cases h
  rename_i td htd
  obtain ⟨e,v',hr,hv⟩:=Bh (hT _ _ htd) (hev x) (hev y) x y h hps
  refine same (v':=v') ?_ e hv
  have e2:execOp a.eval o =(do let r←(do eqGuard op t x y (a.eval x) (a.eval y);binOp op t (a.eval x) (a.eval y):Sem Value);pure (.value r)):=by simp only [execOp,ho]
  rw [e2,Sem.run_bind,hr]
  rfl
 case unOp op t x=>
  obtain ⟨e,v',hr,hv⟩:=DH (P:=P) (hev x) h
  exact same (by simp [execOp,ho,hr]) e hv
 case convert s d x=>
  split at h
  case h_2=>cases h
  rename_i ts td hts htd
  unfold rV at h
  split at h
  ·obtain ⟨v',w',E',hr,G,hv⟩:=sQ hE hT (hT _ _ hts) (hT _ _ htd) m hm0 (hev x) h
   exact step (by simp [execOp,ho,hr]) G hv
  ·obtain ⟨e,v',hr,hv⟩:=y8 (hT _ _ hts) (hT _ _ htd) (hev x) h
   exact same (by simp [execOp,ho,hr]) e hv
 case makeFunc fn first caps=>
  cases fn <;> simp only [reduceCtorEq] at h
  rename_i f
  obtain ⟨e,hv⟩:=y9 (fj ev a.eval hev first.toList) (fj ev a.eval hev caps.toList) h
  refine same (v':= .func (.func f) (first.map a.eval) (caps.map a.eval)) (by simp [execOp,ho,Instr.makeFunc]) e ?_
  have e1 :(first.toList.map a.eval).toArray=first.map a.eval:=by apply Array.ext';simp
  have e2 :(caps.toList.map a.eval).toArray=caps.map a.eval:=by apply Array.ext';simp
  rw [e1,e2] at hv
  exact hv
 case makeSlice t l c=>
  split at h
  case h_2=>cases h
  rename_i td htd
  obtain ⟨v',w',E',hr,G,hv⟩:=n6 hE hT (hT _ _ htd) m hm0 (hev l) (hev c) h hps
  exact step (by simp [execOp,ho,hr]) G hv
 case slice t x lo hi mx=>
  split at h
  case h_2=>cases h
  rename_i td htd
  obtain ⟨v',E',hr,G,hv⟩:=s7 hE hT (hT _ _ htd) m (hev x) (ua _ _ hev lo) (ua _ _ hev hi) (ua _ _ hev mx) h hps
  exact step (by simp [execOp,ho,hr]) G hv
 case fieldAddr t x f=>
  split at h
  case h_2=>cases h
  rename_i td htd
  obtain ⟨e,v',hr,hv⟩:=sR hT (hT _ _ htd) (hev x) h
  exact same (by simp [execOp,ho,hr]) e hv
 case field t x f=>
  split at h
  case h_2=>cases h
  rename_i td htd
  obtain ⟨e,v',hr,hv⟩:=qe hT (hT _ _ htd) (hev x) h
  exact same (by simp [execOp,ho,hr]) e hv
 case indexAddr t x i=>
  split at h
  case h_2=>cases h
  rename_i td htd
  obtain ⟨e,v',hr,hv⟩:=sV hE hT (hT _ _ htd) (hev x) (hev i) h hps
  exact same (by simp [execOp,ho,hr]) e hv
 case index t x i=>
  split at h
  case h_2=>cases h
  rename_i td htd
  obtain ⟨e,v',hr,hv⟩:=sU hT (hT _ _ htd) (hev x) (hev i) h hps
  exact same (by simp [execOp,ho,hr]) e hv
 case extract t i=>
  have hx:=hev t
  generalize hy:ev t=y at h hx
  cases y <;> simp only [mN,reduceCtorEq] at h
  rename_i vs
  simp only [aa] at hx
  obtain ⟨l,hx1,hl⟩:=hx
  split at h
  case h_2=>cases h
  rename_i u hu
  cases h
  obtain ⟨v',h1,h2⟩:=dp hl _ _ hu
  have h1':l[i]?=some v':=by simpa using h1
  exact same (v':=v') (by simp [execOp,ho,hx1,Instr.extract,h1']) rfl h2
 case makeMap t r=>
  cases r with
  | some _=>cases h
  | none=>
   obtain ⟨v',w',E',hr,G,hv⟩:=tP (P:=P) hE m hm0 t h
   exact step (by simp [execOp,ho,hr]) G hv
 case lookup t x k ok=>
  split at h
  case h_2=>cases h
  rename_i q hq
  have hx:=hev x
  unfold wh at h
  split at h
  ·rename_i hxe
   rw [hxe] at hx
   obtain ⟨e,v',hr,hv⟩:=rI hE hT hq hx (hev k) h
   exact same (by simp [execOp,ho,hr]) e hv
  ·obtain ⟨e,v',hr,hv⟩:=sW hE hT hq hx (hev k) h
   exact same (by simp [execOp,ho,hr]) e hv
 case mapEntry t x k=>
  split at h
  case h_2=>cases h
  rename_i q hq
  have hx:=hev x
  unfold qS at h
  split at h
  ·rename_i hxe
   rw [hxe] at hx
   obtain ⟨v',w',E',hr,G,hv⟩:=oT hE hT hq hx (hev k) m h hps
   exact step (by simp [execOp,ho,hr]) G hv
  ·obtain ⟨v',w',E',hr,G,hv⟩:=qi hE hT hq hx (hev k) m h
   exact step (by simp [execOp,ho,hr]) G hv
 case call c=>
  split at h
  ·
   rename_i hc
   split at h
   case h_2=>cases h
   rename_i t x ht hx
   split at h
   case h_2=>cases h
   rename_i td htd
   obtain ⟨e,v',hr,hv⟩:=za hE (hT _ _ htd) (hev x) o.type h
   have e1:c.argTypes=#[t]:=by apply Array.ext';exact ht
   have e2:c.args=#[x]:=by apply Array.ext';exact hx
   exact same (v':=v') (by simp [execOp,ho,resolve,hc,invoke,builtin,e1,e2,hr]) e hv
  ·rename_i hc
   split at h
   case h_2=>cases h
   rename_i x r hx
   obtain ⟨e,v',hr,hv⟩:=sT (P:=P) (hev x) (fj _ _ hev r) h
   have e2:c.args.toList.map a.eval=a.eval x::r.map a.eval:=by rw [hx];rfl
   exact same (v':=v') (by simp [execOp,ho,resolve,hc,invoke,builtin,Builtin.min_,e2,hr]) e hv
  ·rename_i hc
   split at h
   case h_2=>cases h
   rename_i x r hx
   obtain ⟨e,v',hr,hv⟩:=sS (P:=P) (hev x) (fj _ _ hev r) h
   have e2:c.args.toList.map a.eval=a.eval x::r.map a.eval:=by rw [hx];rfl
   exact same (v':=v') (by simp [execOp,ho,resolve,hc,invoke,builtin,Builtin.max_,e2,hr]) e hv
  ·rename_i hc
   split at h
   case h_2=>cases h
   rename_i t t2 s x ht hx
   split at h
   case h_2=>cases h
   rename_i td td2 htd htd2
   split at h
   case isFalse=>cases h
   rename_i hel
   have hkX:AppK td2:=by
    unfold OT at hel
    rcases (Bool.or_eq_true _ _).mp hel with hel|hel
    ·obtain ⟨n,hn'⟩:=Option.isSome_iff_exists.1 hel
     obtain ⟨eX,te,hkX,_⟩:=hY hT hn'
     exact .inl ⟨eX,hkX⟩
    ·split at hel
     ·rename_i hk;exact .inr hk
     ·cases hel
   obtain ⟨v',w',E',hr,G,hv⟩:=rH hE hT (hT _ _ htd) (hT _ _ htd2) hkX m hm0 (hev s) (hev x) o.type h hps
   have e1:c.argTypes=#[t,t2]:=by apply Array.ext';exact ht
   have e2:c.args=#[s,x]:=by apply Array.ext';exact hx
   exact step (v':=v') (w':=w') (by simp [execOp,ho,resolve,hc,invoke,builtin,e1,e2,hr]) G hv
  ·rename_i hc
   split at h
   case h_2=>cases h
   rename_i t x ht hx
   split at h
   case h_2=>cases h
   rename_i td htd
   obtain ⟨v',w',E',hr,G,hv⟩:=vo hE (hT _ _ htd) (hev x) m o.type h
   have e1:c.argTypes=#[t]:=by apply Array.ext';exact ht
   have e2:c.args=#[x]:=by apply Array.ext';exact hx
   exact step (v':=v') (w':=w') (by simp [execOp,ho,resolve,hc,invoke,builtin,e1,e2,hr]) G hv
  ·rename_i f hc
   split at h
   case h_2=>cases h
   rename_i g caps hg
   split at h
   case h_2=>cases h
   rename_i ct hct
   split at h
   case h_2=>cases h
   rename_i asz has
   exact yZ hE hΓ hm hev ho hc hg hct has h hps hn
  ·cases h
theorem s8 {B:Base} {E:Env} (hE:HRel B E) {t:TypeId} {td:TD} (ht:TDok P t td) {a x:V} {av xv:Value} (ha:aa E a av) (hx:aa E x xv) (m:Nat) {ps:List Ob} {dh:List (Nat×Blk)} (h:fu td E.H a x = .skip ps dh) :
  ∃ w' E',(Instr.storeAt t av xv).run P E.w = .ok () w'∧Good B E m dh w' E':=by
 unfold fu at h
 split at h
 ·split at h
  ·split at h
   case h_2=>cases h
   rename_i ps' dh' hb
   cases h
   obtain ⟨R,X⟩:=cx hE x.hs
   obtain ⟨w',E',h1,G⟩:=iu (E:=bh E x.hs) R ht (bb X _ _ ha) (bb X _ _ hx) m hb
   refine ⟨w',E',h1,⟨G.rel,X.trans G.ext,G.w,?_,G.u⟩⟩
   rw [G.h,pb]
   congr 1
   funext k
   exact (kJ E.H _ k).symm
  ·exact iu hE ht ha hx m h
 ·exact iu hE ht ha hx m h
theorem DG (hE:HRel B E) (hT:a6 P tb) (hK:1≤K) (hev :∀ x,aa E (ev x) (a.eval x)) {o:Oper} {ps:List Ob} {dh:List (Nat×Blk)} (h:b7 tb E.H ev o.op=some (ps,dh)) (hps :∀ p∈ps,p.holds) {next:Act→World→Prop} {Q:Exit→Act→World→Prop}
  (hn :∀ E',GoodK B E m K dh E'.w E'→next (a.put o.dst undef) E'.w):o.wp P a E.w next Q:=by
 have step :∀ {w' E'},(execOp a.eval o).run P E.w = .ok .skip w'→Good B E m dh w' E'→o.wp P a E.w next Q:=fun hrun G=>by
  unfold Oper.wp
  rw [hrun]
  simp only [Oper.upon]
  have:=hn _ (by rw [G.w];exact G.toK hK)
  rw [G.w] at this
  exact this
 cases ho:o.op <;> rw [ho] at h <;> simp only [b7,reduceCtorEq] at h
 case store t x y=>
  split at h
  case h_2=>cases h
  rename_i td htd
  split at h
  case h_2=>cases h
  rename_i ps' dh' hs
  cases h
  obtain ⟨w',E',hr,G⟩:=s8 hE (hT _ _ htd) (hev x) (hev y) m hs
  exact step (by simp [execOp,ho,hr]) G
 case mapUpdate t x k v=>
  split at h
  case h_2=>cases h
  rename_i q hq
  have hx:=hev x
  unfold wi at h
  split at h
  ·rename_i hxe
   rw [hxe] at hx
   obtain ⟨w',E',hr,G⟩:=rJ hE hT hq hx (hev k) (hev v) m h
   exact step (by simp [execOp,ho,hr]) G
  ·obtain ⟨w',E',hr,G⟩:=sY hE hT hq hx (hev k) (hev v) m h
   exact step (by simp [execOp,ho,hr]) G
 case entryStore t x s v=>
  have hx:=hev x
  unfold nA at h
  split at h
  ·rename_i hxe
   rw [hxe] at hx
   obtain ⟨w',E',hr,G⟩:=ns (P:=P) hE t hx (hev s) (hev v) m h hps
   exact step (by simp [execOp,ho,hr]) G
  ·obtain ⟨w',E',hr,G⟩:=n5 (P:=P) hE t hx (hev s) (hev v) m h
   exact step (by simp [execOp,ho,hr]) G
end
section
open Go.RowKit
variable {P:Program}
def hsE:List (V×V)→List Nat
 | []=> []
 |(k,v)::r=>k.hs++v.hs++hsE r
def Blk.hs:Blk→List Nat
 | .cells cs=>hss cs
 | .grow _ _ cs=>hss cs
 | .mp es=>hsE es
 | .abs _ _ _=> []
 | .row _ _ _ _=> []
def restr (H:aw) (R:List Nat):aw:=fun h=>bif memN R h then H h else none
mutual
theorem nk {E E':Env} (hU :∀ n,E.U n→E'.U n) (hS :∀ b,E.S b→E'.S b) (hw:E'.w=E.w) (D:Nat→Prop) (hD :∀ h,D h→E'.H h=E.H h∧E'.ρ h=E.ρ h) :∀ (x:V) (v:Value),(∀ h∈x.hs,D h)→aa E x v→aa E' x v
 | .any,_,_,_=>by simp [aa]
 | .int _ _,_,_,h=>by simpa [aa] using h
 | .bool _,_,_,h=>by simpa [aa] using h
 | .kb _,_,_,h=>by simpa [aa] using h
 | .str _,_,_,h=>by simpa [aa] using h
 | .nilptr,_,_,h=>by simpa [aa] using h
 | .ptr hh off,v,hd,h=>by
  simp only [aa] at h ⊢
  obtain ⟨e1,e2⟩:=hD hh (hd hh (by simp [V.hs]))
  rw [e1,e2]
  exact ⟨hU _ h.1,h.2⟩
 | .fp t xs i off,v,_,h=>by
  simp only [aa] at h ⊢
  obtain ⟨b,o,c,T,fr,h1,h2,h3,h4,h5,h6,h7⟩:=h
  exact ⟨b,o,c,T,fr,hS _ h1,by rw [hw];exact h2,h3,fun j hj=>(h4 j hj).ext hS (fun _ _=>by rw [hw]),h5,h6,h7⟩
 | .rp hh ver i off,v,hd,h=>by
  simp only [aa] at h ⊢
  obtain ⟨e1,e2⟩:=hD hh (hd hh (by simp [V.hs]))
  rw [e1,e2]
  exact ⟨hU _ h.1,hU _ h.2.1,h.2.2⟩
 | .nilsl,_,_,h=>by simpa [aa] using h
 | .esl,_,_,h=>by simpa [aa] using h
 | .osl hh ver,v,hd,h=>by
  simp only [aa] at h ⊢
  obtain ⟨e1,e2⟩:=hD hh (hd hh (by simp [V.hs]))
  rw [e1,e2,hw]
  exact ⟨hU _ h.1,hU _ h.2.1,h.2.2⟩
 | .fsl t xs,v,_,h=>by
  simp only [aa] at h ⊢
  exact h.ext hS (fun _ _=>by rw [hw])
 | .gsl hh ver esz off len,v,hd,h=>by
  simp only [aa] at h ⊢
  obtain ⟨e1,e2⟩:=hD hh (hd hh (by simp [V.hs]))
  rw [e1,e2,hw]
  exact ⟨hU _ h.1,hU _ h.2.1,h.2.2⟩
 | .gp hh ver off,v,hd,h=>by
  simp only [aa] at h ⊢
  obtain ⟨e1,e2⟩:=hD hh (hd hh (by simp [V.hs]))
  rw [e1,e2]
  exact ⟨hU _ h.1,hU _ h.2.1,h.2.2⟩
 | .mpv hh,v,hd,h=>by
  simp only [aa] at h ⊢
  obtain ⟨e1,e2⟩:=hD hh (hd hh (by simp [V.hs]))
  rw [e1,e2]
  exact ⟨hU _ h.1,h.2⟩
 | .av _ hh,v,hd,h=>by
  simp only [aa] at h ⊢
  obtain ⟨e1,e2⟩:=hD hh (hd hh (by simp [V.hs]))
  rw [e1,e2]
  exact ⟨hU _ h.1,h.2⟩
 | .nilfn,_,_,h=>by simpa [aa] using h
 | .nilmap,_,_,h=>by simpa [aa] using h
 | .hint _ _,_,_,h=>by simpa [aa] using h
 | .fn f caps,v,hd,h=>by
  simp only [aa] at h ⊢
  obtain ⟨l,h1,h2⟩:=h
  exact ⟨l,h1,fX hU hS hw D hD _ _ (fun h hh=>hd h (by simpa [V.hs] using hh)) h2⟩
 | .agg cs,v,hd,h=>by
  simp only [aa] at h ⊢
  obtain ⟨l,h1,h2⟩:=h
  exact ⟨l,h1,fX hU hS hw D hD _ _ (fun h hh=>hd h (by simpa [V.hs] using hh)) h2⟩
 | .tup cs,v,hd,h=>by
  simp only [aa] at h ⊢
  obtain ⟨l,h1,h2⟩:=h
  exact ⟨l,h1,fX hU hS hw D hD _ _ (fun h hh=>hd h (by simpa [V.hs] using hh)) h2⟩
theorem fX {E E':Env} (hU :∀ n,E.U n→E'.U n) (hS :∀ b,E.S b→E'.S b) (hw:E'.w=E.w) (D:Nat→Prop) (hD :∀ h,D h→E'.H h=E.H h∧E'.ρ h=E.ρ h) :∀ (xs:List V) (vs:List Value),(∀ h∈hss xs,D h)→ab E xs vs→ab E' xs vs
 | [],[],_,_=>by simp [ab]
 | _::_,[],_,h=>by simp [ab] at h
 | [],_::_,_,h=>by simp [ab] at h
 | x::xs,v::vs,hd,h=>by
  simp only [ab] at h ⊢
  exact ⟨nk hU hS hw D hD x v (fun h hh=>hd h (by simp [hss,hh])) h.1,fX hU hS hw D hD xs vs (fun h hh=>hd h (by simp [hss,hh])) h.2⟩
end
theorem sK {E E':Env} (hU :∀ n,E.U n→E'.U n) (hS :∀ b,E.S b→E'.S b) (hw:E'.w=E.w) (D:Nat→Prop) (hD :∀ h,D h→E'.H h=E.H h∧E'.ρ h=E.ρ h) :∀ (i:Nat) (xs:List (V×V)) (es:List MapEntry),(∀ h∈hsE xs,D h)→bJ E i xs es→bJ E' i xs es
 | _,[],[],_,_=>trivial
 | _,_::_,[],_,h=>by simp [bJ] at h
 | _,[],_::_,_,h=>by simp [bJ] at h
 | i,(k,v)::xs,e::es,hd,h=>⟨⟨nk hU hS hw D hD _ _ (fun h hh=>hd h (by simp [hsE,hh])) h.1.1,nk hU hS hw D hD _ _ (fun h hh=>hd h (by simp [hsE,hh])) h.1.2.1,h.1.2.2⟩,
  sK hU hS hw D hD (i+1) xs es (fun h hh=>hd h (by simp [hsE,hh])) h.2⟩
theorem GE {E E':Env} (hU :∀ n,E.U n→E'.U n) (hS :∀ b,E.S b→E'.S b) (hS' :∀ b,E'.S b→E.S b) (hw:E'.w=E.w) (D:Nat→Prop) (hD :∀ h,D h→E'.H h=E.H h∧E'.ρ h=E.ρ h) {h:Nat} (hh:D h) {k:Blk} (hk :∀ x∈k.hs,D x) (hb:Dn E h k):Dn E' h k:=by
 obtain ⟨_,e2⟩:=hD h hh
 cases k with
 | cells cs=>
  obtain ⟨b,c,T,fr,h1,h2,h3,h4,h5⟩:=hb
  exact ⟨b,c,T,fr,by rw [e2];exact h1,by rw [hw];exact h2,h3,fun hs=>h4 (hS' _ hs),fX hU hS hw D hD _ _ hk h5⟩
 | row ver rw t xs=>
  obtain ⟨hu,hb⟩:=hb
  refine ⟨hU _ hu,?_⟩
  rcases hb with ⟨h1,h2⟩ |⟨b,c,T,fr,h1,h2,h3,h4,h5,h6,h7,h8⟩
  ·exact .inl ⟨by rw [e2];exact h1,h2⟩
  ·exact .inr ⟨b,c,T,fr,by rw [e2];exact h1,by rw [hw];exact h2,h3,fun e hs=>h4 e (hS' _ hs),fun e=>hS _ (h5 e),h6,h7,fun i hi=>(h8 i hi).ext hS (fun _ _=>by rw [hw])⟩
 | grow ver esz cs=>
  obtain ⟨hu,b,c,T,fr,h1,h2,h3,h4,h5⟩:=hb
  exact ⟨hU _ hu,b,c,T,fr,by rw [e2];exact h1,by rw [hw];exact h2,h3,fun hs=>h4 (hS' _ hs),fX hU hS hw D hD _ _ hk h5⟩
 | mp es=>
  obtain ⟨b,l,k,h1,h2,h3,h4,h5⟩:=hb
  exact ⟨b,l,k,by rw [e2];exact h1,by rw [hw];exact h2,fun hs=>h3 (hS' _ hs),sK hU hS hw D hD _ _ _ hk h4,h5⟩
 | abs kk t x=>
  obtain ⟨b,h1,h2,h3,h4⟩:=hb
  exact ⟨b,by rw [e2];exact h1,fun hs=>h2 (hS' _ hs),fun g hg hs=>h3 g (by rw [hw] at hg;exact hg) (hS' _ hs),by rw [hw];exact h4⟩
def IP (E:Env) (R:List Nat):Nat→Prop:=fun b=>∃ h,h∈R∧∃ k,E.H h=some k∧Tch E h k b
def TR (E:Env) (R:List Nat) (g:nV E.w (IP E R)):Base:=A2 E.w (IP E R) E.S g
theorem wu {B:Base} {E:Env} (hE:HRel B E) (R:List Nat):nV E.w (IP E R):=hE.glob fun _ ⟨h,_,k,hk,hb⟩=>⟨h,k,hk,hb⟩
theorem HRel.restr {B:Base} {E:Env} (hE:HRel B E) (R:List Nat):HRel (TR E R (wu hE R)) { E with H:=Mir.restr E.H R }:=by
 have get :∀ h k,Mir.restr E.H R h=some k→h∈R∧E.H h=some k:=fun h k hh=>by
  unfold Mir.restr at hh
  cases hm:memN R h with
  | false=>rw [hm] at hh;cases hh
  | true=>rw [hm] at hh;exact ⟨memN_iff.1 hm,hh⟩
 have X:Ext E { E with H:=Mir.restr E.H R }:=by
  refine ⟨fun _ h=>h,fun _ h=>h,fun _ _=>rfl,fun h cs _ hx=>⟨⟨cs,(get _ _ hx).2⟩,rfl⟩,fun h ver rw t xs _ _ hx=>⟨rw,xs,(get _ _ hx).2,rfl,rfl,fun b c T fr _ hw=>⟨c,T,fr,hw,rfl⟩⟩,fun h ver esz cs _ _ hx=>⟨cs,(get _ _ hx).2,rfl,rfl,fun b c T fr _ hw=>⟨c,T,fr,hw,rfl⟩⟩,fun h es _ hx=>⟨⟨es,(get _ _ hx).2⟩,rfl⟩,fun h k t x _ hx=>⟨⟨x,(get _ _ hx).2⟩,rfl⟩⟩
 refine ⟨fun h b hx=>hE.used _ _ (get _ _ hx).2,hE.stab,fun h k b hx hb=>hE.lt' _ _ _ (get _ _ hx).2 hb,fun h h' k k' b h1 h2 b1 b2=>hE.inj' _ _ _ _ _ (get _ _ h1).2 (get _ _ h2).2 b1 b2,
  fun h k hx=>bX X rfl (fun _ _=>rfl) (fun _ _ _ h=>h) (hE.blk _ _ (get _ _ hx).2),Keeps.refl _ _,fun h k b hx hb=> .inl ⟨h,(get _ _ hx).1,_,(get _ _ hx).2,hb⟩,fun _ h=>h,fun _ h=> .inl h⟩
theorem Nr {B:Base} {E:Env} (hE:HRel B E) {R:List Nat} {m K:Nat} (hm :∀ n,m≤n→n<m+K→¬ E.U n) {dh:List (Nat×Blk)} {w':World} {Es:Env} (G:GoodK (TR E R (wu hE R)) { E with H:=restr E.H R } m K dh w' Es)
  (_ :∀ h∈R,∃ k,E.H h=some k) (hc :∀ h∈R,∀ k,E.H h=some k→∀ x∈k.hs,x∈R∨(m≤x∧x<m+K))
  (hk :∀ h k,find dh h=some k→(h∈R∨(m≤h∧h<m+K))∧∀ x∈k.hs,x∈R∨(m≤x∧x<m+K)) :
  ∃ E',GoodK B E m K dh w' E'∧∀ (v:V) (u:Value),(∀ x∈v.hs,x∈R∨(m≤x∧x<m+K))→aa Es v u→aa E' v u:=by
 classical
 let D:Nat→Prop:=fun h=>h∈R∨(m≤h∧h<m+K)
 let E':Env:=⟨Es.U,fun h=>if D h then Es.ρ h else E.ρ h,Es.S,Es.w,au E.H dh⟩
 have hEs:=G.rel
 have Xs:=G.ext
 have hH :∀ h,D h→E'.H h=Es.H h:=fun h hd=>by
  show au E.H dh h=Es.H h
  rw [G.h]
  unfold au
  cases hf:find dh h with
  | some k=>rfl
  | none=>
   simp only
   unfold Mir.restr
   cases hm':memN R h with
   | true=>rfl
   | false=>
    rcases hd with hd|hd
    ·rw [memN_iff.2 hd] at hm';cases hm'
    ·cases hx:E.H h with
     | none=>rfl
     | some k=>exact absurd (hE.used _ _ hx) (hm h hd.1 hd.2)
 have hρ :∀ h,D h→E'.ρ h=Es.ρ h:=fun h hd=>if_pos hd
 have hHn :∀ h,¬ D h→E'.H h=E.H h:=fun h hd=>by
  show au E.H dh h=E.H h
  unfold au
  cases hf:find dh h with
  | some k=>exact absurd (hk h k hf).1 hd
  | none=>rfl
 have hρn :∀ h,¬ D h→E'.ρ h=E.ρ h:=fun h hd=>if_neg hd
 have notF :∀ h k b,¬ D h→E.H h=some k→Tch E h k b→¬ IP E R b:=fun h k b hd hx hb hf=>by
  obtain ⟨h2,g1,k2,g2,g3⟩:=hf
  have:=hE.inj' _ _ _ _ _ hx g2 hb g3
  subst this
  exact hd (.inl g1)
 have keep' :∀ h k b,¬ D h→E.H h=some k→Tch E h k b→Es.w.heap[b]?=E.w.heap[b]?:=fun h k b hd hx hb=>
  hEs.keeps.block b (hE.lt' _ _ _ hx hb) (notF h k b hd hx hb)
 have keep :∀ h k b,¬ D h→E.H h=some k→E.ρ h=some b→Es.w.heap[b]?=E.w.heap[b]?:=fun h k b hd hx hb=>keep' h k b hd hx (.inl hb)
 have tD :∀ {h k b},D h→Tch E' h k b→Tch Es h k b:=fun hd ht=>ht.mv (hρ _ hd) (fun _ _=>rfl)
 have tN :∀ {h k b},¬ D h→E.H h=some k→Tch E' h k b→Tch E h k b:=fun hd hx ht=>ht.mv (hρn _ hd) (fun b hb=>keep _ _ b hd hx hb)
 have X:Ext E E':=by
  refine ⟨Xs.u,Xs.s,Xs.keepS,fun h cs' hu hx=>?_,fun h ver rw' t' xs' hu hv hx=>?_,fun h ver esz cs' hu hv hx=>?_,fun h es' hu hx=>?_,fun h kk t x' hu hx=>?_⟩
  case refine_5=>
   by_cases hd:D h
   ·rw [hH h hd] at hx
    obtain ⟨⟨x,h1⟩,h2⟩:=Xs.ha h kk t x' hu hx
    refine ⟨⟨x,?_⟩,by rw [hρ h hd];exact h2⟩
    have h1':Mir.restr E.H R h=some (.abs kk t x):=h1
    unfold Mir.restr at h1'
    cases hm':memN R h with
    | false=>rw [hm'] at h1';cases h1'
    | true=>rw [hm'] at h1';exact h1'
   ·rw [hHn h hd] at hx
    exact ⟨⟨x',hx⟩,hρn h hd⟩
  ·by_cases hd:D h
   ·rw [hH h hd] at hx
    obtain ⟨⟨cs,h1⟩,h2⟩:=Xs.hc h cs' hu hx
    refine ⟨⟨cs,?_⟩,by rw [hρ h hd];exact h2⟩
    have h1':Mir.restr E.H R h=some (.cells cs):=h1
    unfold Mir.restr at h1'
    cases hm':memN R h with
    | false=>rw [hm'] at h1';cases h1'
    | true=>rw [hm'] at h1';exact h1'
   ·rw [hHn h hd] at hx
    exact ⟨⟨cs',hx⟩,hρn h hd⟩
  ·by_cases hd:D h
   ·rw [hH h hd] at hx
    obtain ⟨rw,xs,h1,h2,h3,h4⟩:=Xs.hr h ver rw' t' xs' hu hv hx
    refine ⟨rw,xs,?_,h2,by rw [hρ h hd];exact h3,h4⟩
    have h1':Mir.restr E.H R h=some (.row ver rw t' xs):=h1
    unfold Mir.restr at h1'
    cases hm':memN R h with
    | false=>rw [hm'] at h1';cases h1'
    | true=>rw [hm'] at h1';exact h1'
   ·rw [hHn h hd] at hx
    exact ⟨rw',xs',hx,rfl,hρn h hd,fun b c T fr hb hw=>⟨c,T,fr,by rw [show E'.w=Es.w from rfl,keep h _ b hd hx hb];exact hw,rfl⟩⟩
  ·by_cases hd:D h
   ·rw [hH h hd] at hx
    obtain ⟨xs,h1,h2,h3,h4⟩:=Xs.hg h ver esz cs' hu hv hx
    refine ⟨xs,?_,h2,by rw [hρ h hd];exact h3,h4⟩
    have h1':Mir.restr E.H R h=some (.grow ver esz xs):=h1
    unfold Mir.restr at h1'
    cases hm':memN R h with
    | false=>rw [hm'] at h1';cases h1'
    | true=>rw [hm'] at h1';exact h1'
   ·rw [hHn h hd] at hx
    exact ⟨cs',hx,rfl,hρn h hd,fun b c T fr hb hw=>⟨c,T,fr,by rw [show E'.w=Es.w from rfl,keep h _ b hd hx hb];exact hw,rfl⟩⟩
  ·by_cases hd:D h
   ·rw [hH h hd] at hx
    obtain ⟨⟨es,h1⟩,h2⟩:=Xs.hm h es' hu hx
    refine ⟨⟨es,?_⟩,by rw [hρ h hd];exact h2⟩
    have h1':Mir.restr E.H R h=some (.mp es):=h1
    unfold Mir.restr at h1'
    cases hm':memN R h with
    | false=>rw [hm'] at h1';cases h1'
    | true=>rw [hm'] at h1';exact h1'
   ·rw [hHn h hd] at hx
    exact ⟨⟨es',hx⟩,hρn h hd⟩
 have trans :∀ (v:V) (u:Value),(∀ x∈v.hs,D x)→aa Es v u→aa E' v u:=fun v u hd hv=>
  nk (E:=Es) (E':=E') (fun _ h=>h) (fun _ h=>h) rfl D (fun h hd=>⟨hH h hd,hρ h hd⟩) v u hd hv
 have hw0:E.w.heap.size≤Es.w.heap.size:=hEs.keeps.size
 have hB0:B.w0.heap.size≤E.w.heap.size:=hE.keeps.size
 have hfoot :∀ b,IP E R b→B.F b∨B.w0.heap.size≤b:=fun b ⟨h2,_,k2,g2,g3⟩=>hE.own' _ _ _ g2 g3
 have R':HRel B E':=by
  refine ⟨fun h b hx=>?_,hEs.stab,fun h k b hx hb=>?_,fun h h' k k' b h1 h2 b1 b2=>?_,fun h k hx=>?_,?_,fun h k b hx hb=>?_,fun b hs=>Xs.s _ (hE.s0 b hs),fun b hs=>?_⟩
  ·by_cases hd:D h
   ·rw [hH h hd] at hx;exact hEs.used _ _ hx
   ·rw [hHn h hd] at hx;exact Xs.u _ (hE.used _ _ hx)
  ·by_cases hd:D h
   ·rw [hH h hd] at hx;exact hEs.lt' _ _ _ hx (tD hd hb)
   ·rw [hHn h hd] at hx;exact Nat.lt_of_lt_of_le (hE.lt' _ _ _ hx (tN hd hx hb)) hw0
  ·have mix :∀ h h' k k',D h→¬ D h'→E'.H h=some k→E'.H h'=some k'→Tch E' h k b→Tch E' h' k' b→False:=fun h h' k k' hd hd' h1 h2 b1 b2=>by
    rw [hH h hd] at h1;replace b1:=tD hd b1;rw [hHn h' hd'] at h2;replace b2:=tN hd' h2 b2
    rcases hEs.own' _ _ _ h1 b1 with h3|h3
    ·exact notF _ _ _ hd' h2 b2 h3
    ·have h4:=hE.lt' _ _ _ h2 b2
     have h5:E.w.heap.size≤b:=h3
     omega
   by_cases hd:D h <;> by_cases hd':D h'
   ·rw [hH h hd] at h1;rw [hH h' hd'] at h2
    exact hEs.inj' _ _ _ _ _ h1 h2 (tD hd b1) (tD hd' b2)
   ·exact (mix h h' k k' hd hd' h1 h2 b1 b2).elim
   ·exact (mix h' h k' k hd' hd h2 h1 b2 b1).elim
   ·rw [hHn h hd] at h1;rw [hHn h' hd'] at h2
    exact hE.inj' _ _ _ _ _ h1 h2 (tN hd h1 b1) (tN hd' h2 b2)
  ·by_cases hd:D h
   ·have hx':=hx
    rw [hH h hd] at hx'
    refine GE (E:=Es) (E':=E') (fun _ h=>h) (fun _ h=>h) (fun _ h=>h) rfl D (fun h hd=>⟨hH h hd,hρ h hd⟩) hd ?_ (hEs.blk _ _ hx')
    have hx2:au E.H dh h=some k:=hx
    unfold au at hx2
    cases hf:find dh h with
    | some k2=>rw [hf] at hx2;simp only [Option.some.injEq] at hx2;subst hx2;exact (hk h _ hf).2
    | none=>
     rw [hf] at hx2
     rcases hd with hd|hd
     ·exact hc h hd k hx2
     ·exact absurd (hE.used _ _ hx2) (hm h hd.1 hd.2)
   ·have hx':=hx
    rw [hHn h hd] at hx'
    refine bX X (hρn h hd) (fun b hb=>keep' h k b hd hx' hb) (fun b hb _ hs hs'=>?_) (hE.blk _ _ hx')
    rcases hEs.sb b hs' with h1|h1|h1
    ·exact hs h1
    ·exact notF h k b hd hx' hb h1
    ·have h4:=hE.lt' _ _ _ hx' hb
     have h5:E.w.heap.size≤b:=h1
     omega
  ·exact hE.keeps.trans hEs.keeps hfoot
  ·by_cases hd:D h
   ·rw [hH h hd] at hx
    rcases hEs.own' _ _ _ hx (tD hd hb) with h3|h3
    ·exact hfoot b h3
    ·exact .inr (Nat.le_trans hB0 h3)
   ·rw [hHn h hd] at hx;exact hE.own' _ _ _ hx (tN hd hx hb)
  ·rcases hEs.sb b hs with h1|h1|h1
   ·exact hE.sb b h1
   ·exact .inr (hfoot b h1)
   ·exact .inr (.inr (Nat.le_trans hB0 h1))
 exact ⟨E',⟨R',X,G.w,rfl,G.u⟩,trans⟩
end
section
open Go.RowKit
structure Cfg where
 tb:Tbl
 Γ:FuncId→Option Ctr
 K:Nat
 N:Nat
structure Dl where
 tm:List (Nat×V)
 hp:List (Nat×Blk)
structure St where
 tm:List (Nat×V)
 hp:List (Nat×Blk)
 H0:aw
 nx:Nat
def St.H (s:St):aw:=au s.H0 s.hp
def St.app (s:St) (d:Dl) (nx:Nat):St:=⟨d.tm++s.tm,d.hp++s.hp,s.H0,nx⟩
def cA (tm:List (Nat×V)) (i:Nat):V:=match find tm i with|some v=>v|none=> .any
def Hr (tm:List (Nat×V)):Operand→V
 | .tmp t=>cA tm t
 | .const v=>cv v
 | .func f=> .fn f []
 | .global _=> .any
def a8 (rs:List Nat) (tm:List (Nat×V)):Operand→V
 | .tmp t=>bif memN rs t then cA tm t else .any
 | .const v=>cv v
 | .func f=> .fn f []
 | .global _=> .any
inductive Lf where
 | nrm|ext (id:Nat)|ret
inductive Tr where
 | leaf (e:Lf) (d:Dl) (nx:Nat)
 | br (b:Bool) (t e:Tr)
 | need (p:Prop) (t:Tr)
 | both (t u:Tr)
 | when (b:Bool) (t:Tr)
 | done
 | bad
def Tr.sat (Q:Lf→Dl→Nat→Prop):Tr→Prop
 | .leaf e d nx=>Q e d nx
 | .br b t e=>(b=true→t.sat Q)∧(b=false→e.sat Q)
 | .need p t=>p∧t.sat Q
 | .both t u=>t.sat Q∧u.sat Q
 | .when b t=>b=true→t.sat Q
 | .done=>True
 | .bad=>False
def needs:List Ob→Tr→Tr
 | [],t=>t
 | p::ps,t=> .need p.holds (needs ps t)
theorem xz {Q:Lf→Dl→Nat→Prop} {t:Tr} :∀ {ps:List Ob},(needs ps t).sat Q→(∀ p∈ps,p.holds)∧t.sat Q
 | [],h=>⟨fun p hp=>by simp at hp,h⟩
 | p::ps,h=>by
  simp only [needs,Tr.sat] at h
  obtain ⟨h1,h2⟩:=xz h.2
  exact ⟨fun q hq=>by rcases List.mem_cons.1 hq with rfl|hq;exact h.1;exact h1 q hq,h2⟩
def cc:Option Nat→V→List (Nat×V)
 | some d,v=> [(d,v)]
 | none,_=> []
def dstIn (N:Nat):Option Nat→Bool
 | some d=>Nat.blt d N
 | none=>true
def ao (all:List Oper) (o:Oper):List Nat:=
 (o.op.operands.toList.filterMap fun | .tmp t=>some t|_=>none) ++
  (match o.guard with|some (j,_)=>(match all[j]? with|some oj=>oj.dst.toList|none=> [])|none=> [])
def fw (all:List Oper) (tm:List (Nat×V)) (o:Oper):Option Bool:=
 match o.guard with
 | none=>some true
 | some (j,want)=>match all[j]? with
  | some oj=>match oj.dst with
   | some dj=>match cA tm dj with
    | .kb b=>some (b==want)
    | .tup []=>some false
    | _=>none
   | none=>none
  | none=>none
def L4 (all:List Oper) (i:Nat):Bool:=all.any fun o=>match o.guard with|some (j,_)=>Nat.beq j i|none=>false
def nI (H:aw):Nat→List Nat→List Nat→List Nat
 | 0,_,acc=>acc
 | n+1,new,acc=>
  let add:=new.filter fun h=>!memN acc h
  let nxt:=add.flatMap fun h=>match H h with|some b=>b.hs|none=> []
  match add with
  | []=>acc
  | _=>nI H n nxt (add++acc)
def nt (R:List Nat) (m K:Nat) (l:List Nat):Bool:=l.all fun h=>memN R h ||(Nat.ble m h&&Nat.blt h (m+K))
def gW (H:aw) (R:List Nat) (m K:Nat) (v:V) (dh:List (Nat×Blk)):Bool:=
 (R.all fun h=>match H h with|some b=>nt R m K b.hs|none=>false)&&(dh.all fun q=>nt R m K [q.1]&&nt R m K q.2.hs)&&nt R m K v.hs
def aH (C:Cfg) (m:Nat) (H:aw) (ev:Operand→V) (o:Op):Option (List Ob×V×List (Nat×Blk)):=
 match b7 C.tb H ev o with
 | some (ps,dh)=>some (ps,.tup [],dh)
 | none=>match bO C.tb C.Γ m H ev o with
  | .val ps v dh=>some (ps,v,dh)
  | _=>none
structure Rec where
 dst:Option Nat
 v:V
 dh:List (Nat×Blk)
 R:List Nat
 rs:List Nat
def mH (C:Cfg) (dr:Bool) (rs:List Nat) (tm:List (Nat×V)) (H:aw) (m:Nat) (o:Oper):Option (List Ob×V×List (Nat×Blk)×List Nat):=
 match dr with
 | false=>match aH C m H (Hr tm) o.op with
  | some (ps,v,dh)=>some (ps,v,dh,[])
  | none=>none
 | true=>
  let ev:=a8 rs tm
  let R:=nI H 8 (o.op.operands.toList.flatMap fun x=>(ev x).hs) []
  match aH C m (restr H R) ev o.op with
  | some (ps,v,dh)=>bif gW H R m C.K v dh then some (ps,v,dh,R) else none
  | none=>none
def oM (ev:Operand→V):Op→Bool
 | .move _ | .assign _ | .pick _ _ _ | .alloc _ | .box _ _ | .build _ _ | .load _ _ | .nilCheck _ | .binOp _ _ _ _ _ | .unOp _ _ _ | .convert _ _ _ | .makeFunc _ _ _=>true
 | .fieldAddr _ _ _ | .field _ _ _ | .indexAddr _ _ _ | .index _ _ _ | .extract _ _ | .slice _ _ _ _ _=>true
 | .store _ a _=>match ev a with
  | .ptr _ _=>true
  | .gp _ _ _=>true
  | _=>false
 | .call c=>match c.callee with
  | .builtin .len=>true
  | .builtin .append=>true
  | _=>false
 | _=>false
def Pb (ev:Operand→V) (op:Op):List Nat:=
 match op with
 | .move _=> []
 | .assign _=> []
 | .nilCheck _=> []
 | .fieldAddr _ _ _=> []
 | op=>op.operands.toList.flatMap fun x=>(ev x).hs
def K2 (C:Cfg) (dr:Bool) (rs:List Nat) (tm:List (Nat×V)) (H:aw) (m:Nat) (o:Oper):Option (List Ob×V×List (Nat×Blk)×List Nat):=
 match dr with
 | false=>mH C false rs tm H m o
 | true=>match oM (a8 rs tm) o.op with
  | true=>match aH C m H (a8 rs tm) o.op with
   | some (ps,v,dh)=>some (ps,v,dh,Pb (a8 rs tm) o.op)
   | none=>none
  | false=>mH C true rs tm H m o
def pk (acc:List Nat):List Edge→Nat
 | []=>0
 | e::es=>if Region.binds .any e then (pk acc es ||| 2 ^ e.on) |||(acc[e.on]?).getD 0 else pk acc es
def bK:List Oper→List Nat→List Nat
 | [],acc=>acc
 | o::os,acc=>bK os (acc++[pk acc o.after.toList])
def cF:Nat→List Oper→Bool
 | _,[]=>true
 | i,o::os=>(o.after.toList.all fun e=>!Region.binds .any e||Nat.blt e.on i)&&cF (i+1) os
def rG (l r:List Nat):Bool:=l.all fun x=>!memN r x
def comm (r s:Rec):Bool:=
 rG r.dst.toList s.dst.toList&&rG r.dst.toList s.rs&&rG s.dst.toList r.rs &&
  (rG (r.dh.map (·.1)) (s.dh.map (·.1))&&rG (r.dh.map (·.1)) s.R&&rG (s.dh.map (·.1)) r.R)
def qE (ms:List Nat) (i:Nat) (r:Rec):Nat→List Rec→Bool
 | _,[]=>true
 | j,s::ss=>(((ms[j]?).getD 0).testBit i||comm r s)&&qE ms i r (j+1) ss
def dX (ms:List Nat):Nat→List Rec→Bool
 | _,[]=>true
 | i,r::rs=>qE ms i r (i+1) rs&&dX ms (i+1) rs
def AE (g:Bool) (v:V) (k:V→Tr):Tr:=
 match g,v with
 | true,.bool b=> .br b (k (.kb true)) (k (.kb false))
 | _,v=>k v
theorem uJ {Q:Lf→Dl→Nat→Prop} {g:Bool} {v:V} {k:V→Tr} (h :(AE g v k).sat Q) :∃ v',(v'=v∨∃ b,v = .bool b∧v' = .kb b)∧(k v').sat Q:=by
 unfold AE at h
 split at h
 ·simp only [Tr.sat] at h
  rename_i b
  cases b with
  | true=>exact ⟨_,.inr ⟨true,rfl,rfl⟩,h.1 rfl⟩
  | false=>exact ⟨_,.inr ⟨false,rfl,rfl⟩,h.2 rfl⟩
 ·exact ⟨_,.inl rfl,h⟩
def AF (kd:IntKind) (n:Int) (k:V→Tr):Nat→Nat→Tr
 | 0,_=> .need False .done
 | m+1,j=> .br (n ==(j:Int)) (k (.int kd j)) (AF kd n k m (j+1))
def zx (tb:Tbl) (d:Option Nat):List Oper→Nat
 | []=>0
 | o::os=>match o.op,d with
  | .indexAddr t _ (.tmp i),some d=>bif Nat.beq i d then (match tb t with|some td=>(match td.kind with | .arr len _=>len|_=>zx tb (some d) os)|none=>0) else zx tb (some d) os
  | _,_=>zx tb d os
def EW (g:Bool) (l:Nat) (v:V) (k:V→Tr):Tr:=
 match l with
 | 0=>AE g v k
 | l+1=>match v with
  | .int kd n=>AF kd n k (l+1) 0
  | v=>AE g v k
theorem uK {Q:Lf→Dl→Nat→Prop} {kd:IntKind} {n:Int} {k:V→Tr} :∀ {m j:Nat},(AF kd n k m j).sat Q→(k (.int kd n)).sat Q
 | 0,j,h=>h.1.elim
 | m+1,j,h=>by
  simp only [AF,Tr.sat] at h
  cases hb:n ==(j:Int) with
  | true=>
   have:n =(j:Int):=by simpa using hb
   have:=h.1 hb
   rwa [←‹n =(j:Int)›] at this
  | false=>exact uK (h.2 hb)
theorem EX {Q:Lf→Dl→Nat→Prop} {g:Bool} {l:Nat} {v:V} {k:V→Tr} (h :(EW g l v k).sat Q) :∃ v',(v'=v∨∃ b,v = .bool b∧v' = .kb b)∧(k v').sat Q:=by
 unfold EW at h
 split at h
 ·exact uJ h
 ·split at h
  ·exact ⟨_,.inl rfl,uK h⟩
  ·exact uJ h
def sZ (C:Cfg) (dr:Bool) (all:List Oper) (st:St):Nat→List Oper→Dl→List Rec→Tr
 | _,[],d,recs=>if dr=false∨(cF 0 all=true∧dX (bK all []) 0 recs=true) then .leaf .nrm d (st.nx+all.length*C.K) else .bad
 | i,o::rest,d,recs=>
  let tm:=d.tm++st.tm
  let rs:=ao all o
  bif dstIn C.N o.dst then
   match fw all tm o with
   | some false=>sZ C dr all st (i+1) rest ⟨cc o.dst (.tup [])++d.tm,d.hp⟩ (recs++[⟨o.dst,.tup [],[],[],rs⟩])
   | some true=>match K2 C dr rs tm (au st.H d.hp) (st.nx+i*C.K) o with
    | some (ps,v,dh,R)=>needs ps (EW (L4 all i) (zx C.tb o.dst rest) v fun v=>sZ C dr all st (i+1) rest ⟨cc o.dst v++d.tm,dh++d.hp⟩ (recs++[⟨o.dst,v,dh,R,rs⟩]))
    | none=> .bad
   | none=> .bad
  else .bad
inductive Does (C:Cfg) (dr:Bool) (all:List Oper) (tm:List (Nat×V)) (H:aw) (m:Nat) (o:Oper):Rec→Prop
 | skip:dstIn C.N o.dst=true→fw all tm o=some false→Does C dr all tm H m o ⟨o.dst,.tup [],[],[],ao all o⟩
 | run {ps:List Ob} {v v':V} {dh:List (Nat×Blk)} {R:List Nat}:dstIn C.N o.dst=true→fw all tm o=some true→mH C dr (ao all o) tm H m o=some (ps,v,dh,R)→(∀ p∈ps,p.holds)→
   (v'=v∨∃ b,v = .bool b∧v' = .kb b)→Does C dr all tm H m o ⟨o.dst,v',dh,R,ao all o⟩
 | dir {ps:List Ob} {v v':V} {dh:List (Nat×Blk)}:dr=true→dstIn C.N o.dst=true→fw all tm o=some true→oM (a8 (ao all o) tm) o.op=true→aH C m H (a8 (ao all o) tm) o.op=some (ps,v,dh)→(∀ p∈ps,p.holds)→
   (v'=v∨∃ b,v = .bool b∧v' = .kb b)→Does C dr all tm H m o ⟨o.dst,v',dh,Pb (a8 (ao all o) tm) o.op,ao all o⟩
theorem vg {C:Cfg} {dr:Bool} {all:List Oper} {tm:List (Nat×V)} {H:aw} {m:Nat} {o:Oper} {ps:List Ob} {v v':V} {dh:List (Nat×Blk)} {R:List Nat} (h1:dstIn C.N o.dst=true) (h2:fw all tm o=some true) (h3:K2 C dr (ao all o) tm H m o=some (ps,v,dh,R)) (h4 :∀ p∈ps,p.holds)
  (h5:v'=v∨∃ b,v = .bool b∧v' = .kb b):Does C dr all tm H m o ⟨o.dst,v',dh,R,ao all o⟩:=by
 unfold K2 at h3
 split at h3
 ·exact .run h1 h2 h3 h4 h5
 ·split at h3
  ·rename_i hd
   split at h3
   ·rename_i he
    simp only [Option.some.injEq,Prod.mk.injEq] at h3
    obtain ⟨rfl,rfl,rfl,rfl⟩:=h3
    exact .dir rfl h1 h2 hd he h4 h5
   ·cases h3
  ·exact .run h1 h2 h3 h4 h5
inductive Run (C:Cfg) (dr:Bool) (all:List Oper) (st:St):Nat→List Oper→Dl→List Rec→Dl→List Rec→Prop
 | nil {i:Nat} {d:Dl} {recs:List Rec}:Run C dr all st i [] d recs d recs
 | cons {i:Nat} {o:Oper} {rest:List Oper} {d:Dl} {recs:List Rec} {r:Rec} {df:Dl} {rf:List Rec}:Does C dr all (d.tm++st.tm) (au st.H d.hp) (st.nx+i*C.K) o r→
   Run C dr all st (i+1) rest ⟨cc r.dst r.v++d.tm,r.dh++d.hp⟩ (recs++[r]) df rf→Run C dr all st i (o::rest) d recs df rf
theorem kY {C:Cfg} {dr:Bool} {all:List Oper} {st:St} {Q:Lf→Dl→Nat→Prop} :∀ (rest:List Oper) (i:Nat) (d:Dl) (recs:List Rec),(sZ C dr all st i rest d recs).sat Q→
  ∃ df rf,Run C dr all st i rest d recs df rf∧(dr=false∨(cF 0 all=true∧dX (bK all []) 0 rf=true))∧Q .nrm df (st.nx+all.length*C.K)
 | [],i,d,recs,h=>by
  unfold sZ at h
  split at h
  ·rename_i hc
   exact ⟨d,recs,.nil,hc,h⟩
  ·exact h.elim
 | o::rest,i,d,recs,h=>by
  unfold sZ at h
  dsimp only at h
  cases hd:dstIn C.N o.dst with
  | false=>rw [hd] at h;exact h.elim
  | true=>
   rw [hd] at h
   simp only [cond_true] at h
   split at h
   ·rename_i hg
    obtain ⟨df,rf,h1,h2⟩:=kY rest _ _ _ h
    exact ⟨df,rf,.cons (.skip hd hg) h1,h2⟩
   ·rename_i hg
    split at h
    case h_2=>exact h.elim
    rename_i ps v dh R hs
    obtain ⟨hps,h⟩:=xz h
    obtain ⟨v',hv,h⟩:=EX h
    obtain ⟨df,rf,h1,h2⟩:=kY rest _ _ _ h
    exact ⟨df,rf,.cons (vg hd hg hs hps hv) h1,h2⟩
   ·exact h.elim
variable {P:Program}
structure SRel (B:Base) (N:Nat) (T:Nat→Option V) (H:aw) (U:Nat→Prop) (a:Act) (w:World):Prop where
 ex :∃ E,HRel B E∧E.w=w∧E.H=H∧(B.G E∧∀ n,E.U n→U n)∧∀ s v,T s=some v→aa E v (a.tmps.getD s undef)
 size:a.tmps.size=N
 defers:a.defers=B.dfs
theorem bR {α:Type} (l r:List (Nat×α)) (i:Nat):find (l++r) i=match find l i with|some v=>some v|none=>find r i:=by
 induction l with
 | nil=>rfl
 | cons x l ih=>
  obtain ⟨k,v⟩:=x
  simp only [List.cons_append,find]
  cases Nat.beq k i with
  | true=>rfl
  | false=>simpa using ih
theorem bT (H:aw) (l r:List (Nat×Blk)):au H (l++r)=au (au H r) l:=by
 funext h
 simp only [au,bR]
 cases find l h <;> rfl
theorem gl {E:Env} (v:Value):aa E (cv v) v:=by
 unfold cv
 split
 ·split
  ·rename_i h;exact fU h
  ·simp [aa]
 ·exact vkb _
 ·split
  ·rename_i h;exact HN h
  ·simp [aa]
 ·simp [aa]
 ·simp [aa]
 ·simp [aa]
 ·simp [aa]
 ·simp [aa]
def eJ (E:Env) (T:Nat→Option V) (a:Act):Prop:=∀ s v,T s=some v→aa E v (a.tmps.getD s undef)
theorem cw {E:Env} {tm:List (Nat×V)} {a:Act} (h:eJ E (find tm) a) (s:Nat):aa E (cA tm s) (a.tmps.getD s undef):=by
 unfold cA
 cases hf:find tm s with
 | some v=>exact h s v hf
 | none=>simp [aa]
theorem oy {E:Env} {tm:List (Nat×V)} {a:Act} (h:eJ E (find tm) a) (x:Operand):aa E (Hr tm x) (a.eval x):=by
 cases x with
 | tmp t=>exact cw h t
 | const v=>exact gl v
 | func f=>simp only [Hr,aa,Act.eval];exact ⟨#[],rfl,by simp [ab]⟩
 | _=>simp [Hr,aa]
theorem Does.dstIn {C:Cfg} {dr:Bool} {all:List Oper} {tm:List (Nat×V)} {H:aw} {m:Nat} {o:Oper} {r:Rec} (h:Does C dr all tm H m o r):dstIn C.N o.dst=true∧r.dst=o.dst∧r.rs=ao all o:=by
 cases h with
 | skip h _=>exact ⟨h,rfl,rfl⟩
 | run h _ _ _ _=>exact ⟨h,rfl,rfl⟩
 | dir _ h _ _ _ _ _=>exact ⟨h,rfl,rfl⟩
theorem Ab {E E':Env} (X:Ext E E') {T:Nat→Option V} {a:Act} (h:eJ E T a) {N:Nat} (hs:a.tmps.size=N) {dst:Option Nat} (hd:dstIn N dst=true) {v:V} {v':Value} (hv:aa E' v v') {T':Nat→Option V}
  (hT :∀ s u,T' s=some u→find (cc dst v) s=some u∨(find (cc dst v) s=none∧T s=some u)):eJ E' T' (a.put dst v'):=by
 intro s u hu
 cases dst with
 | none=>
  rcases hT s u hu with h1|h1
  ·simp [cc,find] at h1
  ·exact bb X _ _ (h s u h1.2)
 | some d=>
  simp only [Mir.dstIn,Nat.blt_eq] at hd
  simp only [Act.put]
  rcases hT s u hu with h1 |⟨h1,h2⟩
  ·simp only [cc,find] at h1
   cases hb:Nat.beq d s with
   | true=>
    rw [hb] at h1
    simp only [cond_true,Option.some.injEq] at h1
    subst h1
    obtain rfl:=Nat.eq_of_beq_eq_true hb
    have :(a.tmps.setIfInBounds d v').getD d undef=v':=by simp [Array.getD_eq_getD_getElem?,hs,hd]
    rw [this];exact hv
   | false=>rw [hb] at h1;simp at h1
  ·simp only [cc,find] at h1
   cases hb:Nat.beq d s with
   | true=>rw [hb] at h1;simp at h1
   | false=>
    have hne:d≠s:=fun e=>by subst e;rw [Nat.beq_refl] at hb;cases hb
    have :(a.tmps.setIfInBounds d v').getD s undef=a.tmps.getD s undef:=by
     simp [Array.getD_eq_getD_getElem?,Array.getElem?_setIfInBounds_ne hne]
    rw [this];exact bb X _ _ (h s u h2)
theorem mr {a:Act} {dst:Option Nat} {v:Value} :(a.put dst v).tmps.size=a.tmps.size:=by cases dst <;> simp [Act.put]
theorem iP {a:Act} {dst:Option Nat} {v:Value} :(a.put dst v).defers=a.defers:=by cases dst <;> simp [Act.put]
theorem IX {t:Array Value} {d:Nat} {v:Value} (h:t.getD d undef=v) (hv:v≠undef):t[d]?=some v:=by
 rw [Array.getD_eq_getD_getElem?] at h
 cases hx:t[d]? with
 | none=>rw [hx] at h;exact absurd h.symm hv
 | some u=>rw [hx] at h;simpa using h
theorem mc {E:Env} {all:List Oper} {T:Nat→V} {a:Act} (hT :∀ s,aa E (T s) (a.tmps.getD s undef)) {o:Oper} {b:Bool}
  (h :(match o.guard with
   | none=>some true
   | some (j,want)=>match all[j]? with
    | some oj=>match oj.dst with
     | some dj=>match T dj with
      | .kb b=>some (b==want)
      | .tup []=>some false
      | _=>none
     | none=>none
    | none=>none:Option Bool)=some b):Region.wanted o (yielded all.toArray a.tmps)=b:=by
 unfold Region.wanted
 cases hg:o.guard with
 | none=>rw [hg] at h;simpa using h
 | some q=>
  obtain ⟨j,want⟩:=q
  rw [hg] at h
  simp only at h ⊢
  cases hj:all[j]? with
  | none=>rw [hj] at h;simp at h
  | some oj=>
   rw [hj] at h
   simp only at h
   cases hd:oj.dst with
   | none=>rw [hd] at h;simp at h
   | some dj=>
    rw [hd] at h
    simp only at h
    have hv:=hT dj
    have hy:yielded all.toArray a.tmps j=match a.tmps[dj]? with|some (.bool b)=>some b|_=>none:=by
     unfold yielded
     simp only [List.getElem?_toArray,hj,Option.bind_some,hd]
     rfl
    rw [hy]
    split at h
    ·rename_i b' hb
     rw [hb] at hv
     simp only [aa] at hv
     rw [IX hv (by simp [undef])]
     simp only [Option.some.injEq] at h
     subst h
     cases b' <;> cases want <;> rfl
    ·rename_i hb
     rw [hb] at hv
     simp only [aa] at hv
     obtain ⟨l,hl,hv⟩:=hv
     have hl0:l.toList=[]:=by cases hx:l.toList with|nil=>rfl|cons=>rw [hx] at hv;simp [ab] at hv
     have hl1:l=#[]:=by apply Array.ext';simpa using hl0
     subst hl1
     simp only [Option.some.injEq] at h
     subst h
     rw [Array.getD_eq_getD_getElem?] at hl
     cases hx:a.tmps[dj]? with
     | none=>rfl
     | some u=>rw [hx] at hl;simp only [Option.getD_some] at hl;subst hl;rfl
    ·cases h
theorem nD {E:Env} {all:List Oper} {tm:List (Nat×V)} {a:Act} (hT:eJ E (find tm) a) {o:Oper} {b:Bool} (h:fw all tm o=some b):Region.wanted o (yielded all.toArray a.tmps)=b:=
 mc (E:=E) (T:=cA tm) (fun s=>cw hT s) h
theorem dB {B:Base} {E:Env} (hE:HRel B E) {C:Cfg} (hT:a6 P C.tb) (hK:1≤C.K) (hΓ :∀ f c,C.Γ f=some c→CtrOK P C.K f c) {m:Nat} (hm :∀ n,m≤n→n<m+C.K→¬ E.U n) {ev:Operand→V} {a:Act} (hev :∀ x,aa E (ev x) (a.eval x))
  {o:Oper} {ps:List Ob} {v:V} {dh:List (Nat×Blk)} (h:aH C m E.H ev o.op=some (ps,v,dh)) (hps :∀ p∈ps,p.holds) {next:Act→World→Prop} {Q:Exit→Act→World→Prop}
  (hn :∀ v' E',GoodK B E m C.K dh E'.w E'→aa E' v v'→next (a.put o.dst v') E'.w):o.wp P a E.w next Q:=by
 unfold aH at h
 split at h
 ·rename_i ps' dh' hs
  cases h
  exact DG hE hT hK hev hs hps fun E' G=>hn _ _ G (by simp [aa,undef,ab])
 ·split at h
  case h_2=>cases h
  rename_i ps' v' dh' hs
  cases h
  exact DF hE hT hK hΓ hm hev hs hps hn
theorem HM {E:Env} {v v':V} {u:Value} (h:v'=v∨∃ b,v = .bool b∧v' = .kb b) (hv:aa E v u):aa E v' u:=by
 rcases h with rfl |⟨b,rfl,rfl⟩
 ·exact hv
 ·simpa [aa] using hv
structure CfgOK (P:Program) (C:Cfg):Prop where
 tb:a6 P C.tb
 K:1≤C.K
 Γ :∀ f c,C.Γ f=some c→CtrOK P C.K f c
theorem Aj {C:Cfg} (hC:CfgOK P C) {B:Base} {all:List Oper} {st:St} {Q:Exit→Act→World→Prop} :∀ (rest:List Oper) (i:Nat) (d:Dl) (recs:List Rec) (df:Dl) (rf:List Rec),Run C false all st i rest d recs df rf→
  (∀ a w,SRel B C.N (find (df.tm++st.tm)) (au st.H df.hp) (fun n=>n<st.nx +(i+rest.length)*C.K) a w→Q .normal a w)→
  ∀ a w,SRel B C.N (find (d.tm++st.tm)) (au st.H d.hp) (fun n=>n<st.nx+i*C.K) a w→wpList P all.toArray Q rest a w
 | [],i,d,recs,df,rf,hr,hQ,a,w,hs=>by
  cases hr
  exact wpList_nil (hQ a w (by simpa using hs))
 | o::rest,i,d,recs,df,rf,hr,hQ,a,w,hs=>by
  cases hr with
  | @cons _ _ _ _ _ r _ _ hdo hrun=>
   have ih:=Aj hC (B:=B) (Q:=Q) rest (i+1) _ _ _ _ hrun (fun a w h=>hQ a w (by
    have e:i+1+rest.length=i +(o::rest).length:=by simp;omega
    rw [e] at h;exact h))
   obtain ⟨⟨E,hE,rfl,hH,⟨hG,hU⟩,hT⟩,hsz,hdf⟩:=hs
   have hTm:eJ E (find (d.tm++st.tm)) a:=hT
   have after :∀ (E':Env) (v':Value),GoodK B E (st.nx+i*C.K) C.K r.dh E'.w E'→aa E' r.v v'→dstIn C.N o.dst=true→r.dst=o.dst→
     SRel B C.N (find (cc r.dst r.v++d.tm++st.tm)) (au st.H (r.dh++d.hp)) (fun n=>n<st.nx +(i+1)*C.K) (a.put o.dst v') E'.w:=fun E' v' G hv hd he=>by
    refine ⟨⟨E',G.rel,rfl,by rw [G.h,bT,hH],⟨B.clo _ _ hG G.ext,fun n hn=>?_⟩,?_⟩,by rw [mr];exact hsz,by rw [iP];exact hdf⟩
    ·rw [Nat.add_mul,Nat.one_mul]
     rcases G.u n hn with h|h
     ·have:=hU n h;omega
     ·omega
    ·rw [he]
     exact Ab G.ext hTm hsz hd hv (fun s u hu=>by
      rw [List.append_assoc,bR] at hu
      cases hf:find (cc o.dst r.v) s with
      | some x=>rw [hf] at hu;exact .inl hu
      | none=>rw [hf] at hu;exact .inr ⟨rfl,hu⟩)
   obtain ⟨hd,he,_⟩:=hdo.dstIn
   unfold wpList
   cases hdo with
   | dir hdr=>cases hdr
   | skip _ hg=>
    have hw:=nD (E:=E) hTm hg
    rw [hw]
    simp only [Bool.false_eq_true,if_false]
    exact ih _ _ (after E undef ⟨hE,Ext.refl E,rfl,rfl,fun n h=> .inl h⟩ (by simp [aa,undef,ab]) hd rfl)
   | @run ps v v' dh R _ hg hst hps hv=>
    have hw:=nD (E:=E) hTm hg
    rw [hw]
    simp only [if_true]
    simp only [mH] at hst
    split at hst
    case h_2=>cases hst
    rename_i ps' v2 dh' hev
    cases hst
    rw [←hH] at hev
    exact .inl (dB hE hC.tb hC.K hC.Γ (fun n h1 h2 hu=>by have:=hU n hu;omega) (oy hTm) hev hps fun v'' E' G hv'=>ih _ _ (after E' v'' G (HM hv hv') hd rfl))
end
section
open Go.RowKit
variable {P:Program}
def du {α:Type} (f:Nat→Option α) (l:List (Nat×α)):Nat→Option α:=fun k=>match find l k with|some v=>some v|none=>f k
def bG {α:Type} (L:Nat→Bool) :(Nat→Option α)→Nat→List (List (Nat×α))→(Nat→Option α)
 | f,_,[]=>f
 | f,i,u::us=>bG L (if L i=true then du f u else f) (i+1) us
theorem ig {α:Type} {f:Nat→Option α} {u:List (Nat×α)} {k:Nat} (h:find u k=none):du f u k=f k:=by simp [du,h]
theorem fM {α:Type} {f:Nat→Option α} {u:List (Nat×α)} {k:Nat} {v:α} (h:find u k=some v):du f u k=some v:=by simp [du,h]
theorem fS {α:Type} {L L':Nat→Bool} {k:Nat} :∀ (us:List (List (Nat×α))) (i:Nat) (f f':Nat→Option α),f k=f' k→(∀ j u,us[j]?=some u→find u k≠none→L (i+j)=L' (i+j))→bG L f i us k=bG L' f' i us k
 | [],_,_,_,h,_=>h
 | u::us,i,f,f',h,hu=>by
  unfold bG
  refine fS us (i+1) _ _ ?_ (fun j u' hj hf=>by
   have:=hu (j+1) u' (by simpa using hj) hf
   rwa [show i +(j+1)=i+1+j by omega] at this)
  cases hf:find u k with
  | none=>
   have e1 :(if L i=true then du f u else f) k=f k:=by split <;> simp [ig hf]
   have e2 :(if L' i=true then du f' u else f') k=f' k:=by split <;> simp [ig hf]
   rw [e1,e2,h]
  | some v=>
   have:=hu 0 u (by simp) (by rw [hf];simp)
   simp only [Nat.add_zero] at this
   rw [this]
   split
   ·rw [fM hf,fM hf]
   ·exact h
theorem xY {α:Type} {L:Nat→Bool} {k:Nat} {v:α} :∀ (us:List (List (Nat×α))) (i:Nat) (f:Nat→Option α) (j0:Nat) (u0:List (Nat×α)),us[j0]?=some u0→L (i+j0)=true→find u0 k=some v→
  (∀ j u,j0<j→us[j]?=some u→L (i+j)=true→find u k=none)→bG L f i us k=some v
 | [],_,_,j0,u0,h,_,_,_=>by simp at h
 | u::us,i,f,0,u0,h,hL,hf,hl=>by
  simp only [List.getElem?_cons_zero,Option.some.injEq] at h
  subst h
  unfold bG
  simp only [Nat.add_zero] at hL
  rw [if_pos hL]
  have key :∀ (us:List (List (Nat×α))) (i:Nat) (g:Nat→Option α),g k=some v→(∀ j u,us[j]?=some u→L (i+j)=true→find u k=none)→bG L g i us k=some v:=by
   intro us
   induction us with
   | nil=>intro i g hg _;exact hg
   | cons u us ih=>
    intro i g hg hh
    unfold bG
    refine ih _ _ ?_ (fun j u' hj hLj=>hh (j+1) u' (by simpa using hj) (by rwa [show i +(j+1)=i+1+j by omega]))
    split
    ·rename_i hL0
     rw [ig (hh 0 u (by simp) (by simpa using hL0))];exact hg
    ·exact hg
  refine key us (i+1) _ (fM hf) (fun j u' hj hLj=>hl (j+1) u' (by omega) (by simpa using hj) (by rwa [show i +(j+1)=i+1+j by omega]))
 | u::us,i,f,j0+1,u0,h,hL,hf,hl=>by
  unfold bG
  exact xY us (i+1) _ j0 u0 (by simpa using h) (by rwa [show i+1+j0=i +(j0+1) by omega]) hf
   (fun j u' hj hu' hLj=>hl (j+1) u' (by omega) (by simpa using hu') (by rwa [show i +(j+1)=i+1+j by omega]))
theorem CW {α:Type} {L L':Nat→Bool} (us:List (List (Nat×α))) (f:Nat→Option α) (i:Nat) (u0:List (Nat×α)) (hi:us[i]?=some u0) (hL' :∀ j,L' j=if j=i then true else L j)
  (hd :∀ j u,i<j→us[j]?=some u→L j=true→∀ k,find u0 k≠none→find u k=none):bG L' f 0 us=du (bG L f 0 us) u0:=by
 funext k
 cases hf:find u0 k with
 | none=>
  rw [ig hf]
  refine fS us 0 f f rfl (fun j u hj hu=>?_)
  rw [Nat.zero_add,hL' j]
  by_cases e:j=i
  ·subst e;rw [hi] at hj;cases hj;exact absurd hf hu
  ·rw [if_neg e]
 | some v=>
  rw [fM hf]
  refine xY us 0 f i u0 hi (by rw [Nat.zero_add,hL',if_pos rfl]) hf (fun j u hj hu hLj=>?_)
  rw [Nat.zero_add,hL',if_neg (by omega)] at hLj
  exact hd j u hj hu hLj k (by rw [hf];simp)
theorem la {α:Type} :∀ (us:List (List (Nat×α))) (f:Nat→Option α) (i n:Nat),bG (fun j=>Nat.blt j (i+n)) f i us =(us.take n).foldl du f
 | [],f,i,n=>by simp [bG]
 | u::us,f,i,0=>by
  have hall :∀ (us:List (List (Nat×α))) (f:Nat→Option α) (k:Nat),i≤k→bG (fun j=>Nat.blt j (i+0)) f k us=f:=by
   intro us
   induction us with
   | nil=>intro f k _;rfl
   | cons u us ih=>
    intro f k hk
    unfold bG
    have:Nat.blt k (i+0)=false:=by cases hb:Nat.blt k (i+0) with|false=>rfl|true=>rw [Nat.blt_eq] at hb;omega
    rw [this]
    simp only [Bool.false_eq_true,if_false]
    exact ih _ _ (by omega)
  rw [hall _ _ _ (Nat.le_refl i)]
  rfl
 | u::us,f,i,n+1=>by
  unfold bG
  have:Nat.blt i (i +(n+1))=true:=by rw [Nat.blt_eq];omega
  rw [this]
  simp only [if_true,List.take_succ_cons,List.foldl_cons]
  have:=la us (du f u) (i+1) n
  rw [show i+1+n=i +(n+1) by omega] at this
  exact this
theorem mR (H:aw) (l:List (Nat×Blk)):au H l=du H l:=by
 funext h
 unfold au du
 cases find l h <;> rfl
theorem wq (tm r:List (Nat×V)):find (r++tm)=du (find tm) r:=by
 funext k
 rw [bR]
 rfl
def eD (r:Rec):List (Nat×V):=cc r.dst r.v
theorem CI {C:Cfg} {dr:Bool} {all:List Oper} {st:St} :∀ (rest:List Oper) (i:Nat) (d:Dl) (recs:List Rec) (df:Dl) (rf:List Rec),Run C dr all st i rest d recs df rf→recs.length=i→
  find (d.tm++st.tm) =(recs.map eD).foldl du (find st.tm)→au st.H d.hp =(recs.map Rec.dh).foldl du st.H→
  (∃ more,rf=recs++more∧more.length=rest.length)∧find (df.tm++st.tm) =(rf.map eD).foldl du (find st.tm)∧au st.H df.hp =(rf.map Rec.dh).foldl du st.H∧
  ∀ j o,rest[j]?=some o→∃ r tm H,rf[i+j]?=some r∧Does C dr all tm H (st.nx +(i+j)*C.K) o r∧find tm =((rf.take (i+j)).map eD).foldl du (find st.tm)∧H =((rf.take (i+j)).map Rec.dh).foldl du st.H
 | [],i,d,recs,df,rf,hr,hl,h1,h2=>by
  cases hr
  exact ⟨⟨[],by simp,rfl⟩,h1,h2,fun j o h=>by simp at h⟩
 | o::rest,i,d,recs,df,rf,hr,hl,h1,h2=>by
  cases hr with
  | @cons _ _ _ _ _ r _ _ hdo hrun=>
   obtain ⟨⟨more,e1,e2⟩,g1,g2,g3⟩:=CI rest (i+1) _ _ _ _ hrun (by simp [hl])
    (by rw [List.append_assoc,wq,h1];simp [eD]) (by rw [bT,h2];simp [mR])
   refine ⟨⟨r::more,by rw [e1];simp,by simp [e2]⟩,g1,g2,fun j o' hj=>?_⟩
   cases j with
   | zero=>
    simp only [List.getElem?_cons_zero,Option.some.injEq] at hj
    subst hj
    have et:rf.take i=recs:=by rw [e1,List.append_assoc,List.take_append_of_le_length (by omega),List.take_of_length_le (by omega)]
    refine ⟨r,_,_,?_,hdo,?_,?_⟩
    ·rw [e1,Nat.add_zero,List.append_assoc,List.getElem?_append_right (by omega)]
     simp [hl]
    ·rw [Nat.add_zero,et];exact h1
    ·rw [Nat.add_zero,et];exact h2
   | succ j=>
    obtain ⟨r',tm,H,k1,k2,k3,k4⟩:=g3 j o' (by simpa using hj)
    rw [show i+1+j=i +(j+1) by omega] at k1 k2 k3 k4
    exact ⟨r',tm,H,k1,k2,k3,k4⟩
theorem mV (acc:List Nat) (j:Nat) :∀ (es:List Edge),(pk acc es).testBit j=true→∃ e∈es,Region.binds .any e=true∧(j=e.on∨((acc[e.on]?).getD 0).testBit j=true)
 | [],h=>by simp [pk] at h
 | e::es,h=>by
  unfold pk at h
  split at h
  ·rename_i hb
   simp only [Nat.testBit_or,Bool.or_eq_true] at h
   rcases h with (h|h)|h
   ·obtain ⟨e',h1,h2⟩:=mV acc j es h
    exact ⟨e',List.mem_cons_of_mem _ h1,h2⟩
   ·have:j=e.on:=by
     rw [Nat.testBit_two_pow] at h
     simpa using (of_decide_eq_true h).symm
    exact ⟨e,List.mem_cons_self,hb,.inl this⟩
   ·exact ⟨e,List.mem_cons_self,hb,.inr h⟩
  ·obtain ⟨e',h1,h2⟩:=mV acc j es h
   exact ⟨e',List.mem_cons_of_mem _ h1,h2⟩
theorem og :∀ (os:List Oper) (acc:List Nat),(∃ more,bK os acc=acc++more∧more.length=os.length)∧
  ∀ j o,os[j]?=some o→(bK os acc)[acc.length+j]?=some (pk ((bK os acc).take (acc.length+j)) o.after.toList)
 | [],acc=>⟨⟨[],by simp [bK],rfl⟩,fun j o h=>by simp at h⟩
 | o::os,acc=>by
  obtain ⟨⟨more,e1,e2⟩,h⟩:=og os (acc++[pk acc o.after.toList])
  unfold bK
  refine ⟨⟨pk acc o.after.toList::more,by rw [e1];simp,by simp [e2]⟩,fun j o' hj=>?_⟩
  cases j with
  | zero=>
   simp only [List.getElem?_cons_zero,Option.some.injEq] at hj
   subst hj
   rw [e1,Nat.add_zero,List.append_assoc,List.getElem?_append_right (Nat.le_refl _),List.take_append_of_le_length (Nat.le_refl _),List.take_of_length_le (Nat.le_refl _)]
   simp
  | succ j=>
   have:=h j o' (by simpa using hj)
   rw [List.length_append,List.length_singleton,show acc.length+1+j=acc.length +(j+1) by omega] at this
   exact this
theorem fm :∀ (os:List Oper) (i:Nat),cF i os=true→∀ j o,os[j]?=some o→∀ e∈o.after,Region.binds .any e=true→e.on<i+j
 | [],_,_,j,o,h,_,_,_=>by simp at h
 | o::os,i,h,j,o',hj,e,he,hb=>by
  simp only [cF,Bool.and_eq_true] at h
  cases j with
  | zero=>
   simp only [List.getElem?_cons_zero,Option.some.injEq] at hj
   subst hj
   have:=List.all_eq_true.1 h.1 e (by simpa using he)
   rw [hb] at this
   simp only [Bool.not_true,Bool.false_or,Nat.blt_eq] at this
   omega
  | succ j=>
   have:=fm os (i+1) h.2 j o' (by simpa using hj) e he hb
   omega
theorem cQ {all:List Oper} (hE:cF 0 all=true) {listed:Array Bool} (hclosed :∀ j oj,all[j]?=some oj→listed.getD j false=true→∀ e∈oj.after,Region.binds .any e=true→listed.getD e.on false=true) :
  ∀ (n i:Nat),i≤n→∀ oi,all[i]?=some oi→(∀ e∈oi.after,Region.binds .any e=true→listed.getD e.on false=true)→∀ j,(((bK all [])[i]?).getD 0).testBit j=true→listed.getD j false=true
 | 0,i,hn,oi,hoi,hdir,j,hj=>by
  have hm:=(og all []).2 i oi hoi
  simp only [List.length_nil,Nat.zero_add] at hm
  rw [hm] at hj
  obtain ⟨e,he,hb,h1⟩:=mV _ j _ hj
  have:=fm all 0 hE i oi hoi e (by simpa using he) hb
  omega
 | n+1,i,hn,oi,hoi,hdir,j,hj=>by
  have hm:=(og all []).2 i oi hoi
  simp only [List.length_nil,Nat.zero_add] at hm
  rw [hm] at hj
  obtain ⟨e,he,hb,h1⟩:=mV _ j _ hj
  have he':e∈oi.after:=by simpa using he
  have hlt:=fm all 0 hE i oi hoi e he' hb
  have hl:=hdir e he' hb
  rcases h1 with rfl|h1
  ·exact hl
  ·have hilt:i<all.length:=(List.getElem?_eq_some_iff.1 hoi).1
   have helt:e.on<all.length:=by omega
   have hoe:all[e.on]?=some all[e.on]:=List.getElem?_eq_getElem helt
   rw [List.getElem?_take_of_lt (by omega)] at h1
   exact cQ hE hclosed n e.on (by omega) _ hoe (hclosed _ _ hoe hl) j h1
structure Comm (r s:Rec):Prop where
 d :∀ x,x∈r.dst.toList→x∈s.dst.toList→False
 ds :∀ x,x∈r.dst.toList→x∈s.rs→False
 sd :∀ x,x∈s.dst.toList→x∈r.rs→False
 k :∀ x,x∈r.dh.map (·.1)→x∈s.dh.map (·.1)→False
 kR :∀ x,x∈r.dh.map (·.1)→x∈s.R→False
 sk :∀ x,x∈s.dh.map (·.1)→x∈r.R→False
theorem Comm.symm {r s:Rec} (h:Comm r s):Comm s r:=⟨fun x a b=>h.d x b a,h.sd,h.ds,fun x a b=>h.k x b a,h.sk,h.kR⟩
theorem hO {l r:List Nat} (h:rG l r=true) :∀ x,x∈l→x∈r→False:=fun x hl hr=>by
 have:=List.all_eq_true.1 h x hl
 rw [memN_iff.2 hr] at this
 cases this
theorem GP {r s:Rec} (h:comm r s=true):Comm r s:=by
 simp only [comm,Bool.and_eq_true] at h
 exact ⟨hO h.1.1.1,hO h.1.1.2,hO h.1.2,hO h.2.1.1,hO h.2.1.2,hO h.2.2⟩
theorem rz {ms:List Nat} {i:Nat} {r:Rec} :∀ (rs:List Rec) (j:Nat),qE ms i r j rs=true→∀ k s,rs[k]?=some s→(((ms[j+k]?).getD 0).testBit i=true∨Comm r s)
 | [],_,_,k,s,h=>by simp at h
 | s::ss,j,h,k,s',hk=>by
  simp only [qE,Bool.and_eq_true,Bool.or_eq_true] at h
  cases k with
  | zero=>
   simp only [List.getElem?_cons_zero,Option.some.injEq] at hk
   subst hk
   exact h.1.imp id GP
  | succ k=>
   have:=rz ss (j+1) h.2 k s' (by simpa using hk)
   rwa [show j+1+k=j +(k+1) by omega] at this
theorem gk {ms:List Nat} :∀ (rs:List Rec) (i:Nat),dX ms i rs=true→∀ a b r s,a<b→rs[a]?=some r→rs[b]?=some s→(((ms[i+b]?).getD 0).testBit (i+a)=true∨Comm r s)
 | [],_,_,a,b,r,s,_,h,_=>by simp at h
 | r0::rs,i,h,a,b,r,s,hab,ha,hb=>by
  simp only [dX,Bool.and_eq_true] at h
  cases b with
  | zero=>omega
  | succ b=>
   cases a with
   | zero=>
    simp only [List.getElem?_cons_zero,Option.some.injEq] at ha
    subst ha
    have:=rz rs (i+1) h.1 b s (by simpa using hb)
    rwa [show i+1+b=i +(b+1) by omega] at this
   | succ a=>
    have:=gk rs (i+1) h.2 a b r s (by omega) (by simpa using ha) (by simpa using hb)
    rwa [show i+1+b=i +(b+1) by omega,show i+1+a=i +(a+1) by omega] at this
end
section
open Go.RowKit
variable {P:Program}
section
variable {H1 H2:aw}
theorem ze {td:TD} {v:V} (h :∀ k∈v.hs,H1 k=H2 k):fo td H1 v=fo td H2 v:=by
 cases v with
 | ptr a o=>simp only [fo,lT,h a (by simp [V.hs])]
 | gp a v o=>simp only [fo,h a (by simp [V.hs])]
 | rp a v i o=>simp only [fo,lT,h a (by simp [V.hs])]
 | _=>rfl
theorem vq {tb:Tbl} {td:TD} {v i:V} (h :∀ k∈v.hs,H1 k=H2 k):dC tb td H1 v i=dC tb td H2 v i:=by
 cases v with
 | gsl a v e o l=>simp only [dC,h a (by simp [V.hs])]
 | osl a v=>simp only [dC,oQ,h a (by simp [V.hs])]
 | _=>rfl
theorem vw {tb:Tbl} {td:TD} {v:V} {lo hi mx:Option V} (h :∀ k∈v.hs,H1 k=H2 k):fq tb td H1 v lo hi mx=fq tb td H2 v lo hi mx:=by
 cases v with
 | gsl a v e o l=>simp only [fq,h a (by simp [V.hs])]
 | osl a v=>simp only [fq,rX,Pw,h a (by simp [V.hs])]
 | _=>rfl
theorem Bi {td:TD} {v:V} (h :∀ k∈v.hs,H1 k=H2 k):jA td H1 v=jA td H2 v:=by
 obtain ⟨kd,a1,a2,a3,a4⟩:=td
 cases v with
 | gsl a v e o l=>cases kd <;> first|rfl|simp only [jA,h a (by simp [V.hs])]
 | osl a v=>cases kd <;> first|rfl|simp only [jA,wg,h a (by simp [V.hs])]
 | _=>cases kd <;> rfl
theorem Bx {n:Nat} {v:V} (h :∀ k∈v.hs,H1 k=H2 k):jB H1 n v=jB H2 n v:=by
 cases v with
 | gsl a v e o l=>simp only [jB,h a (by simp [V.hs])]
 | fsl t xs=>cases xs <;> rfl
 | _=>rfl
theorem BZ {t:Ty} {v:V} (h :∀ k∈v.hs,H1 k=H2 k):qy H1 t v=qy H2 t v:=by
 cases v with
 | osl a v=>simp only [qy,h a (by simp [V.hs])]
 | _=>rfl
theorem vk {tb:Tbl} {td:TD} {m:Nat} {s x:V} (h :∀ k∈s.hs,H1 k=H2 k) (h' :∀ k∈x.hs,H1 k=H2 k):jQ tb td H1 m s x=jQ tb td H2 m s x:=by
 unfold jQ
 simp only [BZ h']
 cases s with
 | osl a v=>simp only [h a (by simp [V.hs])]
 | _=>rfl
theorem sN {tb:Tbl} {td:TD} {m:Nat} {s x:V} (h :∀ k∈s.hs,H1 k=H2 k) (h' :∀ k∈x.hs,H1 k=H2 k):dQ tb td H1 m s x=dQ tb td H2 m s x:=by
 unfold dQ
 simp only [Bx h',vk h h']
 cases s with
 | gsl a v e o l=>simp only [h a (by simp [V.hs])]
 | _=>rfl
end
theorem Ba {C:Cfg} {m:Nat} {H1 H2:aw} {ev:Operand→V} {op:Op} (hd:oM ev op=true) (h :∀ x∈op.operands.toList,∀ k∈(ev x).hs,H1 k=H2 k):aH C m H1 ev op=aH C m H2 ev op:=by
 cases op with
 | load t a=>
  have h1:=h a (by simp [Op.operands])
  simp only [aH,b7,bO,ze h1]
 | indexAddr t x i=>
  have h1:=h x (by simp [Op.operands])
  simp only [aH,b7,bO,vq h1]
 | slice t x lo hi mx=>
  have h1:=h x (by simp [Op.operands])
  simp only [aH,b7,bO,vw h1]
 | makeFunc fn first caps=>cases fn <;> rfl
 | store t a x=>
  have ha:=h a (by simp [Op.operands])
  simp only [oM] at hd
  generalize hva:ev a=va at hd ha
  cases va with
  | ptr k o=>
   have e1:=ha k (by simp [V.hs])
   simp only [aH,b7,bO,hva,fu,cZ,oU,e1]
  | gp k v o=>
   have e1:=ha k (by simp [V.hs])
   simp only [aH,b7,bO,hva,fu,cZ,e1]
  | _=>simp only [Bool.false_eq_true] at hd
 | call c=>
  simp only [oM] at hd
  split at hd
  ·rename_i hc
   have key:bO C.tb C.Γ m H1 ev (.call c)=bO C.tb C.Γ m H2 ev (.call c):=by
    simp only [bO,hc]
    generalize hat:c.argTypes.toList=tl
    generalize hx:c.args.toList=xl
    match tl,xl,hx with
    | [t],[x],hx=>
     have h1:=h x (by simp [Op.operands,Call.operands,hx])
     simp only
     cases C.tb t with
     | none=>rfl
     | some td=>exact Bi h1
    | [],_,_=>rfl
    | [_],[],_=>rfl
    | [_],_::_::_,_=>rfl
    | _::_::_,_,_=>rfl
   simp only [aH,b7,key]
  ·rename_i hc
   have key:bO C.tb C.Γ m H1 ev (.call c)=bO C.tb C.Γ m H2 ev (.call c):=by
    simp only [bO,hc]
    generalize hat:c.argTypes.toList=tl
    generalize hx:c.args.toList=xl
    match tl,xl,hx with
    | [t,t2],[s,x],hx=>
     have h1:=h s (by simp [Op.operands,Call.operands,hx])
     have h2:=h x (by simp [Op.operands,Call.operands,hx])
     simp only [sN h1 h2]
    | [],_,_=>rfl
    | [_],_,_=>rfl
    | [_,_],[],_=>rfl
    | [_,_],[_],_=>rfl
    | [_,_],_::_::_::_,_=>rfl
    | _::_::_::_,_,_=>rfl
   simp only [aH,b7,key]
  ·cases hd
 | _=>first|rfl |(simp only [oM,Bool.false_eq_true] at hd)
theorem wc {C:Cfg} {m:Nat} {H1 H2:aw} {ev:Operand→V} {op:Op} (hd:oM ev op=true) (h :∀ k∈Pb ev op,H1 k=H2 k):aH C m H1 ev op=aH C m H2 ev op:=by
 have key :(∀ k∈op.operands.toList.flatMap (fun x=>(ev x).hs),H1 k=H2 k)→aH C m H1 ev op=aH C m H2 ev op:=fun h=>Ba hd fun x hx k hk=>h k (List.mem_flatMap.2 ⟨x,hx,hk⟩)
 cases op with
 | move a=>rfl
 | assign a=>rfl
 | nilCheck a=>rfl
 | fieldAddr t a i=>rfl
 | _=>exact key h
theorem Ext.restr (E:Env) (R:List Nat):Ext E { E with H:=Mir.restr E.H R }:=by
 have get :∀ h k,Mir.restr E.H R h=some k→E.H h=some k:=fun h k hh=>by
  unfold Mir.restr at hh
  cases hm:memN R h with
  | false=>rw [hm] at hh;cases hh
  | true=>rw [hm] at hh;exact hh
 exact ⟨fun _ h=>h,fun _ h=>h,fun _ _=>rfl,fun h cs _ hx=>⟨⟨cs,get _ _ hx⟩,rfl⟩,fun h ver rw t xs _ _ hx=>⟨rw,xs,get _ _ hx,rfl,rfl,fun b c T fr _ hw=>⟨c,T,fr,hw,rfl⟩⟩,fun h ver esz cs _ _ hx=>⟨cs,get _ _ hx,rfl,rfl,fun b c T fr _ hw=>⟨c,T,fr,hw,rfl⟩⟩,fun h es _ hx=>⟨⟨es,get _ _ hx⟩,rfl⟩,fun h k t x _ hx=>⟨⟨x,get _ _ hx⟩,rfl⟩⟩
theorem eu {α:Type} {l:List (Nat×α)} {k:Nat} (h:find l k≠none):k∈l.map (·.1):=by
 induction l with
 | nil=>simp [find] at h
 | cons x l ih=>
  obtain ⟨a,v⟩:=x
  simp only [find] at h
  cases hb:Nat.beq a k with
  | true=>simp [Nat.eq_of_beq_eq_true hb]
  | false=>rw [hb] at h;simp only [cond_false] at h;simp only [List.map_cons,List.mem_cons];exact .inr (ih h)
theorem ag {α:Type} {l:List (Nat×α)} {k:Nat} {v:α} (h:find l k=some v) :(k,v)∈l:=by
 induction l with
 | nil=>simp [find] at h
 | cons q l ih=>
  obtain ⟨a,b⟩:=q
  simp only [find] at h
  cases hb:Nat.beq a k with
  | true=>rw [hb] at h;simp only [cond_true,Option.some.injEq] at h;simp [Nat.eq_of_beq_eq_true hb,h]
  | false=>rw [hb] at h;simp only [cond_false] at h;exact List.mem_cons_of_mem _ (ih h)
theorem kz {r:Rec} {k:Nat} (h:find (eD r) k≠none):k∈r.dst.toList:=by
 unfold eD at h
 cases hd:r.dst with
 | none=>rw [hd] at h;simp [cc,find] at h
 | some d=>
  rw [hd] at h
  have:=eu h
  simpa [cc] using this
theorem eU {R:List Nat} {m K:Nat} {l:List Nat} (h:nt R m K l=true) :∀ x∈l,x∈R∨(m≤x∧x<m+K):=fun x hx=>by
 have:=List.all_eq_true.1 h x hx
 simp only [Bool.or_eq_true,Bool.and_eq_true,memN_iff,Nat.blt_eq] at this
 exact this.imp id fun h=>⟨Nat.le_of_ble_eq_true h.1,h.2⟩
theorem b9 {E:Env} {all:List Oper} {tm:List (Nat×V)} {a:Act} {o:Oper} {b:Bool} (hT :∀ s∈ao all o,aa E (cA tm s) (a.tmps.getD s undef)) (h:fw all tm o=some b) :
  Region.wanted o (yielded all.toArray a.tmps)=b:=by
 refine mc (E:=E) (T:=fun s=>bif memN (ao all o) s then cA tm s else .any) (fun s=>?_) ?_
 ·cases hm:memN (ao all o) s with
  | true=>simpa using hT s (memN_iff.1 hm)
  | false=>simp [aa]
 ·unfold fw at h
  cases hg:o.guard with
  | none=>rw [hg] at h;exact h
  | some q=>
   obtain ⟨j,want⟩:=q
   rw [hg] at h
   simp only at h ⊢
   cases hj:all[j]? with
   | none=>rw [hj] at h;exact h
   | some oj=>
    rw [hj] at h
    simp only at h ⊢
    cases hd:oj.dst with
    | none=>rw [hd] at h;exact h
    | some dj=>
     rw [hd] at h
     have hm:memN (ao all o) dj=true:=by
      rw [memN_iff]
      unfold ao
      rw [hg]
      simp [hj,hd]
     simp only [hm,cond_true]
     exact h
structure Inv (C:Cfg) (B:Base) (E0:Env) (st:St) (rf:List Rec) (L:Nat→Bool) (a:Act) (w:World):Prop where
 ex :∃ E,HRel B E∧E.w=w∧Ext E0 E∧E.H=bG L st.H 0 (rf.map Rec.dh)∧(∀ n,E.U n→E0.U n∨∃ i,i<rf.length∧L i=true∧st.nx+i*C.K≤n∧n<st.nx+i*C.K+C.K)∧eJ E (bG L (find st.tm) 0 (rf.map eD)) a
 size:a.tmps.size=C.N
 defers:a.defers=B.dfs
theorem I7 {C:Cfg} (hC:CfgOK P C) {B:Base} {E0:Env} {all:List Oper} {st:St} {rf:List Rec} (hfr0 :∀ n,st.nx≤n→n<st.nx+rf.length*C.K→¬ E0.U n) {L L':Nat→Bool} {i:Nat} {o:Oper} {r:Rec} (ho:all[i]?=some o) (hr:rf[i]?=some r) (hLi:L i=false) (hL' :∀ j,L' j=if j=i then true else L j)
  {tm:List (Nat×V)} {H:aw} (hdo:Does C true all tm H (st.nx+i*C.K) o r) (htm:find tm=bG (fun j=>Nat.blt j i) (find st.tm) 0 (rf.map eD)) (hH:H=bG (fun j=>Nat.blt j i) st.H 0 (rf.map Rec.dh))
  (hcomm :∀ j s,rf[j]?=some s→(j<i∧L j=false)∨(i<j∧L j=true)→Comm r s) {Q:Exit→Act→World→Prop} {a:Act} {w:World} (hI:Inv C B E0 st rf L a w) {K:Act→World→Prop} (hK :∀ a w,Inv C B E0 st rf L' a w→K a w) :
  wpOp P all.toArray Q i K a w:=by
 obtain ⟨⟨E,hE,rfl,hX,hEH,hU,hT⟩,hsz,hdf⟩:=hI
 obtain ⟨hd,he,hrs⟩:=hdo.dstIn
 have hiL:i<rf.length:=(List.getElem?_eq_some_iff.1 hr).1
 have hLsel :∀ {α:Type} (us:List (List (Nat×α))) (f:Nat→Option α) (k:Nat) (g:Rec→List (Nat×α)),us=rf.map g→(∀ j s,rf[j]?=some s→find (g s) k≠none→j≠i→Comm r s→False)→bG L f 0 us k=bG (fun j=>Nat.blt j i) f 0 us k:=by
  intro α us f k g hus hno
  refine fS us 0 f f rfl (fun j u hj hu=>?_)
  rw [Nat.zero_add]
  subst hus
  rw [List.getElem?_map] at hj
  cases hs:rf[j]? with
  | none=>rw [hs] at hj;simp at hj
  | some s=>
   rw [hs] at hj
   simp only [Option.map_some,Option.some.injEq] at hj
   subst hj
   by_cases hji:j=i
   ·subst hji
    rw [hLi]
    cases hb:Nat.blt j j with
    | false=>rfl
    | true=>rw [Nat.blt_eq] at hb;omega
   ·rcases Nat.lt_or_gt_of_ne hji with hlt|hgt
    ·have hb:Nat.blt j i=true:=by rw [Nat.blt_eq];exact hlt
     rw [hb]
     cases hLj:L j with
     | true=>rfl
     | false=>exact (hno j s hs hu hji (hcomm j s hs (.inl ⟨hlt,hLj⟩))).elim
    ·have hb:Nat.blt j i=false:=by cases hb:Nat.blt j i with|false=>rfl|true=>rw [Nat.blt_eq] at hb;omega
     rw [hb]
     cases hLj:L j with
     | false=>rfl
     | true=>exact (hno j s hs hu hji (hcomm j s hs (.inr ⟨hgt,hLj⟩))).elim
 have hslot :∀ s∈ao all o,bG L (find st.tm) 0 (rf.map eD) s=find tm s:=fun s hs=>by
  rw [htm]
  refine hLsel _ _ s eD rfl (fun j s' hs' hne hji hc=>?_)
  exact hc.sd s (kz hne) (by rw [hrs];exact hs)
 have hlook :∀ s∈ao all o,aa E (cA tm s) (a.tmps.getD s undef):=fun s hs=>by
  unfold cA
  cases hf:find tm s with
  | none=>simp [aa]
  | some v=>exact hT s v (by rw [hslot s hs];exact hf)
 have hL0 :∀ {α:Type} (us:List (List (Nat×α))) (f:Nat→Option α) (g:Rec→List (Nat×α)),us=rf.map g→(∀ j s,i<j→rf[j]?=some s→Comm r s→∀ k,find (g r) k≠none→find (g s) k=none)→bG L' f 0 us=du (bG L f 0 us) (g r):=by
  intro α us f g hus hno
  subst hus
  refine CW (rf.map g) f i (g r) (by rw [List.getElem?_map,hr];rfl) hL' (fun j u hj hu hLj k hk=>?_)
  rw [List.getElem?_map] at hu
  cases hs:rf[j]? with
  | none=>rw [hs] at hu;simp at hu
  | some s=>
   rw [hs] at hu
   simp only [Option.map_some,Option.some.injEq] at hu
   subst hu
   exact hno j s hj hs (hcomm j s hs (.inr ⟨hj,hLj⟩)) k hk
 have none_of :∀ {α:Type} {l:List (Nat×α)} {k:Nat},(k∈l.map (·.1)→False)→find l k=none:=fun {α l k} h=>by
  cases hf:find l k with
  | none=>rfl
  | some v=>exact (h (eu (by rw [hf];simp))).elim
 have hT':bG L' (find st.tm) 0 (rf.map eD)=du (bG L (find st.tm) 0 (rf.map eD)) (eD r):=hL0 _ _ eD rfl (fun j s _ _ hc k hk=>by
  cases hf:find (eD s) k with
  | none=>rfl
  | some v=>exact (hc.d k (kz hk) (kz (by rw [hf];simp))).elim)
 have hH':bG L' st.H 0 (rf.map Rec.dh)=du (bG L st.H 0 (rf.map Rec.dh)) r.dh:=hL0 _ _ Rec.dh rfl (fun j s _ _ hc k hk=>none_of fun hm=>hc.k k (eu hk) hm)
 have after :∀ (E':Env) (v':Value),GoodK B E (st.nx+i*C.K) C.K r.dh E'.w E'→aa E' r.v v'→Inv C B E0 st rf L' (a.put o.dst v') E'.w:=fun E' v' G hv=>by
  refine ⟨⟨E',G.rel,rfl,hX.trans G.ext,by rw [G.h,hH',hEH,mR],fun n hn=>?_,?_⟩,by rw [mr];exact hsz,by rw [iP];exact hdf⟩
  ·rcases G.u n hn with h|h
   ·rcases hU n h with h1 |⟨j,h1,h2,h3⟩
    ·exact .inl h1
    ·refine .inr ⟨j,h1,?_,h3⟩
     rw [hL']
     split
     ·rfl
     ·exact h2
   ·exact .inr ⟨i,hiL,by rw [hL',if_pos rfl],h.1,h.2⟩
  ·rw [hT']
   exact Ab G.ext hT hsz hd (v:=r.v) hv (fun s u hu=>by
    unfold du eD at hu
    rw [he] at hu
    cases hf:find (cc o.dst r.v) s with
    | some x=>rw [hf] at hu;exact .inl hu
    | none=>rw [hf] at hu;exact .inr ⟨rfl,hu⟩)
 unfold wpOp
 simp only [List.getElem?_toArray,ho]
 cases hdo with
 | skip _ hg=>
  rw [b9 hlook hg]
  simp only [Bool.false_eq_true,if_false]
  exact hK _ _ (after E undef ⟨hE,Ext.refl E,rfl,rfl,fun n h=> .inl h⟩ (by simp [aa,undef,ab]))
 | @dir ps v v' dh _ _ hg hdr hev hps hv=>
  rw [b9 hlook hg]
  simp only [if_true]
  left
  have hfresh :∀ n,st.nx+i*C.K≤n→n<st.nx+i*C.K+C.K→¬ E.U n:=fun n h1 h2 hu=>by
   have hiK:=Nat.mul_le_mul_right C.K (show i+1≤rf.length from hiL)
   rw [Nat.add_mul] at hiK
   rcases hU n hu with h3 |⟨j,h3,h4,h5,h6⟩
   ·exact hfr0 n (by omega) (by omega) h3
   ·have hji:j≠i:=fun e=>by subst e;rw [hLi] at h4;cases h4
    rcases Nat.lt_or_gt_of_ne hji with hlt|hgt
    ·have:=Nat.mul_le_mul_right C.K (show j+1≤i from hlt)
     rw [Nat.add_mul] at this
     omega
    ·have:=Nat.mul_le_mul_right C.K (show i+1≤j from hgt)
     rw [Nat.add_mul] at this
     omega
  have hev2:=wc (C:=C) (m:=st.nx+i*C.K) (H1:=E.H) (H2:=H) hdr fun k hk=>by
   rw [hEH,hH]
   refine hLsel _ _ k Rec.dh rfl (fun j s hs hne hji hc=>?_)
   exact hc.sk k (eu hne) hk
  rw [hev] at hev2
  have hevm :∀ x,aa E (a8 (ao all o) tm x) (a.eval x):=fun x=>by
   cases x with
   | tmp t=>
    simp only [a8]
    cases hm:memN (ao all o) t with
    | false=>simp [aa]
    | true=>exact hlook t (memN_iff.1 hm)
   | const v=>exact gl v
   | func f=>simp only [a8,aa,Act.eval];exact ⟨#[],rfl,by simp [ab]⟩
   | _=>simp [a8,aa]
  exact dB hE hC.tb hC.K hC.Γ hfresh hevm hev2 hps fun v'' E' G hv'=>hK _ _ (after E' _ G (HM hv hv'))
 | @run ps v v' dh R _ hg hst hps hv=>
  rw [b9 hlook hg]
  simp only [if_true]
  left
  simp only [mH] at hst
  split at hst
  case h_2=>cases hst
  rename_i ps' v2 dh' hev
  cases hfr:gW H (nI H 8 (o.op.operands.toList.flatMap fun x=>(a8 (ao all o) tm x).hs) []) (st.nx+i*C.K) C.K v2 dh' with
  | false=>rw [hfr] at hst;cases hst
  | true=>
   rw [hfr] at hst
   simp only [cond_true,Option.some.injEq,Prod.mk.injEq] at hst
   obtain ⟨rfl,rfl,rfl,hR⟩:=hst
   rw [hR] at hfr hev
   have hHR :∀ h∈R,E.H h=H h:=fun h hh=>by
    rw [hEH,hH]
    refine hLsel _ _ h Rec.dh rfl (fun j s hs hne hji hc=>?_)
    exact hc.sk h (eu hne) hh
   have hrest:restr H R=restr E.H R:=by
    funext h
    unfold restr
    cases hm:memN R h with
    | false=>rfl
    | true=>simp only [cond_true];exact (hHR h (memN_iff.1 hm)).symm
   simp only [gW,Bool.and_eq_true] at hfr
   obtain ⟨⟨f1,f2⟩,f3⟩:=hfr
   have fR :∀ h∈R,∃ b,H h=some b∧nt R (st.nx+i*C.K) C.K b.hs=true:=fun h hh=>by
    have:=List.all_eq_true.1 f1 h hh
    split at this
    ·rename_i b hb;exact ⟨b,hb,this⟩
    ·cases this
   have hfresh :∀ n,st.nx+i*C.K≤n→n<st.nx+i*C.K+C.K→¬ E.U n:=fun n h1 h2 hu=>by
    have hiK:=Nat.mul_le_mul_right C.K (show i+1≤rf.length from hiL)
    rw [Nat.add_mul] at hiK
    rcases hU n hu with h3 |⟨j,h3,h4,h5,h6⟩
    ·exact hfr0 n (by omega) (by omega) h3
    ·have hji:j≠i:=fun e=>by subst e;rw [hLi] at h4;cases h4
     rcases Nat.lt_or_gt_of_ne hji with hlt|hgt
     ·have:=Nat.mul_le_mul_right C.K (show j+1≤i from hlt)
      rw [Nat.add_mul] at this
      omega
     ·have:=Nat.mul_le_mul_right C.K (show i+1≤j from hgt)
      rw [Nat.add_mul] at this
      omega
   have hEs:=hE.restr R
   have Xs:=Ext.restr E R
   rw [hrest] at hev
   have hevm :∀ x,aa { E with H:=Mir.restr E.H R } (a8 (ao all o) tm x) (a.eval x):=fun x=>by
    cases x with
    | tmp t=>
     simp only [a8]
     cases hm:memN (ao all o) t with
     | false=>simp [aa]
     | true=>exact bb Xs _ _ (hlook t (memN_iff.1 hm))
    | const v=>exact gl v
    | func f=>simp only [a8,aa,Act.eval];exact ⟨#[],rfl,by simp [ab]⟩
    | _=>simp [a8,aa]
   exact dB (E:={ E with H:=Mir.restr E.H R }) hEs hC.tb hC.K hC.Γ hfresh hevm hev hps fun v'' Es G hv'=>by
    obtain ⟨E',G',tr⟩:=Nr hE hfresh G (fun h hh=>by obtain ⟨b,hb,_⟩:=fR h hh;exact ⟨b,by rw [hHR h hh];exact hb⟩)
     (fun h hh k hk x hx=>by
      obtain ⟨b,hb,hb2⟩:=fR h hh
      rw [hHR h hh,hb] at hk
      cases hk
      exact eU hb2 x hx)
     (fun h k hk=>by
      have hq:=ag hk
      have:=List.all_eq_true.1 f2 _ hq
      simp only [Bool.and_eq_true] at this
      exact ⟨eU this.1 h (by simp),eU this.2⟩)
    have hw:E'.w=Es.w:=G'.w
    have hv2:aa E' v2 v'':=tr _ _ (eU f3) hv'
    have:=hK _ _ (after E' _ (by rw [hw];exact G') (HM hv hv2))
    rw [hw] at this
    exact this
def unl (n:Nat) (listed:Array Bool):Nat:=((List.range n).filter fun i=>!listed.getD i true).length
theorem n9 {p q:Nat→Bool} {i:Nat} (hp:p i=true) (hq:q i=false) (hs :∀ j,j≠i→q j=p j) :∀ (l:List Nat),l.Nodup→i∈l→(l.filter q).length+1 =(l.filter p).length
 | [],_,h=>by simp at h
 | x::l,hn,hm=>by
  have hn':=List.nodup_cons.1 hn
  by_cases e:x=i
  ·subst e
   have:l.filter q=l.filter p:=List.filter_congr fun y hy=>hs y (fun e=>by subst e;exact hn'.1 hy)
   simp [hp,hq,this]
  ·have hm':i∈l:=by
    rcases List.mem_cons.1 hm with h|h
    ·exact absurd h.symm e
    ·exact h
   have ih:=n9 hp hq hs l hn'.2 hm'
   simp only [List.filter_cons,hs x e]
   split
   ·simp [ih]
   ·exact ih
theorem Ix {C:Cfg} (hC:CfgOK P C) {B:Base} {E0:Env} {all:List Oper} {st:St} {df:Dl} {rf:List Rec} (hrun:Run C true all st 0 all ⟨[],[]⟩ [] df rf) (hE:cF 0 all=true) (hck:dX (bK all []) 0 rf=true) {Q:Exit→Act→World→Prop}
  (hfr0 :∀ n,st.nx≤n→n<st.nx+all.length*C.K→¬ E0.U n)
  (hQ :∀ E a,HRel B E→Ext E0 E→E.H=au st.H df.hp→(∀ n,E.U n→E0.U n∨(st.nx≤n∧n<st.nx+all.length*C.K))→eJ E (find (df.tm++st.tm)) a→a.tmps.size=C.N→a.defers=B.dfs→Q .normal a E.w) :
  ∀ (fuel:Nat) (listed:Array Bool) (a:Act) (w:World),listed.size=all.length→unl all.length listed=fuel→
   (∀ j oj,all[j]?=some oj→listed.getD j false=true→∀ e∈oj.after,Region.binds .any e=true→listed.getD e.on false=true)→
   Inv C B E0 st rf (fun i=>listed.getD i false) a w→wpAny P .any all.toArray Q fuel listed a w:=by
 obtain ⟨⟨more,e1,e2⟩,g1,g2,g3⟩:=CI all 0 ⟨[],[]⟩ [] df rf hrun rfl rfl rfl
 have hlen:rf.length=all.length:=by rw [e1];simpa using e2
 have full :∀ (listed:Array Bool),listed.size=all.length→Region.ready .any all.toArray listed=[]→∀ i,i<all.length→listed.getD i false=true:=by
  intro listed hsz hrd i
  induction i using Nat.strongRecOn with
  | _ i ih=>
   intro hi
   cases hb:listed.getD i false with
   | true=>rfl
   | false=>
    have hun:listed.getD i true=false:=by
     have:i<listed.size:=by omega
     simp [this] at hb ⊢
     exact hb
    have hoi:all[i]?=some all[i]:=List.getElem?_eq_getElem hi
    have:i∈Region.ready .any all.toArray listed:=mem_ready.2 ⟨hun,all[i],by simp,fun e he hbd=>by
     have:=fm all 0 hE i _ hoi e he hbd
     exact ih e.on (by omega) (by omega)⟩
    rw [hrd] at this
    cases this
 have close :∀ (listed:Array Bool) (a:Act) (w:World),listed.size=all.length→(∀ i,i<all.length→listed.getD i false=true)→Inv C B E0 st rf (fun i=>listed.getD i false) a w→Q .normal a w:=by
  intro listed a w hsz hall hI
  obtain ⟨⟨E,hE',rfl,hX,hEH,hU,hT⟩,hs,hd⟩:=hI
  have hsel :∀ {α:Type} (us:List (List (Nat×α))) (f:Nat→Option α),us.length=all.length→bG (fun i=>listed.getD i false) f 0 us=us.foldl du f:=fun us f hl=>by
   have h1:=la us f 0 us.length
   rw [List.take_of_length_le (Nat.le_refl _)] at h1
   rw [←h1]
   funext k
   refine fS us 0 f f rfl (fun j u hj _=>?_)
   have hjl:j<us.length:=(List.getElem?_eq_some_iff.1 hj).1
   rw [Nat.zero_add,hall j (by omega)]
   exact (by rw [Nat.blt_eq];omega:Nat.blt j (0+us.length)=true).symm
  refine hQ E a hE' hX ?_ (fun n hn=>?_) (fun s v hv=>?_) hs hd
  ·rw [hEH,hsel _ _ (by simp [hlen]),g2]
  ·rcases hU n hn with h |⟨i,h1,_,h3,h4⟩
   ·exact .inl h
   ·have:=Nat.mul_le_mul_right C.K (show i+1≤all.length by omega)
    rw [Nat.add_mul] at this
    exact .inr ⟨by omega,by omega⟩
  ·refine hT s v ?_
   rw [hsel _ _ (by simp [hlen]),←g1]
   exact hv
 intro fuel
 induction fuel with
 | zero=>
  intro listed a w hsz hun _ hI
  have hall :∀ i,i<all.length→listed.getD i false=true:=fun i hi=>by
   have h0 :(List.range all.length).filter (fun i=>!listed.getD i true)=[]:=List.eq_nil_of_length_eq_zero hun
   have:=List.filter_eq_nil_iff.1 h0 i (List.mem_range.2 hi)
   have hi':i<listed.size:=by omega
   simp [hi'] at this ⊢
   exact this
  refine ⟨?_,close listed a w hsz hall hI⟩
  cases hr:Region.ready .any all.toArray listed with
  | nil=>rfl
  | cons i l=>
   have hm:i∈Region.ready .any all.toArray listed:=by rw [hr];exact List.mem_cons_self
   obtain ⟨h1,o,h2,_⟩:=mem_ready.1 hm
   have hi:i<all.length:=by
    have:=(Array.getElem?_eq_some_iff.1 h2).1
    simpa using this
   have h3:=hall i hi
   have hi':i<listed.size:=by omega
   simp [hi'] at h1 h3
   rw [h1] at h3;cases h3
 | succ fuel ih=>
  intro listed a w hsz hun hclosed hI
  refine ⟨fun hr=>close listed a w hsz (full listed hsz hr) hI,fun i hi=>?_⟩
  obtain ⟨h1,o,h2,hdir⟩:=mem_ready.1 hi
  have ho:all[i]?=some o:=by simpa using h2
  have hil:i<all.length:=(List.getElem?_eq_some_iff.1 ho).1
  have his:i<listed.size:=by omega
  have hLi:listed.getD i false=false:=by simp [his] at h1 ⊢;exact h1
  obtain ⟨r,tm,H,k1,k2,k3,k4⟩:=g3 i o ho
  simp only [Nat.zero_add] at k1 k2 k3 k4
  have hget :∀ j,(listed.setIfInBounds i true).getD j false=if j=i then true else listed.getD j false:=fun j=>by
   by_cases e:j=i
   ·subst e;simp [his]
   ·simp [e,Array.getElem?_setIfInBounds_ne (Ne.symm e),Array.getD_eq_getD_getElem?]
  have hgetT :∀ j,j≠i→(listed.setIfInBounds i true).getD j true=listed.getD j true:=fun j e=>by
   simp [Array.getElem?_setIfInBounds_ne (Ne.symm e),Array.getD_eq_getD_getElem?]
  refine I7 hC (E0:=E0) (by rw [hlen];exact hfr0) (L:=fun i=>listed.getD i false) (L':=fun j=>(listed.setIfInBounds i true).getD j false) ho k1 hLi hget k2 ?_ ?_ (fun j s hs hor=>?_) hI (fun a w hI'=>ih _ a w (by simpa using hsz) ?_ ?_ hI')
  ·rw [k3]
   have:=la (rf.map eD) (find st.tm) 0 i
   rw [←List.map_take,] at this
   simpa using this.symm
  ·rw [k4]
   have:=la (rf.map Rec.dh) st.H 0 i
   rw [←List.map_take] at this
   simpa using this.symm
  ·rcases hor with ⟨hlt,hLj⟩ |⟨hgt,hLj⟩
   ·rcases gk rf 0 hck j i s r hlt hs k1 with h|h
    ·simp only [Nat.zero_add] at h
     have:=cQ hE hclosed i i (Nat.le_refl _) o ho hdir j h
     rw [this] at hLj;cases hLj
    ·exact h.symm
   ·rcases gk rf 0 hck i j r s hgt k1 hs with h|h
    ·simp only [Nat.zero_add] at h
     have hjl:j<all.length:=by rw [←hlen];exact (List.getElem?_eq_some_iff.1 hs).1
     have hoj:all[j]?=some all[j]:=List.getElem?_eq_getElem hjl
     have:=cQ hE hclosed j j (Nat.le_refl _) _ hoj (hclosed j _ hoj hLj) i h
     rw [this] at hLi;cases hLi
    ·exact h
  ·have:=n9 (p:=fun j=>!listed.getD j true) (q:=fun j=>!(listed.setIfInBounds i true).getD j true) (i:=i) (by simp [h1]) (by simp [his]) (fun j e=>by simp [hgetT j e]) (List.range all.length) List.nodup_range (List.mem_range.2 hil)
   unfold unl at hun ⊢
   omega
  ·intro j oj hj hlj e he hb
   rw [hget] at hlj ⊢
   by_cases e1:e.on=i
   ·rw [if_pos e1]
   ·rw [if_neg e1]
    by_cases e2:j=i
    ·subst e2
     rw [ho] at hj;cases hj
     exact hdir e he hb
    ·rw [if_neg e2] at hlj
     exact hclosed j oj hj hlj e he hb
theorem G2 {C:Cfg} (hC:CfgOK P C) {B:Base} {all:List Oper} {st:St} {df:Dl} {rf:List Rec} (hrun:Run C true all st 0 all ⟨[],[]⟩ [] df rf) (hE:cF 0 all=true) (hck:dX (bK all []) 0 rf=true) {Q:Exit→Act→World→Prop}
  {E:Env} (hE':HRel B E) (hH:E.H=st.H) {a:Act} (hT:eJ E (find st.tm) a) (hsz:a.tmps.size=C.N) (hdf:a.defers=B.dfs)
  (hfr0 :∀ n,st.nx≤n→n<st.nx+all.length*C.K→¬ E.U n)
  (hQ :∀ E' a,HRel B E'→Ext E E'→E'.H=au st.H df.hp→(∀ n,E'.U n→E.U n∨(st.nx≤n∧n<st.nx+all.length*C.K))→eJ E' (find (df.tm++st.tm)) a→a.tmps.size=C.N→a.defers=B.dfs→Q .normal a E'.w) :
  wpAny P .any all.toArray Q all.toArray.size (Array.replicate all.toArray.size false) a { E.w with drawn:=E.w.drawn+1 }:=by
 obtain ⟨R,X⟩:=yb hE' { E.w with drawn:=E.w.drawn+1 } rfl rfl rfl rfl
 have hfalse :∀ i,(Array.replicate all.toArray.size false).getD i false=false:=fun i=>by
  rcases Nat.lt_or_ge i all.length with h|h
  ·simp [h]
  ·simp [h]
 have hno :∀ {α:Type} (us:List (List (Nat×α))) (f:Nat→Option α) (i:Nat),bG (fun i=>(Array.replicate all.toArray.size false).getD i false) f i us=f:=by
  intro α us
  induction us with
  | nil=>intro f i;rfl
  | cons u us ih=>intro f i;unfold bG;rw [hfalse];simp only [Bool.false_eq_true,if_false];exact ih f _
 refine Ix hC (E0:={ E with w:={ E.w with drawn:=E.w.drawn+1 } }) hrun hE hck hfr0 (fun E1 a1 r1 x1 h1 u1 t1 s1 d1=>hQ E1 a1 r1 (X.trans x1) h1 u1 t1 s1 d1) _ _ a _ (by simp) ?_ (fun j oj hj hl=>by rw [hfalse] at hl;cases hl) ⟨⟨_,R,rfl,Ext.refl _,?_,fun n hn=> .inl hn,fun s v hv=>?_⟩,hsz,hdf⟩
 ·unfold unl
  have :(List.range all.length).filter (fun i=>!(Array.replicate all.toArray.size false).getD i true)=List.range all.length:=List.filter_eq_self.2 fun i hi=>by
   have:=List.mem_range.1 hi
   simp [this]
  rw [this]
  simp
 ·rw [hno _ _ _];exact hH
 ·rw [hno] at hv
  exact bb X _ _ (hT s v hv)
theorem Bb {C:Cfg} (hC:CfgOK P C) {B:Base} {all:List Oper} {st:St} {df:Dl} {rf:List Rec} (hrun:Run C true all st 0 all ⟨[],[]⟩ [] df rf) (hE:cF 0 all=true) (hck:dX (bK all []) 0 rf=true) {Q:Exit→Act→World→Prop}
  (hQ :∀ a w,SRel B C.N (find (df.tm++st.tm)) (au st.H df.hp) (fun n=>n<st.nx+all.length*C.K) a w→Q .normal a w) {a:Act} {w:World} (hs:SRel B C.N (find st.tm) st.H (fun n=>n<st.nx) a w) :
  wpAny P .any all.toArray Q all.toArray.size (Array.replicate all.toArray.size false) a { w with drawn:=w.drawn+1 }:=by
 obtain ⟨⟨E,hE',rfl,hH,⟨hG,hU⟩,hT⟩,hsz,hdf⟩:=hs
 refine G2 hC hrun hE hck hE' hH hT hsz hdf (fun n h1 _ hu=>?_) (fun E1 a1 r1 x1 h1 u1 t1 s1 d1=>hQ _ _ ⟨⟨E1,r1,rfl,h1,⟨B.clo _ _ hG x1,fun n hn=>?_⟩,t1⟩,s1,d1⟩)
 ·have:=hU n hu;omega
 ·rcases u1 n hn with h|h
  ·have:=hU n h;omega
  ·exact h.2
theorem sH {C:Cfg} (hC:CfgOK P C) (hP:P.follows .mixedOrders=true) {B:Base} {all:List Oper} {st:St} {df:Dl} {rf:List Rec} (hrun:Run C true all st 0 all ⟨[],[]⟩ [] df rf) (hE:cF 0 all=true) (hck:dX (bK all []) 0 rf=true) {Q:Exit→Act→World→Prop}
  (hQ :∀ a w,SRel B C.N (find (df.tm++st.tm)) (au st.H df.hp) (fun n=>n<st.nx+all.length*C.K) a w→Q .normal a w) {a:Act} {w:World} (hs:SRel B C.N (find st.tm) st.H (fun n=>n<st.nx) a w) (id:Nat) :
  (Code.region id all.toArray true).wp P Q a w:=
 wp_region_any hP (Bb hC hrun hE hck hQ hs)
end
section
open Go.RowKit
variable {P:Program}
def Tr.pre (d:Dl):Tr→Tr
 | .leaf e d' nx=> .leaf e ⟨d'.tm++d.tm,d'.hp++d.hp⟩ nx
 | .br b t e=> .br b (t.pre d) (e.pre d)
 | .need p t=> .need p (t.pre d)
 | .both t u=> .both (t.pre d) (u.pre d)
 | .when b t=> .when b (t.pre d)
 | .done=> .done
 | .bad=> .bad
def Tr.graft (k:Dl→Nat→Tr):Tr→Tr
 | .leaf .nrm d nx=>(k d nx).pre d
 | .leaf e d nx=> .leaf e d nx
 | .br b t e=> .br b (t.graft k) (e.graft k)
 | .need p t=> .need p (t.graft k)
 | .both t u=> .both (t.graft k) (u.graft k)
 | .when b t=> .when b (t.graft k)
 | .done=> .done
 | .bad=> .bad
def Tr.nN:Tr→Nat
 | .leaf .nrm _ _=>1
 | .leaf _ _ _=>0
 | .br _ t e=>t.nN+e.nN
 | .need _ t=>t.nN
 | .both t u=>t.nN+u.nN
 | .when _ t=>t.nN
 | .done | .bad=>0
def Tr.cut:Tr→Tr
 | .leaf .nrm _ _=> .done
 | .leaf e d nx=> .leaf e d nx
 | .br b t e=> .br b t.cut e.cut
 | .need p t=> .need p t.cut
 | .both t u=> .both t.cut u.cut
 | .when b t=> .when b t.cut
 | .done=> .done
 | .bad=> .bad
def Tr.clean:Tr→Bool
 | .leaf .nrm _ _=>true
 | .br _ t e=>t.clean&&e.clean
 | _=>false
inductive KB where
 | yes|no|is (b:Bool)
def KB.val:KB→Bool
 | .yes=>true
 | .no=>false
 | .is b=>b
def KB.ite (b:Bool):KB→KB→KB
 | .yes,.yes=> .yes
 | .no,.no=> .no
 | .yes,.no=> .is b
 | .no,.yes=> .is (!b)
 | x,y=> .is (cond b x.val y.val)
def KB.or:KB→KB→KB
 | .yes,_=> .yes
 | _,.yes=> .yes
 | .no,y=>y
 | x,.no=>x
 | x,y=> .is (x.val||y.val)
def KB.and (b:Bool):KB→KB
 | .yes=> .is b
 | .no=> .no
 | .is c=> .is (b&&c)
def Tr.isN:Tr→KB
 | .leaf .nrm _ _=> .yes
 | .leaf _ _ _=> .no
 | .br b t e=>KB.ite b t.isN e.isN
 | .need _ t=>t.isN
 | .both t u=>KB.or t.isN u.isN
 | .when b t=>KB.and b t.isN
 | .done | .bad=> .no
mutual
def bC (p:Bool):V→V→Option V
 | .any,_=>some .any
 | .hint _ _,_=>some .any
 | .int k a,y=>match y with | .int k' b=>(if k=k' then some (.int k (cond p a b)) else none) | .any=>some .any|_=>none
 | .bool a,y=>match y with | .bool b=>some (.bool (cond p a b)) | .kb b=>some (.bool (cond p a b)) | .any=>some .any|_=>none
 | .kb a,y=>match y with
  | .bool b=>some (.bool (cond p a b))
  | .kb b=>(match a,b with|true,true=>some (.kb true)|false,false=>some (.kb false)|true,false=>some (.bool p)|false,true=>some (.bool (!p)))
  | .any=>some .any
  | _=>none
 | .str a,y=>match y with | .str b=>some (.str (cond p a b)) | .any=>some .any|_=>none
 | .nilptr,y=>match y with | .nilptr=>some .nilptr | .any=>some .any|_=>none
 | .ptr h o,y=>match y with | .ptr h' o'=>(if h=h'∧o=o' then some (.ptr h o) else none) | .any=>some .any|_=>none
 | .fp t xs i o,y=>match y with | .fp t' ys j o'=>(if e:t'=t then (if o=o' then some (.fp t (cond p xs (e▸ys)) (cond p i j) o) else none) else none) | .any=>some .any|_=>none
 | .rp h ver i o,y=>match y with | .rp h' ver' j o'=>(if h=h'∧ver=ver'∧o=o' then some (.rp h ver (cond p i j) o) else none) | .any=>some .any|_=>none
 | .nilsl,y=>match y with | .nilsl=>some .nilsl | .fsl t ys=>some (.fsl t (cond p [] ys)) | .any=>some .any|_=>none
 | .esl,y=>match y with | .esl=>some .esl | .any=>some .any|_=>none
 | .osl h ver,y=>match y with | .osl h' ver'=>(if h=h'∧ver=ver' then some (.osl h ver) else none) | .any=>some .any|_=>none
 | .fsl t xs,y=>match y with | .fsl t' ys=>(if e:t'=t then some (.fsl t (cond p xs (e▸ys))) else none) | .nilsl=>some (.fsl t (cond p xs [])) | .any=>some .any|_=>none
 | .gsl h ver e o l,y=>match y with | .gsl h' ver' e' o' l'=>(if h=h'∧ver=ver'∧e=e'∧o=o'∧l=l' then some (.gsl h ver e o l) else none) | .any=>some .any|_=>none
 | .gp h ver o,y=>match y with | .gp h' ver' o'=>(if h=h'∧ver=ver'∧o=o' then some (.gp h ver o) else none) | .any=>some .any|_=>none
 | .mpv h,y=>match y with | .mpv h'=>(if h=h' then some (.mpv h) else none) | .any=>some .any|_=>none
 | .av k h,y=>match y with | .av k' h'=>(if k=k'∧h=h' then some (.av k h) else none) | .any=>some .any|_=>none
 | .nilfn,y=>match y with | .nilfn=>some .nilfn | .any=>some .any|_=>none
 | .nilmap,y=>match y with | .nilmap=>some .nilmap | .any=>some .any|_=>none
 | .fn f cs,y=>match y with | .fn f' ds=>(if f=f' then (match gg p cs ds with|some l=>some (.fn f l)|none=>none) else none) | .any=>some .any|_=>none
 | .agg cs,y=>match y with | .agg ds=>(match gg p cs ds with|some l=>some (.agg l)|none=>none) | .any=>some .any|_=>none
 | .tup cs,y=>match y with | .tup ds=>(match gg p cs ds with|some l=>some (.tup l)|none=>none) | .any=>some .any|_=>none
def gg (p:Bool):List V→List V→Option (List V)
 | [],[]=>some []
 | x::xs,y::ys=>match bC p x y with
  | some v=>match gg p xs ys with
   | some l=>some (v::l)
   | none=>none
  | none=>none
 | _,_=>none
end
def rZ:V→Bool
 | .tup []=>true
 | _=>false
def zI (p:Bool) (x y:V):Option V:=bif rZ x||rZ y then some .any else bC p x y
def zG (p:Bool):Blk→Blk→Option Blk
 | .cells cs,.cells ds=>match gg p cs ds with|some l=>some (.cells l)|none=>none
 | .row ver rw t xs,.row ver' rw' t' ys=>if e:t'=t then (if ver=ver'∧rw=rw' then some (.row ver rw t (cond p xs (e▸ys))) else none) else none
 | .abs k t x,.abs k' t' y=>if e:t'=t then (if k=k' then some (.abs k t (cond p x (e▸y))) else none) else none
 | _,_=>none
def jD {α:Type}:List (Nat×α)→List Nat→List Nat
 | [],acc=>acc
 |(k,_)::r,acc=>bif memN acc k then jD r acc else jD r (k::acc)
def kQ (p:Bool) (t1 t2:List (Nat×V)):List Nat→Option (List (Nat×V))
 | []=>some []
 | k::ks=>match zI p (cA t1 k) (cA t2 k) with
  | some v=>match kQ p t1 t2 ks with
   | some l=>some ((k,v)::l)
   | none=>none
  | none=>none
def mW (p:Bool) (H H1 H2:aw):List Nat→Option (List (Nat×Blk))
 | []=>some []
 | k::ks=>match H1 k,H2 k with
  | some b1,some b2=>match zG p b1 b2 with
   | some b=>match mW p H H1 H2 ks with
    | some l=>some ((k,b)::l)
    | none=>none
   | none=>none
  | _,_=>match H k with
   | some _=>none
   | none=>mW p H H1 H2 ks
def zH (p:Bool) (st:St) (d1 d2:Dl):Option Dl:=
 match kQ p (d1.tm++st.tm) (d2.tm++st.tm) (jD d1.tm (jD d2.tm [])) with
 | some tm=>match mW p st.H (au st.H d1.hp) (au st.H d2.hp) (jD d1.hp (jD d2.hp [])) with
  | some hp=>some ⟨tm,hp⟩
  | none=>none
 | none=>none
def Tr.mrg (st:St):Tr→Option (Option (Dl×Nat))
 | .leaf .nrm d nx=>some (some (d,nx))
 | .leaf _ _ _=>some none
 | .br b t e=>match t.mrg st,e.mrg st with
  | some none,r=>r
  | r,some none=>r
  | some (some (d1,n1)),some (some (d2,n2))=>match zH b st d1 d2 with
   | some d=>some (some (d,Nat.max n1 n2))
   | none=>none
  | _,_=>none
 | .need _ t=>t.mrg st
 | .both t u=>match t.mrg st,u.mrg st with
  | some none,r=>r
  | r,some none=>r
  | _,_=>none
 | .when _ t=>t.mrg st
 | .done | .bad=>some none
def KY (st:St) (t:Tr) (k:Dl→Nat→Tr):Tr:=
 bif Nat.ble t.nN 1 then t.graft k
 else match t.mrg st with
  | some (some (d,nx))=>bif t.clean then (k d nx).pre d else .both t.cut (.when t.isN.val ((k d nx).pre d))
  | _=>t.graft k
def Tr.catch (id:Nat):Tr→Tr
 | .leaf (.ext id') d nx=>if id'=id then .leaf .nrm d nx else .leaf (.ext id') d nx
 | .leaf e d nx=> .leaf e d nx
 | .br b t e=> .br b (t.catch id) (e.catch id)
 | .need p t=> .need p (t.catch id)
 | .both t u=> .both (t.catch id) (u.catch id)
 | .when b t=> .when b (t.catch id)
 | .done=> .done
 | .bad=> .bad
def EL:Code→Option Nat
 | .region id _ _=>some id
 | .seq a b=>match EL a with|some n=>some n|none=>EL b
 | .cond _ a b=>match EL a with|some n=>some n|none=>EL b
 | .block _ b=>EL b
 | .loop b=>EL b
 | _=>none
def rid (c:Code):Nat:=match EL c with|some n=>n|none=>0
structure LoopSum where
 pre:St→Prop
 T:St→Tr
def uX (f:St→Tr):Nat→St→Tr
 | 0,_=> .bad
 | n+1,st=>KY st (f st) fun d nx=>uX f n (st.app d nx)
def jv:Nat:=100000
def bM (C:Cfg) (Λ:Nat→Option LoopSum):Code→St→Tr
 | .skip,st=> .leaf .nrm ⟨[],[]⟩ st.nx
 | .region _ ops dr,st=>sZ C dr ops.toList st 0 ops.toList ⟨[],[]⟩ []
 | .seq a b,st=>KY st (bM C Λ a st) fun d nx=>bM C Λ b (st.app d nx)
 | .cond c x y,st=>match Hr st.tm c with
  | .kb true=>bM C Λ x st
  | .kb false=>bM C Λ y st
  | .bool b=>match b with|true=>bM C Λ x st|false=>bM C Λ y st
  | .hint q true=> .both (.when q (bM C Λ x st)) (bM C Λ y st)
  | .hint q false=> .both (.when q (bM C Λ y st)) (bM C Λ x st)
  | _=> .bad
 | .block id b,st=>(bM C Λ b st).catch id
 | .loop b,st=>match Λ (rid b) with
  | some L=> .need (L.pre st) (L.T st)
  | none=>uX (bM C Λ b) jv st
 | .exit id,st=> .leaf (.ext id) ⟨[],[]⟩ st.nx
 | .ret,st=> .leaf .ret ⟨[],[]⟩ st.nx
 | _,_=> .bad
def bs (C:Cfg) (Λ:Nat→Option LoopSum):Code→St→Tr
 | .skip,st=> .leaf .nrm ⟨[],[]⟩ st.nx
 | .region _ ops dr,st=>sZ C dr ops.toList st 0 ops.toList ⟨[],[]⟩ []
 | .seq a b,st=>KY st (bs C Λ a st) fun d nx=>bs C Λ b (st.app d nx)
 | .cond c x y,st=>match Hr st.tm c with
  | .kb true=>bs C Λ x st
  | .kb false=>bs C Λ y st
  | .bool b=> .br b (bs C Λ x st) (bs C Λ y st)
  | .hint q true=> .both (.when q (bs C Λ x st)) (bs C Λ y st)
  | .hint q false=> .both (.when q (bs C Λ y st)) (bs C Λ x st)
  | _=> .bad
 | .block id b,st=>(bs C Λ b st).catch id
 | .loop b,st=>match Λ (rid b) with
  | some L=> .need (L.pre st) (L.T st)
  | none=>uX (bM C Λ b) jv st
 | .exit id,st=> .leaf (.ext id) ⟨[],[]⟩ st.nx
 | .ret,st=> .leaf .ret ⟨[],[]⟩ st.nx
 | _,_=> .bad
def aU (Λ:Nat→Option LoopSum):Code→List Code
 | .seq a b=>aU Λ a++aU Λ b
 | .cond _ a b=>aU Λ a++aU Λ b
 | .block _ b=>aU Λ b
 | .loop b=>b ::(match Λ (rid b) with|some _=> []|none=>aU Λ b)
 | _=> []
def kO:Code→List Code
 | .seq a b=>kO a++kO b
 | .cond _ a b=>kO a++kO b
 | .block _ b=>kO b
 | .loop b=> [b]
 | _=> []
end
end Go.Mir
