/- Texts of the mirror and contracts, put together. -/
import Derived.Test.YtffdpnmioidloaaGreatDoorPY0
import Derived.DeepKeys3
import Derived.MapKept
namespace Go.Mir
open Go.RowKit
variable {P:Program}
theorem qw :∀ (l:List Value) (k off:Nat) (cells:Array Value),off+k+l.length≤cells.size→
  ((l.zipIdx k).foldl (fun cs q=>cs.setIfInBounds (off+q.2) q.1) cells).toList=cells.toList.take (off+k)++l++cells.toList.drop (off+k+l.length)
 | [],k,off,cells,_=>by simp
 | v::r,k,off,cells,h=>by
  have hl:off+k+r.length+1≤cells.size:=by simpa [Nat.add_assoc] using h
  rw [List.zipIdx_cons,List.foldl_cons,qw r (k+1) off _ (by simp;omega)]
  have ho:off+k<cells.toList.length:=by simp;omega
  rw [Array.toList_setIfInBounds,←Nat.add_assoc,List.take_set,List.take_succ_eq_append_getElem ho,List.drop_set_of_lt (by omega),List.set_append_right _ _ (by simp;omega)]
  simp [Nat.min_eq_left (Nat.le_of_lt (by simpa using ho)),Nat.add_assoc,Nat.add_comm 1]
def mY (E:Env):List (Nat×V)→List (Nat×Value)→Prop
 | [],[]=>True
 | p::ps,q::qs=>p.1=q.1∧aa E p.2 q.2∧mY E ps qs
 | _,_=>False
theorem iC {E:Env} {f:Nat→Option (Nat×Nat)} :∀ {parts:List (Nat×V)} {pv:List (Nat×Value)} {cs:List V} {cells:Array Value} {cs':List V},mY E parts pv→ae E cs cells.toList→lE f cs parts=some cs'→
  ∃ cells',Instr.fill f cells pv=some cells'∧ae E cs' cells'.toList
 | [],[],cs,cells,cs',_,h,hf=>by
  simp only [lE,Option.some.injEq] at hf
  subst hf
  exact ⟨cells,rfl,h⟩
 | p::ps,[],_,_,_,hp,_,_=>by simp [mY] at hp
 | [],q::qs,_,_,_,hp,_,_=>by simp [mY] at hp
 |(i,v)::ps,(j,u)::qs,cs,cells,cs',hp,h,hf=>by
  simp only [mY] at hp
  obtain ⟨rfl,hv,hp⟩:=hp
  simp only [lE] at hf
  split at hf
  case h_2=>cases hf
  rename_i off size hfi
  split at hf
  case h_2=>cases hf
  rename_i xs hxs
  split at hf
  case isFalse=>cases hf
  rename_i h1
  split at hf
  case isFalse=>cases hf
  rename_i h2
  have hc:=cA hv hxs
  have hl:=aY hc
  have hlc:=aY h
  simp only [Array.length_toList] at hl hlc
  have e:=qw u.cells.toList 0 off cells (by simp;omega)
  have hfold :(u.cells.zipIdx.foldl (fun cs q=>cs.setIfInBounds (off+q.2) q.1) cells).toList=cells.toList.take off++u.cells.toList++cells.toList.drop (off+u.cells.toList.length):=by
   rw [←Array.foldl_toList,Array.toList_zipIdx]
   simpa using e
  have hs:=ic h hc off
  rw [←hfold] at hs
  obtain ⟨cells',r1,r2⟩:=iC hp hs hf
  refine ⟨cells',?_,r2⟩
  unfold Instr.fill
  simp only [hfi]
  rw [if_neg (by simp;omega)]
  exact r1
theorem nj {α β:Type} (f:α→Sem β) (g:α→β) (w:World) :∀ (l:List α),(∀ x∈l,(f x).run P w = .ok (g x) w)→(l.mapM f).run P w = .ok (l.map g) w
 | [],_=>by simp
 | x::l,h=>by
  simp [List.mapM_cons,h x (by simp),nj f g w l (fun y hy=>h y (by simp [hy]))]
theorem tE {α β:Type} (f:α→Sem β) (g:α→β) (w:World) (l:Array α) (h :∀ x∈l.toList,(f x).run P w = .ok (g x) w) :(l.mapM f).run P w = .ok (l.map g) w:=by
 rw [Array.mapM_eq_mapM_toList,Sem.run_map,nj f g w l.toList h]
 simp only [Result.andThen_ok]
 congr 1
 apply Array.ext'
 simp
theorem uu {E:Env} {tb:Tbl} (hT:cE P tb) {t:TypeId} {td:TD} (ht:TDok P t td) {parts:List (Nat×V)} {pv:Array (Nat×Value)} (hp:mY E parts pv.toList) {ps:List Ob} {v:V} {dh:List (Nat×Blk)}
  (h:wU tb td parts = .val ps v dh):dh=[]∧∃ v',(Instr.build t pv).run P E.w = .ok v' E.w∧aa E v v':=by
 have hk:=ht.kind
 obtain ⟨z,hz,hzz⟩:=ht.zeroValue E.w
 have hzr:ae E td.zero z.cells.toList:=cW hzz
 unfold wU at h
 split at h
 ·rename_i fs h1
  rw [h1] at hk
  obtain ⟨fields,hu,hfs⟩:=hk
  split at h
  case isFalse=>cases h
  rename_i hall
  split at h
  case h_2=>cases h
  rename_i cs hcs
  cases h
  have hm:=tE (P:=P) (fun f:Field=>do pure (f.offset,←sizeOf f.type)) (fun f=>(f.offset,((tb f.type).map TD.size).getD 0)) E.w fields (fun f hf=>by
   have hmem :(f.offset,f.type)∈fs:=by rw [←hfs];exact List.mem_map.2 ⟨f,hf,rfl⟩
   have:=List.all_eq_true.1 hall _ hmem
   obtain ⟨tf,htf⟩:=Option.isSome_iff_exists.1 this
   simp only at htf
   simp [(hT _ _ htf).sizeOf,htf])
  have hf :(fun i=>(fields.map (fun f=>(f.offset,((tb f.type).map TD.size).getD 0)))[i]?)=fun (i:Nat)=>(fs[i]?).map fun (q:Nat×TypeId)=>(q.1,((tb q.2).map TD.size).getD 0):=by
   funext i
   rw [←hfs,List.getElem?_map,Array.getElem?_map,Option.map_map]
   simp only [Array.getElem?_toList]
   rfl
  rw [←hf] at hcs
  obtain ⟨cells',r1,r2⟩:=iC hp hzr hcs
  refine ⟨rfl,.agg cells',?_,?_⟩
  ·unfold Instr.build
   simp only [Sem.run_bind,hz,Result.andThen_ok,run_underlying hu,hm,Sem.run_pure,r1]
  ·simp only [aa];exact ⟨_,rfl,r2⟩
 ·rename_i n e h1
  rw [h1] at hk
  simp only [aZ] at hk
  split at h
  case h_2=>cases h
  rename_i te hte
  split at h
  case h_2=>cases h
  rename_i cs hcs
  cases h
  obtain ⟨cells',r1,r2⟩:=iC hp hzr hcs
  refine ⟨rfl,.agg cells',?_,?_⟩
  ·unfold Instr.build
   simp only [Sem.run_bind,hz,Result.andThen_ok,run_underlying hk,(hT _ _ hte).sizeOf,Sem.run_pure,r1]
  ·simp only [aa];exact ⟨_,rfl,r2⟩
 ·cases h
theorem kH (z:Array Value) :∀ n,((List.range (n*z.size)).map fun i=>z[i % z.size]!) =(List.replicate n z.toList).flatten
 | 0=>by simp
 | n+1=>by
  rw [List.replicate_succ',List.flatten_append,←kH z n,Nat.add_mul,Nat.one_mul,List.range_add,List.map_append,List.map_map]
  congr 1
  simp only [List.flatten_cons,List.flatten_nil,List.append_nil]
  apply List.ext_getElem
  ·simp
  ·intro i h1 h2
   have hi:i<z.size:=by simpa using h2
   simp only [List.getElem_map,List.getElem_range,Function.comp,Array.getElem_toList]
   have e :(n*z.size+i) % z.size=i:=by rw [Nat.mul_comm,Nat.mul_add_mod,Nat.mod_eq_of_lt hi]
   rw [e]
   exact getElem!_pos z i hi
theorem gj {E:Env} {cs:List V} {l:List Value} (h:ae E cs l) :∀ n,ae E (uI cs n) (List.replicate n l).flatten
 | 0=>by simp [uI,ae]
 | n+1=>by
  rw [List.replicate_succ,List.flatten_cons]
  exact bQ h (gj h n)
theorem qn {B:Base} {E:Env} (hE:HRel B E) {t:Ty} :∀ {n:Nat} {vs:List V} {xs:List (Den t)} {cs:List Value},vV E.H t n vs=some xs→ae E vs cs→
  xs.length=n∧cs.length=n*sz t∧∀ (i:Nat) (h:i<xs.length),Rd E.S E.w t xs[i] ((cs.drop (i*sz t)).take (sz t))
 | 0,[],xs,cs,h,hv=>by
  simp only [vV,Option.some.injEq] at h
  subst h
  cases cs with
  | nil=>exact ⟨rfl,by simp,fun i h=>by simp at h⟩
  | cons=>simp [ae] at hv
 | 0,_::_,xs,cs,h,_=>by simp [vV] at h
 | n+1,vs,xs,cs,h,hv=>by
  simp only [vV] at h
  split at h
  case h_2=>cases h
  rename_i x r h1
  split at h
  case h_2=>cases h
  rename_i ys h2
  cases h
  obtain ⟨c1,c2,rfl,k1,k2⟩:=gE hE _ h1 hv
  obtain ⟨g1,g2,g3⟩:=qn hE h2 k2
  have hl:=k1.len
  refine ⟨by simp [g1],by simp [hl,g2,Nat.add_mul,Nat.add_comm],fun i hi=>?_⟩
  cases i with
  | zero=>simpa [←hl] using k1
  | succ i=>
   have:=g3 i (by simpa using hi)
   have e :((c1++c2).drop ((i+1)*sz t))=c2.drop (i*sz t):=by
    rw [Nat.add_mul,Nat.one_mul,←hl,List.drop_append,List.drop_eq_nil_of_le (by omega)]
    simp
   rw [e]
   exact this
theorem oP {B:Base} {E:Env} (hE:HRel B E) (m:Nat) (hm :¬ E.U m) (t:Ty) (xs:List (Den t)) (l:List Value) (T:TypeId) (cap:Nat) (hcap:l.length=cap*sz t) (hlc:xs.length≤cap) (hl:xs.length≤aP)
  (hx :∀ (i:Nat) (h:i<xs.length),Rd E.S E.w t xs[i] ((l.drop (i*sz t)).take (sz t))) (c:Array Value) (hc:c.toList=l) :
  ∃ E',Good B E m [(m,.row m true t xs)] { E.w with heap:=E.w.heap.push (.cells c T (0,0)) } E'∧aa E' (.osl m m) (.slice (some ⟨E.w.heap.size,0,none⟩) xs.length cap):=by
 subst hc
 exact K2 hE m hm t xs c T cap (by simpa using hcap) hlc hl (fun i h=>by simpa [seg] using hx i h)
theorem ix {B:Base} {E:Env} (hE:HRel B E) {tb:Tbl} (hT:cE P tb) {t:TypeId} {td:TD} (ht:TDok P t td) (m:Nat) (hm :¬ E.U m) {n:Nat} {parts:List (Nat×V)} {pv:Array (Nat×Value)} (hp:mY E parts pv.toList)
  {ps:List Ob} {v:V} {dh:List (Nat×Blk)} (h:fq tb td E.H m n parts = .val ps v dh) :∃ v' w' E',(Instr.buildSlice t n pv).run P E.w = .ok v' w'∧Good B E m dh w' E'∧aa E' v v':=by
 have hk:=ht.kind
 unfold fq at h
 split at h
 case h_2=>cases h
 rename_i e h1
 rw [h1] at hk
 simp only [aZ] at hk
 split at h
 case h_2=>cases h
 rename_i te hte
 have hte':=hT _ _ hte
 split at h
 case h_2=>cases h
 rename_i t' ht'
 split at h
 case isFalse=>cases h
 rename_i hc
 obtain ⟨c1,c2,c3,c4⟩:=hc
 split at h
 case h_2=>cases h
 rename_i cs hcs
 split at h
 case h_2=>cases h
 rename_i xs hxs
 cases h
 obtain ⟨z,hz,hzz⟩:=hte'.zeroValue E.w
 have hzr:ae E te.zero z.cells.toList:=cW hzz
 have hzl:z.cells.size=te.size:=by have:=aY hzr;simp at this;omega
 have hsmall :¬(n*te.size>2 ^ 24):=by
  have:=Nat.mul_le_mul c2 c3
  omega
 have hzero :∃ zc:Array Value,((n*te.size=0∧zc=#[])∨(n*te.size≠0∧zc=z.cells))∧((Array.range (n*te.size)).map (zc[· % zc.size]!)).toList =(List.replicate n z.cells.toList).flatten:=by
  by_cases h0:n*te.size=0
  ·refine ⟨#[],.inl ⟨h0,rfl⟩,?_⟩
   rw [h0]
   rcases Nat.mul_eq_zero.1 h0 with h0|h0
   ·subst h0;simp
   ·have:z.cells.toList=[]:=List.eq_nil_of_length_eq_zero (by rw [Array.length_toList];omega)
    rw [this];simp
  ·refine ⟨z.cells,.inr ⟨h0,rfl⟩,?_⟩
   rw [←hzl,Array.toList_map,Array.toList_range]
   exact kH _ _
 obtain ⟨zc,hz1,hz2⟩:=hzero
 have hzv:=gj hzr n
 rw [←hz2] at hzv
 obtain ⟨cells',r1,r2⟩:=iC hp hzv hcs
 obtain ⟨g1,g2,g3⟩:=qn hE hxs r2
 obtain ⟨E',G,hv⟩:=oP hE m hm t' xs cells'.toList e n g2 (by omega) (by rw [g1];unfold aP;omega) g3 cells' rfl
 refine ⟨_,_,E',?_,G,hv⟩
 rw [g1]
 unfold Instr.buildSlice
 simp only [Sem.run_bind,run_underlying hk,Result.andThen_ok,hte'.sizeOf,hsmall,if_false]
 rcases hz1 with ⟨h0,rfl⟩ |⟨h0,rfl⟩
 ·simp only [h0,if_true,Sem.run_bind,Sem.run_pure,Result.andThen_ok] at r1 ⊢
  simp only [r1,newRow,Sem.run_bind,run_newObj,Result.andThen_ok,Sem.run_pure]
 ·simp only [h0,if_false,Sem.run_bind,hz,Sem.run_pure,Result.andThen_ok,r1,newRow,run_newObj]
theorem oh {B:Base} {E:Env} (hE:HRel B E) {tb:Tbl} (hT:cE P tb) {t:TypeId} {td:TD} (ht:TDok P t td) (m:Nat) (hm :¬ E.U m) {l c:V} {lv cv:Value} (hl:aa E l lv) (hc:aa E c cv)
  {ps:List Ob} {v:V} {dh:List (Nat×Blk)} (h:lC tb td E.H m l c = .val ps v dh) (hps :∀ p∈ps,p.holds) :∃ v' w' E',(Instr.makeSlice t lv cv).run P E.w = .ok v' w'∧Good B E m dh w' E'∧aa E' v v':=by
 have hk:=ht.kind
 unfold lC at h
 split at h
 case h_2=>cases h
 rename_i k1 n k2 c
 split at h
 case h_2=>cases h
 rename_i e h1
 rw [h1] at hk
 simp only [aZ] at hk
 split at h
 case h_2=>cases h
 rename_i te hte
 have hte':=hT _ _ hte
 split at h
 case h_2=>cases h
 rename_i t' ht'
 split at h
 case isFalse=>cases h
 rename_i hcc
 obtain ⟨c1,c2,c4⟩:=hcc
 split at h
 case h_2=>cases h
 rename_i zd hzd
 cases h
 have hp:=hps _ (List.mem_singleton.2 rfl)
 simp only [Ob.holds] at hp
 obtain ⟨p1,p2,p3⟩:=hp
 subst p2
 simp only [aa] at hl hc
 obtain ⟨rfl,_⟩:=hl
 obtain ⟨rfl,_⟩:=hc
 obtain ⟨z,hz,hzz⟩:=hte'.zeroValue E.w
 have hzr:ae E te.zero z.cells.toList:=cW hzz
 have hzl:z.cells.size=te.size:=by have:=aY hzr;simp at this;omega
 have hrd:=cH hE hzd hzr
 obtain ⟨N,rfl⟩:=Int.eq_ofNat_of_zero_le p1
 have hN:N≤17179869184:=by omega
 have hwrap:IntKind.i64.wrap (N:Int) =(N:Int):=by
  unfold IntKind.wrap
  simp [IntKind.bits,IntKind.signed]
  omega
 have hbytes :((te.bytes:Int) *(N:Int))≤281474976710656:=by
  have:te.bytes*N≤1000*17179869184:=Nat.mul_le_mul c2 hN
  have h2 :((te.bytes*N:Nat):Int)≤17179869184000:=by omega
  rw [Int.natCast_mul] at h2
  omega
 obtain ⟨hb1,hb2⟩:=hte'.bytes E.w
 have hzero :∃ zc:Array Value,((N*te.size=0∧zc=#[])∨(N*te.size≠0∧zc=z.cells))∧((Array.range (N*te.size)).map (zc[· % zc.size]!)).toList =(List.replicate N z.cells.toList).flatten:=by
  by_cases h0:N*te.size=0
  ·refine ⟨#[],.inl ⟨h0,rfl⟩,?_⟩
   rw [h0]
   rcases Nat.mul_eq_zero.1 h0 with h0|h0
   ·subst h0;simp
   ·have:z.cells.toList=[]:=List.eq_nil_of_length_eq_zero (by rw [Array.length_toList];omega)
    rw [this];simp
  ·refine ⟨z.cells,.inr ⟨h0,rfl⟩,?_⟩
   rw [←hzl,Array.toList_map,Array.toList_range]
   exact kH _ _
 obtain ⟨zc,hz1,hz2⟩:=hzero
 have hflat :∀ (i:Nat),i<N→((List.replicate N z.cells.toList).flatten.drop (i*sz t')).take (sz t')=z.cells.toList:=fun i hi=>by
  obtain ⟨d,rfl⟩ :∃ d,N=i +(d+1):=⟨N - i - 1,by omega⟩
  have hzl':z.cells.toList.length=sz t':=by simp;omega
  rw [←List.replicate_append_replicate,List.flatten_append,List.drop_append]
  have hfl :((List.replicate i z.cells.toList).flatten).length=i*sz t':=by simp [hzl,c1]
  rw [List.drop_eq_nil_of_le (by omega),hfl,Nat.sub_self,List.drop_zero,List.nil_append,List.replicate_succ,List.flatten_cons,List.take_append_of_le_length (by omega),List.take_of_length_le (by omega)]
 obtain ⟨E',G,hv⟩:=oP hE m hm t' (List.replicate N zd) ((List.replicate N z.cells.toList).flatten) e N (by simp [hzl,c1]) (by simp) (by simp;unfold aP;omega)
  (fun i hi=>by
   have hi':i<N:=by simpa using hi
   rw [hflat i hi',List.getElem_replicate]
   exact hrd) ((Array.range (N*te.size)).map (zc[· % zc.size]!)) hz2
 rw [List.length_replicate] at hv
 refine ⟨_,_,E',?_,by simpa using G,by simpa using hv⟩
 unfold Instr.makeSlice
 have q1 :¬((N:Int)<0):=by omega
 have q2 :¬((te.bytes:Int) *(N:Int)>281474976710656):=by omega
 have q3 :¬((N:Int) >(N:Int)):=by omega
 simp only [Sem.run_bind,run_underlying hk,Result.andThen_ok,asInt,asIntOf,Sem.run_pure,hb1,hb2,hwrap]
 have hcond :¬((decide ((N:Int)<0)||decide ((te.bytes:Int) *(N:Int)>2 ^ 48)||decide ((N:Int)<0)||decide ((N:Int) >(N:Int)))=true):=by
  have e48 :(2:Int) ^ 48=281474976710656:=by decide
  rw [e48]
  simp only [Bool.or_eq_true,decide_eq_true_eq]
  omega
 rw [if_neg hcond]
 simp only [Sem.run_bind,run_askRoom,Result.andThen_ok,hte'.sizeOf,Int.toNat_natCast]
 rcases hz1 with ⟨h0,rfl⟩ |⟨h0,rfl⟩
 ·simp only [h0,if_true,Sem.run_bind,Sem.run_pure,Result.andThen_ok,newRow,run_newObj]
  rfl
 ·simp only [h0,if_false,Sem.run_bind,hz,Sem.run_pure,Result.andThen_ok,newRow,run_newObj]
  rfl
end Go.Mir
namespace Go.Mir
open Go.RowKit
variable {P:Program}
theorem Rd.one {S:Nat→Prop} {w:World} {t:Ty} {x:Den t} {cs:List Value} (h:Rd S w t x cs) :∀ v∈cs,v.oneCell'=true:=by
 induction h with
 | int h=>intro v hv;simp at hv;subst hv;rfl
 | bool=>intro v hv;simp at hv;subst hv;rfl
 | str=>intro v hv;simp at hv;subst hv;rfl
 | unit=>intro v hv;cases hv
 | prod _ _ ih1 ih2=>intro v hv;rcases List.mem_append.1 hv with h|h;exact ih1 v h;exact ih2 v h
 | nm _ ih=>exact ih
 | nil=>intro v hv;simp at hv;subst hv;rfl
 | slice=>intro v hv;simp at hv;subst hv;rfl
def AppK (td:TD):Prop:=(∃ e,td.kind = .slice e)∨td.kind = .str
theorem AppK.under {t:TypeId} {td:TD} (h:TDok P t td) (hk:AppK td) :(∃ e,P.underlying t=some (.slice e))∨P.underlying t=some .string:=by
 have hk':=h.kind
 rcases hk with ⟨e,hk⟩|hk <;> rw [hk] at hk' <;> simp only [aZ] at hk'
 ·exact .inl ⟨e,hk'⟩
 ·exact .inr hk'
structure SrcC (P:Program) (E:Env) (z n:Nat) (xv:Value) (a:Option Addr) (cap:Nat) (l:List Value):Prop where
 val :∀ w,(Builtin.lenOf xv).run P w = .ok n w
 len:l.length=n*z
 run :∀ (w:World),w.heap=E.w.heap→(Builtin.firstCells z n xv).run P w = .ok l.toArray w
 one :∀ v∈l,v.oneCell'=true
structure Src (P:Program) (E:Env) (t:Ty) (ys:List (Den t)) (xv:Value) (a:Option Addr) (cap:Nat) (l:List Value):Prop extends SrcC P E (sz t) ys.length xv a cap l where
 lb:ys.length≤aP
 rd :∀ (i:Nat) (hi:i<ys.length),Rd E.S E.w t ys[i] ((l.drop (i*sz t)).take (sz t))
theorem xA {B:Base} {E:Env} (hE:HRel B E) {t:Ty} {x:V} {xv:Value} (hx:aa E x xv) {ys:List (Den t)} (h:py E.H t x=some ys) :
  ∃ a cap l,Src P E t ys xv a cap l:=by
 have empty :∀ (a:Option Addr) (cap:Nat),ys=[]→xv = .slice a 0 cap→∃ a cap l,Src P E t ys xv a cap l:=fun a cap e1 e2=>by
  subst e1;subst e2
  refine ⟨a,cap,[],⟨fun _=>rfl,by simp,fun w _=>?_,fun v hv=>by cases hv⟩,Nat.zero_le _,fun i hi=>by simp at hi⟩
  cases a with
  | none=>simp [Builtin.firstCells]
  | some a=>
   have:=run_loadCells_list (P:=P) w a [] (fun j v hj=>by simp at hj)
   simpa [Builtin.firstCells] using this
 have cells :∀ (b o cap:Nat) (c:Array Value) (T:TypeId) (fr:Nat×Nat),E.w.heap[b]?=some (.cells c T fr)→o+ys.length*sz t≤c.size→ys.length≤aP→xv = .slice (some ⟨b,o,none⟩) ys.length cap→
   (∀ (i:Nat) (hi:i<ys.length),Rd E.S E.w t ys[i] (seg c (o+i*sz t) (sz t)))→
   ∃ a cap l,Src P E t ys xv a cap l:=fun b o cap c T fr hb hsz hlb e hrd=>by
  have hl :(seg c o (ys.length*sz t)).length=ys.length*sz t:=rj _ _ _ hsz
  have hseg :∀ i,i<ys.length→((seg c o (ys.length*sz t)).drop (i*sz t)).take (sz t)=seg c (o+i*sz t) (sz t):=fun i hi=>by
   have hm :(i+1)*sz t≤ys.length*sz t:=Nat.mul_le_mul_right _ hi
   rw [Nat.add_mul] at hm
   simp only [seg,List.drop_take,List.drop_drop,List.take_take]
   congr 1
   omega
  refine ⟨some ⟨b,o,none⟩,cap,seg c o (ys.length*sz t),⟨fun _=>by rw [e];rfl,hl,fun w hw=>?_,fun v hv=>?_⟩,hlb,fun i hi=>by rw [hseg i hi];exact hrd i hi⟩
  ·subst e
   have hbw:w.heap[b]?=some (.cells c T fr):=by rw [hw];exact hb
   have:=run_loadCells_list (P:=P) w ⟨b,o,none⟩ (seg c o (ys.length*sz t)) (fun j v hj=>by
    rw [bK,gl hbw]
    rw [kJ] at hj
    split at hj
    ·exact hj
    ·cases hj)
   rw [hl] at this
   simpa [Builtin.firstCells] using this
  ·obtain ⟨k,hk,hkv⟩:=List.getElem_of_mem hv
   have hk':k<ys.length*sz t:=by omega
   have hpos:0<sz t:=by
    rcases Nat.eq_zero_or_pos (sz t) with h0|h0
    ·rw [h0] at hk';omega
    ·exact h0
   have hi:k / sz t<ys.length:=Nat.div_lt_of_lt_mul (by rw [Nat.mul_comm];exact hk')
   have h1:=(hrd _ hi).one v
   apply h1
   rw [←hseg _ hi]
   have hkk:k / sz t*sz t+k % sz t=k:=by rw [Nat.mul_comm];exact Nat.div_add_mod _ _
   have hmod:=Nat.mod_lt k hpos
   have :(((seg c o (ys.length*sz t)).drop (k / sz t*sz t)).take (sz t))[k % sz t]?=some v:=by
    rw [List.getElem?_take_of_lt hmod,List.getElem?_drop,hkk,List.getElem?_eq_getElem hk,hkv]
   exact List.mem_of_getElem? this
 unfold py at h
 split at h
 ·rename_i t' xs
  split at h
  case isFalse=>cases h
  rename_i e
  subst e
  cases h
  simp only [aa] at hx
  generalize hl:[xv]=l0 at hx
  cases hx with
  | nil=>cases hl;exact empty _ _ rfl rfl
  | slice h1 h2 h3 h4 h5 h6=>cases hl;exact cells _ _ _ _ _ _ h2 h3 h5 rfl h6
 ·rename_i s
  split at h
  case isFalse=>cases h
  rename_i e
  subst e
  cases h
  simp only [aa] at hx
  obtain ⟨rfl,hsz⟩:=hx
  have hl :(ja s).length=s.size:=by unfold ja;rw [List.length_map,Array.length_toList];rfl
  refine ⟨none,0,(ja s).map fun n=> .int .u8 n,⟨fun w=>?_,?_,fun w _=>?_,fun v hv=>?_⟩,?_,fun i hi=>?_⟩
  ·show (Builtin.lenOf (.string s)).run P w = .ok (ja s).length w
   rw [hl];rfl
  ·show ((ja s).map _).length =(ja s).length*1
   rw [List.length_map,Nat.mul_one]
  ·show (Builtin.firstCells _ (ja s).length (.string s)).run P w=_
   rw [hl]
   have:s.extract 0 s.size=s:=ByteArray.extract_zero_size
   simp only [Builtin.firstCells,this,Sem.run_pure]
   congr 1
   apply Array.ext'
   simp [ja,List.map_map,Function.comp_def]
  ·obtain ⟨n,_,rfl⟩:=List.mem_map.1 hv
   rfl
  ·show (ja s).length≤aP
   rw [hl];exact hsz
  ·have hi:i <(ja s).length:=hi
   have hi':i<s.data.toList.length:=by unfold ja at hi;rwa [List.length_map] at hi
   have hg :(ja s)[i] =((s.data.toList[i]).toNat:Int):=List.getElem_map (fun b:UInt8=>(b.toNat:Int))
   show Rd E.S E.w (.int .u8) (ja s)[i] ((((ja s).map fun n=>Value.int .u8 n).drop (i*1)).take 1)
   rw [Nat.mul_one,List.drop_eq_getElem_cons (by rw [List.length_map];exact hi),List.getElem_map,List.take_succ_cons,List.take_zero]
   have e3:Rd E.S E.w (.int .u8) (((s.data.toList[i]).toNat:Int):Den (.int .u8)) [Value.int .u8 ((s.data.toList[i]).toNat:Int)]:= .int (by
    have:=(s.data.toList[i]).toNat_lt
    unfold ok
    have h1:IntKind.u8.min=0:=rfl
    have h2:IntKind.u8.max=255:=rfl
    rw [h1,h2]
    omega)
   exact (congrArg (fun q:Int=>Rd E.S E.w (.int .u8) q [Value.int .u8 q]) hg).mpr e3
 ·cases h;simp only [aa] at hx;exact empty _ _ rfl hx
 ·cases h;simp only [aa] at hx;obtain ⟨a,hx⟩:=hx;exact empty _ _ rfl hx
 ·rename_i hh ver
  split at h
  case h_2=>cases h
  rename_i ver' rw' t' xs hH
  split at h
  case isFalse=>cases h
  rename_i e
  subst e
  split at h
  case isFalse=>cases h
  rename_i e2
  subst e2
  cases h
  rcases kG hE hH hx with ⟨_,h3,a,rfl⟩ |⟨b,cap,c,T,fr,h3,rfl,h5,h6,hcap,h7,h8,h9,h10,h11,h12⟩
  ·exact empty _ _ h3 rfl
  ·exact cells b 0 cap c T fr h5 (by rw [Nat.zero_add];exact h10) h11 rfl (fun i hi=>by rw [Nat.zero_add];exact h12 i hi)
 ·cases h
theorem ve (newLen:Nat) :∀ (rounds c:Nat),Builtin.growBy newLen rounds c≤max c (newLen +(newLen+768) / 4)
 | 0,c=>by simp [Builtin.growBy];omega
 | r+1,c=>by
  unfold Builtin.growBy
  split
  ·omega
  ·have:=ve newLen r (c +(c+768) / 4)
   omega
theorem CA {need old:Nat} (h:old<need):Builtin.nextslicecap need old≤2*need+1000:=by
 unfold Builtin.nextslicecap
 split
 ·omega
 ·split
  ·omega
  ·have:=ve need 4 old
   omega
theorem xJ {need old bytes:Nat} (h:old<need) (hb:bytes≤1000) (hn:need*bytes≤70368744177664) :¬(Builtin.nextslicecap need old*bytes>2 ^ 48):=by
 have h1:=Nat.mul_le_mul_right bytes (CA h)
 have h2 :(2*need+1000)*bytes=2 *(need*bytes)+1000*bytes:=by rw [Nat.add_mul,Nat.mul_assoc]
 omega
theorem uO (z:Array Value) (n:Nat) :(Builtin.zeroCells z n).size=n*z.size:=by simp [Builtin.zeroCells]
theorem dX {B:Base} {E:Env} (_:HRel B E) {tS tX:TypeId} {tdS tdX te:TD} (hS:TDok P tS tdS) (hX:TDok P tX tdX) {e:TypeId} (hk:tdS.kind = .slice e) (hkX:AppK tdX) (hte:TDok P e te)
  {z0 n0:Nat} (hsz:te.size=z0) (hzl:te.zero.length=te.size) (hb0:0<te.bytes) (hb1:te.bytes≤1000) {xv:Value} {a:Option Addr} {cap:Nat} {l:List Value} (src:SrcC P E z0 n0 xv a cap l)
  (base:Option Addr) (sLen sCap:Nat) (old:List Value) (hold:old.length=sLen*z0) (hrun :∀ (w:World),w.heap=E.w.heap→(Builtin.firstCells (z0) sLen (.slice base sLen sCap)).run P w = .ok old.toArray w)
  (hroom:sCap<sLen+n0) (hn :(sLen+n0)*te.bytes≤70368744177664) (ty:TypeId) :
  ∃ nc c,sLen+n0≤nc∧c.size=nc*z0∧c.toList.take ((sLen+n0)*z0)=old++l∧
   (Builtin.append_ #[tS,tX] ty #[.slice base sLen sCap,xv]).run P E.w = .ok (.slice (some ⟨E.w.heap.size,0,none⟩) (sLen+n0) nc) { E.w.drew with heap:=E.w.heap.push (.cells c e (0,0)) }:=by
 have hkS:=hS.kind
 rw [hk] at hkS
 simp only [aZ] at hkS
 have hkX:=hkX.under hX
 obtain ⟨z,hz,hzz⟩:=hte.zeroValue E.w.drew
 have hzr:ae E te.zero z.cells.toList:=cW hzz
 have hzs:z.cells.size=z0:=by have:=aY hzr;simp at this;omega
 obtain ⟨hbb,hbb2⟩:=hte.bytes E.w
 have hq :(Question.appendCap (sLen+n0) sCap e).forced=false:=rfl
 let nc:=(Question.appendCap (sLen+n0) sCap e).cut (E.w.tape E.w.drawn (.appendCap (sLen+n0) sCap e))
 have hnc:sLen+n0≤nc:=Nat.le_add_right _ _
 have h1:=xJ hroom hb1 hn
 have hmax :¬(((sLen+n0:Nat):Int)>IntKind.i64.max∧(false=true∨te.bytes=0)):=by
  rintro ⟨_,h2⟩
  rcases h2 with h2|h2
  ·cases h2
  ·omega
 refine ⟨nc,old.toArray++l.toArray++Builtin.zeroCells z.cells (nc - (sLen+n0)),hnc,?_,?_,?_⟩
 ·simp only [Array.size_append,uO,List.size_toArray,hold,src.len,hzs]
  rw [←Nat.add_mul,←Nat.add_mul]
  congr 1
  omega
 ·simp only [Array.toList_append]
  rw [List.take_append_of_le_length (by simp [hold,src.len,Nat.add_mul]),List.take_of_length_le (by simp [hold,src.len,Nat.add_mul])]
 ·have hfx:=src.run E.w.drew rfl
  have hfo:=hrun E.w.drew rfl
  have hlv:=src.val
  have hne :¬(false=true):=by decide
  have hnn :(!false)=true:=rfl
  have hb2 :∀ w,(typeInfo e).run P w = .ok ((P.info? e).getD default) w:=fun w=>(hte.bytes w).1
  rcases hkX with ⟨eX,hkX'⟩|hkX'
  all_goals
   simp only [Builtin.append_,List.getElem?_toArray,List.getElem?_cons_zero,List.getElem?_cons_succ,Sem.run_bind,run_underlying hkS,Result.andThen_ok,hte.sizeOf,hsz,run_underlying hkX',Sem.run_pure,hlv,if_neg hne]
   rw [if_neg (by omega :¬ sLen+n0≤sCap)]
   simp only [Sem.run_bind,hb2,hbb2,Result.andThen_ok,if_neg hmax,if_neg h1]
   simp only [run_choose,hq,if_neg hne,Result.andThen_ok,run_askRoom]
   simp only [World.drew] at hfo hfx hz ⊢
   simp only [hfo,hfx,hz,hnn,if_true,Result.andThen_ok,newRow,Sem.run_bind,run_newObj,Sem.run_pure]
   rfl
theorem eJ {E:Env} {tS tX:TypeId} {tdS tdX te:TD} (hS:TDok P tS tdS) (hX:TDok P tX tdX) {e:TypeId} (hk:tdS.kind = .slice e) (hkX:AppK tdX) (hte:TDok P e te)
  {z0 n0:Nat} (hsz:te.size=z0) {xv:Value} {a:Option Addr} {cap:Nat} {l:List Value} (src:SrcC P E z0 n0 xv a cap l)
  (base:Option Addr) (sLen sCap:Nat) (hroom:sLen+n0≤sCap) (ty:TypeId) (w':World) (hst :∀ a',base=some a'→(storeCells (a'.add (sLen*z0)) l).run P E.w = .ok () w') (hno:base=none→w'=E.w) :
  (Builtin.append_ #[tS,tX] ty #[.slice base sLen sCap,xv]).run P E.w = .ok (.slice base (sLen+n0) sCap) w':=by
 have hkS:=hS.kind
 rw [hk] at hkS
 simp only [aZ] at hkS
 have hkX:=hkX.under hX
 have hfx:=src.run E.w rfl
 have hlv:=src.val
 have hne :¬(false=true):=by decide
 have hnn :(!false)=true:=rfl
 rcases hkX with ⟨eX,hkX'⟩|hkX'
 all_goals
  simp only [Builtin.append_,List.getElem?_toArray,List.getElem?_cons_zero,List.getElem?_cons_succ,Sem.run_bind,run_underlying hkS,Result.andThen_ok,hte.sizeOf,hsz,run_underlying hkX',Sem.run_pure,hlv,if_neg hne]
  rw [if_pos hroom]
  simp only [Sem.run_bind,hnn,if_true,hfx,Result.andThen_ok]
  cases base with
  | none=>rw [hno rfl];rfl
  | some a'=>simp only [Sem.run_bind,hst a' rfl,Result.andThen_ok,Sem.run_pure]
theorem Fg {B:Base} {E:Env} (hE:HRel B E) (m:Nat) (hm :¬ E.U m) (h0:Nat) (hh:E.U h0∨h0=m) (t:Ty) (xs:List (Den t)) (c:Array Value) (T:TypeId) (cap:Nat) (hcap:c.size=cap*sz t) (hlc:xs.length≤cap) (hl:xs.length≤aP)
  (hx :∀ (i:Nat) (h:i<xs.length),Rd E.S E.w t xs[i] (seg c (i*sz t) (sz t))) :
  ∃ E',Good B E m [(h0,.row m true t xs)] { E.w with heap:=E.w.heap.push (.cells c T (0,0)) } E'∧aa E' (.osl h0 m) (.slice (some ⟨E.w.heap.size,0,none⟩) xs.length cap):=by
 have hsz:xs.length*sz t≤c.size:=by rw [hcap];exact Nat.mul_le_mul_right _ hlc
 have hS :¬ E.S E.w.heap.size:=fun h=>Nat.lt_irrefl _ (hE.stab _ h)
 have hget :(E.w.heap.push (.cells c T (0,0)))[E.w.heap.size]?=some (.cells c T (0,0)):=by simp
 obtain ⟨R,X⟩:=jv hE h0 (.row m true t xs) (some E.w.heap.size) { E.w with heap:=E.w.heap.push (.cells c T (0,0)) } (fun n=>E.U n∨n=m) (fun n h=> .inl h) hh
  ⟨rfl,rfl,rfl,by simp,fun b hb' _=>Below.heap_alloc E.w _ b hb'⟩ (fun b e=>by cases e;exact .inl ⟨Nat.le_refl _,by simp⟩) (fun b e=>by cases e;exact hS)
  (fun _ e _=>by cases e) (fun _ _ _ _ e _ h=>by cases e;exact absurd h hm)
  (fun X=>⟨.inr rfl,.inr ⟨_,c,T,(0,0),ay _ _ _,hget,(fun i _ h=>by simp at h),(fun _=>hS),(fun e=>by cases e),hsz,hl,fun i hi=>(hx i hi).ext X.s X.keepS⟩⟩)
 refine ⟨_,⟨R,X,rfl,(b9 _ _ _).symm,fun n h=>?_⟩,?_⟩
 ·rcases h with h|h
  ·exact .inl h
  ·exact .inr ⟨by omega,by unfold KN;omega⟩
 ·simp only [aa]
  refine ⟨hh,.inr trivial,⟨_,_,_,rfl⟩,fun rw t' xs' hH=> .inr ⟨_,cap,c,T,(0,0),ay _ _ _,?_⟩⟩
  simp only [ay,Option.some.injEq] at hH
  cases hH
  exact ⟨rfl,hget,hcap,hlc⟩
theorem LL {B:Base} {E:Env} (hE:HRel B E) (m:Nat) (hm :¬ E.U m) (h0:Nat) (hh:E.U h0∨h0=m) (t:Ty) (a:Option Addr) :
  ∃ E',Good B E m [(h0,.row m true t [])] E.w E'∧aa E' (.osl h0 m) (.slice a 0 0):=by
 obtain ⟨R,X⟩:=jv hE h0 (.row m true t []) none E.w (fun n=>E.U n∨n=m) (fun n h=> .inl h) hh
  ((Keeps.refl E.w _)) (fun b e=>by cases e) (fun b e=>by cases e) (fun _ e _=>by cases e) (fun _ _ _ _ e _ h=>by cases e;exact absurd h hm)
  (fun X=>⟨.inr rfl,.inl ⟨ay _ _ _,rfl⟩⟩)
 refine ⟨_,⟨R,X,rfl,(b9 _ _ _).symm,fun n h=>?_⟩,?_⟩
 ·rcases h with h|h
  ·exact .inl h
  ·exact .inr ⟨by omega,by unfold KN;omega⟩
 ·simp only [aa]
  exact ⟨hh,.inr trivial,⟨_,_,_,rfl⟩,fun _ _ _ _=> .inl ⟨ay _ _ _,a,rfl⟩⟩
theorem fT {B:Base} {E:Env} {w1:World} {m:Nat} {dh:List (Nat×Blk)} {w':World} {E':Env} (X:Ext E { E with w:=w1 }) (G:Good B { E with w:=w1 } m dh w' E'):Good B E m dh w' E':=
 ⟨G.rel,X.trans G.ext,G.w,G.h,G.u⟩
theorem uQ {t:Ty} {S:Nat→Prop} {w:World} {xs ys:List (Den t)} {l0:List Value} (h0:l0.length=xs.length*sz t) {l:List Value} (hx :∀ (i:Nat) (h:i<xs.length),Rd S w t xs[i] ((l0.drop (i*sz t)).take (sz t)))
  (hy :∀ (i:Nat) (h:i<ys.length),Rd S w t ys[i] ((l.drop (i*sz t)).take (sz t))) (i:Nat) (h:i <(xs++ys).length):Rd S w t (xs++ys)[i] (((l0++l).drop (i*sz t)).take (sz t)):=by
 by_cases hi:i<xs.length
 ·rw [List.getElem_append_left hi]
  have hm :(i+1)*sz t≤xs.length*sz t:=Nat.mul_le_mul_right _ hi
  rw [Nat.add_mul] at hm
  rw [List.drop_append_of_le_length (by omega),List.take_append_of_le_length (by simp;omega)]
  exact hx i hi
 ·have hi':i - xs.length<ys.length:=by simp at h;omega
  rw [List.getElem_append_right (by omega)]
  obtain ⟨d,rfl⟩ :∃ d,i=xs.length+d:=⟨i - xs.length,by omega⟩
  have e :((l0++l).drop ((xs.length+d)*sz t))=l.drop (d*sz t):=by
   rw [Nat.add_mul,←h0,List.drop_append,List.drop_eq_nil_of_le (by omega)]
   simp
  rw [e]
  have:=hy d (by omega)
  simpa using this
theorem rO {B:Base} {E:Env} (hE:HRel B E) {tb:Tbl} (hT:cE P tb) {tS tX:TypeId} {tdS tdX:TD} (hS:TDok P tS tdS) (hX:TDok P tX tdX) (hkX:AppK tdX) (m:Nat) (hm :¬ E.U m) {s x:V} {sv xv:Value}
  (hs:aa E s sv) (hx:aa E x xv) (ty:TypeId) {ps:List Ob} {v:V} {dh:List (Nat×Blk)} (h:jJ tb tdS E.H m s x = .val ps v dh) (hps :∀ p∈ps,p.holds) :
  ∃ v' w' E',(Builtin.append_ #[tS,tX] ty #[sv,xv]).run P E.w = .ok v' w'∧Good B E m dh w' E'∧aa E' v v':=by
 unfold jJ at h
 split at h
 case h_2=>cases h
 rename_i e hk
 split at h
 case h_2=>cases h
 rename_i te hte0
 have hte:=hT _ _ hte0
 split at h
 case h_2=>cases h
 rename_i t ht
 split at h
 case isFalse=>cases h
 rename_i hc
 obtain ⟨c1,c2,c3,c4⟩:=hc
 split at h
 case h_2=>cases h
 rename_i ys hys
 obtain ⟨a,cap,l,src⟩:=xA (P:=P) hE hx hys
 obtain ⟨R0,X0⟩:=tZ hE E.w.drew rfl rfl rfl rfl
 have hsmall :∀ n,n*te.bytes≤70368744177664→n≤aP:=fun n hn=>by
  have:n*1≤n*te.bytes:=Nat.mul_le_mul_left _ c2
  unfold aP
  omega
 have onto :∀ (h0:Nat) (hh:E.U h0∨h0=m) (base:Option Addr),ys.length*te.bytes≤70368744177664→sv = .slice base 0 0→
   ∃ v' w' E',(Builtin.append_ #[tS,tX] ty #[sv,xv]).run P E.w = .ok v' w'∧Good B E m [(h0,.row m true t ys)] w' E'∧aa E' (.osl h0 m) v':=fun h0 hh base hp esv=>by
  subst esv
  rcases Nat.eq_zero_or_pos ys.length with hz|hz
  ·have hy0:ys=[]:=List.eq_nil_of_length_eq_zero hz
   have hl0:l=[]:=List.eq_nil_of_length_eq_zero (by rw [src.len,hz,Nat.zero_mul])
   obtain ⟨E',G,hv⟩:=LL hE m hm h0 hh t base
   have hrun:=eJ hS hX hk hkX hte c1 src.toSrcC base 0 0 (by omega) ty E.w (fun a' _=>by rw [hl0];rfl) (fun _=>rfl)
   rw [hz] at hrun
   subst hy0
   exact ⟨_,_,E',hrun,G,hv⟩
  ·have hold :∀ (w:World),w.heap=E.w.heap→(Builtin.firstCells (sz t) 0 (.slice base 0 0)).run P w = .ok ([]:List Value).toArray w:=fun w _=>by
    cases base with
    | none=>simp [Builtin.firstCells]
    | some a=>simpa [Builtin.firstCells] using run_loadCells_list (P:=P) w a [] (fun j v hj=>by simp at hj)
   obtain ⟨nc,c,g1,g2,g3,g4⟩:=dX hE hS hX hk hkX hte c1 c4 c2 c3 src.toSrcC base 0 0 [] (by simp) hold (by omega) (by rw [Nat.zero_add];exact hp) ty
   simp only [Nat.zero_add,List.nil_append] at g1 g3 g4
   have hrd :∀ (i:Nat) (h:i<ys.length),Rd E.S E.w.drew t ys[i] (seg c (i*sz t) (sz t)):=fun i hi=>by
    have h1:=src.rd i hi
    rw [←g3] at h1
    have hm :(i+1)*sz t≤ys.length*sz t:=Nat.mul_le_mul_right _ hi
    rw [Nat.add_mul] at hm
    have e :((c.toList.take (ys.length*sz t)).drop (i*sz t)).take (sz t)=seg c (i*sz t) (sz t):=by
     simp only [seg,List.drop_take,List.take_take]
     congr 1
     omega
    rw [e] at h1
    exact h1.ext X0.s X0.keepS
   obtain ⟨E',G,hv⟩:=Fg R0 m hm h0 hh t ys c e nc g2 g1 (hsmall _ hp) hrd
   exact ⟨_,_,E',g4,fT X0 G,hv⟩
 split at h
 ·cases h
  simp only [aa] at hs
  exact onto m (.inr rfl) none (hps _ (List.mem_singleton.2 rfl)) hs
 ·cases h
  simp only [aa] at hs
  obtain ⟨b0,hs⟩:=hs
  exact onto m (.inr rfl) b0 (hps _ (List.mem_singleton.2 rfl)) hs
 ·rename_i hh ver
  split at h
  case h_2=>cases h
  rename_i ver' t' xs hH
  split at h
  case isFalse=>cases h
  rename_i e1
  subst e1
  split at h
  case isFalse=>cases h
  rename_i e2
  subst e2
  cases h
  have hp:=hps _ (List.mem_singleton.2 rfl)
  simp only [Ob.holds] at hp
  have hU:=hE.used _ _ hH
  rcases kG hE hH hs with ⟨h2,h3,b0,h4⟩ |⟨b,cap',c,T,fr,h3,h4,h5,h6,hcap,h7,h8,h9,h10,h11,h12⟩
  ·subst h3
   have:=onto hh (.inl hU) b0 (by simpa using hp) h4
   simpa using this
  ·by_cases hroom:xs.length+ys.length≤cap'
   ·
    have hbd:xs.length*sz t'+l.length≤c.size:=by
     rw [src.len,h6,←Nat.add_mul]
     exact Nat.mul_le_mul_right _ hroom
    obtain ⟨c',g1,g2⟩:=dG b l (xs.length*sz t') E.w c h5 hbd
    have hcs:c'.size=c.size:=by
     have:=congrArg List.length g2
     simp at this
     omega
    have hrun:=eJ hS hX hk hkX hte c1 src.toSrcC (some ⟨b,0,none⟩) xs.length cap' hroom ty (E.w.setCells b (xs.length*sz t') l) (fun a' ea=>by
     cases ea
     have:=run_storeCells_cells (P:=P) b (xs.length*sz t') l 0 E.w (fun j hj=>by rw [gl h5];simp;omega) (fun j hj=>mw h5 h7 (by omega)) src.one
     rw [bK]
     simpa using this) (fun en=>by cases en)
    obtain ⟨R,X⟩:=jv hE hh (.row m true t' (xs++ys)) (some b) (E.w.setCells b (xs.length*sz t') l) (fun n=>E.U n∨n=m) (fun n h=> .inl h) (.inl hU)
     (dc b (fun b1=>some b=some b1) rfl _ _ _) (fun b1 e=>by cases e;exact .inr ⟨h3,_,hH,rfl⟩) (fun b1 e=>by cases e;exact h8 rfl)
     (fun _ e _=>by cases e) (fun _ _ _ _ e _ h=>by cases e;exact absurd h hm)
     (fun X=>⟨.inr rfl,.inr ⟨b,c',T,fr,ay _ _ _,g1,iP h7 hcs,fun _=>h8 rfl,(fun e=>by cases e),by
      rw [hcs,h6,List.length_append];exact Nat.mul_le_mul_right _ hroom,by rw [List.length_append];exact hsmall _ hp,fun i hi=>by
       have key:Rd E.S E.w t' (xs++ys)[i] ((((c.toList.take (xs.length*sz t'))++l).drop (i*sz t')).take (sz t')):=by
        refine uQ (by simp;omega) (fun j hj=>?_) src.rd i hi
        have h1:=h12 j hj
        have hm :(j+1)*sz t'≤xs.length*sz t':=Nat.mul_le_mul_right _ hj
        rw [Nat.add_mul] at hm
        have e :((c.toList.take (xs.length*sz t')).drop (j*sz t')).take (sz t')=seg c (j*sz t') (sz t'):=by
         simp only [seg,List.drop_take,List.take_take]
         congr 1
         omega
        rw [e];exact h1
       have hi2 :(i+1)*sz t'≤(xs.length+ys.length)*sz t':=Nat.mul_le_mul_right _ (by rw [List.length_append] at hi;exact hi)
       rw [Nat.add_mul,Nat.add_mul] at hi2
       have e:seg c' (i*sz t') (sz t') =(((c.toList.take (xs.length*sz t'))++l).drop (i*sz t')).take (sz t'):=by
        unfold seg
        rw [g2]
        have hlen :(c.toList.take (xs.length*sz t')++l).length =(xs.length+ys.length)*sz t':=by
         simp [src.len,Nat.add_mul];omega
        rw [List.drop_append_of_le_length (by rw [hlen,Nat.add_mul];omega),List.take_append_of_le_length (by rw [List.length_drop,hlen,Nat.add_mul];omega)]
       show Rd E.S (E.w.setCells b (xs.length*sz t') l) t' (xs++ys)[i] (seg c' (i*sz t') (sz t'))
       rw [e]
       exact key.ext X.s X.keepS⟩⟩)
    refine ⟨_,_,_,by rw [h4];exact hrun,⟨R,X,rfl,(b9 _ _ _).symm,fun n h=>?_⟩,?_⟩
    ·rcases h with h|h
     ·exact .inl h
     ·exact .inr ⟨by omega,by unfold KN;omega⟩
    ·simp only [aa]
     refine ⟨.inl hU,.inr trivial,⟨_,_,_,rfl⟩,fun rw t2 xs2 hH2=> .inr ⟨b,cap',c',T,fr,ay _ _ _,?_⟩⟩
     simp only [ay,Option.some.injEq] at hH2
     cases hH2
     exact ⟨by rw [List.length_append],g1,by rw [hcs];exact h6,by rw [List.length_append];exact hroom⟩
   ·
    have hl0 :(seg c 0 (xs.length*sz t')).length=xs.length*sz t':=rj _ _ _ (by omega)
    obtain ⟨nc,c',g1,g2,g3,g4⟩:=dX hE hS hX hk hkX hte c1 c4 c2 c3 src.toSrcC (some ⟨b,0,none⟩) xs.length cap' (seg c 0 (xs.length*sz t')) hl0 (fun w hw=>by
     have hbw:w.heap[b]?=some (.cells c T fr):=by rw [hw];exact h5
     have:=run_loadCells_list (P:=P) w ⟨b,0,none⟩ (seg c 0 (xs.length*sz t')) (fun j v hj=>by
      rw [bK,gl hbw]
      rw [kJ] at hj
      split at hj
      ·exact hj
      ·cases hj)
     rw [hl0] at this
     simpa [Builtin.firstCells] using this) (by omega) hp ty
    have hrd :∀ (i:Nat) (h:i <(xs++ys).length),Rd E.S E.w.drew t' (xs++ys)[i] (seg c' (i*sz t') (sz t')):=fun i hi=>by
     have key:Rd E.S E.w t' (xs++ys)[i] (((seg c 0 (xs.length*sz t')++l).drop (i*sz t')).take (sz t')):=by
      refine uQ hl0 (fun j hj=>?_) src.rd i hi
      have h1:=h12 j hj
      have hm :(j+1)*sz t'≤xs.length*sz t':=Nat.mul_le_mul_right _ hj
      rw [Nat.add_mul] at hm
      have e :((seg c 0 (xs.length*sz t')).drop (j*sz t')).take (sz t')=seg c (j*sz t') (sz t'):=by
       simp only [seg,List.drop_zero,List.drop_take,List.take_take]
       congr 1
       omega
      rw [e];exact h1
     rw [←g3] at key
     have hi2 :(i+1)*sz t'≤(xs.length+ys.length)*sz t':=Nat.mul_le_mul_right _ (by rw [List.length_append] at hi;exact hi)
     rw [Nat.add_mul] at hi2
     have e :((c'.toList.take ((xs.length+ys.length)*sz t')).drop (i*sz t')).take (sz t')=seg c' (i*sz t') (sz t'):=by
      simp only [seg,List.drop_take,List.take_take]
      congr 1
      omega
     rw [e] at key
     exact key.ext X0.s X0.keepS
    obtain ⟨E',G,hv⟩:=Fg R0 m hm hh (.inl hU) t' (xs++ys) c' e nc g2 (by rw [List.length_append];exact g1) (by rw [List.length_append];exact hsmall _ hp) hrd
    refine ⟨_,_,E',by rw [h4];exact g4,fT X0 G,?_⟩
    rw [List.length_append] at hv
    exact hv
 ·cases h
end Go.Mir
namespace Go.Mir
open Go.RowKit
variable {P:Program}
theorem AA {α:Type} (a:Array α) (x:α) (f:α→α) :(a.push x).modify a.size f=a.push (f x):=by
 apply Array.ext
 ·simp
 ·intro i h1 h2
  simp only [Array.getElem_modify,Array.getElem_push]
  by_cases h:i<a.size
  ·have :¬ a.size=i:=by omega
   simp [h,this]
  ·have:a.size=i:=by simp at h1;omega
   simp [this]
theorem qh (w:World) (c:Array Value) (T:TypeId) :
  World.freeze { w with heap:=w.heap.push (.cells c T (0,0)) } ⟨w.heap.size,c.size,none⟩ 1={ w with heap:=w.heap.push (.cells c T (c.size,c.size+1)) }:=by
 unfold World.freeze
 rw [if_neg (by decide)]
 simp only [AA]
 rfl
theorem C0 {B:Base} {E:Env} (hE:HRel B E) (m:Nat) (hm :¬ E.U m) (t:Ty) (xs:List (Den t)) (c:Array Value) (T:TypeId) (cap:Nat) (hcap:c.size=cap*sz t) (hlc:xs.length≤cap) (hl:xs.length≤aP)
  (hx :∀ (i:Nat) (h:i<xs.length),Rd E.S E.w t xs[i] (seg c (i*sz t) (sz t))) :
  ∃ E',Good B E m [(m,.row m true t xs)] { E.w with heap:=E.w.heap.push (.cells c T (c.size,c.size+1)) } E'∧aa E' (.osl m m) (.slice (some ⟨E.w.heap.size,0,none⟩) xs.length cap):=by
 have hsz:xs.length*sz t≤c.size:=by rw [hcap];exact Nat.mul_le_mul_right _ hlc
 have hS :¬ E.S E.w.heap.size:=fun h=>Nat.lt_irrefl _ (hE.stab _ h)
 have hget :(E.w.heap.push (.cells c T (c.size,c.size+1)))[E.w.heap.size]?=some (.cells c T (c.size,c.size+1)):=by simp
 obtain ⟨R,X⟩:=jv hE m (.row m true t xs) (some E.w.heap.size) { E.w with heap:=E.w.heap.push (.cells c T (c.size,c.size+1)) } (fun n=>E.U n∨n=m) (fun n h=> .inl h) (.inr rfl)
  ⟨rfl,rfl,rfl,by simp,fun b hb' _=>Below.heap_alloc E.w _ b hb'⟩ (fun b e=>by cases e;exact .inl ⟨Nat.le_refl _,by simp⟩) (fun b e=>by cases e;exact hS)
  (fun _ e _=>by cases e) (fun _ _ _ _ e _ h=>by cases e;exact absurd h hm)
  (fun X=>⟨.inr rfl,.inr ⟨_,c,T,(c.size,c.size+1),ay _ _ _,hget,(fun i hi h=>by have:=h.1;simp at this;omega),(fun _=>hS),(fun e=>by cases e),hsz,hl,fun i hi=>(hx i hi).ext X.s X.keepS⟩⟩)
 refine ⟨_,⟨R,X,rfl,(b9 _ _ _).symm,fun n h=>?_⟩,?_⟩
 ·rcases h with h|h
  ·exact .inl h
  ·exact .inr ⟨by omega,by unfold KN;omega⟩
 ·simp only [aa]
  refine ⟨.inr trivial,.inr trivial,⟨_,_,_,rfl⟩,fun rw t' xs' hH=> .inr ⟨_,cap,c,T,(c.size,c.size+1),ay _ _ _,?_⟩⟩
  simp only [ay,Option.some.injEq] at hH
  cases hH
  exact ⟨rfl,hget,hcap,hlc⟩
theorem uv {B:Base} {E:Env} (hE:HRel B E) {tb:Tbl} (hT:cE P tb) {s d:TypeId} {ts td:TD} (hs:TDok P s ts) (hd:TDok P d td) (m:Nat) (hm :¬ E.U m) {x:V} {xv:Value} (hx:aa E x xv) {ps:List Ob} {v:V} {dh:List (Nat×Blk)}
  (h:wV tb ts td m x = .val ps v dh) :∃ v' w' E',(convert s d xv).run P E.w = .ok v' w'∧Good B E m dh w' E'∧aa E' v v':=by
 have hsk:=hs.kind
 have hdk:=hd.kind
 unfold wV at h
 split at h
 case h_2=>cases h
 rename_i e str h1 h2
 split at h
 case h_2=>cases h
 rename_i te hte
 have hek:=(hT _ _ hte).kind
 split at h
 case h_2=>cases h
 rename_i h3
 cases h
 rw [h1] at hsk;rw [h2] at hdk;rw [h3] at hek
 simp only [aZ] at hsk hdk hek
 simp only [aa] at hx
 obtain ⟨rfl,hlen⟩:=hx
 obtain ⟨R0,X0⟩:=tZ hE E.w.drew rfl rfl rfl rfl
 generalize hq :(Question.appendCap str.size 0 e).cut (E.w.tape E.w.drawn (Question.appendCap str.size 0 e))=cap
 have hcap:str.size≤cap:=by rw [←hq];simp only [Question.cut];omega
 let c:Array Value:=(str.data.map fun b=>Value.int .u8 b.toNat)++Array.replicate (cap - str.size) (.int .u8 0)
 have hds:str.data.size=str.size:=ByteArray.size_data
 have hcs:c.size=cap*sz (.int .u8):=by simp [c,sz,hds];omega
 have hl :(aR str).length=str.size:=by simp [aR,hds]
 have hl1 :(aR str).length≤cap:=by rw [hl];exact hcap
 have hl2 :(aR str).length≤aP:=by rw [hl];exact hlen
 obtain ⟨E',G,hv⟩:=C0 R0 m hm (.int .u8) (aR str) c e cap hcs hl1 hl2 (fun i hi=>by
  have hi0:i <(aR str).length:=hi
  have hi':i<str.data.size:=by rw [hl] at hi0;omega
  have e1:seg c (i*sz (.int .u8)) (sz (.int .u8))=[Value.int .u8 (str.data[i].toNat:Int)]:=by
   simp only [seg,sz,Nat.mul_one,c,Array.toList_append,Array.toList_map]
   rw [List.drop_append_of_le_length (by simp;omega),List.take_append_of_le_length (by simp;omega),List.drop_eq_getElem_cons (by simp;omega)]
   simp
  rw [e1]
  have e2 :(aR str)[i]'hi0 =(str.data[i].toNat:Int):=by simp [aR]
  have e3:Rd E.S E.w.drew (.int .u8) ((str.data[i].toNat:Int):Den (.int .u8)) [Value.int .u8 (str.data[i].toNat:Int)]:= .int (II _)
  exact (congrArg (fun q:Int=>Rd E.S E.w.drew (.int .u8) q [Value.int .u8 (str.data[i].toNat:Int)]) e2).mpr e3)
 rw [show @List.length (Den (.int .u8)) (aR str)=str.size from hl] at hv
 refine ⟨_,_,E',?_,fT X0 G,hv⟩
 have hfd:Question.forced (Question.appendCap str.size 0 e)=false:=rfl
 have hns:E.w.drew.heap.size=E.w.heap.size:=rfl
 simp only [convert,Sem.run_bind,run_underlying hsk,run_underlying hdk,run_underlying hek,Result.andThen_ok,Conv.stringToBytes,run_choose,hfd,hq]
 simp only [Bool.false_eq_true,if_false,Result.andThen_ok,newRow,Sem.run_bind,run_newObj,Sem.run_pure,markStringish,run_shape]
 have hsh:World.shape? { E.w.drew with heap:=E.w.drew.heap.push (.cells c e (0,0)) } E.w.drew.heap.size=some (e,c.size):=by
  have hget :(E.w.drew.heap.push (.cells c e (0,0)))[E.w.drew.heap.size]?=some (.cells c e (0,0)):=Array.getElem?_push_size
  unfold World.shape?
  simp only [hget]
 have hfz:=qh E.w.drew c e
 simp only [World.drew] at hsh hfz ⊢
 simp only [c] at hsh hfz
 rw [hsh]
 simp only [Result.andThen_ok,run_freeze,Sem.run_pure]
 rw [hfz]
end Go.Mir
namespace Go.Mir
open Go.RowKit
variable {P:Program}
theorem memN_iff {l:List Nat} {i:Nat}:memN l i=true↔i∈l:=by
 induction l with
 | nil=>simp [memN]
 | cons k r ih=>simp only [memN,Bool.or_eq_true,ih,List.mem_cons,Nat.beq_eq];exact ⟨fun h=>h.imp Eq.symm id,fun h=>h.imp Eq.symm id⟩
theorem roL_cells {H:aO} {L:List Nat} {h:Nat} {cs:List V}:roL H L h=some (.cells cs)↔H h=some (.cells cs):=by
 unfold roL
 cases hx:H h with
 | none=>simp
 | some k=>cases k <;> simp
theorem rh {H:aO} {L:List Nat} {h ver:Nat} {rw':Bool} {t:Ty} {xs:List (Den t)} (hr:roL H L h=some (.row ver rw' t xs)) :∃ rw,H h=some (.row ver rw t xs)∧rw' =(bif memN L h then false else rw):=by
 unfold roL at hr
 cases hx:H h with
 | none=>rw [hx] at hr;cases hr
 | some k=>
  rw [hx] at hr
  cases k with
  | row ver rw t xs=>simp only [Option.some.injEq] at hr;cases hr;exact ⟨rw,rfl,rfl⟩
  | _=>cases hr
theorem tA {H:aO} {L:List Nat} {h ver esz:Nat} {cs:List V} (hr:roL H L h=some (.grow ver esz cs)):H h=some (.grow ver esz cs):=by
 unfold roL at hr
 split at hr
 ·cases hr
 ·exact hr
theorem C4 {H:aO} {L:List Nat} {h:Nat} {es:List (V×V)} (hr:roL H L h=some (.mp es)):H h=some (.mp es):=by
 unfold roL at hr
 split at hr
 ·cases hr
 ·exact hr
theorem xX {H:aO} {L:List Nat} {h k:Nat} {t:Ty} {x:Den t} (hr:roL H L h=some (.abs k t x)):H h=some (.abs k t x):=by
 unfold roL at hr
 split at hr
 ·cases hr
 ·exact hr
theorem oV {H:aO} {L:List Nat} {h:Nat} {k:Blk} (hr:roL H L h=some k) :∃ k0,H h=some k0∧∀ w b,pZ w k b=pZ w k0 b:=by
 cases k with
 | cells cs=>exact ⟨_,roL_cells.1 hr,fun _ _=>rfl⟩
 | row ver rw t xs=>obtain ⟨rw0,h1,_⟩:=rh hr;exact ⟨_,h1,fun _ _=>rfl⟩
 | grow ver esz cs=>exact ⟨_,tA hr,fun _ _=>rfl⟩
 | mp es=>exact ⟨_,C4 hr,fun _ _=>rfl⟩
 | abs k t x=>exact ⟨_,xX hr,fun _ _=>rfl⟩
theorem Jm {H:aO} {L:List Nat} {h:Nat} {k:Blk} (hr:roL H L h=some k) :∃ k0,H h=some k0:=by
 unfold roL at hr
 cases hx:H h with
 | none=>rw [hx] at hr;cases hr
 | some k=>exact ⟨k,rfl⟩
def QN (E:Env) (L:List Nat) (b:Nat):Prop:=∃ h,h∈L∧(∃ (ver:Nat) (rw:Bool) (t:Ty) (xs:List (Den t)),E.H h=some (.row ver rw t xs))∧E.ρ h=some b
def cc (E:Env) (L:List Nat):Env:=⟨E.U,E.ρ,fun b=>E.S b∨QN E L b,E.w,roL E.H L⟩
theorem cQ {B:Base} {E:Env} (hE:HRel B E) (L:List Nat):HRel B (cc E L)∧Ext E (cc E L):=by
 have X:Ext E (cc E L):=by
  refine ⟨fun _ h=>h,fun _ h=> .inl h,fun _ _=>rfl,fun h cs _ hx=>⟨⟨cs,roL_cells.1 hx⟩,rfl⟩,fun h ver rw' t xs _ _ hx=>?_,fun h ver esz cs _ _ hx=>⟨cs,tA hx,rfl,rfl,fun b c T fr _ hw=>⟨c,T,fr,hw,rfl⟩⟩,fun h es _ hx=>⟨⟨es,C4 hx⟩,rfl⟩,fun h k t x _ hx=>⟨⟨x,xX hx⟩,rfl⟩⟩
  obtain ⟨rw,h1,_⟩:=rh hx
  exact ⟨rw,xs,h1,rfl,rfl,fun b c T fr _ hw=>⟨c,T,fr,hw,rfl⟩⟩
 refine ⟨⟨fun h b hx=>?_,fun b hs=>?_,fun h k b hx hb=>?_,fun h1 h2 k1 k2 b x1 x2 b1 b2=>?_,fun h k hx=>?_,hE.keeps,fun h k b hx hb=>?_,fun b hs=> .inl (hE.s0 b hs),fun b hs=>?_⟩,X⟩
 ·obtain ⟨k0,h1⟩:=Jm hx;exact hE.used _ _ h1
 ·rcases hs with hs |⟨h,_,⟨ver,rw,t,xs,hx⟩,hb⟩
  ·exact hE.stab b hs
  ·exact hE.lt _ _ _ hx hb
 ·obtain ⟨k0,h1,h2⟩:=oV hx;exact hE.lt' _ _ _ h1 (hb.imp id fun ⟨b0,c1,c2⟩=>⟨b0,c1,by rw [←h2];exact c2⟩)
 ·obtain ⟨_,y1,z1⟩:=oV x1
  obtain ⟨_,y2,z2⟩:=oV x2
  exact hE.inj' _ _ _ _ _ y1 y2 (b1.imp id fun ⟨b0,c1,c2⟩=>⟨b0,c1,by rw [←z1];exact c2⟩) (b2.imp id fun ⟨b0,c1,c2⟩=>⟨b0,c1,by rw [←z2];exact c2⟩)
 ·have notS :∀ k0 b,E.H h=some k0→(∀ (ver:Nat) (rw:Bool) (t:Ty) (xs:List (Den t)),k0 = .row ver rw t xs→h∉L)→Tch E h k0 b→¬ E.S b→¬(cc E L).S b:=fun k0 b hk hnot hb hs hs'=>by
   rcases hs' with hs' |⟨h2,hm,⟨ver,rw,t,xs,hx2⟩,hb2⟩
   ·exact hs hs'
   ·have:=hE.inj' _ _ _ _ _ hk hx2 hb (.inl hb2)
    subst this
    rw [hk] at hx2
    exact hnot _ _ _ _ (Option.some.inj hx2) hm
  cases k with
  | cells cs=>
   have h0:=roL_cells.1 hx
   exact cL X rfl (fun _ _=>rfl) (fun b hb _ hs=>notS _ b h0 (fun _ _ _ _ e=>by cases e) hb hs) (hE.blk _ _ h0)
  | grow ver esz cs=>
   have h0:=tA hx
   exact cL X rfl (fun _ _=>rfl) (fun b hb _ hs=>notS _ b h0 (fun _ _ _ _ e=>by cases e) hb hs) (hE.blk _ _ h0)
  | abs kk t x=>
   have h0:=xX hx
   exact cL X rfl (fun _ _=>rfl) (fun b hb _ hs=>notS _ b h0 (fun _ _ _ _ e=>by cases e) hb hs) (hE.blk _ _ h0)
  | mp es=>
   have h0:=C4 hx
   exact cL X rfl (fun _ _=>rfl) (fun b hb _ hs=>notS _ b h0 (fun _ _ _ _ e=>by cases e) hb hs) (hE.blk _ _ h0)
  | row ver rw' t xs=>
   obtain ⟨rw,h0,e⟩:=rh hx
   obtain ⟨hu,hk⟩:=hE.blk _ _ h0
   refine ⟨hu,?_⟩
   rcases hk with ⟨k1,k2⟩ |⟨b,c,T,fr,k1,k2,k3,k4,k5,k6,k7,k8⟩
   ·exact .inl ⟨k1,k2⟩
   ·refine .inr ⟨b,c,T,fr,k1,k2,k3,fun e'=>?_,fun e'=>?_,k6,k7,fun i hi=>(k8 i hi).ext X.s X.keepS⟩
    ·cases hm:memN L h with
     | true=>rw [hm] at e;simp only [cond_true] at e;rw [e] at e';cases e'
     | false=>
      rw [hm] at e;simp only [cond_false] at e
      exact notS _ b h0 (fun _ _ _ _ _ hl=>by rw [memN_iff.2 hl] at hm;cases hm) (.inl k1) (k4 (by rw [←e];exact e'))
    ·cases hm:memN L h with
     | true=>exact .inr ⟨h,memN_iff.1 hm,⟨ver,rw,t,xs,h0⟩,k1⟩
     | false=>
      rw [hm] at e;simp only [cond_false] at e
      exact .inl (k5 (by rw [←e];exact e'))
 ·obtain ⟨k0,h1,h2⟩:=oV hx;exact hE.own' _ _ _ h1 (hb.imp id fun ⟨b0,c1,c2⟩=>⟨b0,c1,by rw [←h2];exact c2⟩)
 ·rcases hs with hs |⟨h,_,⟨ver,rw,t,xs,hx⟩,hb⟩
  ·exact hE.sb b hs
  ·exact .inr (hE.own _ _ _ hx hb)
theorem kq (H:aO) (L:List Nat) (h:Nat):aJ H (eG H L) h=roL H L h:=by
 have key:find (eG H L) h=if h∈L then (match H h with|some (.row ver _ t xs)=>some (.row ver false t xs)|_=>none) else none:=by
  induction L with
  | nil=>simp [eG,find]
  | cons x L ih=>
   by_cases hx:x=h
   ·subst hx
    simp only [List.mem_cons,true_or,if_true]
    cases hH:H x with
    | none=>simp only [eG,hH];rw [ih];simp [hH]
    | some k=>
     cases k with
     | row ver rw t xs=>simp [eG,hH,find]
     | _=>simp only [eG,hH];rw [ih];simp [hH]
   ·have hmem:h∈x::L↔h∈L:=by simp [Ne.symm hx]
    have hs:find (eG H (x::L)) h=find (eG H L) h:=by
     cases hH:H x with
     | none=>simp only [eG,hH]
     | some k=>
      cases k with
      | row ver rw t xs=>
       simp only [eG,hH,find]
       cases hb:Nat.beq x h with
       | true=>exact absurd (Nat.eq_of_beq_eq_true hb) hx
       | false=>rfl
      | _=>simp only [eG,hH]
    rw [hs,ih]
    simp only [hmem]
 unfold aJ roL
 rw [key]
 by_cases hm:h∈L
 ·rw [if_pos hm]
  cases hH:H h with
  | none=>rfl
  | some k=>
   cases k with
   | row ver rw t xs=>simp [memN_iff.2 hm]
   | _=>rfl
 ·rw [if_neg hm]
  have hf:memN L h=false:=by cases hx:memN L h with|true=>exact absurd (memN_iff.1 hx) hm|false=>rfl
  cases hH:H h with
  | none=>rfl
  | some k=>
   cases k with
   | row ver rw t xs=>simp [hf]
   | _=>rfl
theorem ow (H:aO) (l r:List (Nat×Blk)):aJ H (l++r)=aJ (aJ H r) l:=by
 have key :∀ (l r:List (Nat×Blk)) (i:Nat),find (l++r) i=match find l i with|some v=>some v|none=>find r i:=fun l r i=>by
  induction l with
  | nil=>rfl
  | cons x l ih=>
   obtain ⟨k,v⟩:=x
   simp only [List.cons_append,find]
   cases Nat.beq k i with
   | true=>rfl
   | false=>simpa using ih
 funext h
 simp only [aJ,key]
 cases find l h <;> rfl
theorem A3 {E E':Env} (X:Ext E E') :∀ {parts:List (Nat×V)} {pv:List (Nat×Value)},mY E parts pv→mY E' parts pv
 | [],[],_=>trivial
 | _::_,[],h=>by simp [mY] at h
 | [],_::_,h=>by simp [mY] at h
 | _::_,_::_,h=>⟨h.1,cd X _ _ h.2.1,A3 X h.2.2⟩
theorem mT {B:Base} {E:Env} (hE:HRel B E) {tb:Tbl} (hT:cE P tb) {t:TypeId} {td:TD} (ht:TDok P t td) (m:Nat) (hm :¬ E.U m) {n:Nat} {parts:List (Nat×V)} {pv:Array (Nat×Value)} (hp:mY E parts pv.toList)
  {ps:List Ob} {v:V} {dh:List (Nat×Blk)} (h:jz tb td E.H m n parts = .val ps v dh) :∃ v' w' E',(Instr.buildSlice t n pv).run P E.w = .ok v' w'∧Good B E m dh w' E'∧aa E' v v':=by
 unfold jz at h
 split at h
 case h_2=>exact ix hE hT ht m hm hp h
 cases he:O5 tb td with
 | false=>rw [he] at h;cases h
 | true=>
  rw [he] at h
  simp only [cond_true] at h
  unfold qb at h
  split at h
  ·rename_i ps' v0 dh' hb
   cases h
   obtain ⟨R,X⟩:=cQ hE (hss (parts.map (·.2)))
   obtain ⟨v',w',E',h1,G,h3⟩:=ix (E:=cc E (hss (parts.map (·.2)))) R hT ht m hm (A3 X hp) (n:=n) (show fq tb td (cc E (hss (parts.map (·.2)))).H m n parts = .val ps v dh' from hb)
   refine ⟨v',w',E',h1,⟨G.rel,X.trans G.ext,G.w,?_,G.u⟩,h3⟩
   rw [G.h,ow]
   congr 1
   funext k
   exact (kq E.H _ k).symm
  ·rename_i hne
   exact absurd h (hne _ _ _)
end Go.Mir
namespace Go.Mir
open Go.RowKit
variable {P:Program}
theorem gi {E:Env} {α:Type} (f:α→V) (g:α→Value) (h :∀ x,aa E (f x) (g x)) :∀ l:List α,ae E (l.map f) (l.map g)
 | []=>by simp [ae]
 | x::l=>by simp only [List.map_cons,ae];exact ⟨h x,gi f g h l⟩
structure GBlk (E:Env) (h esz off len:Nat) (cs:List V) (v:Value) (b cap:Nat) (c:Array Value) (T:TypeId) (fr:Nat×Nat):Prop where
 at_:E.ρ h=some b
 val:v = .slice (some ⟨b,off*esz,none⟩) len cap
 blk:E.w.heap[b]?=some (.cells c T fr)
 room :(off+cap)*esz≤c.size
 fits:len≤cap
 known :(off+len)*esz≤cs.length
 frz:oQ fr c.size
 S :¬ E.S b
 rel:ae E cs (c.toList.take cs.length)
 le:cs.length≤c.size
theorem zR {f:Nat→Option (Nat×Nat)} :∀ {parts:List (Nat×V)} {cs cs':List V},lE f cs parts=some cs'→cs'.length=cs.length
 | [],cs,cs',h=>by simp only [lE,Option.some.injEq] at h;rw [h]
 |(i,v)::ps,cs,cs',h=>by
  simp only [lE] at h
  split at h
  case h_2=>cases h
  split at h
  case h_2=>cases h
  split at h
  case isFalse=>cases h
  split at h
  case isFalse=>cases h
  rename_i h2
  rw [zR h]
  unfold iY
  simp
  omega
theorem mA {B:Base} {E:Env} (hE:HRel B E) {h ver esz off len:Nat} {cs:List V} (hH:E.H h=some (.grow ver esz cs)) {v:Value} (hv:aa E (.gsl h ver esz off len) v) :
  ∃ b cap c T fr,GBlk E h esz off len cs v b cap c T fr:=by
 simp only [aa] at hv
 obtain ⟨b,cap,c,T,fr,h1,h2,h3,h4,h5,h6⟩:=hv.2.2.2 _ hH
 obtain ⟨_,b',c',T',fr',k1,k2,k3,k4,k5⟩:=hE.blk _ _ hH
 rw [h1] at k1;cases k1
 rw [h3] at k2;cases k2
 have:=aY k5
 simp only [List.length_take,Array.length_toList] at this
 exact ⟨b,cap,c,T,fr,h1,h2,h3,h4,h5,h6,k3,k4,k5,by omega⟩
theorem uz {B:Base} {E:Env} (hE:HRel B E) {t:TypeId} {td:TD} (ht:TDok P t td) {a:V} {av:Value} (ha:aa E a av) {ps:List Ob} {v:V} {dh:List (Nat×Blk)} (h:ji td E.H a = .val ps v dh) :
  dh=[]∧∃ v',(Instr.loadAt t av).run P E.w = .ok v' E.w∧aa E v v':=by
 unfold ji at h
 split at h
 ·rename_i hh ver off
  split at h
  case h_2=>cases h
  rename_i ver' esz cs hH
  split at h
  case isFalse=>cases h
  rename_i e
  subst e
  simp only [aa] at ha
  obtain ⟨_,b,c,T,fr,k1,k2,k3,k4,k5⟩:=hE.blk _ _ hH
  obtain ⟨b',hb',rfl⟩:=ha.2.2.2 _ _ hH
  rw [k1] at hb';cases hb'
  have hl:=aY k5
  simp only [List.length_take,Array.length_toList] at hl
  have:=oH ht k2 (p:=0) (n:=cs.length) (by omega) (by simpa [seg] using k5) h
  simpa [Instr.loadAt,Instr.sureAddr] using this
 ·exact og hE ht ha h
theorem iB {B:Base} {E:Env} (hE:HRel B E) {t:TypeId} {td:TD} (ht:TDok P t td) {a x:V} {av xv:Value} (ha:aa E a av) (hx:aa E x xv) (m:Nat) {ps:List Ob} {dh:List (Nat×Blk)} (h:iA td E.H a x = .skip ps dh) :
  ∃ w' E',(Instr.storeAt t av xv).run P E.w = .ok () w'∧Good B E m dh w' E':=by
 unfold iA at h
 split at h
 ·rename_i hh ver off
  split at h
  case h_2=>cases h
  rename_i xs hxs
  split at h
  case isFalse=>cases h
  rename_i hlen
  obtain ⟨hlen,hone⟩:=hlen
  split at h
  case h_2=>cases h
  rename_i ver' esz cs hH
  split at h
  case isFalse=>cases h
  rename_i hsz
  obtain ⟨e,hsz⟩:=hsz
  subst e
  cases h
  have hvs:=cA hx hxs
  have hvl:xv.cells.toList.length=td.size:=by rw [←aY hvs];exact hlen
  have hvl':xv.cells.size=td.size:=by simpa using hvl
  have h1c:=qQ hone hvs
  simp only [aa] at ha
  obtain ⟨hU,b,c,T,fr,h1,h2,h3,h4,h5⟩:=hE.blk _ _ hH
  obtain ⟨b',hb',rfl⟩:=ha.2.2.2 _ _ hH
  rw [h1] at hb';cases hb'
  have hl:=aY h5
  simp only [List.length_take,Array.length_toList] at hl
  have run :(Instr.storeAt t (.pointer (some ⟨b,off,none⟩)) xv).run P E.w = .ok () (E.w.setCells b off xv.cells.toList):=by
   have:=run_storeCells_cells (P:=P) b off xv.cells.toList 0 E.w (fun j hj=>by rw [gl h2];simp;omega) (fun j hj=>mw h2 h3 (by omega)) h1c
   simp only [Instr.storeAt,Instr.sureAddr,storeVar,Sem.run_bind,Sem.run_pure,Result.andThen_ok,ht.sizeOf,hvl',ne_eq,not_true_eq_false,if_false,this,Nat.add_zero]
  obtain ⟨c',g1,g2⟩:=dG b xv.cells.toList off E.w c h2 (by omega)
  have hcs:c'.size=c.size:=by
   have:=congrArg List.length g2
   simp at this
   omega
  have hsl :(iY cs off xs).length=cs.length:=by
   unfold iY;simp;omega
  obtain ⟨R,X⟩:=jv hE hh (.grow ver esz (iY cs off xs)) (some b) (E.w.setCells b off xv.cells.toList) E.U (fun _ h=>h) (hE.used _ _ hH)
   (dc b (fun b1=>some b=some b1) rfl _ _ _) (fun b1 e=>by cases e;exact .inr ⟨h1,_,hH,rfl⟩) (fun b1 e=>by cases e;exact h4) (fun _ e _=>by cases e) (fun _ _ _ _ e=>by cases e)
   (fun X=>⟨hU,b,c',T,fr,ay _ _ _,g1,iP h3 hcs,h4,by
    rw [g2,hsl]
    have h6:=ic (bc X _ _ h5) (bc X _ _ hvs) off
    have e :(c.toList.take off++xv.cells.toList++c.toList.drop (off+xv.cells.toList.length)).take cs.length =(c.toList.take cs.length).take off++xv.cells.toList ++(c.toList.take cs.length).drop (off+xv.cells.toList.length):=by
     have e1 :(c.toList.take off++xv.cells.toList).length=off+td.size:=by simp only [List.length_append,List.length_take,Array.length_toList,hvl];omega
     rw [List.take_append,List.take_of_length_le (by rw [e1];exact hsz),e1,List.take_take,Nat.min_eq_left (by omega),hvl]
     congr 1
     rw [List.drop_take]
    rw [e]
    exact h6⟩)
   (fun ver2 esz2 cs2 e _ _=>by
    cases e
    exact ⟨cs,hH,hsl.symm,h1.symm,fun b2 c2 T2 fr2 hb2 hw2=>by
     rw [h1] at hb2;cases hb2
     rw [h2] at hw2;cases hw2
     exact ⟨c',T,fr,g1,hcs⟩⟩)
  exact ⟨_,_,run,R,X,rfl,(b9 _ _ _).symm,fun _ h=> .inl h⟩
 ·exact uD hE ht ha hx m h
theorem rS {E:Env} {tb:Tbl} (hT:cE P tb) {t:TypeId} {td:TD} (ht:TDok P t td) {x:V} {xv:Value} (hx:aa E x xv) {f:Nat} {ps:List Ob} {v:V} {dh:List (Nat×Blk)}
  (h:rR tb td x f = .val ps v dh):dh=[]∧∃ v',(Instr.fieldAt t xv f).run P E.w = .ok v' E.w∧aa E v v':=by
 unfold rR at h
 split at h
 ·rename_i hh ver off
  split at h
  case h_2=>cases h
  rename_i fs hk
  have hkd:=ht.kind
  rw [hk] at hkd
  obtain ⟨fields,hu,hfs⟩:=hkd
  split at h
  case h_2=>cases h
  rename_i o ft hf
  obtain ⟨fl,h1,h2,h3⟩:=kM hfs hf
  split at h
  case h_2=>cases h
  rename_i tf htf
  have htf':=hT _ _ htf
  split at h
  case isTrue=>cases h
  rename_i hsz
  cases h
  have run' :∀ (a:Addr),(Instr.fieldAt t (.pointer (some a)) f).run P E.w = .ok (.pointer (some (a.add o))) E.w:=fun a=>by
   simp [Instr.fieldAt,run_underlying hu,h1,Instr.sureAddr,fieldPlace,h3,htf'.sizeOf,hsz,h2]
  refine ⟨rfl,?_⟩
  simp only [aa] at hx ⊢
  obtain ⟨a,rfl⟩:=hx.2.2.1
  refine ⟨_,run' a,hx.1,hx.2.1,⟨_,rfl⟩,fun esz cs hcs=>?_⟩
  obtain ⟨b,hb,he⟩:=hx.2.2.2 _ _ hcs
  cases he
  exact ⟨b,hb,by rw [bK]⟩
 ·exact uw hT ht hx h
theorem rY {B:Base} {E:Env} (hE:HRel B E) {tb:Tbl} (hT:cE P tb) {t:TypeId} {td:TD} (ht:TDok P t td) {x i:V} {xv iv:Value} (hx:aa E x xv) (hi:aa E i iv) {ps:List Ob} {v:V} {dh:List (Nat×Blk)}
  (h:iy tb td E.H x i = .val ps v dh) (hps :∀ p∈ps,p.holds):dh=[]∧∃ v',(Instr.indexAt t xv iv).run P E.w = .ok v' E.w∧aa E v v':=by
 unfold iy at h
 have hkd:=ht.kind
 split at h
 ·rename_i hh ver esz off len
  split at h
  case h_2=>cases h
  rename_i k n
  simp only [aa] at hi
  obtain ⟨rfl,_⟩:=hi
  split at h
  case h_2=>cases h
  rename_i e hk
  rw [hk] at hkd
  simp only [aZ] at hkd
  split at h
  case h_2=>cases h
  rename_i te hte
  have hte':=hT _ _ hte
  split at h
  case h_2=>cases h
  rename_i ver' esz' cs hH
  split at h
  case isFalse=>cases h
  rename_i hc
  obtain ⟨hsz,rfl,rfl⟩:=hc
  cases h
  have hp:=hps _ (List.mem_singleton.2 rfl)
  simp only [Ob.holds] at hp
  have hx0:=hx
  simp only [aa] at hx0
  obtain ⟨b,cap,c,T,fr,G⟩:=mA hE hH hx
  have e:=G.val
  subst e
  refine ⟨rfl,.pointer (some ⟨b,(off+n.toNat)*esz,none⟩),?_,?_⟩
  ·have e2 :(off+n.toNat)*esz=off*esz+n.toNat*esz:=Nat.add_mul _ _ _
   rw [e2]
   simp [Instr.indexAt,asIntOf,run_underlying hkd,hte'.sizeOf,hp.1,hp.2,bK,hsz]
  ·simp only [aa]
   refine ⟨hx0.1,hx0.2.1,⟨_,rfl⟩,fun esz2 cs2 hH2=>?_⟩
   exact ⟨b,G.at_,rfl⟩
 ·rename_i hh ver off
  split at h
  case h_2=>cases h
  rename_i k n
  simp only [aa] at hi
  obtain ⟨rfl,_⟩:=hi
  split at h
  case h_2=>cases h
  rename_i len e hk
  rw [hk] at hkd
  simp only [aZ] at hkd
  split at h
  case h_2=>cases h
  rename_i te hte
  have hte':=hT _ _ hte
  cases h
  have hp:=hps _ (List.mem_singleton.2 rfl)
  simp only [Ob.holds] at hp
  refine ⟨rfl,?_⟩
  simp only [aa] at hx
  obtain ⟨hU,hU2,⟨a,rfl⟩,hx⟩:=hx
  refine ⟨.pointer (some (a.add (n.toNat*te.size))),?_,?_⟩
  ·simp [Instr.indexAt,asIntOf,run_underlying hkd,hte'.sizeOf,hp.1,hp.2,Instr.sureAddr]
  ·simp only [aa]
   refine ⟨hU,hU2,⟨_,rfl⟩,fun esz cs hcs=>?_⟩
   obtain ⟨b,hb,he⟩:=hx _ cs hcs
   cases he
   exact ⟨b,hb,by rw [bK]⟩
 ·exact uy hE hT ht hx hi h hps
theorem sg {B:Base} {E:Env} (hE:HRel B E) {tb:Tbl} (hT:cE P tb) {t:TypeId} {td:TD} (ht:TDok P t td) (m:Nat) {x:V} {lo hi mx:Option V} {xv:Value} {lov hiv mxv:Option Value} (hx:aa E x xv) (hlo:gD E lo lov) (hhi:gD E hi hiv) (hmx:gD E mx mxv)
  {ps:List Ob} {v:V} {dh:List (Nat×Blk)}
  (h:iz tb td E.H x lo hi mx = .val ps v dh) (hps :∀ p∈ps,p.holds) :∃ v' E',(Instr.sliceAt t xv lov hiv mxv).run P E.w = .ok v' E.w∧Good B E m dh E.w E'∧aa E' v v':=by
 unfold iz at h
 have hkd:=ht.kind
 have runS :∀ (e:TypeId) (te:TD) (_:td.kind = .slice e) (_:TDok P e te) (a:Option Addr) (len cap l h m:Nat),(Instr.sliceBounds true len cap lov hiv mxv).run P E.w = .ok (l,h,m) E.w→
   (Instr.sliceAt t (.slice a len cap) lov hiv mxv).run P E.w = .ok (.slice (if m=l then a else a.map (·.add (l*te.size))) (h - l) (m - l)) E.w:=fun e te hk hte a len cap l h m hr=>by
  rw [hk] at hkd
  simp only [aZ] at hkd
  simp [Instr.sliceAt,Instr.slice,run_underlying hkd,hr,hte.sizeOf]
 split at h
 ·rename_i hh ver esz off len
  split at h
  ·rename_i k0 n0
   split at h
   case isFalse=>cases h
   rename_i hc
   obtain ⟨rfl,h1,h2,h3⟩:=hc
   cases h
   obtain ⟨n,hn⟩:=Option.isSome_iff_exists.1 h3
   obtain ⟨e,te,hk,hte,_⟩:=ig hT hn
   obtain ⟨kl,rfl⟩:=oz h1 hlo
   obtain ⟨kh,rfl⟩:=oz h2 hhi
   have hmv :∃ km,mxv=some (.int km 0):=by
    cases mxv with
    | none=>simp [gD] at hmx
    | some v=>simp only [gD,aa] at hmx;exact ⟨_,by rw [hmx.1]⟩
   obtain ⟨km,rfl⟩:=hmv
   simp only [aa] at hx
   obtain ⟨_,_,⟨a,l,c,rfl⟩,_⟩:=hx
   refine ⟨_,E,runS e te hk hte (some a) l c 0 0 0 (by simp [Instr.sliceBounds,Instr.sliceBound,asIntOf]),dF hE m,?_⟩
   simp [aa]
  ·cases h
  ·have hmv:mxv=none:=by
    cases mxv with
    | none=>rfl
    | some v=>simp [gD] at hmx
   subst hmv
   split at h
   case h_2=>cases h
   rename_i n l r hn el er
   split at h
   case h_2=>cases h
   rename_i ver' esz' cs hH
   split at h
   case isFalse=>cases h
   rename_i hc
   obtain ⟨rfl,rfl,rfl⟩:=hc
   cases h
   have hp:=hps _ (List.mem_singleton.2 rfl)
   simp only [Ob.holds] at hp
   obtain ⟨e,te,hk,hte,hts⟩:=ig hT hn
   have hx0:=hx
   simp only [aa] at hx0
   obtain ⟨b,cap,c,T,fr,G⟩:=mA hE hH hx
   have ev:=G.val
   subst ev
   have hr:=runS e te hk hte (some ⟨b,off*n,none⟩) len cap _ _ cap (fZ (P:=P) hlo hhi true len cap G.fits el er hp.1 hp.2.1 hp.2.2)
   refine ⟨_,E,hr,dF hE m,?_⟩
   have hcapl:=G.room
   have hlen:=G.fits
   have hcsl:=G.known
   cases hb:Nat.beq l.toNat 0||Nat.blt l.toNat r.toNat with
   | false=>
    simp only [cond_false,aa]
    simp only [Bool.or_eq_false_iff] at hb
    have h1 :¬ l.toNat<r.toNat:=fun h=>by
     have:Nat.blt l.toNat r.toNat=true:=by rw [Nat.blt_eq];exact h
     rw [this] at hb;cases hb.2
    rw [show r.toNat - l.toNat=0 by omega]
    exact .nil
   | true=>
    simp only [cond_true,aa]
    have hadd :(if cap=l.toNat then some (⟨b,off*n,none⟩:Addr) else (some (⟨b,off*n,none⟩:Addr)).map (·.add (l.toNat*te.size)))=some ⟨b,(off+l.toNat)*n,none⟩:=by
     simp only [Bool.or_eq_true,Nat.blt_eq] at hb
     split
     ·rename_i hcl
      have:l.toNat=0:=by
       rcases hb with h|h
       ·exact Nat.eq_of_beq_eq_true h
       ·omega
      rw [this];simp
     ·simp only [Option.map_some,bK,hts,Nat.add_mul]
    rw [hadd]
    refine ⟨hx0.1,hx0.2.1,⟨_,_,_,rfl⟩,fun cs2 hH2=>?_⟩
    rw [hH] at hH2;cases hH2
    refine ⟨b,cap - l.toNat,c,T,fr,G.at_,rfl,G.blk,?_,by omega,?_⟩
    ·rw [show off+l.toNat +(cap - l.toNat)=off+cap by omega];exact hcapl
    ·refine Nat.le_trans (Nat.mul_le_mul_right _ ?_) hcsl
     omega
 ·exact uB hE hT ht m hx hlo hhi hmx h hps
theorem AC {B:Base} {E:Env} (hE:HRel B E) (m:Nat) (hm :¬ E.U m) (esz len cap:Nat) (cs:List V) (c:Array Value) (T:TypeId) (hc:ae E cs (c.toList.take cs.length)) (hcap:cap*esz≤c.size) (hl:len≤cap) (hcs:len*esz≤cs.length) :
  ∃ E',Good B E m [(m,.grow m esz cs)] { E.w with heap:=E.w.heap.push (.cells c T (0,0)) } E'∧aa E' (.gsl m m esz 0 len) (.slice (some ⟨E.w.heap.size,0,none⟩) len cap):=by
 obtain ⟨E',G,h1,h2,h3⟩:=pC hE m hm (.grow m esz cs) c T (fun E' X hu hρ hw hS _=>⟨hu,_,c,T,(0,0),hρ,hw,fun i _ h=>by simp at h,hS,bc X _ _ hc⟩) (fun n=>E.U n∨n=m) (fun _=>Iff.rfl)
 refine ⟨E',G,?_⟩
 simp only [aa]
 refine ⟨h1,h1,⟨_,_,_,rfl⟩,fun cs2 hH2=>⟨_,cap,c,T,(0,0),h2,by simp,h3,by simpa using hcap,hl,?_⟩⟩
 have:E'.H m=some (.grow m esz cs):=by rw [G.h,b9];exact ay _ _ _
 rw [this] at hH2;cases hH2
 simpa using hcs
theorem wD (z:Array Value) (sz N:Nat) (hzl:z.size=sz) :
  ∃ zc:Array Value,((N*sz=0∧zc=#[])∨(N*sz≠0∧zc=z))∧((Array.range (N*sz)).map (zc[· % zc.size]!)).toList =(List.replicate N z.toList).flatten:=by
 by_cases h0:N*sz=0
 ·refine ⟨#[],.inl ⟨h0,rfl⟩,?_⟩
  rw [h0]
  rcases Nat.mul_eq_zero.1 h0 with h0|h0
  ·subst h0;simp
  ·have:z.toList=[]:=List.eq_nil_of_length_eq_zero (by rw [Array.length_toList];omega)
   rw [this];simp
 ·refine ⟨z,.inr ⟨h0,rfl⟩,?_⟩
  rw [←hzl,Array.toList_map,Array.toList_range]
  exact kH _ _
theorem mU {B:Base} {E:Env} (hE:HRel B E) {tb:Tbl} (hT:cE P tb) {t:TypeId} {td:TD} (ht:TDok P t td) (m:Nat) (hm :¬ E.U m) {n:Nat} {parts:List (Nat×V)} {pv:Array (Nat×Value)} (hp:mY E parts pv.toList)
  {ps:List Ob} {v:V} {dh:List (Nat×Blk)} (h:jA tb td E.H m n parts = .val ps v dh) :∃ v' w' E',(Instr.buildSlice t n pv).run P E.w = .ok v' w'∧Good B E m dh w' E'∧aa E' v v':=by
 unfold jA at h
 split at h
 case h_2=>exact mT hE hT ht m hm hp h
 have hk:=ht.kind
 split at h
 case h_2=>cases h
 rename_i e h1
 rw [h1] at hk
 simp only [aZ] at hk
 split at h
 case h_2=>cases h
 rename_i te hte
 have hte':=hT _ _ hte
 split at h
 case isFalse=>cases h
 rename_i hc
 obtain ⟨c2,c3,c4⟩:=hc
 split at h
 case h_2=>cases h
 rename_i cs hcs
 cases h
 obtain ⟨z,hz,hzz⟩:=hte'.zeroValue E.w
 have hzr:ae E te.zero z.cells.toList:=cW hzz
 have hzl:z.cells.size=te.size:=by have:=aY hzr;simp at this;omega
 have hsmall :¬(n*te.size>2 ^ 24):=by
  have:=Nat.mul_le_mul c2 c3
  omega
 obtain ⟨zc,hz1,hz2⟩:=wD z.cells te.size n hzl
 have hzv:=gj hzr n
 rw [←hz2] at hzv
 obtain ⟨cells',r1,r2⟩:=iC hp hzv hcs
 have hl2:=aY r2
 have hl3:cells'.size=n*te.size:=by
  have e:=zR hcs
  have e2 :(uI te.zero n).length=n*te.size:=by
   have:=aY (gj hzr n)
   rw [this];simp [hzl]
  have:=Array.length_toList (xs:=cells')
  omega
 obtain ⟨E',G,hv⟩:=AC hE m hm te.size n n cs cells' e (by rw [List.take_of_length_le (by omega)];exact r2) (by omega) (Nat.le_refl _) (by have:=Array.length_toList (xs:=cells');omega)
 refine ⟨_,_,E',?_,G,hv⟩
 unfold Instr.buildSlice
 simp only [Sem.run_bind,run_underlying hk,Result.andThen_ok,hte'.sizeOf,hsmall,if_false]
 rcases hz1 with ⟨h0,rfl⟩ |⟨h0,rfl⟩
 ·simp only [h0,if_true,Sem.run_bind,Sem.run_pure,Result.andThen_ok] at r1 ⊢
  simp only [r1,newRow,Sem.run_bind,run_newObj,Result.andThen_ok,Sem.run_pure]
 ·simp only [h0,if_false,Sem.run_bind,hz,Sem.run_pure,Result.andThen_ok,r1,newRow,run_newObj]
theorem Je {α:Type} (z:List α) (n N:Nat) (h:n≤N) :((List.replicate N z).flatten).take (n*z.length) =(List.replicate n z).flatten:=by
 obtain ⟨d,rfl⟩ :∃ d,N=n+d:=⟨N - n,by omega⟩
 rw [←List.replicate_append_replicate,List.flatten_append]
 have hl :((List.replicate n z).flatten).length=n*z.length:=by simp
 rw [←hl,List.take_left]
theorem nI {B:Base} {E:Env} (hE:HRel B E) {tb:Tbl} (hT:cE P tb) {t:TypeId} {td:TD} (ht:TDok P t td) (m:Nat) (hm :¬ E.U m) {l c:V} {lv cv:Value} (hl:aa E l lv) (hc:aa E c cv)
  {ps:List Ob} {v:V} {dh:List (Nat×Blk)} (h:ko tb td E.H m l c = .val ps v dh) (hps :∀ p∈ps,p.holds) :∃ v' w' E',(Instr.makeSlice t lv cv).run P E.w = .ok v' w'∧Good B E m dh w' E'∧aa E' v v':=by
 unfold ko at h
 split at h
 case h_2=>exact oh hE hT ht m hm hl hc h hps
 have hk:=ht.kind
 split at h
 case h_2=>cases h
 rename_i k1 n k2 c
 split at h
 case h_2=>cases h
 rename_i e h1
 rw [h1] at hk
 simp only [aZ] at hk
 split at h
 case h_2=>cases h
 rename_i te hte
 have hte':=hT _ _ hte
 split at h
 case isFalse=>cases h
 rename_i hcc
 obtain ⟨c2,c4⟩:=hcc
 cases h
 have hp:=hps _ (List.mem_singleton.2 rfl)
 simp only [Ob.holds] at hp
 obtain ⟨p1,p2,p3⟩:=hp
 simp only [aa] at hl hc
 obtain ⟨rfl,_⟩:=hl
 obtain ⟨rfl,_⟩:=hc
 obtain ⟨z,hz,hzz⟩:=hte'.zeroValue E.w
 have hzr:ae E te.zero z.cells.toList:=cW hzz
 have hzl:z.cells.size=te.size:=by have:=aY hzr;simp at this;omega
 obtain ⟨M,rfl⟩:=Int.eq_ofNat_of_zero_le p1
 obtain ⟨N,rfl⟩:=Int.eq_ofNat_of_zero_le (Int.le_trans p1 p2)
 have hN:N≤17179869184:=by omega
 have hMN:M≤N:=by omega
 have hwrap :∀ (X:Nat),X≤N→IntKind.i64.wrap (X:Int) =(X:Int):=fun X hX=>by
  unfold IntKind.wrap
  simp [IntKind.bits,IntKind.signed]
  omega
 have hbytes :((te.bytes:Int) *(N:Int))≤281474976710656:=by
  have:te.bytes*N≤1000*17179869184:=Nat.mul_le_mul c2 hN
  have h2 :((te.bytes*N:Nat):Int)≤17179869184000:=by omega
  rw [Int.natCast_mul] at h2
  omega
 obtain ⟨hb1,hb2⟩:=hte'.bytes E.w
 obtain ⟨zc,hz1,hz2⟩:=wD z.cells te.size N hzl
 have hsz :((Array.range (N*te.size)).map (zc[· % zc.size]!)).size=N*te.size:=by simp
 have hlen0 :(uI te.zero M).length=M*te.size:=by
  have:=aY (gj hzr M)
  rw [this];simp [hzl]
 have htk :((Array.range (N*te.size)).map (zc[· % zc.size]!)).toList.take (uI te.zero M).length =(List.replicate M z.cells.toList).flatten:=by
  rw [hz2,hlen0]
  have:=Je z.cells.toList M N hMN
  rw [show z.cells.toList.length=te.size by simpa using hzl] at this
  exact this
 obtain ⟨E',G,hv⟩:=AC hE m hm te.size M N (uI te.zero M) ((Array.range (N*te.size)).map (zc[· % zc.size]!)) e (by rw [htk];exact gj hzr M) (by rw [hsz];exact Nat.le_refl _) hMN (by rw [hlen0];exact Nat.le_refl _)
 refine ⟨_,_,E',?_,by simpa using G,by simpa using hv⟩
 unfold Instr.makeSlice
 simp only [Sem.run_bind,run_underlying hk,Result.andThen_ok,asInt,asIntOf,Sem.run_pure,hb1,hb2,hwrap M hMN,hwrap N (Nat.le_refl _)]
 have hcond :¬((decide ((N:Int)<0)||decide ((te.bytes:Int) *(N:Int)>2 ^ 48)||decide ((M:Int)<0)||decide ((M:Int) >(N:Int)))=true):=by
  have e48 :(2:Int) ^ 48=281474976710656:=by decide
  rw [e48]
  simp only [Bool.or_eq_true,decide_eq_true_eq]
  omega
 rw [if_neg hcond]
 simp only [Sem.run_bind,run_askRoom,Result.andThen_ok,hte'.sizeOf,Int.toNat_natCast]
 rcases hz1 with ⟨h0,rfl⟩ |⟨h0,rfl⟩
 ·simp only [h0,if_true,Sem.run_bind,Sem.run_pure,Result.andThen_ok,newRow,run_newObj]
  rfl
 ·simp only [h0,if_false,Sem.run_bind,hz,Sem.run_pure,Result.andThen_ok,newRow,run_newObj]
  rfl
theorem xi {B:Base} {E:Env} (hE:HRel B E) {z:Nat} {x:V} {xv:Value} (hx:aa E x xv) {n:Nat} {ys:List V} (h:pn E.H z x=some (n,ys)) (hone:ys.all V.one=true) :
  ∃ a cap l,SrcC P E z n xv a cap l∧ae E ys l:=by
 have empty :∀ (a:Option Addr) (cap:Nat),n=0→ys=[]→xv = .slice a 0 cap→∃ a cap l,SrcC P E z n xv a cap l∧ae E ys l:=fun a cap e1 e3 e2=>by
  subst e1;subst e2;subst e3
  refine ⟨a,cap,[],⟨fun _=>rfl,by simp,fun w _=>?_,fun v hv=>by cases hv⟩,trivial⟩
  cases a with
  | none=>simp [Builtin.firstCells]
  | some a=>
   have:=run_loadCells_list (P:=P) w a [] (fun j v hj=>by simp at hj)
   simpa [Builtin.firstCells] using this
 unfold pn at h
 split at h
 ·cases h;simp only [aa] at hx;exact empty _ _ rfl rfl hx
 ·cases h;simp only [aa] at hx;obtain ⟨a,hx⟩:=hx;exact empty _ _ rfl rfl hx
 ·cases h
  simp only [aa] at hx
  generalize hl:[xv]=l0 at hx
  cases hx with
  | nil=>cases hl;exact empty _ _ rfl rfl rfl
  | slice=>cases hl;exact empty _ _ rfl rfl rfl
 ·rename_i hh ver esz off len
  split at h
  case h_2=>cases h
  rename_i ver' esz2 cs hH
  split at h
  case isFalse=>cases h
  rename_i e
  obtain ⟨rfl,rfl,rfl⟩:=e
  cases h
  obtain ⟨b,cap,c,T,fr,G⟩:=mA hE hH hx
  have ev:=G.val
  subst ev
  have hkn:=G.known
  have hle:=G.le
  have h2:off*esz2+n*esz2≤cs.length:=by rw [←Nat.add_mul];exact hkn
  have hv:ae E ((cs.drop (off*esz2)).take (n*esz2)) (((c.toList.take cs.length).drop (off*esz2)).take (n*esz2)):=je (jd G.rel _) _
  have hl :(((c.toList.take cs.length).drop (off*esz2)).take (n*esz2)).length=n*esz2:=by
   simp;omega
  refine ⟨some ⟨b,off*esz2,none⟩,cap,_,⟨fun _=>rfl,hl,fun w hw=>?_,qQ hone hv⟩,hv⟩
  have hbw:w.heap[b]?=some (.cells c T fr):=by rw [hw];exact G.blk
  have:=run_loadCells_list (P:=P) w ⟨b,off*esz2,none⟩ (((c.toList.take cs.length).drop (off*esz2)).take (n*esz2)) (fun j v hj=>by
   rw [bK,gl hbw]
   have hjl:j<n*esz2:=by
    rcases Nat.lt_or_ge j (n*esz2) with h1|h1
    ·exact h1
    ·rw [List.getElem?_eq_none (by omega)] at hj;cases hj
   rw [List.getElem?_take_of_lt hjl,List.getElem?_drop,List.getElem?_take_of_lt (by omega)] at hj
   exact hj)
  rw [hl] at this
  simpa [Builtin.firstCells] using this
 ·cases h
theorem A6 {B:Base} {E:Env} (hE:HRel B E) (m:Nat) (hm :¬ E.U m) (h0:Nat) (hh:E.U h0∨h0=m) (esz len cap:Nat) (cs:List V) (c:Array Value) (T:TypeId) (hc:ae E cs (c.toList.take cs.length)) (hcap:cap*esz≤c.size) (hl:len≤cap) (hcs:len*esz≤cs.length) :
  ∃ E',Good B E m [(h0,.grow m esz cs)] { E.w with heap:=E.w.heap.push (.cells c T (0,0)) } E'∧aa E' (.gsl h0 m esz 0 len) (.slice (some ⟨E.w.heap.size,0,none⟩) len cap):=by
 have hS :¬ E.S E.w.heap.size:=fun h=>Nat.lt_irrefl _ (hE.stab _ h)
 have hget :(E.w.heap.push (.cells c T (0,0)))[E.w.heap.size]?=some (.cells c T (0,0)):=by simp
 obtain ⟨R,X⟩:=jv hE h0 (.grow m esz cs) (some E.w.heap.size) { E.w with heap:=E.w.heap.push (.cells c T (0,0)) } (fun n=>E.U n∨n=m) (fun n h=> .inl h) hh
  ⟨rfl,rfl,rfl,by simp,fun b hb' _=>Below.heap_alloc E.w _ b hb'⟩ (fun b e=>by cases e;exact .inl ⟨Nat.le_refl _,by simp⟩) (fun b e=>by cases e;exact hS)
  (fun _ e _=>by cases e) (fun _ _ _ _ e=>by cases e)
  (fun X=>⟨.inr rfl,_,c,T,(0,0),ay _ _ _,hget,(fun i _ h=>by simp at h),hS,bc X _ _ hc⟩)
  (fun _ _ _ e _ h=>by cases e;exact absurd h hm)
 refine ⟨_,⟨R,X,rfl,(b9 _ _ _).symm,fun n h=>?_⟩,?_⟩
 ·rcases h with h|h
  ·exact .inl h
  ·exact .inr ⟨by omega,by unfold KN;omega⟩
 ·simp only [aa]
  refine ⟨hh,.inr trivial,⟨_,_,_,rfl⟩,fun cs2 hH=>⟨_,cap,c,T,(0,0),ay _ _ _,by simp,hget,by simpa using hcap,hl,?_⟩⟩
  simp only [ay,Option.some.injEq] at hH
  cases hH
  simpa using hcs
theorem qx {B:Base} {E:Env} (hE:HRel B E) {tb:Tbl} (hT:cE P tb) {tS tX:TypeId} {tdS tdX:TD} (hS:TDok P tS tdS) (hX:TDok P tX tdX) (hkX:AppK tdX) (m:Nat) (hm :¬ E.U m) {s x:V} {sv xv:Value}
  (hs:aa E s sv) (hx:aa E x xv) (ty:TypeId) {ps:List Ob} {v:V} {dh:List (Nat×Blk)} (h:ik tb tdS E.H m s x = .val ps v dh) (hps :∀ p∈ps,p.holds) :
  ∃ v' w' E',(Builtin.append_ #[tS,tX] ty #[sv,xv]).run P E.w = .ok v' w'∧Good B E m dh w' E'∧aa E' v v':=by
 unfold ik at h
 split at h
 case h_2=>cases h
 rename_i e hk
 split at h
 case h_2=>cases h
 rename_i te hte0
 have hte:=hT _ _ hte0
 split at h
 case isFalse=>exact rO hE hT hS hX hkX m hm hs hx ty h hps
 split at h
 case isFalse=>cases h
 rename_i hc
 obtain ⟨c2,c3,c4⟩:=hc
 split at h
 case h_2=>cases h
 rename_i k ys hys
 split at h
 case isFalse=>cases h
 rename_i hone
 obtain ⟨a,cap,l,src,hyl⟩:=xi (P:=P) hE hx hys hone
 have hyl0:=aY hyl
 obtain ⟨R0,X0⟩:=tZ hE E.w.drew rfl rfl rfl rfl
 split at h
 ·
  have hl0:l=[]:=List.eq_nil_of_length_eq_zero (by rw [src.len];omega)
  subst hl0
  have same :∀ (base:Option Addr) (sl sc:Nat),sl≤sc→(Builtin.append_ #[tS,tX] ty #[.slice base sl sc,xv]).run P E.w = .ok (.slice base sl sc) E.w:=fun base sl sc hle=>by
   have:=eJ hS hX hk hkX hte rfl src base sl sc (by omega) ty E.w (fun a' _=>rfl) (fun _=>rfl)
   simpa using this
  split at h
  ·cases h
   simp only [aa] at hs
   subst hs
   exact ⟨_,_,E,same none 0 0 (Nat.le_refl _),dF hE m,by simp [aa]⟩
  ·cases h
   simp only [aa] at hs
   obtain ⟨b0,rfl⟩:=hs
   exact ⟨_,_,E,same b0 0 0 (Nat.le_refl _),dF hE m,by simp [aa]⟩
  ·split at h
   case h_2=>cases h
   rename_i ver' esz' cs hH
   split at h
   case isFalse=>cases h
   rename_i e1
   obtain ⟨rfl,rfl⟩:=e1
   cases h
   obtain ⟨b,cap',c,T,fr,G⟩:=mA hE hH hs
   have ev:=G.val
   subst ev
   exact ⟨_,_,E,same _ _ _ G.fits,dF hE m,hs⟩
  ·cases h
 ·rename_i k
  have onto :∀ (base:Option Addr),(k+1)*te.bytes≤70368744177664→sv = .slice base 0 0→
    ∃ v' w' E',(Builtin.append_ #[tS,tX] ty #[sv,xv]).run P E.w = .ok v' w'∧Good B E m [(m,.grow m te.size ys)] w' E'∧aa E' (.gsl m m te.size 0 (k+1)) v':=fun base hp esv=>by
   subst esv
   have hold :∀ (w:World),w.heap=E.w.heap→(Builtin.firstCells te.size 0 (.slice base 0 0)).run P w = .ok ([]:List Value).toArray w:=fun w _=>by
    cases base with
    | none=>simp [Builtin.firstCells]
    | some a=>simpa [Builtin.firstCells] using run_loadCells_list (P:=P) w a [] (fun j v hj=>by simp at hj)
   obtain ⟨nc,c,g1,g2,g3,g4⟩:=dX hE hS hX hk hkX hte rfl c4 c2 c3 src base 0 0 [] (by simp) hold (by omega) (by rw [Nat.zero_add];exact hp) ty
   simp only [Nat.zero_add,List.nil_append] at g1 g3 g4
   have hl1:l.length =(k+1)*te.size:=src.len
   obtain ⟨E',G,hv⟩:=A6 R0 m hm m (.inr rfl) te.size (k+1) nc ys c e (by rw [hyl0,hl1,g3];exact bc X0 _ _ hyl) (by rw [g2];exact Nat.le_refl _) g1 (by rw [hyl0,hl1];exact Nat.le_refl _)
   exact ⟨_,_,E',g4,fT X0 G,hv⟩
  split at h
  ·cases h
   simp only [aa] at hs
   exact onto none (hps _ (List.mem_singleton.2 rfl)) hs
  ·cases h
   simp only [aa] at hs
   obtain ⟨b0,hs⟩:=hs
   exact onto b0 (hps _ (List.mem_singleton.2 rfl)) hs
  ·rename_i hh ver esz off len _
   split at h
   case h_2=>cases h
   rename_i ver' esz' cs hH
   split at h
   case isFalse=>cases h
   rename_i e1
   obtain ⟨rfl,rfl,rfl,rfl,hlen⟩:=e1
   cases h
   have hp:=hps _ (List.mem_singleton.2 rfl)
   simp only [Ob.holds] at hp
   have hU:=hE.used _ _ hH
   obtain ⟨b,cap',c,T,fr,G⟩:=mA hE hH hs
   have ev:=G.val
   subst ev
   have hle:=G.le
   have hrm:=G.room
   have hl1:l.length =(k+1)*te.size:=src.len
   by_cases hroom:len +(k+1)≤cap'
   ·have hm2 :(len +(k+1))*te.size≤cap'*te.size:=Nat.mul_le_mul_right _ hroom
    rw [Nat.add_mul] at hm2
    simp only [Nat.zero_add] at hrm
    obtain ⟨c',g1,g2⟩:=dG b l (len*te.size) E.w c G.blk (by omega)
    have hcs:c'.size=c.size:=by
     have:=congrArg List.length g2
     simp at this
     omega
    have hrun:=eJ hS hX hk hkX hte rfl src (some ⟨b,0*te.size,none⟩) len cap' hroom ty (E.w.setCells b (len*te.size) l) (fun a' ea=>by
     cases ea
     have:=run_storeCells_cells (P:=P) b (len*te.size) l 0 E.w (fun j hj=>by rw [gl G.blk];simp;omega) (fun j hj=>mw G.blk G.frz (by omega)) src.one
     rw [bK]
     simpa using this) (fun en=>by cases en)
    have htk:c'.toList.take (cs++ys).length=c.toList.take cs.length++l:=by
     rw [g2,hlen,List.length_append,hyl0,List.take_append_of_le_length (by simp;omega),List.take_of_length_le (by simp;omega)]
    obtain ⟨R,X⟩:=jv hE hh (.grow m te.size (cs++ys)) (some b) (E.w.setCells b (len*te.size) l) (fun n=>E.U n∨n=m) (fun n h=> .inl h) (.inl hU)
     (dc b (fun b1=>some b=some b1) rfl _ _ _) (fun b1 e=>by cases e;exact .inr ⟨G.at_,_,hH,rfl⟩) (fun b1 e=>by cases e;exact G.S)
     (fun _ e _=>by cases e) (fun _ _ _ _ e=>by cases e)
     (fun X=>⟨.inr rfl,b,c',T,fr,ay _ _ _,g1,iP G.frz hcs,G.S,by
      rw [htk]
      exact bQ (bc X _ _ G.rel) (bc X _ _ hyl)⟩)
     (fun _ _ _ e _ h=>by cases e;exact absurd h hm)
    refine ⟨_,_,_,hrun,⟨R,X,rfl,(b9 _ _ _).symm,fun n h=>?_⟩,?_⟩
    ·rcases h with h|h
     ·exact .inl h
     ·exact .inr ⟨by omega,by unfold KN;omega⟩
    ·simp only [aa]
     refine ⟨.inl hU,.inr trivial,⟨_,_,_,rfl⟩,fun cs2 hH2=>⟨b,cap',c',T,fr,ay _ _ _,rfl,g1,by rw [hcs];simpa using hrm,hroom,?_⟩⟩
     simp only [ay,Option.some.injEq] at hH2
     cases hH2
     rw [List.length_append,hyl0,hl1,←hlen,Nat.zero_add,Nat.add_mul]
     exact Nat.le_refl _
   ·have hl0 :(seg c 0 (len*te.size)).length=len*te.size:=rj _ _ _ (by omega)
    obtain ⟨nc,c',g1,g2,g3,g4⟩:=dX hE hS hX hk hkX hte rfl c4 c2 c3 src (some ⟨b,0*te.size,none⟩) len cap' (seg c 0 (len*te.size)) hl0 (fun w hw=>by
     have hbw:w.heap[b]?=some (.cells c T fr):=by rw [hw];exact G.blk
     have:=run_loadCells_list (P:=P) w ⟨b,0*te.size,none⟩ (seg c 0 (len*te.size)) (fun j v hj=>by
      rw [bK,gl hbw]
      rw [kJ] at hj
      split at hj
      ·simpa using hj
      ·cases hj)
     rw [hl0] at this
     simpa [Builtin.firstCells] using this) (by omega) hp ty
    have htk:c'.toList.take (cs++ys).length=c.toList.take cs.length++l:=by
     rw [List.length_append,hyl0,hl1,←hlen,←Nat.add_mul,g3,seg,List.drop_zero]
    obtain ⟨E',G',hv⟩:=A6 R0 m hm hh (.inl hU) te.size (len +(k+1)) nc (cs++ys) c' e (by
     rw [htk]
     exact bQ (bc X0 _ _ G.rel) (bc X0 _ _ hyl)) (by rw [g2];exact Nat.le_refl _) g1 (by rw [List.length_append,hyl0,hl1,←hlen,←Nat.add_mul];exact Nat.le_refl _)
    exact ⟨_,_,E',g4,fT X0 G',hv⟩
  ·cases h
theorem rQ {B:Base} {E:Env} (hE:HRel B E) {tb:Tbl} (hT:cE P tb) {s d:TypeId} {ts td:TD} (hs:TDok P s ts) (hd:TDok P d td) (m:Nat) (hm :¬ E.U m) {x:V} {xv:Value} (hx:aa E x xv) {ps:List Ob} {v:V} {dh:List (Nat×Blk)}
  (h:rP tb ts td m x = .val ps v dh) :∃ v' w' E',(convert s d xv).run P E.w = .ok v' w'∧Good B E m dh w' E'∧aa E' v v':=by
 have hsk:=hs.kind
 have hdk:=hd.kind
 unfold rP at h
 split at h
 case h_2=>cases h
 rename_i e str h1 h2
 split at h
 case h_2=>cases h
 rename_i te hte
 have hek:=(hT _ _ hte).kind
 split at h
 ·exact uv hE hT hs hd m hm hx h
 split at h
 case h_2=>cases h
 rename_i h3
 cases h
 rw [h1] at hsk;rw [h2] at hdk;rw [h3] at hek
 simp only [aZ] at hsk hdk hek
 simp only [aa] at hx
 obtain ⟨rfl,hlen⟩:=hx
 obtain ⟨R0,X0⟩:=tZ hE E.w.drew rfl rfl rfl rfl
 generalize hq :(Question.appendCap str.size 0 e).cut (E.w.tape E.w.drawn (Question.appendCap str.size 0 e))=cap
 have hcap:str.size≤cap:=by rw [←hq];simp only [Question.cut];omega
 let c:Array Value:=(str.data.map fun b=>Value.int .u8 b.toNat)++Array.replicate (cap - str.size) (.int .u8 0)
 have hds:str.data.size=str.size:=ByteArray.size_data
 have hcs:c.size=cap:=by simp [c,hds];omega
 have hl :((aR str).map fun n=>V.int .u8 n).length=str.size:=by simp [aR,hds]
 have hrel :∀ E2:Env,ae E2 ((aR str).map fun n=>V.int .u8 n) (c.toList.take ((aR str).map fun n=>V.int .u8 n).length):=fun E2=>by
  have e1:c.toList.take ((aR str).map fun n=>V.int .u8 n).length=str.data.toList.map fun b=>Value.int .u8 b.toNat:=by
   rw [hl]
   simp only [c,Array.toList_append,Array.toList_map]
   rw [List.take_append_of_le_length (by simp [hds]),List.take_of_length_le (by simp [hds])]
  rw [e1]
  unfold aR
  rw [List.map_map]
  exact gi _ _ (fun b=>gR (II b)) _
 have hS :¬ E.S E.w.heap.size:=fun h=>Nat.lt_irrefl _ (hE.stab _ h)
 have hget :(E.w.heap.push (.cells c e (c.size,c.size+1)))[E.w.heap.size]?=some (.cells c e (c.size,c.size+1)):=by simp
 obtain ⟨R,X⟩:=jv R0 m (.grow m 1 ((aR str).map fun n=>V.int .u8 n)) (some E.w.heap.size) { E.w.drew with heap:=E.w.heap.push (.cells c e (c.size,c.size+1)) } (fun n=>E.U n∨n=m) (fun n h=> .inl h) (.inr rfl)
  ⟨rfl,rfl,rfl,by show E.w.heap.size≤(E.w.heap.push _).size;simp,fun b hb' _=>Below.heap_alloc E.w _ b hb'⟩ (fun b e=>by cases e;exact .inl ⟨Nat.le_refl _,by simp⟩) (fun b e=>by cases e;exact hS)
  (fun _ e _=>by cases e) (fun _ _ _ _ e=>by cases e)
  (fun X=>⟨.inr rfl,_,c,e,(c.size,c.size+1),ay _ _ _,hget,(fun i hi h=>by have:=h.1;simp at this;omega),hS,hrel _⟩)
  (fun _ _ _ e _ h=>by cases e;exact absurd h hm)
 refine ⟨.slice (some ⟨E.w.heap.size,0,none⟩) str.size cap,_,_,?_,fT X0 ⟨R,X,rfl,(b9 _ _ _).symm,fun n h=>?_⟩,?_⟩
 ·have hfd:Question.forced (Question.appendCap str.size 0 e)=false:=rfl
  simp only [convert,Sem.run_bind,run_underlying hsk,run_underlying hdk,run_underlying hek,Result.andThen_ok,Conv.stringToBytes,run_choose,hfd,hq]
  simp only [Bool.false_eq_true,if_false,Result.andThen_ok,newRow,Sem.run_bind,run_newObj,Sem.run_pure,markStringish,run_shape]
  have hsh:World.shape? { E.w.drew with heap:=E.w.drew.heap.push (.cells c e (0,0)) } E.w.drew.heap.size=some (e,c.size):=by
   have hget :(E.w.drew.heap.push (.cells c e (0,0)))[E.w.drew.heap.size]?=some (.cells c e (0,0)):=Array.getElem?_push_size
   unfold World.shape?
   simp only [hget]
  have hfz:=qh E.w.drew c e
  simp only [World.drew] at hsh hfz ⊢
  simp only [c] at hsh hfz
  rw [hsh]
  simp only [Result.andThen_ok,run_freeze,Sem.run_pure]
  rw [hfz]
 ·rcases h with h|h
  ·exact .inl h
  ·exact .inr ⟨by omega,by unfold KN;omega⟩
 ·simp only [aa]
  refine ⟨.inr trivial,.inr trivial,⟨_,_,_,rfl⟩,fun cs2 hH=>⟨_,cap,c,e,(c.size,c.size+1),ay _ _ _,by simp,hget,by omega,hcap,?_⟩⟩
  simp only [ay,Option.some.injEq] at hH
  cases hH
  rw [hl];omega
theorem xa {B:Base} {E:Env} (hE:HRel B E) {t:TypeId} {td:TD} (ht:TDok P t td) {x:V} {xv:Value} (hx:aa E x xv) (ty:TypeId) {ps:List Ob} {v:V} {dh:List (Nat×Blk)}
  (h:nH td E.H x = .val ps v dh):dh=[]∧∃ v',(Builtin.len_ #[t] ty #[xv]).run P E.w = .ok v' E.w∧aa E v v':=by
 have hk:=ht.kind
 unfold nH at h
 split at h
 ·rename_i e hh ver esz off len h1
  rw [h1] at hk;simp only [aZ] at hk
  split at h
  case h_2=>cases h
  rename_i ver' esz' cs hH
  split at h
  case isFalse=>cases h
  rename_i hc
  obtain ⟨rfl,rfl,hl⟩:=hc
  cases h
  obtain ⟨b,cap,c,T,fr,G⟩:=mA hE hH hx
  have ev:=G.val
  subst ev
  exact ⟨rfl,_,by simp [Builtin.len_,run_underlying hk,goInt],gR (kF hl)⟩
 ·exact zP hE ht hx ty h
end Go.Mir
namespace Go.Mir
open Go.RowKit
variable {P:Program}
theorem mr {E:Env} :∀ {i:Nat} {xs:List (V×V)} {es:List MapEntry},b7 E i xs es→xs.length=es.length
 | _,[],[],_=>rfl
 | _,_::_,[],h=>by simp [b7] at h
 | _,[],_::_,h=>by simp [b7] at h
 | i,x::xs,e::es,h=>by simp [mr h.2]
theorem ij {E:Env} :∀ {i:Nat} {xs:List (V×V)} {es:List MapEntry},b7 E i xs es→∀ (j:Nat) (q:V×V),xs[j]?=some q→∃ e,es[j]?=some e∧aa E q.1 e.key∧aa E q.2 e.val∧e.born=i+j
 | _,[],[],_,j,q,hq=>by simp at hq
 | _,_::_,[],h,_,_,_=>by simp [b7] at h
 | _,[],_::_,h,_,_,_=>by simp [b7] at h
 | i,x::xs,e::es,h,j,q,hq=>by
  cases j with
  | zero=>simp only [List.getElem?_cons_zero,Option.some.injEq] at hq;subst hq;exact ⟨e,by simp,h.1.1,h.1.2.1,h.1.2.2⟩
  | succ j=>
   obtain ⟨e',h1,h2,h3,h4⟩:=ij h.2 j q (by simpa using hq)
   exact ⟨e',by simpa using h1,h2,h3,by omega⟩
theorem mu {E:Env} :∀ {i:Nat} {xs:List (V×V)} {es:List MapEntry},b7 E i xs es→∀ (j:Nat) (q:V×V) (f:MapEntry→MapEntry),(∀ e,es[j]?=some e→aa E q.1 (f e).key∧aa E q.2 (f e).val∧(f e).born=e.born)→b7 E i (xs.set j q) (es.modify j f)
 | _,[],[],_,j,q,f,_=>by simp [b7]
 | _,_::_,[],h,_,_,_,_=>by simp [b7] at h
 | _,[],_::_,h,_,_,_,_=>by simp [b7] at h
 | i,x::xs,e::es,h,j,q,f,hf=>by
  cases j with
  | zero=>
   obtain ⟨h1,h2,h3⟩:=hf e (by simp)
   simp only [List.set_cons_zero,List.modify_zero_cons,b7]
   exact ⟨⟨h1,h2,by rw [h3];exact h.1.2.2⟩,h.2⟩
  | succ j=>
   simp only [List.set_cons_succ,List.modify_succ_cons,b7]
   exact ⟨h.1,mu h.2 j q f (fun e' he=>hf e' (by simpa using he))⟩
theorem nE {E:Env} :∀ {i:Nat} {xs:List (V×V)} {es:List MapEntry},b7 E i xs es→∀ (q:V×V) (e:MapEntry),aa E q.1 e.key→aa E q.2 e.val→e.born=i+xs.length→b7 E i (xs++[q]) (es++[e])
 | _,[],[],_,q,e,h1,h2,h3=>⟨⟨h1,h2,by simpa using h3⟩,trivial⟩
 | _,_::_,[],h,_,_,_,_,_=>by simp [b7] at h
 | _,[],_::_,h,_,_,_,_,_=>by simp [b7] at h
 | i,x::xs,e::es,h,q,e',h1,h2,h3=>⟨h.1,nE h.2 q e' h1 h2 (by simp at h3;omega)⟩
theorem sI {E:Env} :∀ (xs ys:List V) (vs us:List Value) (ks:List EK),eks xs=some ks→eks ys=some ks→ae E xs vs→ae E ys us→vs.map gJ=us.map gJ→vs=us
 | [],[],[],[],_,_,_,_,_,_=>rfl
 | [],[],_::_,_,_,_,_,h,_,_=>by simp [ae] at h
 | [],[],_,_::_,_,_,_,_,h,_=>by simp [ae] at h
 | [],y::ys,_,_,ks,h1,h2,_,_,_=>by
  obtain ⟨k,r,_,_,rfl⟩:=ej h2
  simp [eks] at h1
 | x::xs,[],_,_,ks,h1,h2,_,_,_=>by
  obtain ⟨k,r,_,_,rfl⟩:=ej h1
  simp [eks] at h2
 | _::_,_::_,[],_,_,_,_,h,_,_=>by simp [ae] at h
 | _::_,_::_,_::_,[],_,_,_,_,h,_=>by simp [ae] at h
 | x::xs,y::ys,v::vs,u::us,ks,h1,h2,hv,hu,he=>by
  obtain ⟨k,r,a1,a2,rfl⟩:=ej h1
  obtain ⟨k',r',b1,b2,e⟩:=ej h2
  cases e
  simp only [ae] at hv hu
  simp only [List.map_cons,List.cons.injEq] at he
  have ih:=sI xs ys vs us r a2 b2 hv.2 hu.2 he.2
  subst ih
  have h0:v=u:=by
   rcases cV a1 hv.1 with ⟨q,n,_,hk,rfl,_⟩ |⟨b,_,hk,rfl,_⟩ |⟨s,_,hk,rfl,_⟩
   ·rcases cV b1 hu.1 with ⟨q',n',_,hk',rfl,_⟩ |⟨b',_,hk',rfl,_⟩ |⟨s',_,hk',rfl,_⟩
    ·have:=he.1;simp only [gJ,Lit.int.injEq] at this;obtain ⟨rfl,rfl⟩:=this;rfl
    ·rw [hk] at hk';cases hk'
    ·rw [hk] at hk';cases hk'
   ·rcases cV b1 hu.1 with ⟨q',n',_,hk',rfl,_⟩ |⟨b',_,hk',rfl,_⟩ |⟨s',_,hk',rfl,_⟩
    ·rw [hk] at hk';cases hk'
    ·have:=he.1;simp only [gJ,Lit.bool.injEq] at this;subst this;rfl
    ·rw [hk] at hk';cases hk'
   ·rcases cV b1 hu.1 with ⟨q',n',_,hk',rfl,_⟩ |⟨b',_,hk',rfl,_⟩ |⟨s',_,hk',rfl,_⟩
    ·rw [hk] at hk';cases hk'
    ·rw [hk] at hk';cases hk'
    ·have:=he.1
     simp only [gJ,Lit.string.injEq] at this
     have:s=s':=by
      cases s;cases s'
      simp only at this
      congr 1
      exact Array.ext' this
     rw [this]
  rw [h0]
theorem mb {E:Env} :∀ (xs:List V) (vs:List Value) (ks:List EK),eks xs=some ks→ae E xs vs→∀ n,∀ v∈vs,Instr.sameBits n v v=true
 | [],[],_,_,_,_,v,h=>by cases h
 | [],_::_,_,_,h,_,_,_=>by simp [ae] at h
 | _::_,[],_,_,h,_,_,_=>by simp [ae] at h
 | x::xs,u::vs,ks,h1,hv,n,v,hm=>by
  obtain ⟨k,r,a1,a2,rfl⟩:=ej h1
  simp only [ae] at hv
  rcases List.mem_cons.1 hm with rfl|hm
  ·rcases cV a1 hv.1 with ⟨q,n',_,_,rfl,_⟩ |⟨b,_,_,rfl,_⟩ |⟨s,_,_,rfl,_⟩
   ·cases n <;> simp [Instr.sameBits]
   ·cases n <;> simp [Instr.sameBits]
   ·cases n <;> simp [Instr.sameBits,Go.MapKept.bytes_beq]
  ·exact mb xs vs r a2 hv.2 n v hm
theorem uP {E:Env} {t:TypeId} {td:TD} (ht:TDok P t td) (hp:td.plain=true) {xs:List V} {cs:Array Value} (hx:ae E xs cs.toList) (h1:eks xs=eks td.zero) :
  (match P.underlying t with|some (.array _ _)|some (.struct _)=>true|_=>false)=true∧(∀ em,(Instr.checkKey em 10000 t (.agg cs)).run P E.w = .ok () E.w):=by
 have hp':=hp
 unfold TD.plain at hp'
 simp only [Bool.and_eq_true] at hp'
 obtain ⟨hagg,hsome⟩:=hp'
 obtain ⟨ks,hks⟩:=Option.isSome_iff_exists.1 hsome
 rw [hks] at h1
 have hB:=ht.eqk hp ks hks
 simp only [eqB,Bool.and_eq_true,decide_eq_true_eq,Bool.not_eq_true'] at hB
 obtain ⟨⟨hl,hkt⟩,hg⟩:=hB
 have len:P.keyLits 9 t cs.toList=some (cs.toList.map gJ)∧cs.size=P.cellsOf t:=by
  obtain ⟨a1,a2,a3⟩:=xz (P:=P) 9 t ks [] hl cs.toList (Ch xs _ ks h1 hx)
  have h0:cs.toList.drop (P.cellsOf t)=[]:=by
   cases hd:cs.toList.drop (P.cellsOf t) with
   | nil=>rfl
   | cons v l=>rw [hd] at a2;simp [la] at a2
  have h3:cs.toList.length≤P.cellsOf t:=List.drop_eq_nil_iff.1 h0
  rw [List.take_of_length_le h3] at a1
  exact ⟨a1,by simp only [Array.length_toList] at h3 a3;omega⟩
 have hkd:=ht.kind
 have wide :(match P.underlying t with|some (.array _ _)|some (.struct _)=>true|_=>false)=true∧(Value.agg cs).formed P t=true:=by
  cases hk:td.kind <;> rw [hk] at hagg hkd <;> simp only [TK.agg,Bool.false_eq_true] at hagg <;> simp only [aZ] at hkd
  ·obtain ⟨fs,hu,_⟩:=hkd
   exact ⟨by rw [hu],by simp [Value.formed,hu,len.2]⟩
  ·exact ⟨by rw [hkd],by simp [Value.formed,hkd,len.2]⟩
 refine ⟨wide.1,fun em=>?_⟩
 have:=run_checkKey_deep (P:=P) em 9991 9 t hkt
 exact this E.w 9 (.agg cs) _ wide.2 (by simpa [Value.cells] using len.1)
theorem cO {tk:TD} {k:V} (h:iI tk k=true) :(∃ q n,k = .int q n∧tk.kind = .int q)∨(∃ s,k = .str s∧tk.kind = .str)∨∃ xs,k = .agg xs∧tk.plain=true∧eks xs=eks tk.zero:=by
 cases k <;> simp only [iI,Bool.false_eq_true] at h
 ·split at h
  ·rename_i q' hk
   simp only [decide_eq_true_eq] at h
   subst h
   exact .inl ⟨_,_,rfl,hk⟩
  ·cases h
 ·split at h
  ·rename_i hk
   exact .inr (.inl ⟨_,rfl,hk⟩)
  ·cases h
 ·simp only [Bool.and_eq_true,decide_eq_true_eq] at h
  exact .inr (.inr ⟨_,rfl,h.1,h.2⟩)
theorem pN {E:Env} {kt:TypeId} {tk:TD} (ht:TDok P kt tk) {k:V} {kv:Value} (hk:aa E k kv) (h:iI tk k=true) (em:Bool) :(Instr.checkKey em 10000 kt kv).run P E.w = .ok () E.w:=by
 have hkd:=ht.kind
 rcases cO h with ⟨q,n,rfl,hq⟩ |⟨s,rfl,hq⟩ |⟨xs,rfl,h1,h2⟩
 ·rw [hq] at hkd
  simp only [aZ] at hkd
  simp only [aa] at hk
  obtain ⟨rfl,_⟩:=hk
  exact Go.MapKept.run_checkKey hkd (by simp [Go.MapKept.IsKey]) em 9999
 ·rw [hq] at hkd
  simp only [aZ] at hkd
  simp only [aa] at hk
  obtain ⟨rfl,_⟩:=hk
  exact Go.MapKept.run_checkKey hkd (by simp [Go.MapKept.IsKey]) em 9999
 ·simp only [aa] at hk
  obtain ⟨l,rfl,hl⟩:=hk
  exact (uP ht h1 hl h2).2 em
theorem H9 {E:Env} {tk:TD} {k k':V} {kv kv':Value} (h:iI tk k=true) (h':iI tk k'=true) (hk:aa E k kv) (hk':aa E k' kv') (he:lL k k'=true):kv'=kv∧Instr.sameBits 10000 kv kv=true:=by
 rcases cO h with ⟨q,n,rfl,hq⟩ |⟨s,rfl,hq⟩ |⟨xs,rfl,h1,h2⟩
 ·rcases cO h' with ⟨q',n',rfl,hq'⟩ |⟨s',rfl,hq'⟩ |⟨ys,rfl,h3,h4⟩
  ·rw [hq] at hq'
   cases hq'
   simp only [lL,eq1,beq_iff_eq] at he
   subst he
   simp only [aa] at hk hk'
   obtain ⟨rfl,_⟩:=hk
   obtain ⟨rfl,_⟩:=hk'
   exact ⟨rfl,by simp [Instr.sameBits]⟩
  ·rw [hq] at hq';cases hq'
  ·unfold TD.plain at h3;rw [hq] at h3;simp [TK.agg] at h3
 ·rcases cO h' with ⟨q',n',rfl,hq'⟩ |⟨s',rfl,hq'⟩ |⟨ys,rfl,h3,h4⟩
  ·rw [hq] at hq';cases hq'
  ·simp only [lL,eq1] at he
   rw [bytes_eq_iff] at he
   have:s=s':=by
    cases s;cases s'
    simp only at he
    congr 1
    exact Array.ext' he
   subst this
   simp only [aa] at hk hk'
   obtain ⟨rfl,_⟩:=hk
   obtain ⟨rfl,_⟩:=hk'
   exact ⟨rfl,by simp [Instr.sameBits,Go.MapKept.bytes_beq]⟩
  ·unfold TD.plain at h3;rw [hq] at h3;simp [TK.agg] at h3
 ·rcases cO h' with ⟨q',n',rfl,hq'⟩ |⟨s',rfl,hq'⟩ |⟨ys,rfl,h3,h4⟩
  ·unfold TD.plain at h1;rw [hq'] at h1;simp [TK.agg] at h1
  ·unfold TD.plain at h1;rw [hq'] at h1;simp [TK.agg] at h1
  ·simp only [lL] at he
   have hp':=h1
   unfold TD.plain at hp'
   simp only [Bool.and_eq_true] at hp'
   obtain ⟨ks,hks⟩:=Option.isSome_iff_exists.1 hp'.2
   rw [hks] at h2 h4
   simp only [aa] at hk hk'
   obtain ⟨l,rfl,hl⟩:=hk
   obtain ⟨l',rfl,hl'⟩:=hk'
   have e1:=(rL xs ys l.toList l'.toList ks h2 h4 hl hl').1 he
   have e2:=sI xs ys l.toList l'.toList ks h2 h4 hl hl' e1
   have e3:l=l':=Array.ext' e2
   subst e3
   refine ⟨rfl,?_⟩
   have hs:=mb xs l.toList ks h2 hl 9999
   simp only [Instr.sameBits,beq_self_eq_true,Bool.true_and,List.all_eq_true]
   intro q hq
   obtain ⟨a,b⟩:=q
   have :∀ (l:List Value) (a b:Value),(a,b)∈l.zip l→a=b∧a∈l:=by
    intro l
    induction l with
    | nil=>intro a b h;simp at h
    | cons x l ih=>
     intro a b h
     simp only [List.zip_cons_cons,List.mem_cons,Prod.mk.injEq] at h
     rcases h with ⟨rfl,rfl⟩|h
     ·exact ⟨rfl,List.mem_cons_self⟩
     ·exact ⟨(ih a b h).1,List.mem_cons_of_mem _ (ih a b h).2⟩
   obtain ⟨rfl,hm⟩:=this l.toList a b hq
   exact hs a hm
def FindR (tk:TD) (k:V) (i:Nat) (xs:List (V×V)) (es:List MapEntry) (a:Option (Nat×Value)):Option (Nat×V)→Prop
 | none=>a=none
 | some (j,v)=>i≤j∧∃ e k',es[j - i]?=some e∧xs[j - i]?=some (k',v)∧a=some (j,e.val)∧iI tk k'=true∧lL k k'=true
theorem FindR.up {tk:TD} {k:V} {i:Nat} {x:V×V} {xs:List (V×V)} {e:MapEntry} {es:List MapEntry} {a:Option (Nat×Value)} {r:Option (Nat×V)} (h:FindR tk k (i+1) xs es a r):FindR tk k i (x::xs) (e::es) a r:=by
 cases r with
 | none=>exact h
 | some q=>
  obtain ⟨j,v⟩:=q
  obtain ⟨h1,e',k',h2,h3,h4⟩:=h
  refine ⟨by omega,e',k',?_,?_,h4⟩
  ·rw [show j - i =(j - (i+1))+1 by omega];simpa using h2
  ·rw [show j - i =(j - (i+1))+1 by omega];simpa using h3
theorem sn {E:Env} {tk:TD} {k:V} {kv:Value} {d:TypeDesc} (hc :∀ k' kv',iI tk k'=true→aa E k' kv'→Instr.sameNow d kv kv'=some (lL k k')) :∀ {xs:List (V×V)} {es:List MapEntry} {i:Nat},b7 E i xs es→∀ r,iK tk k xs i=some r→∃ a,Instr.findNow d kv es i=some a∧FindR tk k i xs es a r
 | [],[],i,_,r,hr=>by
  simp only [iK,Option.some.injEq] at hr
  subst hr
  exact ⟨none,rfl,rfl⟩
 | _::_,[],_,h,_,_=>by simp [b7] at h
 | [],_::_,_,h,_,_=>by simp [b7] at h
 |(k',v)::xs,e::es,i,he,r,hr=>by
  obtain ⟨⟨e1,e2,e3⟩,he⟩:=he
  simp only [iK] at hr
  split at hr
  case h_2=>cases hr
  rename_i hok
  have hcmp:=hc k' e.key hok e1
  split at hr
  ·rename_i hke
   rw [hke] at hcmp
   simp only [Option.some.injEq] at hr
   subst hr
   exact ⟨some (i,e.val),by simp [Instr.findNow,hcmp],Nat.le_refl _,e,k',by simp,by simp,rfl,hok,hke⟩
  ·rename_i hke
   rw [hke] at hcmp
   obtain ⟨a,h1,h2⟩:=sn hc he r hr
   exact ⟨a,by simp only [Instr.findNow,hcmp];exact h1,h2.up⟩
theorem zS {E:Env} {tk:TD} {k:V} {kv:Value} {kt:TypeId} (hc :∀ k' kv',iI tk k'=true→aa E k' kv'→(Op.equal kt kv kv').run P E.w = .ok (lL k k') E.w) :∀ {xs:List (V×V)} {es:List MapEntry} {i:Nat},b7 E i xs es→∀ r,iK tk k xs i=some r→∃ a,(Instr.findAsking kt kv es i).run P E.w = .ok a E.w∧FindR tk k i xs es a r
 | [],[],i,_,r,hr=>by
  simp only [iK,Option.some.injEq] at hr
  subst hr
  exact ⟨none,by simp [Instr.findAsking],rfl⟩
 | _::_,[],_,h,_,_=>by simp [b7] at h
 | [],_::_,_,h,_,_=>by simp [b7] at h
 |(k',v)::xs,e::es,i,he,r,hr=>by
  obtain ⟨⟨e1,e2,e3⟩,he⟩:=he
  simp only [iK] at hr
  split at hr
  case h_2=>cases hr
  rename_i hok
  have hcmp:=hc k' e.key hok e1
  split at hr
  ·rename_i hke
   rw [hke] at hcmp
   simp only [Option.some.injEq] at hr
   subst hr
   exact ⟨some (i,e.val),by simp [Instr.findAsking,hcmp],Nat.le_refl _,e,k',by simp,by simp,rfl,hok,hke⟩
  ·rename_i hke
   rw [hke] at hcmp
   obtain ⟨a,h1,h2⟩:=zS hc he r hr
   exact ⟨a,by simp [Instr.findAsking,hcmp,h1],h2.up⟩
theorem mJ {td:TD} {k:TK} (hk:td.kind=k) (ha:k.agg=false) (h:td.plain=true):False:=by
 unfold TD.plain at h
 rw [hk,ha] at h
 cases h
theorem fQ {E:Env} {kt:TypeId} {tk:TD} (ht:TDok P kt tk) {k:V} {kv:Value} (hk:aa E k kv) (h:iI tk k=true) {xs:List (V×V)} {es:List MapEntry} {i:Nat} (hi:i=0) (he:b7 E i xs es) {r:Option (Nat×V)} (hr:iK tk k xs i=some r) :
  ∃ a,(Instr.findKey kt kv es).run P E.w = .ok a E.w∧FindR tk k i xs es a r:=by
 subst hi
 have hkd:=ht.kind
 rcases cO h with ⟨q,n,rfl,hq⟩ |⟨s,rfl,hq⟩ |⟨zs,rfl,h1,h2⟩
 ·rw [hq] at hkd
  simp only [aZ] at hkd
  simp only [aa] at hk
  obtain ⟨rfl,_⟩:=hk
  obtain ⟨a,a1,a2⟩:=sn (d:= .int q) (kv:= .int q n) (tk:=tk) (k:= .int q n) (fun k' kv' hok' hv'=>by
   rcases cO hok' with ⟨q',n',rfl,hq'⟩ |⟨s',rfl,hq'⟩ |⟨ys,rfl,h3,h4⟩
   ·rw [hq] at hq'
    cases hq'
    simp only [aa] at hv'
    rw [hv'.1]
    simp [Instr.sameNow,lL,eq1]
   ·rw [hq] at hq';cases hq'
   ·exact (mJ hq rfl h3).elim) he r hr
  exact ⟨a,Go.MapKept.run_findKey hkd a1,a2⟩
 ·rw [hq] at hkd
  simp only [aZ] at hkd
  simp only [aa] at hk
  obtain ⟨rfl,_⟩:=hk
  obtain ⟨a,a1,a2⟩:=sn (d:= .string) (kv:= .string s) (tk:=tk) (k:= .str s) (fun k' kv' hok' hv'=>by
   rcases cO hok' with ⟨q',n',rfl,hq'⟩ |⟨s',rfl,hq'⟩ |⟨ys,rfl,h3,h4⟩
   ·rw [hq] at hq';cases hq'
   ·simp only [aa] at hv'
    rw [hv'.1]
    simp only [Instr.sameNow,lL,eq1,Option.some.injEq]
    cases hb :(s.toList==s'.toList) with
    | true=>
     rw [bytes_eq_iff] at hb
     rw [Go.MapKept.bytes_beq]
     cases s;cases s'
     simp only at hb
     congr 1
     exact Array.ext' hb
    | false=>
     cases hb2 :(s==s') with
     | false=>rfl
     | true=>
      rw [Go.MapKept.bytes_beq] at hb2
      subst hb2
      simp at hb
   ·exact (mJ hq rfl h3).elim) he r hr
  exact ⟨a,Go.MapKept.run_findKey hkd a1,a2⟩
 ·simp only [aa] at hk
  obtain ⟨l,rfl,hl⟩:=hk
  have hw:=(uP ht h1 hl h2).1
  obtain ⟨a,a1,a2⟩:=zS (P:=P) (kt:=kt) (kv:= .agg l) (tk:=tk) (k:= .agg zs) (fun k' kv' hok' hv'=>by
   rcases cO hok' with ⟨q',n',rfl,hq'⟩ |⟨s',rfl,hq'⟩ |⟨ys,rfl,h3,h4⟩
   ·exact (mJ hq' rfl h1).elim
   ·exact (mJ hq' rfl h1).elim
   ·simp only [aa] at hv'
    obtain ⟨l',rfl,hl'⟩:=hv'
    exact (tC ht h1 hl hl' h2 h4).1) he r hr
  exact ⟨a,by rw [run_findKey_eq E.w hw];exact a1,a2⟩
theorem FS {w:World} {r:Nat} {es:Array MapEntry} {c:Nat} (hb:w.heap[r]?=some (.map es c)) :(getObj r).run P w = .ok (.map es c) w:=by
 simp [getObj,Sem.run,hb]
theorem JU {w:World} {r:Nat} {es:Array MapEntry} {c:Nat} (o:Obj) (hb:w.heap[r]?=some (.map es c)) :(setObj r o).run P w = .ok () { w with heap:=w.heap.setIfInBounds r o }:=by
 simp [setObj,Sem.run,hb]
theorem oO {B:Base} {E:Env} (hE:HRel B E) {h:Nat} {es:List (V×V)} (hh:E.H h=some (.mp es)) {v:Value} (hv:aa E (.mpv h) v) :∃ b l,E.ρ h=some b∧v = .map (some b)∧E.w.heap[b]?=some (.map l l.size)∧¬ E.S b∧b7 E 0 es l.toList∧E.U h:=by
 simp only [aa] at hv
 obtain ⟨hU,_,hv⟩:=hv
 obtain ⟨b,h1,h2⟩:=hv es hh
 obtain ⟨b',l,k,g1,g2,g3,g4,g5⟩:=hE.blk h _ hh
 rw [h1] at g1
 cases g1
 subst g5
 exact ⟨b,l,h1,h2,g2,g3,g4,hU⟩
theorem tu {B:Base} {E:Env} (hE:HRel B E) (m:Nat) {h:Nat} {es es':List (V×V)} (hh:E.H h=some (.mp es)) {b:Nat} {l l':Array MapEntry} (hρ:E.ρ h=some b) (hb:E.w.heap[b]?=some (.map l l.size)) (hS :¬ E.S b) (hU:E.U h) (hes:b7 E 0 es' l'.toList) :
  ∃ E',Good B E m [(h,.mp es')] { E.w with heap:=E.w.heap.setIfInBounds b (.map l' l'.size) } E'∧Ext E E':=by
 have hlt:b<E.w.heap.size:=(Array.getElem?_eq_some_iff.1 hb).1
 obtain ⟨R,X⟩:=jv hE h (.mp es') (some b) { E.w with heap:=E.w.heap.setIfInBounds b (.map l' l'.size) } E.U (fun n h=>h) hU
  ⟨rfl,rfl,rfl,by simp,fun b' _ hne=>by
   have:b'≠b:=fun e=>hne (by rw [e])
   simp [Array.getElem?_setIfInBounds_ne (Ne.symm this)]⟩
  (fun b' e=>by cases e;exact .inr ⟨hρ,_,hh,rfl⟩) (fun b' e=>by cases e;exact hS)
  (fun _ e _=>by cases e) (fun _ _ _ _ e _ _=>by cases e)
  (fun X=>⟨b,l',l'.size,ay _ _ _,by simp [hlt],hS,pg X _ _ _ hes,rfl⟩)
  (fun _ _ _ e _ _=>by cases e) (fun es1 e _=>⟨⟨es,hh⟩,hρ.symm⟩)
 exact ⟨_,⟨R,X,rfl,(b9 _ _ _).symm,fun n h=> .inl h⟩,X⟩
theorem uF {B:Base} {E:Env} (hE:HRel B E) (m:Nat) (hm :¬ E.U m) (t:TypeId) :∃ w' E',(Instr.makeMap t none).run P E.w = .ok (.map (some E.w.heap.size)) w'∧Good B E m [(m,.mp [])] w' E'∧aa E' (.mpv m) (.map (some E.w.heap.size)):=by
 have hS :¬ E.S E.w.heap.size:=fun h=>Nat.lt_irrefl _ (hE.stab _ h)
 have hrun :(Instr.makeMap t none).run P E.w = .ok (.map (some E.w.heap.size)) (E.w.alloc (.map #[] 0)):=by simp [Instr.makeMap,Result.andThen]
 have hw:E.w.alloc (.map #[] 0)={ E.w with heap:=E.w.heap.push (.map #[] 0) }:=rfl
 obtain ⟨R,X⟩:=jv hE m (.mp []) (some E.w.heap.size) { E.w with heap:=E.w.heap.push (.map #[] 0) } (fun n=>E.U n∨n=m) (fun n h=> .inl h) (.inr rfl)
  ⟨rfl,rfl,rfl,by simp,fun b hb' _=>Below.heap_alloc E.w _ b hb'⟩ (fun b e=>by cases e;exact .inl ⟨Nat.le_refl _,by simp⟩) (fun b e=>by cases e;exact hS)
  (fun _ _ h=>absurd h hm) (fun _ _ _ _ _ h _=>absurd h hm)
  (fun X=>⟨_,#[],0,ay _ _ _,by simp,hS,trivial,rfl⟩) (fun _ _ _ _ h _=>absurd h hm) (fun _ _ h=>absurd h hm)
 refine ⟨_,_,hrun,⟨R,X,hw.symm▸rfl,(b9 _ _ _).symm,fun n h=>?_⟩,?_⟩
 ·rcases h with h|h
  ·exact .inl h
  ·exact .inr ⟨by omega,by unfold KN;omega⟩
 ·simp only [aa]
  exact ⟨.inr trivial,⟨_,rfl⟩,fun _ _=>⟨_,ay _ _ _,rfl⟩⟩
theorem lP {tb:Tbl} (hT:cE P tb) {t:TypeId} {q:TD×TD} (h:lO tb t=some q) :∃ k e,P.underlying t=some (.map k e)∧TDok P k q.1∧TDok P e q.2:=by
 unfold lO at h
 split at h
 case h_2=>cases h
 rename_i td htd
 split at h
 case h_2=>cases h
 rename_i k e hk
 split at h
 case h_2=>cases h
 rename_i tk te h1 h2
 cases h
 have hkd:=(hT _ _ htd).kind
 rw [hk] at hkd
 exact ⟨k,e,hkd,hT _ _ h1,hT _ _ h2⟩
theorem BU {E:Env} {e:TypeId} {te:TD} (ht:TDok P e te) {z:V} (h:zV te=some z) :∃ zv,(zeroValue e).run P E.w = .ok zv E.w∧∀ E':Env,aa E' z zv:=by
 obtain ⟨i,z0,h1,h2,h3,h4,h5⟩:=ht.info
 have h6:=ht.zagg i z0 h1 h4
 refine ⟨z0,by simp [Go.zeroValue,typeInfo,h1,h4],fun E'=>?_⟩
 have hc:=cW (E:=E') h5
 unfold zV at h
 split at h
 ·rename_i ha
  cases h
  rw [ha] at h6
  cases z0 <;> simp only [sA,Bool.false_eq_true] at h6
  simp only [aa]
  exact ⟨_,rfl,by simpa [Value.cells] using hc⟩
 ·rename_i ha
  rw [ha] at h6
  split at h
  case h_2=>cases h
  rename_i z1 hz
  cases h
  rw [hz] at hc
  have:z0.cells.toList=[z0]:=by cases z0 <;> first|rfl|simp [sA] at h6
  rw [this] at hc
  simp only [ae] at hc
  exact hc.1
theorem sa {B:Base} {E:Env} (hE:HRel B E) {tb:Tbl} (hT:cE P tb) {t:TypeId} {q:TD×TD} (hq:lO tb t=some q) {x k:V} {xv kv:Value} (hx:aa E x xv) (hk:aa E k kv) {ok:Bool} {ps:List Ob} {v:V} {dh:List (Nat×Blk)} (h:rZ q.1 q.2 E.H x k ok = .val ps v dh) :
  dh=[]∧∃ v',(Instr.lookup t xv kv ok).run P E.w = .ok v' E.w∧aa E v v':=by
 obtain ⟨kt,et,hu,hkt,het⟩:=lP hT hq
 unfold rZ at h
 split at h
 case h_2=>cases h
 rename_i es hko hes
 obtain ⟨l,hl,hrel⟩ :∃ l:Array MapEntry,((xv = .map none∧l=#[])∨∃ b,xv = .map (some b)∧(getObj b).run P E.w = .ok (.map l l.size) E.w)∧b7 E 0 es l.toList:=by
  unfold Pp at hes
  split at hes
  ·split at hes
   case h_2=>cases hes
   rename_i h0 es0 hh
   cases hes
   obtain ⟨b,l,g1,rfl,g2,_,g4,_⟩:=oO hE hh hx
   exact ⟨l,.inr ⟨b,rfl,FS g2⟩,g4⟩
  ·cases hes
   simp only [aa] at hx
   exact ⟨#[],.inl ⟨hx,rfl⟩,trivial⟩
  ·cases hes
 have hck :∀ em,(Instr.checkKey em 10000 kt kv).run P E.w = .ok () E.w:=fun em=>pN hkt hk hko em
 have finS :∀ (j:Nat) (u:Value),(Instr.findKey kt kv l.toList).run P E.w = .ok (some (j,u)) E.w→(Instr.lookup t xv kv ok).run P E.w = .ok (if ok then .tuple #[u,.bool true] else u) E.w:=fun j u h1=>by
  rcases hl with ⟨rfl,rfl⟩ |⟨b,rfl,hg⟩
  ·simp only [Instr.lookup,Sem.run_bind,run_underlying hu,Result.andThen_ok,Sem.run_pure,hck,h1]
  ·simp only [Instr.lookup,Sem.run_bind,run_underlying hu,Result.andThen_ok,Sem.run_pure,hg,hck,h1]
 have finN :∀ (u:Value),(Instr.findKey kt kv l.toList).run P E.w = .ok none E.w→(zeroValue et).run P E.w = .ok u E.w→(Instr.lookup t xv kv ok).run P E.w = .ok (if ok then .tuple #[u,.bool false] else u) E.w:=fun u h1 h2=>by
  rcases hl with ⟨rfl,rfl⟩ |⟨b,rfl,hg⟩
  ·simp only [Instr.lookup,Sem.run_bind,run_underlying hu,Result.andThen_ok,Sem.run_pure,hck,h1,h2]
  ·simp only [Instr.lookup,Sem.run_bind,run_underlying hu,Result.andThen_ok,Sem.run_pure,hg,hck,h1,h2]
 have lk :∀ (v:V) (v1:Value) (b1:Bool),aa E v v1→aa E (lkV ok v b1) (if ok then .tuple #[v1,.bool b1] else v1):=fun v v1 b1 hv=>by
  cases ok with
  | true=>simp only [lkV,if_true,aa];exact ⟨_,rfl,by simp only [ae,aa];exact ⟨hv,trivial,trivial⟩⟩
  | false=>simpa [lkV] using hv
 split at h
 ·rename_i j v0 hf
  cases h
  obtain ⟨a,a1,a2⟩:=fQ hkt hk hko rfl hrel hf
  obtain ⟨_,e,k',b1,b2,rfl,_,_⟩:=a2
  obtain ⟨e',c1,_,c3,_⟩:=ij hrel _ _ b2
  rw [c1] at b1
  cases b1
  exact ⟨rfl,_,finS _ e.val a1,lk _ _ true c3⟩
 ·rename_i hf
  split at h
  case h_2=>cases h
  rename_i z hz
  cases h
  obtain ⟨a,a1,a2⟩:=fQ hkt hk hko rfl hrel hf
  have a2:a=none:=a2
  subst a2
  obtain ⟨zv,z1,z2⟩:=BU (E:=E) het hz
  exact ⟨rfl,_,finN zv a1 z1,lk _ _ false (z2 E)⟩
 ·cases h
theorem Ai {E:Env} {tk:TD} {k k':V} {kv kv':Value} (h:iI tk k=true) (h':iI tk k'=true) (hk:aa E k kv) (hk':aa E k' kv') (he:lL k k'=true) :(Instr.keyThatStays kv' kv).run P E.w = .ok kv E.w:=by
 obtain ⟨rfl,hs⟩:=H9 h h' hk hk' he
 simp [Instr.keyThatStays,hs]
theorem sf {B:Base} {E:Env} (hE:HRel B E) {tb:Tbl} (hT:cE P tb) {t:TypeId} {q:TD×TD} (hq:lO tb t=some q) {x k v:V} {xv kv vv:Value} (hx:aa E x xv) (hk:aa E k kv) (hv:aa E v vv) (m:Nat) {ps:List Ob} {dh:List (Nat×Blk)} (h:Mo (se q.1 E.H x k v)=some (ps,dh)) :
  ∃ w' E',(Instr.mapUpdate t xv kv vv).run P E.w = .ok () w'∧Good B E m dh w' E':=by
 obtain ⟨kt,et,hu,hkt,het⟩:=lP hT hq
 unfold se at h
 split at h
 case h_2=>cases h
 rename_i h0 hko
 split at h
 case h_2=>cases h
 rename_i es hh
 obtain ⟨b,l,g1,rfl,g2,g3,g4,g5⟩:=oO hE hh hx
 have hck:=pN hkt hk hko false
 split at h
 ·rename_i i v0 hf
  cases h
  obtain ⟨a,a1,a2⟩:=fQ hkt hk hko rfl g4 hf
  obtain ⟨_,e,k',b1,b2,rfl,b3,b4⟩:=a2
  obtain ⟨e',c1,c2,c3,_⟩:=ij g4 _ _ b2
  rw [c1] at b1
  cases b1
  have hks:=Ai (P:=P) hko b3 hk c2 b4
  have hi:l[i]?=some e:=by simpa using c1
  obtain ⟨E',G,_⟩:=tu hE m hh (es':=es.set i (k,v)) (l':=l.modify i fun e=>{ e with key:=kv,val:=vv }) g1 g2 g3 g5 (by
   rw [Array.toList_modify]
   exact mu g4 i (k,v) _ (fun e _=>⟨hk,hv,rfl⟩))
  refine ⟨_,E',?_,G⟩
  simp [Instr.mapUpdate,run_underlying hu,FS g2,hck,a1,hi,hks,JU _ g2,Result.andThen]
 ·rename_i hf
  cases h
  obtain ⟨a,a1,a2⟩:=fQ hkt hk hko rfl g4 hf
  have a2:a=none:=a2
  subst a2
  have hl:=mr g4
  obtain ⟨E',G,_⟩:=tu hE m hh (es':=es++[(k,v)]) (l':=l.push { key:=kv,val:=vv,born:=l.size }) g1 g2 g3 g5 (by
   rw [Array.toList_push]
   exact nE g4 (k,v) _ hk hv (by simp at hl ⊢;omega))
  refine ⟨_,E',?_,G⟩
  simp [Instr.mapUpdate,run_underlying hu,FS g2,hck,a1,JU _ g2,Result.andThen]
 ·cases h
theorem pk {B:Base} {E:Env} (hE:HRel B E) {tb:Tbl} (hT:cE P tb) {t:TypeId} {q:TD×TD} (hq:lO tb t=some q) {x k:V} {xv kv:Value} (hx:aa E x xv) (hk:aa E k kv) (m:Nat) {ps:List Ob} {v:V} {dh:List (Nat×Blk)} (h:nJ q.1 q.2 E.H x k = .val ps v dh) :
  ∃ v' w' E',(Instr.mapEntry t xv kv).run P E.w = .ok v' w'∧Good B E m dh w' E'∧aa E' v v':=by
 obtain ⟨kt,et,hu,hkt,het⟩:=lP hT hq
 unfold nJ at h
 split at h
 case h_2=>cases h
 rename_i h0 hko
 split at h
 case h_2=>cases h
 rename_i es hh
 split at h
 case isFalse=>cases h
 rename_i hlen
 obtain ⟨b,l,g1,rfl,g2,g3,g4,g5⟩:=oO hE hh hx
 have hck:=pN hkt hk hko false
 have hl:=mr g4
 have okb :∀ n:Nat,n≤1000000→ok .i64 (n:Int):=fun n hn=>by unfold ok IntKind.min IntKind.max;simp [IntKind.bits,IntKind.signed];omega
 split at h
 ·rename_i i v0 hf
  cases h
  obtain ⟨a,a1,a2⟩:=fQ hkt hk hko rfl g4 hf
  obtain ⟨_,e,k',b1,b2,rfl,b3,b4⟩:=a2
  obtain ⟨e',c1,c2,c3,c4⟩:=ij g4 _ _ b2
  rw [c1] at b1
  cases b1
  have hks:=Ai (P:=P) hko b3 hk c2 b4
  have hi:l[i]?=some e:=by simpa using c1
  have hi2:i<es.length:=(List.getElem?_eq_some_iff.1 b2).1
  obtain ⟨E',G,X⟩:=tu hE m hh (es':=es.set i (k,v0)) (l':=l.modify i fun e=>{ e with key:=kv }) g1 g2 g3 g5 (by
   rw [Array.toList_modify]
   exact mu g4 i (k,v0) _ (fun e'' he=>⟨hk,by rw [show l.toList[i]?=some e from by simpa using hi] at he;cases he;exact c3,rfl⟩))
  refine ⟨.tuple #[e.val,goInt e.born],_,E',?_,G,?_⟩
  ·simp [Instr.mapEntry,run_underlying hu,FS g2,hck,a1,hi,hks,JU _ g2,Result.andThen]
  ·simp only [aa]
   refine ⟨_,rfl,?_⟩
   simp only [ae]
   refine ⟨cd X _ _ c3,?_,trivial⟩
   rw [show e.born=i by omega]
   exact gR (okb i (by omega))
 ·rename_i hf
  split at h
  case h_2=>cases h
  rename_i z hz
  cases h
  obtain ⟨a,a1,a2⟩:=fQ hkt hk hko rfl g4 hf
  have a2:a=none:=a2
  subst a2
  obtain ⟨zv,z1,z2⟩:=BU (E:=E) het hz
  obtain ⟨E',G,X⟩:=tu hE m hh (es':=es++[(k,z)]) (l':=l.push { key:=kv,val:=zv,born:=l.size }) g1 g2 g3 g5 (by
   rw [Array.toList_push]
   exact nE g4 (k,z) _ hk (z2 E) (by simp at hl ⊢;omega))
  refine ⟨.tuple #[zv,goInt l.size],_,E',?_,G,?_⟩
  ·simp [Instr.mapEntry,run_underlying hu,FS g2,hck,a1,z1,JU _ g2,Result.andThen]
  ·simp only [aa]
   refine ⟨_,rfl,?_⟩
   simp only [ae]
   refine ⟨z2 E',?_,trivial⟩
   have:es.length=l.size:=by simpa using hl
   rw [this]
   exact gR (okb l.size (by omega))
 ·cases h
theorem nF {B:Base} {E:Env} (hE:HRel B E) (t:TypeId) {x s v:V} {xv sv vv:Value} (hx:aa E x xv) (hs:aa E s sv) (hv:aa E v vv) (m:Nat) {ps:List Ob} {dh:List (Nat×Blk)} (h:Mo (kj E.H x s v)=some (ps,dh)) :
  ∃ w' E',(Instr.entryStore t xv sv vv).run P E.w = .ok () w'∧Good B E m dh w' E':=by
 unfold kj at h
 split at h
 case h_2=>cases h
 rename_i h0 q n
 split at h
 case h_2=>cases h
 rename_i es hh
 split at h
 case isFalse=>cases h
 rename_i hn
 split at h
 case h_2=>cases h
 rename_i p hp
 cases h
 obtain ⟨b,l,g1,rfl,g2,g3,g4,g5⟩:=oO hE hh hx
 simp only [aa] at hs
 obtain ⟨rfl,_⟩:=hs
 obtain ⟨e,c1,c2,c3,c4⟩:=ij g4 _ _ hp
 have hi:l[n.toNat]?=some e:=by simpa using c1
 have hfind:l.findIdx? (fun e=>(e.born:Int)==n)=some n.toNat:=by
  rw [Array.findIdx?_eq_some_iff_getElem]
  have hlt:n.toNat<l.size:=(Array.getElem?_eq_some_iff.1 hi).1
  refine ⟨hlt,?_,fun j hj=>?_⟩
  ·have:l[n.toNat]=e:=(Array.getElem?_eq_some_iff.1 hi).2
   rw [this,beq_iff_eq]
   omega
  ·have hl:=mr g4
   have hjl:j<es.length:=by simp at hl;omega
   obtain ⟨e2,d1,_,_,d4⟩:=ij g4 j es[j] (List.getElem?_eq_getElem hjl)
   have:l[j]=e2:=(Array.getElem?_eq_some_iff.1 (show l[j]?=some e2 by simpa using d1)).2
   rw [this]
   simp only [Bool.not_eq_true,beq_eq_false_iff_ne,ne_eq]
   omega
 obtain ⟨E',G,_⟩:=tu hE m hh (es':=es.set n.toNat (p.1,v)) (l':=l.modify n.toNat fun e=>{ e with val:=vv }) g1 g2 g3 g5 (by
  rw [Array.toList_modify]
  exact mu g4 n.toNat (p.1,v) _ (fun e' he=>⟨by rw [c1] at he;cases he;exact c2,hv,rfl⟩))
 refine ⟨_,E',?_,G⟩
 simp [Instr.entryStore,FS g2,asInt,asIntOf,hfind,JU _ g2,Result.andThen]
end Go.Mir
namespace Go.Mir
open Go.RowKit
variable {P:Program}
theorem K1 {B:Base} {E:Env} (hE:HRel B E) (m:Nat) (hm :¬ E.U m) :
  ∃ E',Good B E m [(m,.abs 0 .str (ByteArray.empty:Den .str))] { E.w with heap:=E.w.heap.push (.cells #[.pointer none,.slice none 0 0] bTy (0,0)) } E'∧aa E' (.av 0 m) (.pointer (some ⟨E.w.heap.size,0,none⟩)):=by
 have hget :(E.w.heap.push (.cells #[.pointer none,.slice none 0 0] bTy (0,0)))[E.w.heap.size]?=some (.cells #[.pointer none,.slice none 0 0] bTy (0,0)):=by simp
 have hm0:E.H m=none:=by
  cases h:E.H m with
  | none=>rfl
  | some k=>exact absurd (hE.used _ _ h) hm
 obtain ⟨R,X⟩:=Qe hE m 0 .str (ByteArray.empty:Den .str) E.w.heap.size { E.w with heap:=E.w.heap.push (.cells #[.pointer none,.slice none 0 0] bTy (0,0)) } (fun n=>E.U n∨n=m) (fun n h=> .inl h) (.inr rfl)
  ⟨rfl,rfl,rfl,by simp,fun b hb' _=>Below.heap_alloc E.w _ b hb'⟩ (.inr ⟨hm,Nat.le_refl _,by simp⟩)
  (fun g hg=>by
   have h0:pY { E.w with heap:=E.w.heap.push (.cells #[.pointer none,.slice none 0 0] bTy (0,0)) } E.w.heap.size=none:=by unfold pY;rw [hget];rfl
   have hg:pY { E.w with heap:=E.w.heap.push (.cells #[.pointer none,.slice none 0 0] bTy (0,0)) } E.w.heap.size=some g:=hg
   rw [h0] at hg;cases hg)
  (.inl ⟨rfl,ByteArray.empty,rfl,Nat.zero_le _,.inl ⟨Nat.zero_le _,_,hget,World.ownsRowF_nil _ _ _ _,by simp [Value.ownBlock]⟩⟩)
 refine ⟨_,⟨R,X,rfl,(b9 _ _ _).symm,fun n h=>?_⟩,?_⟩
 ·rcases h with h|h
  ·exact .inl h
  ·exact .inr ⟨by omega,by unfold KN;omega⟩
 ·simp only [aa]
  exact ⟨.inr trivial,⟨_,rfl⟩,fun _ _ _=>⟨_,ay _ _ _,rfl⟩⟩
theorem uq {Γ:FuncId→Option Ctr} {t:TypeId} {td:TD} {m:Nat} {ps:List Ob} {v:V} {dh:List (Nat×Blk)} (h:wT Γ t td m = .val ps v dh) :
  (ps=[]∧v = .ptr m 0∧dh=[(m,.cells td.zero)])∨(t=bTy∧Co td.zero=true∧ps=[]∧v = .av 0 m∧dh=[(m,.abs 0 .str (ByteArray.empty:Den .str))]):=by
 unfold wT at h
 split at h
 ·cases hb :(Nat.beq t bTy&&Co td.zero) with
  | false=>rw [hb] at h;cases h;exact .inl ⟨rfl,rfl,rfl⟩
  | true=>
   rw [hb] at h
   cases h
   simp only [Bool.and_eq_true,Nat.beq_eq] at hb
   exact .inr ⟨hb.1,hb.2,rfl,rfl,rfl⟩
 ·cases h;exact .inl ⟨rfl,rfl,rfl⟩
structure GoodK (B:Base) (E:Env) (m K:Nat) (dh:List (Nat×Blk)) (w':World) (E':Env):Prop where
 rel:HRel B E'
 ext:Ext E E'
 w:E'.w=w'
 h:E'.H=aJ E.H dh
 u :∀ n,E'.U n→E.U n∨(m≤n∧n<m+K)
theorem Good.toK {B:Base} {E:Env} {m K:Nat} {dh:List (Nat×Blk)} {w':World} {E':Env} (G:Good B E m dh w' E') (hK:1≤K):GoodK B E m K dh w' E':=
 ⟨G.rel,G.ext,G.w,G.h,fun n h=>(G.u n h).imp id fun h=>⟨h.1,by have:=h.2;unfold KN at this;omega⟩⟩
structure CtrOK (P:Program) (K:Nat) (f:FuncId) (c:Ctr):Prop where
 fn :∃ fn,P.funcs[f]?=some fn∧fn.body.isSome=true∧(fn.name == "runtime.NumGoroutine")=false
 calls :∀ (B:Base) (E:Env),HRel B E→∀ (args:List V) (av:List Value),ae E args av→∀ m,(∀ n,m≤n→n<m+K→¬ E.U n)→∀ ps v dh,c args E.H m=some (ps,v,dh)→(∀ p∈ps,p)→
  Calls P f av.toArray E.w fun e w'=>∃ E' v',e = .returned v'∧GoodK B E m K dh w' E'∧aa E' v v'
theorem tq {E:Env} (f:Operand→V) (g:Operand→Value) (h :∀ x,aa E (f x) (g x)) :∀ l:List (Nat×Operand),mY E (l.map fun p=>(p.1,f p.2)) (l.map fun p=>(p.1,g p.2))
 | []=>by simp [mY]
 | x::l=>by simp only [List.map_cons,mY];exact ⟨trivial,h _,tq f g h l⟩
theorem s9 {E:Env} (f:Operand→V) (g:Operand→Value) (h :∀ x,aa E (f x) (g x)) (o:Option Operand):gD E (o.map f) (o.map g):=by
 cases o with
 | none=>simp [gD]
 | some x=>simp only [Option.map_some,gD];exact h x
variable {B:Base} {E:Env} {tb:Tbl} {K:Nat} {Γ:FuncId→Option Ctr} {m:Nat} {ev:Operand→V} {a:Act}
theorem xg {E:Env} {asz xs caps:List V} {av:List Value} {l:Array Value} {f:FuncId} (hx:xf asz caps=some xs) (ha:ae E asz av) (hl:ae E caps l.toList) :
  ∃ first cap,fnV f l = .func (.func f) first cap∧ae E xs (first.toList++av++cap.toList):=by
 obtain ⟨l⟩:=l
 cases caps with
 | nil=>
  cases l with
  | nil=>cases hx;exact ⟨#[],#[],rfl,by simpa using ha⟩
  | cons v vs=>simp [ae] at hl
 | cons c cs=>
  cases l with
  | nil=>simp [ae] at hl
  | cons v vs=>
   have hl0:=hl
   simp only [ae] at hl
   cases c <;> simp only [xf,reduceCtorEq,Option.some.injEq] at hx
   case ptr h o=>
    subst hx
    have h1:=hl.1
    simp only [aa] at h1
    obtain ⟨_,⟨a,rfl⟩,_⟩:=h1
    exact ⟨#[],⟨.pointer (some a)::vs⟩,rfl,by simpa using bQ ha hl0⟩
   case nilmap=>
    subst hx
    have h1:=hl.1
    simp only [aa] at h1
    subst h1
    exact ⟨⟨vs⟩,#[],rfl,by simpa using bQ hl.2 ha⟩
theorem w9 {E:Env} {f:FuncId} {xs cs:List V} {first caps:List Value} (hx:ae E xs first) (hc:ae E cs caps) {ps:List Ob} {v:V} {dh:List (Nat×Blk)} (h:wZ f xs cs = .val ps v dh) :
  dh=[]∧aa E v (.func (.func f) first.toArray caps.toArray):=by
 cases xs with
 | nil=>
  cases first with
  | cons _ _=>simp [ae] at hx
  | nil=>
   cases cs with
   | nil=>
    cases caps with
    | cons _ _=>simp [ae] at hc
    | nil=>cases h;exact ⟨rfl,by simp only [aa];exact ⟨#[],rfl,by simp [ae]⟩⟩
   | cons c r=>
    cases c <;> simp only [wZ,reduceCtorEq] at h
    case ptr k o=>
     cases h
     cases caps with
     | nil=>simp [ae] at hc
     | cons v vs=>
      have h1:=hc
      simp only [ae,aa] at h1
      obtain ⟨⟨_,⟨a,rfl⟩,_⟩,_⟩:=h1
      exact ⟨rfl,by simp only [aa];exact ⟨⟨.pointer (some a)::vs⟩,rfl,hc⟩⟩
 | cons x r=>
  cases cs with
  | nil=>
   cases h
   cases caps with
   | cons _ _=>simp [ae] at hc
   | nil=>exact ⟨rfl,by simp only [aa];exact ⟨⟨.map none::first⟩,rfl,by simp only [ae,aa];exact ⟨trivial,hx⟩⟩⟩
  | cons c r'=>simp only [wZ,reduceCtorEq] at h
theorem wW (hE:HRel B E) (hΓ :∀ f c,Γ f=some c→CtrOK P K f c) (hm :∀ n,m≤n→n<m+K→¬ E.U n) (hev :∀ x,aa E (ev x) (a.eval x)) {c:Call} {o:Oper} (ho:o.op = .call c) {f:Operand} (hf:c.callee = .value f) {g:FuncId} {caps asz:List V} (hg:ev f = .fn g caps) {ct:Ctr} (hct:Γ g=some ct) {ps:List Ob} {v:V} {dh:List (Nat×Blk)}
  (has:xf (c.args.toList.map ev) caps=some asz) (h:Cb ct asz E.H m = .val ps v dh) (hps :∀ p∈ps,p.holds) {next:Act→World→Prop} {Q:Exit→Act→World→Prop}
  (hn :∀ v' E',GoodK B E m K dh E'.w E'→aa E' v v'→next (a.put o.dst v') E'.w):o.wp P a E.w next Q:=by
 have hfv:=hev f
 rw [hg] at hfv
 simp only [aa] at hfv
 obtain ⟨l,hfe,hl⟩:=hfv
 obtain ⟨first,cap,hfn,hargs⟩:=xg (f:=g) has (gi _ _ hev _) hl
 rw [hfn] at hfe
 unfold Cb at h
 split at h
 case h_2=>cases h
 rename_i ps' v' dh' hc
 cases h
 have hok:=hΓ _ _ hct
 obtain ⟨fn,h1,h2,h3⟩:=hok.fn
 have hb :¬ fn.body=none:=by cases hb:fn.body with|none=>rw [hb] at h2;cases h2|some _=>simp
 have h4 :¬ fn.name = "runtime.NumGoroutine":=by simpa using h3
 have hcalls:=hok.calls B E hE _ _ hargs m hm _ _ _ hc (fun p hp=>hps (.prop p) (List.mem_map_of_mem hp))
 have hrun :(execOp a.eval o).run P E.w = .ok (.enter g (first.toList++c.args.toList.map a.eval++cap.toList).toArray) E.w:=by
  have e :(first.toList++c.args.toList.map a.eval++cap.toList).toArray=first++c.args.map a.eval++cap:=by
   apply Array.ext'
   simp
  rw [e]
  simp [execOp,ho,resolve,hf,Deferred.ofValue,hfe,invoke,callFunc,h1,h4,hb]
 unfold Oper.wp
 rw [hrun]
 simp only [Oper.upon]
 refine hcalls.mono fun e w' hh=>?_
 obtain ⟨E',v'',rfl,G,hv⟩:=hh
 have:=hn v'' E' (by rw [G.w];exact G) hv
 rw [G.w] at this
 exact this
theorem Cd (hE:HRel B E) (hT:cE P tb) (hK:1≤K) (hΓ :∀ f c,Γ f=some c→CtrOK P K f c) (hm :∀ n,m≤n→n<m+K→¬ E.U n) (hev :∀ x,aa E (ev x) (a.eval x)) {o:Oper} {ps:List Ob} {v:V} {dh:List (Nat×Blk)} (h:om tb Γ m E.H ev o.op = .val ps v dh) (hps :∀ p∈ps,p.holds) {next:Act→World→Prop} {Q:Exit→Act→World→Prop}
  (hn :∀ v' E',GoodK B E m K dh E'.w E'→aa E' v v'→next (a.put o.dst v') E'.w):o.wp P a E.w next Q:=by
 have hm0 :¬ E.U m:=hm m (Nat.le_refl _) (by omega)
 have same :∀ {v'},(execOp a.eval o).run P E.w = .ok (.value v') E.w→dh=[]→aa E v v'→o.wp P a E.w next Q:=fun hrun hd hv=>by
  unfold Oper.wp
  rw [hrun]
  simp only [Oper.upon]
  subst hd
  exact hn _ E ((dF hE m).toK hK) hv
 have step :∀ {v' w' E'},(execOp a.eval o).run P E.w = .ok (.value v') w'→Good B E m dh w' E'→aa E' v v'→o.wp P a E.w next Q:=fun hrun G hv=>by
  unfold Oper.wp
  rw [hrun]
  simp only [Oper.upon]
  have:=hn _ _ (by rw [G.w];exact G.toK hK) hv
  rw [G.w] at this
  exact this
 cases ho:o.op <;> rw [ho] at h <;> simp only [om,reduceCtorEq] at h
 case move x=>cases h;exact same (by simp [execOp,ho]) rfl (hev x)
 case assign x=>cases h;exact same (by simp [execOp,ho]) rfl (hev x)
 case pick c x y=>
  obtain ⟨e,q,h1,h2⟩:=xc (P:=P) (hev c) (hev x) (hev y) h
  exact same (by simp [execOp,ho,h1]) e h2
 case alloc t=>
  split at h
  case h_2=>cases h
  rename_i td htd
  have ht:=hT _ _ htd
  obtain ⟨z,hz,hzz⟩:=ht.zeroValue E.w
  rcases uq h with ⟨rfl,rfl,rfl⟩ |⟨rfl,hb,rfl,rfl,rfl⟩
  ·obtain ⟨E',G,hv⟩:=vL hE m hm0 td.zero z.cells t (cW hzz)
   exact step (by simp [execOp,ho,Instr.alloc,hz,newVar,newRow]) G hv
  ·have hzv:=cW (E:=E) hzz
   generalize td.zero=zs at hb hzv
   match zs,hb with
   | [.nilptr,.nilsl],_=>
    generalize hl:z.cells.toList=l at hzv
    match l,hzv with
    | [a1,a2],hzv=>
     simp only [ae,aa] at hzv
     obtain ⟨rfl,rfl,_⟩:=hzv
     have hc:z.cells=#[.pointer none,.slice none 0 0]:=Array.toList_inj.1 hl
     obtain ⟨E',G,hv⟩:=K1 hE m hm0
     exact step (by simp [execOp,ho,Instr.alloc,hz,newVar,newRow,hc]) G hv
 case box t x=>
  split at h
  case h_2=>cases h
  rename_i cs hcs
  cases h
  obtain ⟨E',G,hv⟩:=vL hE m hm0 cs (a.eval x).cells t (cA (hev x) hcs)
  exact step (by simp [execOp,ho,Instr.box,newVar,newRow]) G hv
 case build t parts=>
  split at h
  case h_2=>cases h
  rename_i td htd
  obtain ⟨e,v',hr,hv⟩:=uu hT (hT _ _ htd) (pv:=parts.map fun p=>(p.1,a.eval p.2)) (by rw [Array.toList_map];exact tq _ _ hev _) h
  exact same (by simp [execOp,ho,hr]) e hv
 case buildSlice t n parts=>
  split at h
  case h_2=>cases h
  rename_i td htd
  obtain ⟨v',w',E',hr,G,hv⟩:=mU hE hT (hT _ _ htd) m hm0 (pv:=parts.map fun p=>(p.1,a.eval p.2)) (by rw [Array.toList_map];exact tq _ _ hev _) h
  exact step (by simp [execOp,ho,hr]) G hv
 case load t x=>
  split at h
  case h_2=>cases h
  rename_i td htd
  obtain ⟨e,v',hr,hv⟩:=uz hE (hT _ _ htd) (hev x) h
  exact same (by simp [execOp,ho,hr]) e hv
 case nilCheck x=>
  have hx:=hev x
  unfold MH at h
  split at h
  ·rename_i hh off e;cases h;rw [e] at hx;have hx0:=hx;simp only [aa] at hx0;obtain ⟨ad,hx1⟩:=hx0.2.1
   exact same (v':=a.eval x) (by simp [execOp,ho,hx1]) rfl hx
  ·rename_i t' xs i off e;cases h;rw [e] at hx;have hx0:=hx;simp only [aa] at hx0
   obtain ⟨_,_,_,_,_,_,_,_,_,_,_,hx1⟩:=hx0
   exact same (v':=a.eval x) (by simp [execOp,ho,hx1]) rfl hx
  ·rename_i hh ver i off e;cases h;rw [e] at hx;have hx0:=hx;simp only [aa] at hx0;obtain ⟨ad,hx1⟩:=hx0.2.2.1
   exact same (v':=a.eval x) (by simp [execOp,ho,hx1]) rfl hx
  ·rename_i f caps e;cases h;rw [e] at hx;have hx0:=hx;simp only [aa] at hx0;obtain ⟨l,hx1,_⟩:=hx0
   exact same (v':=a.eval x) (by simp [execOp,ho,hx1,fnV]) rfl hx
  ·rename_i hh ver off e;cases h;rw [e] at hx;have hx0:=hx;simp only [aa] at hx0;obtain ⟨ad,hx1⟩:=hx0.2.2.1
   exact same (v':=a.eval x) (by simp [execOp,ho,hx1]) rfl hx
  ·cases h
 case binOp op t x y t'=>
  split at h
  case h_2=>cases h
  rename_i td htd
  obtain ⟨e,v',hr,hv⟩:=zN (hT _ _ htd) (hev x) (hev y) x y h hps
  refine same (v':=v') ?_ e hv
  have e2:execOp a.eval o =(do let r←(do eqGuard op t x y (a.eval x) (a.eval y);binOp op t (a.eval x) (a.eval y):Sem Value);pure (.value r)):=by simp only [execOp,ho]
  rw [e2,Sem.run_bind,hr]
  rfl
 case unOp op t x=>
  obtain ⟨e,v',hr,hv⟩:=Cg (P:=P) (hev x) h
  exact same (by simp [execOp,ho,hr]) e hv
 case convert s d x=>
  split at h
  case h_2=>cases h
  rename_i ts td hts htd
  unfold Ei at h
  split at h
  ·obtain ⟨v',w',E',hr,G,hv⟩:=rQ hE hT (hT _ _ hts) (hT _ _ htd) m hm0 (hev x) h
   exact step (by simp [execOp,ho,hr]) G hv
  ·obtain ⟨e,v',hr,hv⟩:=wX (hT _ _ hts) (hT _ _ htd) (hev x) h
   exact same (by simp [execOp,ho,hr]) e hv
 case makeFunc fn first caps=>
  cases fn <;> simp only [reduceCtorEq] at h
  rename_i f
  obtain ⟨e,hv⟩:=w9 (gi ev a.eval hev first.toList) (gi ev a.eval hev caps.toList) h
  refine same (v':= .func (.func f) (first.map a.eval) (caps.map a.eval)) (by simp [execOp,ho,Instr.makeFunc]) e ?_
  have e1 :(first.toList.map a.eval).toArray=first.map a.eval:=by apply Array.ext';simp
  have e2 :(caps.toList.map a.eval).toArray=caps.map a.eval:=by apply Array.ext';simp
  rw [e1,e2] at hv
  exact hv
 case makeSlice t l c=>
  split at h
  case h_2=>cases h
  rename_i td htd
  obtain ⟨v',w',E',hr,G,hv⟩:=nI hE hT (hT _ _ htd) m hm0 (hev l) (hev c) h hps
  exact step (by simp [execOp,ho,hr]) G hv
 case slice t x lo hi mx=>
  split at h
  case h_2=>cases h
  rename_i td htd
  obtain ⟨v',E',hr,G,hv⟩:=sg hE hT (hT _ _ htd) m (hev x) (s9 _ _ hev lo) (s9 _ _ hev hi) (s9 _ _ hev mx) h hps
  exact step (by simp [execOp,ho,hr]) G hv
 case fieldAddr t x f=>
  split at h
  case h_2=>cases h
  rename_i td htd
  obtain ⟨e,v',hr,hv⟩:=rS hT (hT _ _ htd) (hev x) h
  exact same (by simp [execOp,ho,hr]) e hv
 case field t x f=>
  split at h
  case h_2=>cases h
  rename_i td htd
  obtain ⟨e,v',hr,hv⟩:=ph hT (hT _ _ htd) (hev x) h
  exact same (by simp [execOp,ho,hr]) e hv
 case indexAddr t x i=>
  split at h
  case h_2=>cases h
  rename_i td htd
  obtain ⟨e,v',hr,hv⟩:=rY hE hT (hT _ _ htd) (hev x) (hev i) h hps
  exact same (by simp [execOp,ho,hr]) e hv
 case index t x i=>
  split at h
  case h_2=>cases h
  rename_i td htd
  obtain ⟨e,v',hr,hv⟩:=rX hT (hT _ _ htd) (hev x) (hev i) h hps
  exact same (by simp [execOp,ho,hr]) e hv
 case extract t i=>
  have hx:=hev t
  generalize hy:ev t=y at h hx
  cases y <;> simp only [uY,reduceCtorEq] at h
  rename_i vs
  simp only [aa] at hx
  obtain ⟨l,hx1,hl⟩:=hx
  split at h
  case h_2=>cases h
  rename_i u hu
  cases h
  obtain ⟨v',h1,h2⟩:=gh hl _ _ hu
  have h1':l[i]?=some v':=by simpa using h1
  exact same (v':=v') (by simp [execOp,ho,hx1,Instr.extract,h1']) rfl h2
 case makeMap t r=>
  cases r with
  | some _=>cases h
  | none=>
   cases h
   obtain ⟨w',E',hr,G,hv⟩:=uF (P:=P) hE m hm0 t
   exact step (by simp [execOp,ho,hr]) G hv
 case lookup t x k ok=>
  split at h
  case h_2=>cases h
  rename_i q hq
  obtain ⟨e,v',hr,hv⟩:=sa hE hT hq (hev x) (hev k) h
  exact same (by simp [execOp,ho,hr]) e hv
 case mapEntry t x k=>
  split at h
  case h_2=>cases h
  rename_i q hq
  obtain ⟨v',w',E',hr,G,hv⟩:=pk hE hT hq (hev x) (hev k) m h
  exact step (by simp [execOp,ho,hr]) G hv
 case call c=>
  split at h
  ·
   rename_i hc
   split at h
   case h_2=>cases h
   rename_i t x ht hx
   split at h
   case h_2=>cases h
   rename_i td htd
   obtain ⟨e,v',hr,hv⟩:=xa hE (hT _ _ htd) (hev x) o.type h
   have e1:c.argTypes=#[t]:=by apply Array.ext';exact ht
   have e2:c.args=#[x]:=by apply Array.ext';exact hx
   exact same (v':=v') (by simp [execOp,ho,resolve,hc,invoke,builtin,e1,e2,hr]) e hv
  ·rename_i hc
   split at h
   case h_2=>cases h
   rename_i x r hx
   obtain ⟨e,v',hr,hv⟩:=rV (P:=P) (hev x) (gi _ _ hev r) h
   have e2:c.args.toList.map a.eval=a.eval x::r.map a.eval:=by rw [hx];rfl
   exact same (v':=v') (by simp [execOp,ho,resolve,hc,invoke,builtin,Builtin.min_,e2,hr]) e hv
  ·rename_i hc
   split at h
   case h_2=>cases h
   rename_i x r hx
   obtain ⟨e,v',hr,hv⟩:=rU (P:=P) (hev x) (gi _ _ hev r) h
   have e2:c.args.toList.map a.eval=a.eval x::r.map a.eval:=by rw [hx];rfl
   exact same (v':=v') (by simp [execOp,ho,resolve,hc,invoke,builtin,Builtin.max_,e2,hr]) e hv
  ·rename_i hc
   split at h
   case h_2=>cases h
   rename_i t t2 s x ht hx
   split at h
   case h_2=>cases h
   rename_i td td2 htd htd2
   split at h
   case isFalse=>cases h
   rename_i hel
   have hkX:AppK td2:=by
    unfold O0 at hel
    rcases (Bool.or_eq_true _ _).mp hel with hel|hel
    ·obtain ⟨n,hn'⟩:=Option.isSome_iff_exists.1 hel
     obtain ⟨eX,te,hkX,_⟩:=ig hT hn'
     exact .inl ⟨eX,hkX⟩
    ·split at hel
     ·rename_i hk;exact .inr hk
     ·cases hel
   obtain ⟨v',w',E',hr,G,hv⟩:=qx hE hT (hT _ _ htd) (hT _ _ htd2) hkX m hm0 (hev s) (hev x) o.type h hps
   have e1:c.argTypes=#[t,t2]:=by apply Array.ext';exact ht
   have e2:c.args=#[s,x]:=by apply Array.ext';exact hx
   exact step (v':=v') (w':=w') (by simp [execOp,ho,resolve,hc,invoke,builtin,e1,e2,hr]) G hv
  ·rename_i f hc
   split at h
   case h_2=>cases h
   rename_i g caps hg
   split at h
   case h_2=>cases h
   rename_i ct hct
   split at h
   case h_2=>cases h
   rename_i asz has
   exact wW hE hΓ hm hev ho hc hg hct has h hps hn
  ·cases h
theorem si {B:Base} {E:Env} (hE:HRel B E) {t:TypeId} {td:TD} (ht:TDok P t td) {a x:V} {av xv:Value} (ha:aa E a av) (hx:aa E x xv) (m:Nat) {ps:List Ob} {dh:List (Nat×Blk)} (h:lD td E.H a x = .skip ps dh) :
  ∃ w' E',(Instr.storeAt t av xv).run P E.w = .ok () w'∧Good B E m dh w' E':=by
 unfold lD at h
 split at h
 ·split at h
  ·split at h
   case h_2=>cases h
   rename_i ps' dh' hb
   cases h
   obtain ⟨R,X⟩:=cQ hE x.hs
   obtain ⟨w',E',h1,G⟩:=iB (E:=cc E x.hs) R ht (cd X _ _ ha) (cd X _ _ hx) m hb
   refine ⟨w',E',h1,⟨G.rel,X.trans G.ext,G.w,?_,G.u⟩⟩
   rw [G.h,ow]
   congr 1
   funext k
   exact (kq E.H _ k).symm
  ·exact iB hE ht ha hx m h
 ·exact iB hE ht ha hx m h
theorem Cf (hE:HRel B E) (hT:cE P tb) (hK:1≤K) (hev :∀ x,aa E (ev x) (a.eval x)) {o:Oper} {ps:List Ob} {dh:List (Nat×Blk)} (h:uC tb E.H ev o.op=some (ps,dh)) {next:Act→World→Prop} {Q:Exit→Act→World→Prop}
  (hn :∀ E',GoodK B E m K dh E'.w E'→next (a.put o.dst undef) E'.w):o.wp P a E.w next Q:=by
 have step :∀ {w' E'},(execOp a.eval o).run P E.w = .ok .skip w'→Good B E m dh w' E'→o.wp P a E.w next Q:=fun hrun G=>by
  unfold Oper.wp
  rw [hrun]
  simp only [Oper.upon]
  have:=hn _ (by rw [G.w];exact G.toK hK)
  rw [G.w] at this
  exact this
 cases ho:o.op <;> rw [ho] at h <;> simp only [uC,reduceCtorEq] at h
 case store t x y=>
  split at h
  case h_2=>cases h
  rename_i td htd
  split at h
  case h_2=>cases h
  rename_i ps' dh' hs
  cases h
  obtain ⟨w',E',hr,G⟩:=si hE (hT _ _ htd) (hev x) (hev y) m hs
  exact step (by simp [execOp,ho,hr]) G
 case mapUpdate t x k v=>
  split at h
  case h_2=>cases h
  rename_i q hq
  obtain ⟨w',E',hr,G⟩:=sf hE hT hq (hev x) (hev k) (hev v) m h
  exact step (by simp [execOp,ho,hr]) G
 case entryStore t x s v=>
  obtain ⟨w',E',hr,G⟩:=nF (P:=P) hE t (hev x) (hev s) (hev v) m h
  exact step (by simp [execOp,ho,hr]) G
end Go.Mir
namespace Go.Mir
open Go.RowKit
variable {P:Program}
def hsE:List (V×V)→List Nat
 | []=> []
 |(k,v)::r=>k.hs++v.hs++hsE r
def Blk.hs:Blk→List Nat
 | .cells cs=>hss cs
 | .grow _ _ cs=>hss cs
 | .mp es=>hsE es
 | .abs _ _ _=> []
 | .row _ _ _ _=> []
def restr (H:aO) (R:List Nat):aO:=fun h=>bif memN R h then H h else none
mutual
theorem mQ {E E':Env} (hU :∀ n,E.U n→E'.U n) (hS :∀ b,E.S b→E'.S b) (hw:E'.w=E.w) (D:Nat→Prop) (hD :∀ h,D h→E'.H h=E.H h∧E'.ρ h=E.ρ h) :∀ (x:V) (v:Value),(∀ h∈x.hs,D h)→aa E x v→aa E' x v
 | .any,_,_,_=>by simp [aa]
 | .int _ _,_,_,h=>by simpa [aa] using h
 | .bool _,_,_,h=>by simpa [aa] using h
 | .kb _,_,_,h=>by simpa [aa] using h
 | .str _,_,_,h=>by simpa [aa] using h
 | .nilptr,_,_,h=>by simpa [aa] using h
 | .ptr hh off,v,hd,h=>by
  simp only [aa] at h ⊢
  obtain ⟨e1,e2⟩:=hD hh (hd hh (by simp [V.hs]))
  rw [e1,e2]
  exact ⟨hU _ h.1,h.2⟩
 | .fp t xs i off,v,_,h=>by
  simp only [aa] at h ⊢
  obtain ⟨b,o,c,T,fr,h1,h2,h3,h4,h5,h6,h7⟩:=h
  exact ⟨b,o,c,T,fr,hS _ h1,by rw [hw];exact h2,h3,fun j hj=>(h4 j hj).ext hS (fun _ _=>by rw [hw]),h5,h6,h7⟩
 | .rp hh ver i off,v,hd,h=>by
  simp only [aa] at h ⊢
  obtain ⟨e1,e2⟩:=hD hh (hd hh (by simp [V.hs]))
  rw [e1,e2]
  exact ⟨hU _ h.1,hU _ h.2.1,h.2.2⟩
 | .nilsl,_,_,h=>by simpa [aa] using h
 | .esl,_,_,h=>by simpa [aa] using h
 | .osl hh ver,v,hd,h=>by
  simp only [aa] at h ⊢
  obtain ⟨e1,e2⟩:=hD hh (hd hh (by simp [V.hs]))
  rw [e1,e2,hw]
  exact ⟨hU _ h.1,hU _ h.2.1,h.2.2⟩
 | .fsl t xs,v,_,h=>by
  simp only [aa] at h ⊢
  exact h.ext hS (fun _ _=>by rw [hw])
 | .gsl hh ver esz off len,v,hd,h=>by
  simp only [aa] at h ⊢
  obtain ⟨e1,e2⟩:=hD hh (hd hh (by simp [V.hs]))
  rw [e1,e2,hw]
  exact ⟨hU _ h.1,hU _ h.2.1,h.2.2⟩
 | .gp hh ver off,v,hd,h=>by
  simp only [aa] at h ⊢
  obtain ⟨e1,e2⟩:=hD hh (hd hh (by simp [V.hs]))
  rw [e1,e2]
  exact ⟨hU _ h.1,hU _ h.2.1,h.2.2⟩
 | .mpv hh,v,hd,h=>by
  simp only [aa] at h ⊢
  obtain ⟨e1,e2⟩:=hD hh (hd hh (by simp [V.hs]))
  rw [e1,e2]
  exact ⟨hU _ h.1,h.2⟩
 | .av _ hh,v,hd,h=>by
  simp only [aa] at h ⊢
  obtain ⟨e1,e2⟩:=hD hh (hd hh (by simp [V.hs]))
  rw [e1,e2]
  exact ⟨hU _ h.1,h.2⟩
 | .nilfn,_,_,h=>by simpa [aa] using h
 | .nilmap,_,_,h=>by simpa [aa] using h
 | .hint _ _,_,_,h=>by simpa [aa] using h
 | .fn f caps,v,hd,h=>by
  simp only [aa] at h ⊢
  obtain ⟨l,h1,h2⟩:=h
  exact ⟨l,h1,gk hU hS hw D hD _ _ (fun h hh=>hd h (by simpa [V.hs] using hh)) h2⟩
 | .agg cs,v,hd,h=>by
  simp only [aa] at h ⊢
  obtain ⟨l,h1,h2⟩:=h
  exact ⟨l,h1,gk hU hS hw D hD _ _ (fun h hh=>hd h (by simpa [V.hs] using hh)) h2⟩
 | .tup cs,v,hd,h=>by
  simp only [aa] at h ⊢
  obtain ⟨l,h1,h2⟩:=h
  exact ⟨l,h1,gk hU hS hw D hD _ _ (fun h hh=>hd h (by simpa [V.hs] using hh)) h2⟩
theorem gk {E E':Env} (hU :∀ n,E.U n→E'.U n) (hS :∀ b,E.S b→E'.S b) (hw:E'.w=E.w) (D:Nat→Prop) (hD :∀ h,D h→E'.H h=E.H h∧E'.ρ h=E.ρ h) :∀ (xs:List V) (vs:List Value),(∀ h∈hss xs,D h)→ae E xs vs→ae E' xs vs
 | [],[],_,_=>by simp [ae]
 | _::_,[],_,h=>by simp [ae] at h
 | [],_::_,_,h=>by simp [ae] at h
 | x::xs,v::vs,hd,h=>by
  simp only [ae] at h ⊢
  exact ⟨mQ hU hS hw D hD x v (fun h hh=>hd h (by simp [hss,hh])) h.1,gk hU hS hw D hD xs vs (fun h hh=>hd h (by simp [hss,hh])) h.2⟩
end
theorem rM {E E':Env} (hU :∀ n,E.U n→E'.U n) (hS :∀ b,E.S b→E'.S b) (hw:E'.w=E.w) (D:Nat→Prop) (hD :∀ h,D h→E'.H h=E.H h∧E'.ρ h=E.ρ h) :∀ (i:Nat) (xs:List (V×V)) (es:List MapEntry),(∀ h∈hsE xs,D h)→b7 E i xs es→b7 E' i xs es
 | _,[],[],_,_=>trivial
 | _,_::_,[],_,h=>by simp [b7] at h
 | _,[],_::_,_,h=>by simp [b7] at h
 | i,(k,v)::xs,e::es,hd,h=>⟨⟨mQ hU hS hw D hD _ _ (fun h hh=>hd h (by simp [hsE,hh])) h.1.1,mQ hU hS hw D hD _ _ (fun h hh=>hd h (by simp [hsE,hh])) h.1.2.1,h.1.2.2⟩,
  rM hU hS hw D hD (i+1) xs es (fun h hh=>hd h (by simp [hsE,hh])) h.2⟩
theorem FD {E E':Env} (hU :∀ n,E.U n→E'.U n) (hS :∀ b,E.S b→E'.S b) (hS' :∀ b,E'.S b→E.S b) (hw:E'.w=E.w) (D:Nat→Prop) (hD :∀ h,D h→E'.H h=E.H h∧E'.ρ h=E.ρ h) {h:Nat} (hh:D h) {k:Blk} (hk :∀ x∈k.hs,D x) (hb:B1 E h k):B1 E' h k:=by
 obtain ⟨_,e2⟩:=hD h hh
 cases k with
 | cells cs=>
  obtain ⟨b,c,T,fr,h1,h2,h3,h4,h5⟩:=hb
  exact ⟨b,c,T,fr,by rw [e2];exact h1,by rw [hw];exact h2,h3,fun hs=>h4 (hS' _ hs),gk hU hS hw D hD _ _ hk h5⟩
 | row ver rw t xs=>
  obtain ⟨hu,hb⟩:=hb
  refine ⟨hU _ hu,?_⟩
  rcases hb with ⟨h1,h2⟩ |⟨b,c,T,fr,h1,h2,h3,h4,h5,h6,h7,h8⟩
  ·exact .inl ⟨by rw [e2];exact h1,h2⟩
  ·exact .inr ⟨b,c,T,fr,by rw [e2];exact h1,by rw [hw];exact h2,h3,fun e hs=>h4 e (hS' _ hs),fun e=>hS _ (h5 e),h6,h7,fun i hi=>(h8 i hi).ext hS (fun _ _=>by rw [hw])⟩
 | grow ver esz cs=>
  obtain ⟨hu,b,c,T,fr,h1,h2,h3,h4,h5⟩:=hb
  exact ⟨hU _ hu,b,c,T,fr,by rw [e2];exact h1,by rw [hw];exact h2,h3,fun hs=>h4 (hS' _ hs),gk hU hS hw D hD _ _ hk h5⟩
 | mp es=>
  obtain ⟨b,l,k,h1,h2,h3,h4,h5⟩:=hb
  exact ⟨b,l,k,by rw [e2];exact h1,by rw [hw];exact h2,fun hs=>h3 (hS' _ hs),rM hU hS hw D hD _ _ _ hk h4,h5⟩
 | abs kk t x=>
  obtain ⟨b,h1,h2,h3,h4⟩:=hb
  exact ⟨b,by rw [e2];exact h1,fun hs=>h2 (hS' _ hs),fun g hg hs=>h3 g (by rw [hw] at hg;exact hg) (hS' _ hs),by rw [hw];exact h4⟩
def HD (E:Env) (R:List Nat):Nat→Prop:=fun b=>∃ h,h∈R∧∃ k,E.H h=some k∧Tch E h k b
def Qg (E:Env) (R:List Nat) (g:rq E.w (HD E R)):Base:=zu E.w (HD E R) E.S g
theorem vb {B:Base} {E:Env} (hE:HRel B E) (R:List Nat):rq E.w (HD E R):=hE.glob fun _ ⟨h,_,k,hk,hb⟩=>⟨h,k,hk,hb⟩
theorem HRel.restr {B:Base} {E:Env} (hE:HRel B E) (R:List Nat):HRel (Qg E R (vb hE R)) { E with H:=Mir.restr E.H R }:=by
 have get :∀ h k,Mir.restr E.H R h=some k→h∈R∧E.H h=some k:=fun h k hh=>by
  unfold Mir.restr at hh
  cases hm:memN R h with
  | false=>rw [hm] at hh;cases hh
  | true=>rw [hm] at hh;exact ⟨memN_iff.1 hm,hh⟩
 have X:Ext E { E with H:=Mir.restr E.H R }:=by
  refine ⟨fun _ h=>h,fun _ h=>h,fun _ _=>rfl,fun h cs _ hx=>⟨⟨cs,(get _ _ hx).2⟩,rfl⟩,fun h ver rw t xs _ _ hx=>⟨rw,xs,(get _ _ hx).2,rfl,rfl,fun b c T fr _ hw=>⟨c,T,fr,hw,rfl⟩⟩,fun h ver esz cs _ _ hx=>⟨cs,(get _ _ hx).2,rfl,rfl,fun b c T fr _ hw=>⟨c,T,fr,hw,rfl⟩⟩,fun h es _ hx=>⟨⟨es,(get _ _ hx).2⟩,rfl⟩,fun h k t x _ hx=>⟨⟨x,(get _ _ hx).2⟩,rfl⟩⟩
 refine ⟨fun h b hx=>hE.used _ _ (get _ _ hx).2,hE.stab,fun h k b hx hb=>hE.lt' _ _ _ (get _ _ hx).2 hb,fun h h' k k' b h1 h2 b1 b2=>hE.inj' _ _ _ _ _ (get _ _ h1).2 (get _ _ h2).2 b1 b2,
  fun h k hx=>cL X rfl (fun _ _=>rfl) (fun _ _ _ h=>h) (hE.blk _ _ (get _ _ hx).2),Keeps.refl _ _,fun h k b hx hb=> .inl ⟨h,(get _ _ hx).1,_,(get _ _ hx).2,hb⟩,fun _ h=>h,fun _ h=> .inl h⟩
theorem O9 {B:Base} {E:Env} (hE:HRel B E) {R:List Nat} {m K:Nat} (hm :∀ n,m≤n→n<m+K→¬ E.U n) {dh:List (Nat×Blk)} {w':World} {Es:Env} (G:GoodK (Qg E R (vb hE R)) { E with H:=restr E.H R } m K dh w' Es)
  (_ :∀ h∈R,∃ k,E.H h=some k) (hc :∀ h∈R,∀ k,E.H h=some k→∀ x∈k.hs,x∈R∨(m≤x∧x<m+K))
  (hk :∀ h k,find dh h=some k→(h∈R∨(m≤h∧h<m+K))∧∀ x∈k.hs,x∈R∨(m≤x∧x<m+K)) :
  ∃ E',GoodK B E m K dh w' E'∧∀ (v:V) (u:Value),(∀ x∈v.hs,x∈R∨(m≤x∧x<m+K))→aa Es v u→aa E' v u:=by
 classical
 let D:Nat→Prop:=fun h=>h∈R∨(m≤h∧h<m+K)
 let E':Env:=⟨Es.U,fun h=>if D h then Es.ρ h else E.ρ h,Es.S,Es.w,aJ E.H dh⟩
 have hEs:=G.rel
 have Xs:=G.ext
 have hH :∀ h,D h→E'.H h=Es.H h:=fun h hd=>by
  show aJ E.H dh h=Es.H h
  rw [G.h]
  unfold aJ
  cases hf:find dh h with
  | some k=>rfl
  | none=>
   simp only
   unfold Mir.restr
   cases hm':memN R h with
   | true=>rfl
   | false=>
    rcases hd with hd|hd
    ·rw [memN_iff.2 hd] at hm';cases hm'
    ·cases hx:E.H h with
     | none=>rfl
     | some k=>exact absurd (hE.used _ _ hx) (hm h hd.1 hd.2)
 have hρ :∀ h,D h→E'.ρ h=Es.ρ h:=fun h hd=>if_pos hd
 have hHn :∀ h,¬ D h→E'.H h=E.H h:=fun h hd=>by
  show aJ E.H dh h=E.H h
  unfold aJ
  cases hf:find dh h with
  | some k=>exact absurd (hk h k hf).1 hd
  | none=>rfl
 have hρn :∀ h,¬ D h→E'.ρ h=E.ρ h:=fun h hd=>if_neg hd
 have notF :∀ h k b,¬ D h→E.H h=some k→Tch E h k b→¬ HD E R b:=fun h k b hd hx hb hf=>by
  obtain ⟨h2,g1,k2,g2,g3⟩:=hf
  have:=hE.inj' _ _ _ _ _ hx g2 hb g3
  subst this
  exact hd (.inl g1)
 have keep' :∀ h k b,¬ D h→E.H h=some k→Tch E h k b→Es.w.heap[b]?=E.w.heap[b]?:=fun h k b hd hx hb=>
  hEs.keeps.block b (hE.lt' _ _ _ hx hb) (notF h k b hd hx hb)
 have keep :∀ h k b,¬ D h→E.H h=some k→E.ρ h=some b→Es.w.heap[b]?=E.w.heap[b]?:=fun h k b hd hx hb=>keep' h k b hd hx (.inl hb)
 have tD :∀ {h k b},D h→Tch E' h k b→Tch Es h k b:=fun hd ht=>ht.mv (hρ _ hd) (fun _ _=>rfl)
 have tN :∀ {h k b},¬ D h→E.H h=some k→Tch E' h k b→Tch E h k b:=fun hd hx ht=>ht.mv (hρn _ hd) (fun b hb=>keep _ _ b hd hx hb)
 have X:Ext E E':=by
  refine ⟨Xs.u,Xs.s,Xs.keepS,fun h cs' hu hx=>?_,fun h ver rw' t' xs' hu hv hx=>?_,fun h ver esz cs' hu hv hx=>?_,fun h es' hu hx=>?_,fun h kk t x' hu hx=>?_⟩
  case refine_5=>
   by_cases hd:D h
   ·rw [hH h hd] at hx
    obtain ⟨⟨x,h1⟩,h2⟩:=Xs.ha h kk t x' hu hx
    refine ⟨⟨x,?_⟩,by rw [hρ h hd];exact h2⟩
    have h1':Mir.restr E.H R h=some (.abs kk t x):=h1
    unfold Mir.restr at h1'
    cases hm':memN R h with
    | false=>rw [hm'] at h1';cases h1'
    | true=>rw [hm'] at h1';exact h1'
   ·rw [hHn h hd] at hx
    exact ⟨⟨x',hx⟩,hρn h hd⟩
  ·by_cases hd:D h
   ·rw [hH h hd] at hx
    obtain ⟨⟨cs,h1⟩,h2⟩:=Xs.hc h cs' hu hx
    refine ⟨⟨cs,?_⟩,by rw [hρ h hd];exact h2⟩
    have h1':Mir.restr E.H R h=some (.cells cs):=h1
    unfold Mir.restr at h1'
    cases hm':memN R h with
    | false=>rw [hm'] at h1';cases h1'
    | true=>rw [hm'] at h1';exact h1'
   ·rw [hHn h hd] at hx
    exact ⟨⟨cs',hx⟩,hρn h hd⟩
  ·by_cases hd:D h
   ·rw [hH h hd] at hx
    obtain ⟨rw,xs,h1,h2,h3,h4⟩:=Xs.hr h ver rw' t' xs' hu hv hx
    refine ⟨rw,xs,?_,h2,by rw [hρ h hd];exact h3,h4⟩
    have h1':Mir.restr E.H R h=some (.row ver rw t' xs):=h1
    unfold Mir.restr at h1'
    cases hm':memN R h with
    | false=>rw [hm'] at h1';cases h1'
    | true=>rw [hm'] at h1';exact h1'
   ·rw [hHn h hd] at hx
    exact ⟨rw',xs',hx,rfl,hρn h hd,fun b c T fr hb hw=>⟨c,T,fr,by rw [show E'.w=Es.w from rfl,keep h _ b hd hx hb];exact hw,rfl⟩⟩
  ·by_cases hd:D h
   ·rw [hH h hd] at hx
    obtain ⟨xs,h1,h2,h3,h4⟩:=Xs.hg h ver esz cs' hu hv hx
    refine ⟨xs,?_,h2,by rw [hρ h hd];exact h3,h4⟩
    have h1':Mir.restr E.H R h=some (.grow ver esz xs):=h1
    unfold Mir.restr at h1'
    cases hm':memN R h with
    | false=>rw [hm'] at h1';cases h1'
    | true=>rw [hm'] at h1';exact h1'
   ·rw [hHn h hd] at hx
    exact ⟨cs',hx,rfl,hρn h hd,fun b c T fr hb hw=>⟨c,T,fr,by rw [show E'.w=Es.w from rfl,keep h _ b hd hx hb];exact hw,rfl⟩⟩
  ·by_cases hd:D h
   ·rw [hH h hd] at hx
    obtain ⟨⟨es,h1⟩,h2⟩:=Xs.hm h es' hu hx
    refine ⟨⟨es,?_⟩,by rw [hρ h hd];exact h2⟩
    have h1':Mir.restr E.H R h=some (.mp es):=h1
    unfold Mir.restr at h1'
    cases hm':memN R h with
    | false=>rw [hm'] at h1';cases h1'
    | true=>rw [hm'] at h1';exact h1'
   ·rw [hHn h hd] at hx
    exact ⟨⟨es',hx⟩,hρn h hd⟩
 have trans :∀ (v:V) (u:Value),(∀ x∈v.hs,D x)→aa Es v u→aa E' v u:=fun v u hd hv=>
  mQ (E:=Es) (E':=E') (fun _ h=>h) (fun _ h=>h) rfl D (fun h hd=>⟨hH h hd,hρ h hd⟩) v u hd hv
 have hw0:E.w.heap.size≤Es.w.heap.size:=hEs.keeps.size
 have hB0:B.w0.heap.size≤E.w.heap.size:=hE.keeps.size
 have hfoot :∀ b,HD E R b→B.F b∨B.w0.heap.size≤b:=fun b ⟨h2,_,k2,g2,g3⟩=>hE.own' _ _ _ g2 g3
 have R':HRel B E':=by
  refine ⟨fun h b hx=>?_,hEs.stab,fun h k b hx hb=>?_,fun h h' k k' b h1 h2 b1 b2=>?_,fun h k hx=>?_,?_,fun h k b hx hb=>?_,fun b hs=>Xs.s _ (hE.s0 b hs),fun b hs=>?_⟩
  ·by_cases hd:D h
   ·rw [hH h hd] at hx;exact hEs.used _ _ hx
   ·rw [hHn h hd] at hx;exact Xs.u _ (hE.used _ _ hx)
  ·by_cases hd:D h
   ·rw [hH h hd] at hx;exact hEs.lt' _ _ _ hx (tD hd hb)
   ·rw [hHn h hd] at hx;exact Nat.lt_of_lt_of_le (hE.lt' _ _ _ hx (tN hd hx hb)) hw0
  ·have mix :∀ h h' k k',D h→¬ D h'→E'.H h=some k→E'.H h'=some k'→Tch E' h k b→Tch E' h' k' b→False:=fun h h' k k' hd hd' h1 h2 b1 b2=>by
    rw [hH h hd] at h1;replace b1:=tD hd b1;rw [hHn h' hd'] at h2;replace b2:=tN hd' h2 b2
    rcases hEs.own' _ _ _ h1 b1 with h3|h3
    ·exact notF _ _ _ hd' h2 b2 h3
    ·have h4:=hE.lt' _ _ _ h2 b2
     have h5:E.w.heap.size≤b:=h3
     omega
   by_cases hd:D h <;> by_cases hd':D h'
   ·rw [hH h hd] at h1;rw [hH h' hd'] at h2
    exact hEs.inj' _ _ _ _ _ h1 h2 (tD hd b1) (tD hd' b2)
   ·exact (mix h h' k k' hd hd' h1 h2 b1 b2).elim
   ·exact (mix h' h k' k hd' hd h2 h1 b2 b1).elim
   ·rw [hHn h hd] at h1;rw [hHn h' hd'] at h2
    exact hE.inj' _ _ _ _ _ h1 h2 (tN hd h1 b1) (tN hd' h2 b2)
  ·by_cases hd:D h
   ·have hx':=hx
    rw [hH h hd] at hx'
    refine FD (E:=Es) (E':=E') (fun _ h=>h) (fun _ h=>h) (fun _ h=>h) rfl D (fun h hd=>⟨hH h hd,hρ h hd⟩) hd ?_ (hEs.blk _ _ hx')
    have hx2:aJ E.H dh h=some k:=hx
    unfold aJ at hx2
    cases hf:find dh h with
    | some k2=>rw [hf] at hx2;simp only [Option.some.injEq] at hx2;subst hx2;exact (hk h _ hf).2
    | none=>
     rw [hf] at hx2
     rcases hd with hd|hd
     ·exact hc h hd k hx2
     ·exact absurd (hE.used _ _ hx2) (hm h hd.1 hd.2)
   ·have hx':=hx
    rw [hHn h hd] at hx'
    refine cL X (hρn h hd) (fun b hb=>keep' h k b hd hx' hb) (fun b hb _ hs hs'=>?_) (hE.blk _ _ hx')
    rcases hEs.sb b hs' with h1|h1|h1
    ·exact hs h1
    ·exact notF h k b hd hx' hb h1
    ·have h4:=hE.lt' _ _ _ hx' hb
     have h5:E.w.heap.size≤b:=h1
     omega
  ·exact hE.keeps.trans hEs.keeps hfoot
  ·by_cases hd:D h
   ·rw [hH h hd] at hx
    rcases hEs.own' _ _ _ hx (tD hd hb) with h3|h3
    ·exact hfoot b h3
    ·exact .inr (Nat.le_trans hB0 h3)
   ·rw [hHn h hd] at hx;exact hE.own' _ _ _ hx (tN hd hx hb)
  ·rcases hEs.sb b hs with h1|h1|h1
   ·exact hE.sb b h1
   ·exact .inr (hfoot b h1)
   ·exact .inr (.inr (Nat.le_trans hB0 h1))
 exact ⟨E',⟨R',X,G.w,rfl,G.u⟩,trans⟩
end Go.Mir
namespace Go.Mir
open Go.RowKit
structure Cfg where
 tb:Tbl
 Γ:FuncId→Option Ctr
 K:Nat
 N:Nat
structure Dl where
 tm:List (Nat×V)
 hp:List (Nat×Blk)
structure St where
 tm:List (Nat×V)
 hp:List (Nat×Blk)
 H0:aO
 nx:Nat
def St.H (s:St):aO:=aJ s.H0 s.hp
def St.app (s:St) (d:Dl) (nx:Nat):St:=⟨d.tm++s.tm,d.hp++s.hp,s.H0,nx⟩
def eu (tm:List (Nat×V)) (i:Nat):V:=match find tm i with|some v=>v|none=> .any
def AN (tm:List (Nat×V)):Operand→V
 | .tmp t=>eu tm t
 | .const v=>cv v
 | .func f=> .fn f []
 | .global _=> .any
def ee (rs:List Nat) (tm:List (Nat×V)):Operand→V
 | .tmp t=>bif memN rs t then eu tm t else .any
 | .const v=>cv v
 | .func f=> .fn f []
 | .global _=> .any
inductive Lf where
 | nrm|ext (id:Nat)|ret
inductive Tr where
 | leaf (e:Lf) (d:Dl) (nx:Nat)
 | br (b:Bool) (t e:Tr)
 | need (p:Prop) (t:Tr)
 | both (t u:Tr)
 | when (b:Bool) (t:Tr)
 | done
 | bad
def Tr.sat (Q:Lf→Dl→Nat→Prop):Tr→Prop
 | .leaf e d nx=>Q e d nx
 | .br b t e=>(b=true→t.sat Q)∧(b=false→e.sat Q)
 | .need p t=>p∧t.sat Q
 | .both t u=>t.sat Q∧u.sat Q
 | .when b t=>b=true→t.sat Q
 | .done=>True
 | .bad=>False
def needs:List Ob→Tr→Tr
 | [],t=>t
 | p::ps,t=> .need p.holds (needs ps t)
theorem vK {Q:Lf→Dl→Nat→Prop} {t:Tr} :∀ {ps:List Ob},(needs ps t).sat Q→(∀ p∈ps,p.holds)∧t.sat Q
 | [],h=>⟨fun p hp=>by simp at hp,h⟩
 | p::ps,h=>by
  simp only [needs,Tr.sat] at h
  obtain ⟨h1,h2⟩:=vK h.2
  exact ⟨fun q hq=>by rcases List.mem_cons.1 hq with rfl|hq;exact h.1;exact h1 q hq,h2⟩
def fm:Option Nat→V→List (Nat×V)
 | some d,v=> [(d,v)]
 | none,_=> []
def dstIn (N:Nat):Option Nat→Bool
 | some d=>Nat.blt d N
 | none=>true
def bM (all:List Oper) (o:Oper):List Nat:=
 (o.op.operands.toList.filterMap fun | .tmp t=>some t|_=>none) ++
  (match o.guard with|some (j,_)=>(match all[j]? with|some oj=>oj.dst.toList|none=> [])|none=> [])
def jl (all:List Oper) (tm:List (Nat×V)) (o:Oper):Option Bool:=
 match o.guard with
 | none=>some true
 | some (j,want)=>match all[j]? with
  | some oj=>match oj.dst with
   | some dj=>match eu tm dj with
    | .kb b=>some (b==want)
    | .tup []=>some false
    | _=>none
   | none=>none
  | none=>none
def KP (all:List Oper) (i:Nat):Bool:=all.any fun o=>match o.guard with|some (j,_)=>Nat.beq j i|none=>false
def Jd (H:aO):Nat→List Nat→List Nat→List Nat
 | 0,_,acc=>acc
 | n+1,new,acc=>
  let add:=new.filter fun h=>!memN acc h
  let nxt:=add.flatMap fun h=>match H h with|some b=>b.hs|none=> []
  match add with
  | []=>acc
  | _=>Jd H n nxt (add++acc)
def FU (R:List Nat) (m K:Nat) (l:List Nat):Bool:=l.all fun h=>memN R h ||(Nat.ble m h&&Nat.blt h (m+K))
def xh (H:aO) (R:List Nat) (m K:Nat) (v:V) (dh:List (Nat×Blk)):Bool:=
 (R.all fun h=>match H h with|some b=>FU R m K b.hs|none=>false)&&(dh.all fun q=>FU R m K [q.1]&&FU R m K q.2.hs)&&FU R m K v.hs
def fo (C:Cfg) (m:Nat) (H:aO) (ev:Operand→V) (o:Op):Option (List Ob×V×List (Nat×Blk)):=
 match uC C.tb H ev o with
 | some (ps,dh)=>some (ps,.tup [],dh)
 | none=>match om C.tb C.Γ m H ev o with
  | .val ps v dh=>some (ps,v,dh)
  | _=>none
structure Rec where
 dst:Option Nat
 v:V
 dh:List (Nat×Blk)
 R:List Nat
 rs:List Nat
def uc (C:Cfg) (dr:Bool) (rs:List Nat) (tm:List (Nat×V)) (H:aO) (m:Nat) (o:Oper):Option (List Ob×V×List (Nat×Blk)×List Nat):=
 match dr with
 | false=>match fo C m H (AN tm) o.op with
  | some (ps,v,dh)=>some (ps,v,dh,[])
  | none=>none
 | true=>
  let ev:=ee rs tm
  let R:=Jd H 8 (o.op.operands.toList.flatMap fun x=>(ev x).hs) []
  match fo C m (restr H R) ev o.op with
  | some (ps,v,dh)=>bif xh H R m C.K v dh then some (ps,v,dh,R) else none
  | none=>none
def rK (ev:Operand→V):Op→Bool
 | .move _ | .assign _ | .pick _ _ _ | .alloc _ | .box _ _ | .build _ _ | .load _ _ | .nilCheck _ | .binOp _ _ _ _ _ | .unOp _ _ _ | .convert _ _ _ | .makeFunc _ _ _=>true
 | .fieldAddr _ _ _ | .field _ _ _ | .indexAddr _ _ _ | .index _ _ _ | .extract _ _ | .slice _ _ _ _ _=>true
 | .store _ a _=>match ev a with
  | .ptr _ _=>true
  | .gp _ _ _=>true
  | _=>false
 | .call c=>match c.callee with
  | .builtin .len=>true
  | .builtin .append=>true
  | _=>false
 | _=>false
def Ns (ev:Operand→V) (op:Op):List Nat:=
 match op with
 | .move _=> []
 | .assign _=> []
 | .nilCheck _=> []
 | .fieldAddr _ _ _=> []
 | op=>op.operands.toList.flatMap fun x=>(ev x).hs
def J9 (C:Cfg) (dr:Bool) (rs:List Nat) (tm:List (Nat×V)) (H:aO) (m:Nat) (o:Oper):Option (List Ob×V×List (Nat×Blk)×List Nat):=
 match dr with
 | false=>uc C false rs tm H m o
 | true=>match rK (ee rs tm) o.op with
  | true=>match fo C m H (ee rs tm) o.op with
   | some (ps,v,dh)=>some (ps,v,dh,Ns (ee rs tm) o.op)
   | none=>none
  | false=>uc C true rs tm H m o
def oJ (acc:List Nat):List Edge→Nat
 | []=>0
 | e::es=>if Region.binds .any e then (oJ acc es ||| 2 ^ e.on) |||(acc[e.on]?).getD 0 else oJ acc es
def jP:List Oper→List Nat→List Nat
 | [],acc=>acc
 | o::os,acc=>jP os (acc++[oJ acc o.after.toList])
def gm:Nat→List Oper→Bool
 | _,[]=>true
 | i,o::os=>(o.after.toList.all fun e=>!Region.binds .any e||Nat.blt e.on i)&&gm (i+1) os
def B7 (l r:List Nat):Bool:=l.all fun x=>!memN r x
def Nr (r s:Rec):Bool:=
 B7 r.dst.toList s.dst.toList&&B7 r.dst.toList s.rs&&B7 s.dst.toList r.rs &&
  (B7 (r.dh.map (·.1)) (s.dh.map (·.1))&&B7 (r.dh.map (·.1)) s.R&&B7 (s.dh.map (·.1)) r.R)
def xQ (ms:List Nat) (i:Nat) (r:Rec):Nat→List Rec→Bool
 | _,[]=>true
 | j,s::ss=>(((ms[j]?).getD 0).testBit i||Nr r s)&&xQ ms i r (j+1) ss
def ke (ms:List Nat):Nat→List Rec→Bool
 | _,[]=>true
 | i,r::rs=>xQ ms i r (i+1) rs&&ke ms (i+1) rs
def y7 (g:Bool) (v:V) (k:V→Tr):Tr:=
 match g,v with
 | true,.bool b=> .br b (k (.kb true)) (k (.kb false))
 | _,v=>k v
theorem tV {Q:Lf→Dl→Nat→Prop} {g:Bool} {v:V} {k:V→Tr} (h :(y7 g v k).sat Q) :∃ v',(v'=v∨∃ b,v = .bool b∧v' = .kb b)∧(k v').sat Q:=by
 unfold y7 at h
 split at h
 ·simp only [Tr.sat] at h
  rename_i b
  cases b with
  | true=>exact ⟨_,.inr ⟨true,rfl,rfl⟩,h.1 rfl⟩
  | false=>exact ⟨_,.inr ⟨false,rfl,rfl⟩,h.2 rfl⟩
 ·exact ⟨_,.inl rfl,h⟩
def y8 (kd:IntKind) (n:Int) (k:V→Tr):Nat→Nat→Tr
 | 0,_=> .need False .done
 | m+1,j=> .br (n ==(j:Int)) (k (.int kd j)) (y8 kd n k m (j+1))
def xp (tb:Tbl) (d:Option Nat):List Oper→Nat
 | []=>0
 | o::os=>match o.op,d with
  | .indexAddr t _ (.tmp i),some d=>bif Nat.beq i d then (match tb t with|some td=>(match td.kind with | .arr len _=>len|_=>xp tb (some d) os)|none=>0) else xp tb (some d) os
  | _,_=>xp tb d os
def D2 (g:Bool) (l:Nat) (v:V) (k:V→Tr):Tr:=
 match l with
 | 0=>y7 g v k
 | l+1=>match v with
  | .int kd n=>y8 kd n k (l+1) 0
  | v=>y7 g v k
theorem tW {Q:Lf→Dl→Nat→Prop} {kd:IntKind} {n:Int} {k:V→Tr} :∀ {m j:Nat},(y8 kd n k m j).sat Q→(k (.int kd n)).sat Q
 | 0,j,h=>h.1.elim
 | m+1,j,h=>by
  simp only [y8,Tr.sat] at h
  cases hb:n ==(j:Int) with
  | true=>
   have:n =(j:Int):=by simpa using hb
   have:=h.1 hb
   rwa [←‹n =(j:Int)›] at this
  | false=>exact tW (h.2 hb)
theorem D3 {Q:Lf→Dl→Nat→Prop} {g:Bool} {l:Nat} {v:V} {k:V→Tr} (h :(D2 g l v k).sat Q) :∃ v',(v'=v∨∃ b,v = .bool b∧v' = .kb b)∧(k v').sat Q:=by
 unfold D2 at h
 split at h
 ·exact tV h
 ·split at h
  ·exact ⟨_,.inl rfl,tW h⟩
  ·exact tV h
def qc (C:Cfg) (dr:Bool) (all:List Oper) (st:St):Nat→List Oper→Dl→List Rec→Tr
 | _,[],d,recs=>if dr=false∨(gm 0 all=true∧ke (jP all []) 0 recs=true) then .leaf .nrm d (st.nx+all.length*C.K) else .bad
 | i,o::rest,d,recs=>
  let tm:=d.tm++st.tm
  let rs:=bM all o
  bif dstIn C.N o.dst then
   match jl all tm o with
   | some false=>qc C dr all st (i+1) rest ⟨fm o.dst (.tup [])++d.tm,d.hp⟩ (recs++[⟨o.dst,.tup [],[],[],rs⟩])
   | some true=>match J9 C dr rs tm (aJ st.H d.hp) (st.nx+i*C.K) o with
    | some (ps,v,dh,R)=>needs ps (D2 (KP all i) (xp C.tb o.dst rest) v fun v=>qc C dr all st (i+1) rest ⟨fm o.dst v++d.tm,dh++d.hp⟩ (recs++[⟨o.dst,v,dh,R,rs⟩]))
    | none=> .bad
   | none=> .bad
  else .bad
inductive Does (C:Cfg) (dr:Bool) (all:List Oper) (tm:List (Nat×V)) (H:aO) (m:Nat) (o:Oper):Rec→Prop
 | skip:dstIn C.N o.dst=true→jl all tm o=some false→Does C dr all tm H m o ⟨o.dst,.tup [],[],[],bM all o⟩
 | run {ps:List Ob} {v v':V} {dh:List (Nat×Blk)} {R:List Nat}:dstIn C.N o.dst=true→jl all tm o=some true→uc C dr (bM all o) tm H m o=some (ps,v,dh,R)→(∀ p∈ps,p.holds)→
   (v'=v∨∃ b,v = .bool b∧v' = .kb b)→Does C dr all tm H m o ⟨o.dst,v',dh,R,bM all o⟩
 | dir {ps:List Ob} {v v':V} {dh:List (Nat×Blk)}:dr=true→dstIn C.N o.dst=true→jl all tm o=some true→rK (ee (bM all o) tm) o.op=true→fo C m H (ee (bM all o) tm) o.op=some (ps,v,dh)→(∀ p∈ps,p.holds)→
   (v'=v∨∃ b,v = .bool b∧v' = .kb b)→Does C dr all tm H m o ⟨o.dst,v',dh,Ns (ee (bM all o) tm) o.op,bM all o⟩
theorem um {C:Cfg} {dr:Bool} {all:List Oper} {tm:List (Nat×V)} {H:aO} {m:Nat} {o:Oper} {ps:List Ob} {v v':V} {dh:List (Nat×Blk)} {R:List Nat} (h1:dstIn C.N o.dst=true) (h2:jl all tm o=some true) (h3:J9 C dr (bM all o) tm H m o=some (ps,v,dh,R)) (h4 :∀ p∈ps,p.holds)
  (h5:v'=v∨∃ b,v = .bool b∧v' = .kb b):Does C dr all tm H m o ⟨o.dst,v',dh,R,bM all o⟩:=by
 unfold J9 at h3
 split at h3
 ·exact .run h1 h2 h3 h4 h5
 ·split at h3
  ·rename_i hd
   split at h3
   ·rename_i he
    simp only [Option.some.injEq,Prod.mk.injEq] at h3
    obtain ⟨rfl,rfl,rfl,rfl⟩:=h3
    exact .dir rfl h1 h2 hd he h4 h5
   ·cases h3
  ·exact .run h1 h2 h3 h4 h5
inductive Run (C:Cfg) (dr:Bool) (all:List Oper) (st:St):Nat→List Oper→Dl→List Rec→Dl→List Rec→Prop
 | nil {i:Nat} {d:Dl} {recs:List Rec}:Run C dr all st i [] d recs d recs
 | cons {i:Nat} {o:Oper} {rest:List Oper} {d:Dl} {recs:List Rec} {r:Rec} {df:Dl} {rf:List Rec}:Does C dr all (d.tm++st.tm) (aJ st.H d.hp) (st.nx+i*C.K) o r→
   Run C dr all st (i+1) rest ⟨fm r.dst r.v++d.tm,r.dh++d.hp⟩ (recs++[r]) df rf→Run C dr all st i (o::rest) d recs df rf
theorem iX {C:Cfg} {dr:Bool} {all:List Oper} {st:St} {Q:Lf→Dl→Nat→Prop} :∀ (rest:List Oper) (i:Nat) (d:Dl) (recs:List Rec),(qc C dr all st i rest d recs).sat Q→
  ∃ df rf,Run C dr all st i rest d recs df rf∧(dr=false∨(gm 0 all=true∧ke (jP all []) 0 rf=true))∧Q .nrm df (st.nx+all.length*C.K)
 | [],i,d,recs,h=>by
  unfold qc at h
  split at h
  ·rename_i hc
   exact ⟨d,recs,.nil,hc,h⟩
  ·exact h.elim
 | o::rest,i,d,recs,h=>by
  unfold qc at h
  dsimp only at h
  cases hd:dstIn C.N o.dst with
  | false=>rw [hd] at h;exact h.elim
  | true=>
   rw [hd] at h
   simp only [cond_true] at h
   split at h
   ·rename_i hg
    obtain ⟨df,rf,h1,h2⟩:=iX rest _ _ _ h
    exact ⟨df,rf,.cons (.skip hd hg) h1,h2⟩
   ·rename_i hg
    split at h
    case h_2=>exact h.elim
    rename_i ps v dh R hs
    obtain ⟨hps,h⟩:=vK h
    obtain ⟨v',hv,h⟩:=D3 h
    obtain ⟨df,rf,h1,h2⟩:=iX rest _ _ _ h
    exact ⟨df,rf,.cons (um hd hg hs hps hv) h1,h2⟩
   ·exact h.elim
end Go.Mir
namespace Go.Mir
open Go.RowKit
variable {P:Program}
structure SRel (B:Base) (N:Nat) (T:Nat→Option V) (H:aO) (U:Nat→Prop) (a:Act) (w:World):Prop where
 ex :∃ E,HRel B E∧E.w=w∧E.H=H∧(B.G E∧∀ n,E.U n→U n)∧∀ s v,T s=some v→aa E v (a.tmps.getD s undef)
 size:a.tmps.size=N
 defers:a.defers=B.dfs
theorem cB {α:Type} (l r:List (Nat×α)) (i:Nat):find (l++r) i=match find l i with|some v=>some v|none=>find r i:=by
 induction l with
 | nil=>rfl
 | cons x l ih=>
  obtain ⟨k,v⟩:=x
  simp only [List.cons_append,find]
  cases Nat.beq k i with
  | true=>rfl
  | false=>simpa using ih
theorem di (H:aO) (l r:List (Nat×Blk)):aJ H (l++r)=aJ (aJ H r) l:=by
 funext h
 simp only [aJ,cB]
 cases find l h <;> rfl
theorem rH {E:Env} (v:Value):aa E (cv v) v:=by
 unfold cv
 split
 ·split
  ·rename_i h;exact gR h
  ·simp [aa]
 ·exact vkb _
 ·split
  ·rename_i h;exact G8 h
  ·simp [aa]
 ·simp [aa]
 ·simp [aa]
 ·simp [aa]
 ·simp [aa]
 ·simp [aa]
def ib (E:Env) (T:Nat→Option V) (a:Act):Prop:=∀ s v,T s=some v→aa E v (a.tmps.getD s undef)
theorem cP {E:Env} {tm:List (Nat×V)} {a:Act} (h:ib E (find tm) a) (s:Nat):aa E (eu tm s) (a.tmps.getD s undef):=by
 unfold eu
 cases hf:find tm s with
 | some v=>exact h s v hf
 | none=>simp [aa]
theorem iQ {E:Env} {tm:List (Nat×V)} {a:Act} (h:ib E (find tm) a) (x:Operand):aa E (AN tm x) (a.eval x):=by
 cases x with
 | tmp t=>exact cP h t
 | const v=>exact rH v
 | func f=>simp only [AN,aa,Act.eval];exact ⟨#[],rfl,by simp [ae]⟩
 | _=>simp [AN,aa]
theorem Does.dstIn {C:Cfg} {dr:Bool} {all:List Oper} {tm:List (Nat×V)} {H:aO} {m:Nat} {o:Oper} {r:Rec} (h:Does C dr all tm H m o r):dstIn C.N o.dst=true∧r.dst=o.dst∧r.rs=bM all o:=by
 cases h with
 | skip h _=>exact ⟨h,rfl,rfl⟩
 | run h _ _ _ _=>exact ⟨h,rfl,rfl⟩
 | dir _ h _ _ _ _ _=>exact ⟨h,rfl,rfl⟩
theorem Jc {E E':Env} (X:Ext E E') {T:Nat→Option V} {a:Act} (h:ib E T a) {N:Nat} (hs:a.tmps.size=N) {dst:Option Nat} (hd:dstIn N dst=true) {v:V} {v':Value} (hv:aa E' v v') {T':Nat→Option V}
  (hT :∀ s u,T' s=some u→find (fm dst v) s=some u∨(find (fm dst v) s=none∧T s=some u)):ib E' T' (a.put dst v'):=by
 intro s u hu
 cases dst with
 | none=>
  rcases hT s u hu with h1|h1
  ·simp [fm,find] at h1
  ·exact cd X _ _ (h s u h1.2)
 | some d=>
  simp only [Mir.dstIn,Nat.blt_eq] at hd
  simp only [Act.put]
  rcases hT s u hu with h1 |⟨h1,h2⟩
  ·simp only [fm,find] at h1
   cases hb:Nat.beq d s with
   | true=>
    rw [hb] at h1
    simp only [cond_true,Option.some.injEq] at h1
    subst h1
    obtain rfl:=Nat.eq_of_beq_eq_true hb
    have :(a.tmps.setIfInBounds d v').getD d undef=v':=by simp [Array.getD_eq_getD_getElem?,hs,hd]
    rw [this];exact hv
   | false=>rw [hb] at h1;simp at h1
  ·simp only [fm,find] at h1
   cases hb:Nat.beq d s with
   | true=>rw [hb] at h1;simp at h1
   | false=>
    have hne:d≠s:=fun e=>by subst e;rw [Nat.beq_refl] at hb;cases hb
    have :(a.tmps.setIfInBounds d v').getD s undef=a.tmps.getD s undef:=by
     simp [Array.getD_eq_getD_getElem?,Array.getElem?_setIfInBounds_ne hne]
    rw [this];exact cd X _ _ (h s u h2)
theorem A7 {a:Act} {dst:Option Nat} {v:Value} :(a.put dst v).tmps.size=a.tmps.size:=by cases dst <;> simp [Act.put]
theorem tt {a:Act} {dst:Option Nat} {v:Value} :(a.put dst v).defers=a.defers:=by cases dst <;> simp [Act.put]
theorem HH {t:Array Value} {d:Nat} {v:Value} (h:t.getD d undef=v) (hv:v≠undef):t[d]?=some v:=by
 rw [Array.getD_eq_getD_getElem?] at h
 cases hx:t[d]? with
 | none=>rw [hx] at h;exact absurd h.symm hv
 | some u=>rw [hx] at h;simpa using h
theorem qj {E:Env} {all:List Oper} {T:Nat→V} {a:Act} (hT :∀ s,aa E (T s) (a.tmps.getD s undef)) {o:Oper} {b:Bool}
  (h :(match o.guard with
   | none=>some true
   | some (j,want)=>match all[j]? with
    | some oj=>match oj.dst with
     | some dj=>match T dj with
      | .kb b=>some (b==want)
      | .tup []=>some false
      | _=>none
     | none=>none
    | none=>none:Option Bool)=some b):Region.wanted o (yielded all.toArray a.tmps)=b:=by
 unfold Region.wanted
 cases hg:o.guard with
 | none=>rw [hg] at h;simpa using h
 | some q=>
  obtain ⟨j,want⟩:=q
  rw [hg] at h
  simp only at h ⊢
  cases hj:all[j]? with
  | none=>rw [hj] at h;simp at h
  | some oj=>
   rw [hj] at h
   simp only at h
   cases hd:oj.dst with
   | none=>rw [hd] at h;simp at h
   | some dj=>
    rw [hd] at h
    simp only at h
    have hv:=hT dj
    have hy:yielded all.toArray a.tmps j=match a.tmps[dj]? with|some (.bool b)=>some b|_=>none:=by
     unfold yielded
     simp only [List.getElem?_toArray,hj,Option.bind_some,hd]
     rfl
    rw [hy]
    split at h
    ·rename_i b' hb
     rw [hb] at hv
     simp only [aa] at hv
     rw [HH hv (by simp [undef])]
     simp only [Option.some.injEq] at h
     subst h
     cases b' <;> cases want <;> rfl
    ·rename_i hb
     rw [hb] at hv
     simp only [aa] at hv
     obtain ⟨l,hl,hv⟩:=hv
     have hl0:l.toList=[]:=by cases hx:l.toList with|nil=>rfl|cons=>rw [hx] at hv;simp [ae] at hv
     have hl1:l=#[]:=by apply Array.ext';simpa using hl0
     subst hl1
     simp only [Option.some.injEq] at h
     subst h
     rw [Array.getD_eq_getD_getElem?] at hl
     cases hx:a.tmps[dj]? with
     | none=>rfl
     | some u=>rw [hx] at hl;simp only [Option.getD_some] at hl;subst hl;rfl
    ·cases h
theorem m6 {E:Env} {all:List Oper} {tm:List (Nat×V)} {a:Act} (hT:ib E (find tm) a) {o:Oper} {b:Bool} (h:jl all tm o=some b):Region.wanted o (yielded all.toArray a.tmps)=b:=
 qj (E:=E) (T:=eu tm) (fun s=>cP hT s) h
theorem lB {B:Base} {E:Env} (hE:HRel B E) {C:Cfg} (hT:cE P C.tb) (hK:1≤C.K) (hΓ :∀ f c,C.Γ f=some c→CtrOK P C.K f c) {m:Nat} (hm :∀ n,m≤n→n<m+C.K→¬ E.U n) {ev:Operand→V} {a:Act} (hev :∀ x,aa E (ev x) (a.eval x))
  {o:Oper} {ps:List Ob} {v:V} {dh:List (Nat×Blk)} (h:fo C m E.H ev o.op=some (ps,v,dh)) (hps :∀ p∈ps,p.holds) {next:Act→World→Prop} {Q:Exit→Act→World→Prop}
  (hn :∀ v' E',GoodK B E m C.K dh E'.w E'→aa E' v v'→next (a.put o.dst v') E'.w):o.wp P a E.w next Q:=by
 unfold fo at h
 split at h
 ·rename_i ps' dh' hs
  cases h
  exact Cf hE hT hK hev hs fun E' G=>hn _ _ G (by simp [aa,undef,ae])
 ·split at h
  case h_2=>cases h
  rename_i ps' v' dh' hs
  cases h
  exact Cd hE hT hK hΓ hm hev hs hps hn
theorem OM {E:Env} {v v':V} {u:Value} (h:v'=v∨∃ b,v = .bool b∧v' = .kb b) (hv:aa E v u):aa E v' u:=by
 rcases h with rfl |⟨b,rfl,rfl⟩
 ·exact hv
 ·simpa [aa] using hv
structure CfgOK (P:Program) (C:Cfg):Prop where
 tb:cE P C.tb
 K:1≤C.K
 Γ :∀ f c,C.Γ f=some c→CtrOK P C.K f c
theorem ri {C:Cfg} (hC:CfgOK P C) {B:Base} {all:List Oper} {st:St} {Q:Exit→Act→World→Prop} :∀ (rest:List Oper) (i:Nat) (d:Dl) (recs:List Rec) (df:Dl) (rf:List Rec),Run C false all st i rest d recs df rf→
  (∀ a w,SRel B C.N (find (df.tm++st.tm)) (aJ st.H df.hp) (fun n=>n<st.nx +(i+rest.length)*C.K) a w→Q .normal a w)→
  ∀ a w,SRel B C.N (find (d.tm++st.tm)) (aJ st.H d.hp) (fun n=>n<st.nx+i*C.K) a w→wpList P all.toArray Q rest a w
 | [],i,d,recs,df,rf,hr,hQ,a,w,hs=>by
  cases hr
  exact wpList_nil (hQ a w (by simpa using hs))
 | o::rest,i,d,recs,df,rf,hr,hQ,a,w,hs=>by
  cases hr with
  | @cons _ _ _ _ _ r _ _ hdo hrun=>
   have ih:=ri hC (B:=B) (Q:=Q) rest (i+1) _ _ _ _ hrun (fun a w h=>hQ a w (by
    have e:i+1+rest.length=i +(o::rest).length:=by simp;omega
    rw [e] at h;exact h))
   obtain ⟨⟨E,hE,rfl,hH,⟨hG,hU⟩,hT⟩,hsz,hdf⟩:=hs
   have hTm:ib E (find (d.tm++st.tm)) a:=hT
   have after :∀ (E':Env) (v':Value),GoodK B E (st.nx+i*C.K) C.K r.dh E'.w E'→aa E' r.v v'→dstIn C.N o.dst=true→r.dst=o.dst→
     SRel B C.N (find (fm r.dst r.v++d.tm++st.tm)) (aJ st.H (r.dh++d.hp)) (fun n=>n<st.nx +(i+1)*C.K) (a.put o.dst v') E'.w:=fun E' v' G hv hd he=>by
    refine ⟨⟨E',G.rel,rfl,by rw [G.h,di,hH],⟨B.clo _ _ hG G.ext,fun n hn=>?_⟩,?_⟩,by rw [A7];exact hsz,by rw [tt];exact hdf⟩
    ·rw [Nat.add_mul,Nat.one_mul]
     rcases G.u n hn with h|h
     ·have:=hU n h;omega
     ·omega
    ·rw [he]
     exact Jc G.ext hTm hsz hd hv (fun s u hu=>by
      rw [List.append_assoc,cB] at hu
      cases hf:find (fm o.dst r.v) s with
      | some x=>rw [hf] at hu;exact .inl hu
      | none=>rw [hf] at hu;exact .inr ⟨rfl,hu⟩)
   obtain ⟨hd,he,_⟩:=hdo.dstIn
   unfold wpList
   cases hdo with
   | dir hdr=>cases hdr
   | skip _ hg=>
    have hw:=m6 (E:=E) hTm hg
    rw [hw]
    simp only [Bool.false_eq_true,if_false]
    exact ih _ _ (after E undef ⟨hE,Ext.refl E,rfl,rfl,fun n h=> .inl h⟩ (by simp [aa,undef,ae]) hd rfl)
   | @run ps v v' dh R _ hg hst hps hv=>
    have hw:=m6 (E:=E) hTm hg
    rw [hw]
    simp only [if_true]
    simp only [uc] at hst
    split at hst
    case h_2=>cases hst
    rename_i ps' v2 dh' hev
    cases hst
    rw [←hH] at hev
    exact .inl (lB hE hC.tb hC.K hC.Γ (fun n h1 h2 hu=>by have:=hU n hu;omega) (iQ hTm) hev hps fun v'' E' G hv'=>ih _ _ (after E' v'' G (OM hv hv') hd rfl))
end Go.Mir
