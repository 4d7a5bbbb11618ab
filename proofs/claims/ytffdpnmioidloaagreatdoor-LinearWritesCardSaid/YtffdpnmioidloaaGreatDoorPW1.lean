/- Texts of the mirror and contracts, put together. -/
import Derived.Test.YtffdpnmioidloaaGreatDoorPW0
import Derived.DeepKeys3
import Derived.MapKept
namespace Go.Mir
section
open Go.RowKit
variable {P:Program}
theorem uf :∀ (l:List Value) (k off:Nat) (cells:Array Value),off+k+l.length≤cells.size→
  ((l.zipIdx k).foldl (fun cs q=>cs.setIfInBounds (off+q.2) q.1) cells).toList=cells.toList.take (off+k)++l++cells.toList.drop (off+k+l.length)
 | [],k,off,cells,_=>by simp
 | v::r,k,off,cells,h=>by
  have hl:off+k+r.length+1≤cells.size:=by simpa [Nat.add_assoc] using h
  rw [List.zipIdx_cons,List.foldl_cons,uf r (k+1) off _ (by simp;omega)]
  have ho:off+k<cells.toList.length:=by simp;omega
  rw [Array.toList_setIfInBounds,←Nat.add_assoc,List.take_set,List.take_succ_eq_append_getElem ho,List.drop_set_of_lt (by omega),List.set_append_right _ _ (by simp;omega)]
  simp [Nat.min_eq_left (Nat.le_of_lt (by simpa using ho)),Nat.add_assoc,Nat.add_comm 1]
def pB (E:Env):List (Nat×V)→List (Nat×Value)→Prop
 | [],[]=>True
 | p::ps,q::qs=>p.1=q.1∧af E p.2 q.2∧pB E ps qs
 | _,_=>False
theorem jQ {E:Env} {f:Nat→Option (Nat×Nat)} :∀ {parts:List (Nat×V)} {pv:List (Nat×Value)} {cs:List V} {cells:Array Value} {cs':List V},pB E parts pv→ah E cs cells.toList→nh f cs parts=some cs'→
  ∃ cells',Instr.fill f cells pv=some cells'∧ah E cs' cells'.toList
 | [],[],cs,cells,cs',_,h,hf=>by
  simp only [nh,Option.some.injEq] at hf
  subst hf
  exact ⟨cells,rfl,h⟩
 | p::ps,[],_,_,_,hp,_,_=>by simp [pB] at hp
 | [],q::qs,_,_,_,hp,_,_=>by simp [pB] at hp
 |(i,v)::ps,(j,u)::qs,cs,cells,cs',hp,h,hf=>by
  simp only [pB] at hp
  obtain ⟨rfl,hv,hp⟩:=hp
  simp only [nh] at hf
  split at hf
  case h_2=>cases hf
  rename_i off size hfi
  split at hf
  case h_2=>cases hf
  rename_i xs hxs
  split at hf
  case isFalse=>cases hf
  rename_i h1
  split at hf
  case isFalse=>cases hf
  rename_i h2
  have hc:=cX hv hxs
  have hl:=bu hc
  have hlc:=bu h
  simp only [Array.length_toList] at hl hlc
  have e:=uf u.cells.toList 0 off cells (by simp;omega)
  have hfold :(u.cells.zipIdx.foldl (fun cs q=>cs.setIfInBounds (off+q.2) q.1) cells).toList=cells.toList.take off++u.cells.toList++cells.toList.drop (off+u.cells.toList.length):=by
   rw [←Array.foldl_toList,Array.toList_zipIdx]
   simpa using e
  have hs:=jv h hc off
  rw [←hfold] at hs
  obtain ⟨cells',r1,r2⟩:=jQ hp hs hf
  refine ⟨cells',?_,r2⟩
  unfold Instr.fill
  simp only [hfi]
  rw [if_neg (by simp;omega)]
  exact r1
theorem pP {α β:Type} (f:α→Sem β) (g:α→β) (w:World) :∀ (l:List α),(∀ x∈l,(f x).run P w = .ok (g x) w)→(l.mapM f).run P w = .ok (l.map g) w
 | [],_=>by simp
 | x::l,h=>by
  simp [List.mapM_cons,h x (by simp),pP f g w l (fun y hy=>h y (by simp [hy]))]
theorem xy {α β:Type} (f:α→Sem β) (g:α→β) (w:World) (l:Array α) (h :∀ x∈l.toList,(f x).run P w = .ok (g x) w) :(l.mapM f).run P w = .ok (l.map g) w:=by
 rw [Array.mapM_eq_mapM_toList,Sem.run_map,pP f g w l.toList h]
 simp only [Result.andThen_ok]
 congr 1
 apply Array.ext'
 simp
theorem yc {E:Env} {tb:Tbl} (hT:c8 P tb) {t:TypeId} {td:TD} (ht:TDok P t td) {parts:List (Nat×V)} {pv:Array (Nat×Value)} (hp:pB E parts pv.toList) {ps:List Ob} {v:V} {dh:List (Nat×Blk)}
  (h:A9 tb td parts = .val ps v dh):dh=[]∧∃ v',(Instr.build t pv).run P E.w = .ok v' E.w∧af E v v':=by
 have hk:=ht.kind
 obtain ⟨z,hz,hzz⟩:=ht.zeroValue E.w
 have hzr:ah E td.zero z.cells.toList:=dD hzz
 unfold A9 at h
 split at h
 ·rename_i fs h1
  rw [h1] at hk
  obtain ⟨fields,hu,hfs⟩:=hk
  split at h
  case isFalse=>cases h
  rename_i hall
  split at h
  case h_2=>cases h
  rename_i cs hcs
  cases h
  have hm:=xy (P:=P) (fun f:Field=>do pure (f.offset,←sizeOf f.type)) (fun f=>(f.offset,((tb f.type).map TD.size).getD 0)) E.w fields (fun f hf=>by
   have hmem :(f.offset,f.type)∈fs:=by rw [←hfs];exact List.mem_map.2 ⟨f,hf,rfl⟩
   have:=List.all_eq_true.1 hall _ hmem
   obtain ⟨tf,htf⟩:=Option.isSome_iff_exists.1 this
   simp only at htf
   simp [(hT _ _ htf).sizeOf,htf])
  have hf :(fun i=>(fields.map (fun f=>(f.offset,((tb f.type).map TD.size).getD 0)))[i]?)=fun (i:Nat)=>(fs[i]?).map fun (q:Nat×TypeId)=>(q.1,((tb q.2).map TD.size).getD 0):=by
   funext i
   rw [←hfs,List.getElem?_map,Array.getElem?_map,Option.map_map]
   simp only [Array.getElem?_toList]
   rfl
  rw [←hf] at hcs
  obtain ⟨cells',r1,r2⟩:=jQ hp hzr hcs
  refine ⟨rfl,.agg cells',?_,?_⟩
  ·unfold Instr.build
   simp only [Sem.run_bind,hz,Result.andThen_ok,run_underlying hu,hm,Sem.run_pure,r1]
  ·simp only [af];exact ⟨_,rfl,r2⟩
 ·rename_i n e h1
  rw [h1] at hk
  simp only [bA] at hk
  split at h
  case h_2=>cases h
  rename_i te hte
  split at h
  case h_2=>cases h
  rename_i cs hcs
  cases h
  obtain ⟨cells',r1,r2⟩:=jQ hp hzr hcs
  refine ⟨rfl,.agg cells',?_,?_⟩
  ·unfold Instr.build
   simp only [Sem.run_bind,hz,Result.andThen_ok,run_underlying hk,(hT _ _ hte).sizeOf,Sem.run_pure,r1]
  ·simp only [af];exact ⟨_,rfl,r2⟩
 ·cases h
theorem mu (z:Array Value) :∀ n,((List.range (n*z.size)).map fun i=>z[i % z.size]!) =(List.replicate n z.toList).flatten
 | 0=>by simp
 | n+1=>by
  rw [List.replicate_succ',List.flatten_append,←mu z n,Nat.add_mul,Nat.one_mul,List.range_add,List.map_append,List.map_map]
  congr 1
  simp only [List.flatten_cons,List.flatten_nil,List.append_nil]
  apply List.ext_getElem
  ·simp
  ·intro i h1 h2
   have hi:i<z.size:=by simpa using h2
   simp only [List.getElem_map,List.getElem_range,Function.comp,Array.getElem_toList]
   have e :(n*z.size+i) % z.size=i:=by rw [Nat.mul_comm,Nat.mul_add_mod,Nat.mod_eq_of_lt hi]
   rw [e]
   exact getElem!_pos z i hi
theorem ic {E:Env} {cs:List V} {l:List Value} (h:ah E cs l) :∀ n,ah E (yy cs n) (List.replicate n l).flatten
 | 0=>by simp [yy,ah]
 | n+1=>by
  rw [List.replicate_succ,List.flatten_cons]
  exact cp h (ic h n)
theorem tU {B:Base} {E:Env} (hE:HRel B E) {t:Ty} :∀ {n:Nat} {vs:List V} {xs:List (Den t)} {cs:List Value},Ap E.H t n vs=some xs→ah E vs cs→
  xs.length=n∧cs.length=n*sz t∧∀ (i:Nat) (h:i<xs.length),Rd E.S E.w t xs[i] ((cs.drop (i*sz t)).take (sz t))
 | 0,[],xs,cs,h,hv=>by
  simp only [Ap,Option.some.injEq] at h
  subst h
  cases cs with
  | nil=>exact ⟨rfl,by simp,fun i h=>by simp at h⟩
  | cons=>simp [ah] at hv
 | 0,_::_,xs,cs,h,_=>by simp [Ap] at h
 | n+1,vs,xs,cs,h,hv=>by
  simp only [Ap] at h
  split at h
  case h_2=>cases h
  rename_i x r h1
  split at h
  case h_2=>cases h
  rename_i ys h2
  cases h
  obtain ⟨c1,c2,rfl,k1,k2⟩:=iK hE _ h1 hv
  obtain ⟨g1,g2,g3⟩:=tU hE h2 k2
  have hl:=k1.len
  refine ⟨by simp [g1],by simp [hl,g2,Nat.add_mul,Nat.add_comm],fun i hi=>?_⟩
  cases i with
  | zero=>simpa [←hl] using k1
  | succ i=>
   have:=g3 i (by simpa using hi)
   have e :((c1++c2).drop ((i+1)*sz t))=c2.drop (i*sz t):=by
    rw [Nat.add_mul,Nat.one_mul,←hl,List.drop_append,List.drop_eq_nil_of_le (by omega)]
    simp
   rw [e]
   exact this
theorem rB {B:Base} {E:Env} (hE:HRel B E) (m:Nat) (hm :¬ E.U m) (t:Ty) (xs:List (Den t)) (l:List Value) (T:TypeId) (cap:Nat) (hcap:l.length=cap*sz t) (hlc:xs.length≤cap) (hl:xs.length≤aJ)
  (hx :∀ (i:Nat) (h:i<xs.length),Rd E.S E.w t xs[i] ((l.drop (i*sz t)).take (sz t))) (c:Array Value) (hc:c.toList=l) :
  ∃ E',Good B E m [(m,.row m true t xs)] { E.w with heap:=E.w.heap.push (.cells c T (0,0)) } E'∧af E' (.osl m m) (.slice (some ⟨E.w.heap.size,0,none⟩) xs.length cap):=by
 subst hc
 exact Pc hE m hm t xs c T cap (by simpa using hcap) hlc hl (fun i h=>by simpa [seg] using hx i h)
theorem jL {B:Base} {E:Env} (hE:HRel B E) {tb:Tbl} (hT:c8 P tb) {t:TypeId} {td:TD} (ht:TDok P t td) (m:Nat) (hm :¬ E.U m) {n:Nat} {parts:List (Nat×V)} {pv:Array (Nat×Value)} (hp:pB E parts pv.toList)
  {ps:List Ob} {v:V} {dh:List (Nat×Blk)} (h:gz tb td E.H m n parts = .val ps v dh) :∃ v' w' E',(Instr.buildSlice t n pv).run P E.w = .ok v' w'∧Good B E m dh w' E'∧af E' v v':=by
 have hk:=ht.kind
 unfold gz at h
 split at h
 case h_2=>cases h
 rename_i e h1
 rw [h1] at hk
 simp only [bA] at hk
 split at h
 case h_2=>cases h
 rename_i te hte
 have hte':=hT _ _ hte
 split at h
 case h_2=>cases h
 rename_i t' ht'
 split at h
 case isFalse=>cases h
 rename_i hc
 obtain ⟨c1,c2,c3,c4⟩:=hc
 split at h
 case h_2=>cases h
 rename_i cs hcs
 split at h
 case h_2=>cases h
 rename_i xs hxs
 cases h
 obtain ⟨z,hz,hzz⟩:=hte'.zeroValue E.w
 have hzr:ah E te.zero z.cells.toList:=dD hzz
 have hzl:z.cells.size=te.size:=by have:=bu hzr;simp at this;omega
 have hsmall :¬(n*te.size>2 ^ 24):=by
  have:=Nat.mul_le_mul c2 c3
  omega
 have hzero :∃ zc:Array Value,((n*te.size=0∧zc=#[])∨(n*te.size≠0∧zc=z.cells))∧((Array.range (n*te.size)).map (zc[· % zc.size]!)).toList =(List.replicate n z.cells.toList).flatten:=by
  by_cases h0:n*te.size=0
  ·refine ⟨#[],.inl ⟨h0,rfl⟩,?_⟩
   rw [h0]
   rcases Nat.mul_eq_zero.1 h0 with h0|h0
   ·subst h0;simp
   ·have:z.cells.toList=[]:=List.eq_nil_of_length_eq_zero (by rw [Array.length_toList];omega)
    rw [this];simp
  ·refine ⟨z.cells,.inr ⟨h0,rfl⟩,?_⟩
   rw [←hzl,Array.toList_map,Array.toList_range]
   exact mu _ _
 obtain ⟨zc,hz1,hz2⟩:=hzero
 have hzv:=ic hzr n
 rw [←hz2] at hzv
 obtain ⟨cells',r1,r2⟩:=jQ hp hzv hcs
 obtain ⟨g1,g2,g3⟩:=tU hE hxs r2
 obtain ⟨E',G,hv⟩:=rB hE m hm t' xs cells'.toList e n g2 (by omega) (by rw [g1];unfold aJ;omega) g3 cells' rfl
 refine ⟨_,_,E',?_,G,hv⟩
 rw [g1]
 unfold Instr.buildSlice
 simp only [Sem.run_bind,run_underlying hk,Result.andThen_ok,hte'.sizeOf,hsmall,if_false]
 rcases hz1 with ⟨h0,rfl⟩ |⟨h0,rfl⟩
 ·simp only [h0,if_true,Sem.run_bind,Sem.run_pure,Result.andThen_ok] at r1 ⊢
  simp only [r1,newRow,Sem.run_bind,run_newObj,Result.andThen_ok,Sem.run_pure]
 ·simp only [h0,if_false,Sem.run_bind,hz,Sem.run_pure,Result.andThen_ok,r1,newRow,run_newObj]
theorem qP {B:Base} {E:Env} (hE:HRel B E) {tb:Tbl} (hT:c8 P tb) {t:TypeId} {td:TD} (ht:TDok P t td) (m:Nat) (hm :¬ E.U m) {l c:V} {lv cv:Value} (hl:af E l lv) (hc:af E c cv)
  {ps:List Ob} {v:V} {dh:List (Nat×Blk)} (h:nf tb td E.H m l c = .val ps v dh) (hps :∀ p∈ps,p.holds) :∃ v' w' E',(Instr.makeSlice t lv cv).run P E.w = .ok v' w'∧Good B E m dh w' E'∧af E' v v':=by
 have hk:=ht.kind
 unfold nf at h
 split at h
 case h_2=>cases h
 rename_i k1 n k2 c
 split at h
 case h_2=>cases h
 rename_i e h1
 rw [h1] at hk
 simp only [bA] at hk
 split at h
 case h_2=>cases h
 rename_i te hte
 have hte':=hT _ _ hte
 split at h
 case h_2=>cases h
 rename_i t' ht'
 split at h
 case isFalse=>cases h
 rename_i hcc
 obtain ⟨c1,c2,c4⟩:=hcc
 split at h
 case h_2=>cases h
 rename_i zd hzd
 cases h
 have hp:=hps _ (List.mem_singleton.2 rfl)
 simp only [Ob.holds] at hp
 obtain ⟨p1,p2,p3⟩:=hp
 subst p2
 simp only [af] at hl hc
 obtain ⟨rfl,_⟩:=hl
 obtain ⟨rfl,_⟩:=hc
 obtain ⟨z,hz,hzz⟩:=hte'.zeroValue E.w
 have hzr:ah E te.zero z.cells.toList:=dD hzz
 have hzl:z.cells.size=te.size:=by have:=bu hzr;simp at this;omega
 have hrd:=db hE hzd hzr
 obtain ⟨N,rfl⟩:=Int.eq_ofNat_of_zero_le p1
 have hN:N≤17179869184:=by omega
 have hwrap:IntKind.i64.wrap (N:Int) =(N:Int):=by
  unfold IntKind.wrap
  simp [IntKind.bits,IntKind.signed]
  omega
 have hbytes :((te.bytes:Int) *(N:Int))≤281474976710656:=by
  have:te.bytes*N≤1000*17179869184:=Nat.mul_le_mul c2 hN
  have h2 :((te.bytes*N:Nat):Int)≤17179869184000:=by omega
  rw [Int.natCast_mul] at h2
  omega
 obtain ⟨hb1,hb2⟩:=hte'.bytes E.w
 have hzero :∃ zc:Array Value,((N*te.size=0∧zc=#[])∨(N*te.size≠0∧zc=z.cells))∧((Array.range (N*te.size)).map (zc[· % zc.size]!)).toList =(List.replicate N z.cells.toList).flatten:=by
  by_cases h0:N*te.size=0
  ·refine ⟨#[],.inl ⟨h0,rfl⟩,?_⟩
   rw [h0]
   rcases Nat.mul_eq_zero.1 h0 with h0|h0
   ·subst h0;simp
   ·have:z.cells.toList=[]:=List.eq_nil_of_length_eq_zero (by rw [Array.length_toList];omega)
    rw [this];simp
  ·refine ⟨z.cells,.inr ⟨h0,rfl⟩,?_⟩
   rw [←hzl,Array.toList_map,Array.toList_range]
   exact mu _ _
 obtain ⟨zc,hz1,hz2⟩:=hzero
 have hflat :∀ (i:Nat),i<N→((List.replicate N z.cells.toList).flatten.drop (i*sz t')).take (sz t')=z.cells.toList:=fun i hi=>by
  obtain ⟨d,rfl⟩ :∃ d,N=i +(d+1):=⟨N - i - 1,by omega⟩
  have hzl':z.cells.toList.length=sz t':=by simp;omega
  rw [←List.replicate_append_replicate,List.flatten_append,List.drop_append]
  have hfl :((List.replicate i z.cells.toList).flatten).length=i*sz t':=by simp [hzl,c1]
  rw [List.drop_eq_nil_of_le (by omega),hfl,Nat.sub_self,List.drop_zero,List.nil_append,List.replicate_succ,List.flatten_cons,List.take_append_of_le_length (by omega),List.take_of_length_le (by omega)]
 obtain ⟨E',G,hv⟩:=rB hE m hm t' (List.replicate N zd) ((List.replicate N z.cells.toList).flatten) e N (by simp [hzl,c1]) (by simp) (by simp;unfold aJ;omega)
  (fun i hi=>by
   have hi':i<N:=by simpa using hi
   rw [hflat i hi',List.getElem_replicate]
   exact hrd) ((Array.range (N*te.size)).map (zc[· % zc.size]!)) hz2
 rw [List.length_replicate] at hv
 refine ⟨_,_,E',?_,by simpa using G,by simpa using hv⟩
 unfold Instr.makeSlice
 have q1 :¬((N:Int)<0):=by omega
 have q2 :¬((te.bytes:Int) *(N:Int)>281474976710656):=by omega
 have q3 :¬((N:Int) >(N:Int)):=by omega
 simp only [Sem.run_bind,run_underlying hk,Result.andThen_ok,asInt,asIntOf,Sem.run_pure,hb1,hb2,hwrap]
 have hcond :¬((decide ((N:Int)<0)||decide ((te.bytes:Int) *(N:Int)>2 ^ 48)||decide ((N:Int)<0)||decide ((N:Int) >(N:Int)))=true):=by
  have e48 :(2:Int) ^ 48=281474976710656:=by decide
  rw [e48]
  simp only [Bool.or_eq_true,decide_eq_true_eq]
  omega
 rw [if_neg hcond]
 simp only [Sem.run_bind,run_askRoom,Result.andThen_ok,hte'.sizeOf,Int.toNat_natCast]
 rcases hz1 with ⟨h0,rfl⟩ |⟨h0,rfl⟩
 ·simp only [h0,if_true,Sem.run_bind,Sem.run_pure,Result.andThen_ok,newRow,run_newObj]
  rfl
 ·simp only [h0,if_false,Sem.run_bind,hz,Sem.run_pure,Result.andThen_ok,newRow,run_newObj]
  rfl
end
section
open Go.RowKit
variable {P:Program}
theorem Rd.one {S:Nat→Prop} {w:World} {t:Ty} {x:Den t} {cs:List Value} (h:Rd S w t x cs) :∀ v∈cs,v.oneCell'=true:=by
 induction h with
 | int h=>intro v hv;simp at hv;subst hv;rfl
 | bool=>intro v hv;simp at hv;subst hv;rfl
 | str=>intro v hv;simp at hv;subst hv;rfl
 | unit=>intro v hv;cases hv
 | prod _ _ ih1 ih2=>intro v hv;rcases List.mem_append.1 hv with h|h;exact ih1 v h;exact ih2 v h
 | nm _ ih=>exact ih
 | nil=>intro v hv;simp at hv;subst hv;rfl
 | slice=>intro v hv;simp at hv;subst hv;rfl
def AppK (td:TD):Prop:=(∃ e,td.kind = .slice e)∨td.kind = .str
theorem AppK.under {t:TypeId} {td:TD} (h:TDok P t td) (hk:AppK td) :(∃ e,P.underlying t=some (.slice e))∨P.underlying t=some .string:=by
 have hk':=h.kind
 rcases hk with ⟨e,hk⟩|hk <;> rw [hk] at hk' <;> simp only [bA] at hk'
 ·exact .inl ⟨e,hk'⟩
 ·exact .inr hk'
structure SrcC (P:Program) (E:Env) (z n:Nat) (xv:Value) (a:Option Addr) (cap:Nat) (l:List Value):Prop where
 val :∀ w,(Builtin.lenOf xv).run P w = .ok n w
 len:l.length=n*z
 run :∀ (w:World),w.heap=E.w.heap→(Builtin.firstCells z n xv).run P w = .ok l.toArray w
 one :∀ v∈l,v.oneCell'=true
structure Src (P:Program) (E:Env) (t:Ty) (ys:List (Den t)) (xv:Value) (a:Option Addr) (cap:Nat) (l:List Value):Prop extends SrcC P E (sz t) ys.length xv a cap l where
 lb:ys.length≤aJ
 rd :∀ (i:Nat) (hi:i<ys.length),Rd E.S E.w t ys[i] ((l.drop (i*sz t)).take (sz t))
theorem BC {B:Base} {E:Env} (hE:HRel B E) {t:Ty} {x:V} {xv:Value} (hx:af E x xv) {ys:List (Den t)} (h:su E.H t x=some ys) :
  ∃ a cap l,Src P E t ys xv a cap l:=by
 have empty :∀ (a:Option Addr) (cap:Nat),ys=[]→xv = .slice a 0 cap→∃ a cap l,Src P E t ys xv a cap l:=fun a cap e1 e2=>by
  subst e1;subst e2
  refine ⟨a,cap,[],⟨fun _=>rfl,by simp,fun w _=>?_,fun v hv=>by cases hv⟩,Nat.zero_le _,fun i hi=>by simp at hi⟩
  cases a with
  | none=>simp [Builtin.firstCells]
  | some a=>
   have:=run_loadCells_list (P:=P) w a [] (fun j v hj=>by simp at hj)
   simpa [Builtin.firstCells] using this
 have cells :∀ (b o cap:Nat) (c:Array Value) (T:TypeId) (fr:Nat×Nat),E.w.heap[b]?=some (.cells c T fr)→o+ys.length*sz t≤c.size→ys.length≤aJ→xv = .slice (some ⟨b,o,none⟩) ys.length cap→
   (∀ (i:Nat) (hi:i<ys.length),Rd E.S E.w t ys[i] (seg c (o+i*sz t) (sz t)))→
   ∃ a cap l,Src P E t ys xv a cap l:=fun b o cap c T fr hb hsz hlb e hrd=>by
  have hl :(seg c o (ys.length*sz t)).length=ys.length*sz t:=ve _ _ _ hsz
  have hseg :∀ i,i<ys.length→((seg c o (ys.length*sz t)).drop (i*sz t)).take (sz t)=seg c (o+i*sz t) (sz t):=fun i hi=>by
   have hm :(i+1)*sz t≤ys.length*sz t:=Nat.mul_le_mul_right _ hi
   rw [Nat.add_mul] at hm
   simp only [seg,List.drop_take,List.drop_drop,List.take_take]
   congr 1
   omega
  refine ⟨some ⟨b,o,none⟩,cap,seg c o (ys.length*sz t),⟨fun _=>by rw [e];rfl,hl,fun w hw=>?_,fun v hv=>?_⟩,hlb,fun i hi=>by rw [hseg i hi];exact hrd i hi⟩
  ·subst e
   have hbw:w.heap[b]?=some (.cells c T fr):=by rw [hw];exact hb
   have:=run_loadCells_list (P:=P) w ⟨b,o,none⟩ (seg c o (ys.length*sz t)) (fun j v hj=>by
    rw [cj,ig hbw]
    rw [mz] at hj
    split at hj
    ·exact hj
    ·cases hj)
   rw [hl] at this
   simpa [Builtin.firstCells] using this
  ·obtain ⟨k,hk,hkv⟩:=List.getElem_of_mem hv
   have hk':k<ys.length*sz t:=by omega
   have hpos:0<sz t:=by
    rcases Nat.eq_zero_or_pos (sz t) with h0|h0
    ·rw [h0] at hk';omega
    ·exact h0
   have hi:k / sz t<ys.length:=Nat.div_lt_of_lt_mul (by rw [Nat.mul_comm];exact hk')
   have h1:=(hrd _ hi).one v
   apply h1
   rw [←hseg _ hi]
   have hkk:k / sz t*sz t+k % sz t=k:=by rw [Nat.mul_comm];exact Nat.div_add_mod _ _
   have hmod:=Nat.mod_lt k hpos
   have :(((seg c o (ys.length*sz t)).drop (k / sz t*sz t)).take (sz t))[k % sz t]?=some v:=by
    rw [List.getElem?_take_of_lt hmod,List.getElem?_drop,hkk,List.getElem?_eq_getElem hk,hkv]
   exact List.mem_of_getElem? this
 unfold su at h
 split at h
 ·rename_i t' xs
  split at h
  case isFalse=>cases h
  rename_i e
  subst e
  cases h
  simp only [af] at hx
  generalize hl:[xv]=l0 at hx
  cases hx with
  | nil=>cases hl;exact empty _ _ rfl rfl
  | slice h1 h2 h3 h4 h5 h6=>cases hl;exact cells _ _ _ _ _ _ h2 h3 h5 rfl h6
 ·rename_i s
  split at h
  case isFalse=>cases h
  rename_i e
  subst e
  cases h
  simp only [af] at hx
  obtain ⟨rfl,hsz⟩:=hx
  have hl :(kp s).length=s.size:=by unfold kp;rw [List.length_map,Array.length_toList];rfl
  refine ⟨none,0,(kp s).map fun n=> .int .u8 n,⟨fun w=>?_,?_,fun w _=>?_,fun v hv=>?_⟩,?_,fun i hi=>?_⟩
  ·show (Builtin.lenOf (.string s)).run P w = .ok (kp s).length w
   rw [hl];rfl
  ·show ((kp s).map _).length =(kp s).length*1
   rw [List.length_map,Nat.mul_one]
  ·show (Builtin.firstCells _ (kp s).length (.string s)).run P w=_
   rw [hl]
   have:s.extract 0 s.size=s:=ByteArray.extract_zero_size
   simp only [Builtin.firstCells,this,Sem.run_pure]
   congr 1
   apply Array.ext'
   simp [kp,List.map_map,Function.comp_def]
  ·obtain ⟨n,_,rfl⟩:=List.mem_map.1 hv
   rfl
  ·show (kp s).length≤aJ
   rw [hl];exact hsz
  ·have hi:i <(kp s).length:=hi
   have hi':i<s.data.toList.length:=by unfold kp at hi;rwa [List.length_map] at hi
   have hg :(kp s)[i] =((s.data.toList[i]).toNat:Int):=List.getElem_map (fun b:UInt8=>(b.toNat:Int))
   show Rd E.S E.w (.int .u8) (kp s)[i] ((((kp s).map fun n=>Value.int .u8 n).drop (i*1)).take 1)
   rw [Nat.mul_one,List.drop_eq_getElem_cons (by rw [List.length_map];exact hi),List.getElem_map,List.take_succ_cons,List.take_zero]
   have e3:Rd E.S E.w (.int .u8) (((s.data.toList[i]).toNat:Int):Den (.int .u8)) [Value.int .u8 ((s.data.toList[i]).toNat:Int)]:= .int (by
    have:=(s.data.toList[i]).toNat_lt
    unfold ok
    have h1:IntKind.u8.min=0:=rfl
    have h2:IntKind.u8.max=255:=rfl
    rw [h1,h2]
    omega)
   exact (congrArg (fun q:Int=>Rd E.S E.w (.int .u8) q [Value.int .u8 q]) hg).mpr e3
 ·cases h;simp only [af] at hx;exact empty _ _ rfl hx
 ·cases h;simp only [af] at hx;obtain ⟨a,hx⟩:=hx;exact empty _ _ rfl hx
 ·rename_i hh ver
  split at h
  case h_2=>cases h
  rename_i ver' rw' t' xs hH
  split at h
  case isFalse=>cases h
  rename_i e
  subst e
  split at h
  case isFalse=>cases h
  rename_i e2
  subst e2
  cases h
  rcases mo hE hH hx with ⟨_,h3,a,rfl⟩ |⟨b,cap,c,T,fr,h3,rfl,h5,h6,hcap,h7,h8,h9,h10,h11,h12⟩
  ·exact empty _ _ h3 rfl
  ·exact cells b 0 cap c T fr h5 (by rw [Nat.zero_add];exact h10) h11 rfl (fun i hi=>by rw [Nat.zero_add];exact h12 i hi)
 ·cases h
theorem yV (newLen:Nat) :∀ (rounds c:Nat),Builtin.growBy newLen rounds c≤max c (newLen +(newLen+768) / 4)
 | 0,c=>by simp [Builtin.growBy];omega
 | r+1,c=>by
  unfold Builtin.growBy
  split
  ·omega
  ·have:=yV newLen r (c +(c+768) / 4)
   omega
theorem Gt {need old:Nat} (h:old<need):Builtin.nextslicecap need old≤2*need+1000:=by
 unfold Builtin.nextslicecap
 split
 ·omega
 ·split
  ·omega
  ·have:=yV need 4 old
   omega
theorem BL {need old bytes:Nat} (h:old<need) (hb:bytes≤1000) (hn:need*bytes≤70368744177664) :¬(Builtin.nextslicecap need old*bytes>2 ^ 48):=by
 have h1:=Nat.mul_le_mul_right bytes (Gt h)
 have h2 :(2*need+1000)*bytes=2 *(need*bytes)+1000*bytes:=by rw [Nat.add_mul,Nat.mul_assoc]
 omega
theorem yK (z:Array Value) (n:Nat) :(Builtin.zeroCells z n).size=n*z.size:=by simp [Builtin.zeroCells]
theorem fj {B:Base} {E:Env} (_:HRel B E) {tS tX:TypeId} {tdS tdX te:TD} (hS:TDok P tS tdS) (hX:TDok P tX tdX) {e:TypeId} (hk:tdS.kind = .slice e) (hkX:AppK tdX) (hte:TDok P e te)
  {z0 n0:Nat} (hsz:te.size=z0) (hzl:te.zero.length=te.size) (hb0:0<te.bytes) (hb1:te.bytes≤1000) {xv:Value} {a:Option Addr} {cap:Nat} {l:List Value} (src:SrcC P E z0 n0 xv a cap l)
  (base:Option Addr) (sLen sCap:Nat) (old:List Value) (hold:old.length=sLen*z0) (hrun :∀ (w:World),w.heap=E.w.heap→(Builtin.firstCells (z0) sLen (.slice base sLen sCap)).run P w = .ok old.toArray w)
  (hroom:sCap<sLen+n0) (hn :(sLen+n0)*te.bytes≤70368744177664) (ty:TypeId) :
  ∃ nc c,sLen+n0≤nc∧c.size=nc*z0∧c.toList.take ((sLen+n0)*z0)=old++l∧
   (Builtin.append_ #[tS,tX] ty #[.slice base sLen sCap,xv]).run P E.w = .ok (.slice (some ⟨E.w.heap.size,0,none⟩) (sLen+n0) nc) { E.w.drew with heap:=E.w.heap.push (.cells c e (0,0)) }:=by
 have hkS:=hS.kind
 rw [hk] at hkS
 simp only [bA] at hkS
 have hkX:=hkX.under hX
 obtain ⟨z,hz,hzz⟩:=hte.zeroValue E.w.drew
 have hzr:ah E te.zero z.cells.toList:=dD hzz
 have hzs:z.cells.size=z0:=by have:=bu hzr;simp at this;omega
 obtain ⟨hbb,hbb2⟩:=hte.bytes E.w
 have hq :(Question.appendCap (sLen+n0) sCap e).forced=false:=rfl
 let nc:=(Question.appendCap (sLen+n0) sCap e).cut (E.w.tape E.w.drawn (.appendCap (sLen+n0) sCap e))
 have hnc:sLen+n0≤nc:=Nat.le_add_right _ _
 have h1:=BL hroom hb1 hn
 have hmax :¬(((sLen+n0:Nat):Int)>IntKind.i64.max∧(false=true∨te.bytes=0)):=by
  rintro ⟨_,h2⟩
  rcases h2 with h2|h2
  ·cases h2
  ·omega
 refine ⟨nc,old.toArray++l.toArray++Builtin.zeroCells z.cells (nc - (sLen+n0)),hnc,?_,?_,?_⟩
 ·simp only [Array.size_append,yK,List.size_toArray,hold,src.len,hzs]
  rw [←Nat.add_mul,←Nat.add_mul]
  congr 1
  omega
 ·simp only [Array.toList_append]
  rw [List.take_append_of_le_length (by simp [hold,src.len,Nat.add_mul]),List.take_of_length_le (by simp [hold,src.len,Nat.add_mul])]
 ·have hfx:=src.run E.w.drew rfl
  have hfo:=hrun E.w.drew rfl
  have hlv:=src.val
  have hne :¬(false=true):=by decide
  have hnn :(!false)=true:=rfl
  have hb2 :∀ w,(typeInfo e).run P w = .ok ((P.info? e).getD default) w:=fun w=>(hte.bytes w).1
  rcases hkX with ⟨eX,hkX'⟩|hkX'
  all_goals
   simp only [Builtin.append_,List.getElem?_toArray,List.getElem?_cons_zero,List.getElem?_cons_succ,Sem.run_bind,run_underlying hkS,Result.andThen_ok,hte.sizeOf,hsz,run_underlying hkX',Sem.run_pure,hlv,if_neg hne]
   rw [if_neg (by omega :¬ sLen+n0≤sCap)]
   simp only [Sem.run_bind,hb2,hbb2,Result.andThen_ok,if_neg hmax,if_neg h1]
   simp only [run_choose,hq,if_neg hne,Result.andThen_ok,run_askRoom]
   simp only [World.drew] at hfo hfx hz ⊢
   simp only [hfo,hfx,hz,hnn,if_true,Result.andThen_ok,newRow,Sem.run_bind,run_newObj,Sem.run_pure]
   rfl
theorem fN {E:Env} {tS tX:TypeId} {tdS tdX te:TD} (hS:TDok P tS tdS) (hX:TDok P tX tdX) {e:TypeId} (hk:tdS.kind = .slice e) (hkX:AppK tdX) (hte:TDok P e te)
  {z0 n0:Nat} (hsz:te.size=z0) {xv:Value} {a:Option Addr} {cap:Nat} {l:List Value} (src:SrcC P E z0 n0 xv a cap l)
  (base:Option Addr) (sLen sCap:Nat) (hroom:sLen+n0≤sCap) (ty:TypeId) (w':World) (hst :∀ a',base=some a'→(storeCells (a'.add (sLen*z0)) l).run P E.w = .ok () w') (hno:base=none→w'=E.w) :
  (Builtin.append_ #[tS,tX] ty #[.slice base sLen sCap,xv]).run P E.w = .ok (.slice base (sLen+n0) sCap) w':=by
 have hkS:=hS.kind
 rw [hk] at hkS
 simp only [bA] at hkS
 have hkX:=hkX.under hX
 have hfx:=src.run E.w rfl
 have hlv:=src.val
 have hne :¬(false=true):=by decide
 have hnn :(!false)=true:=rfl
 rcases hkX with ⟨eX,hkX'⟩|hkX'
 all_goals
  simp only [Builtin.append_,List.getElem?_toArray,List.getElem?_cons_zero,List.getElem?_cons_succ,Sem.run_bind,run_underlying hkS,Result.andThen_ok,hte.sizeOf,hsz,run_underlying hkX',Sem.run_pure,hlv,if_neg hne]
  rw [if_pos hroom]
  simp only [Sem.run_bind,hnn,if_true,hfx,Result.andThen_ok]
  cases base with
  | none=>rw [hno rfl];rfl
  | some a'=>simp only [Sem.run_bind,hst a' rfl,Result.andThen_ok,Sem.run_pure]
theorem Jz {B:Base} {E:Env} (hE:HRel B E) (m:Nat) (hm :¬ E.U m) (h0:Nat) (hh:E.U h0∨h0=m) (t:Ty) (xs:List (Den t)) (c:Array Value) (T:TypeId) (cap:Nat) (hcap:c.size=cap*sz t) (hlc:xs.length≤cap) (hl:xs.length≤aJ)
  (hx :∀ (i:Nat) (h:i<xs.length),Rd E.S E.w t xs[i] (seg c (i*sz t) (sz t))) :
  ∃ E',Good B E m [(h0,.row m true t xs)] { E.w with heap:=E.w.heap.push (.cells c T (0,0)) } E'∧af E' (.osl h0 m) (.slice (some ⟨E.w.heap.size,0,none⟩) xs.length cap):=by
 have hsz:xs.length*sz t≤c.size:=by rw [hcap];exact Nat.mul_le_mul_right _ hlc
 have hS :¬ E.S E.w.heap.size:=fun h=>Nat.lt_irrefl _ (hE.stab _ h)
 have hget :(E.w.heap.push (.cells c T (0,0)))[E.w.heap.size]?=some (.cells c T (0,0)):=by simp
 obtain ⟨R,X⟩:=kW hE h0 (.row m true t xs) (some E.w.heap.size) { E.w with heap:=E.w.heap.push (.cells c T (0,0)) } (fun n=>E.U n∨n=m) (fun n h=> .inl h) hh
  ⟨rfl,rfl,rfl,by simp,fun b hb' _=>Below.heap_alloc E.w _ b hb'⟩ (fun b e=>by cases e;exact .inl ⟨Nat.le_refl _,by simp⟩) (fun b e=>by cases e;exact hS)
  (fun _ e _=>by cases e) (fun _ _ _ _ e _ h=>by cases e;exact absurd h hm)
  (fun X=>⟨.inr rfl,.inr ⟨_,c,T,(0,0),aB _ _ _,hget,(fun i _ h=>by simp at h),(fun _=>hS),(fun e=>by cases e),hsz,hl,fun i hi=>(hx i hi).ext X.s X.keepS⟩⟩)
 refine ⟨_,⟨R,X,rfl,(cB _ _ _).symm,fun n h=>?_⟩,?_⟩
 ·rcases h with h|h
  ·exact .inl h
  ·exact .inr ⟨by omega,by unfold KN;omega⟩
 ·simp only [af]
  refine ⟨hh,.inr trivial,⟨_,_,_,rfl⟩,fun rw t' xs' hH=> .inr ⟨_,cap,c,T,(0,0),aB _ _ _,?_⟩⟩
  simp only [aB,Option.some.injEq] at hH
  cases hH
  exact ⟨rfl,hget,hcap,hlc⟩
theorem PZ {B:Base} {E:Env} (hE:HRel B E) (m:Nat) (hm :¬ E.U m) (h0:Nat) (hh:E.U h0∨h0=m) (t:Ty) (a:Option Addr) :
  ∃ E',Good B E m [(h0,.row m true t [])] E.w E'∧af E' (.osl h0 m) (.slice a 0 0):=by
 obtain ⟨R,X⟩:=kW hE h0 (.row m true t []) none E.w (fun n=>E.U n∨n=m) (fun n h=> .inl h) hh
  ((Keeps.refl E.w _)) (fun b e=>by cases e) (fun b e=>by cases e) (fun _ e _=>by cases e) (fun _ _ _ _ e _ h=>by cases e;exact absurd h hm)
  (fun X=>⟨.inr rfl,.inl ⟨aB _ _ _,rfl⟩⟩)
 refine ⟨_,⟨R,X,rfl,(cB _ _ _).symm,fun n h=>?_⟩,?_⟩
 ·rcases h with h|h
  ·exact .inl h
  ·exact .inr ⟨by omega,by unfold KN;omega⟩
 ·simp only [af]
  exact ⟨hh,.inr trivial,⟨_,_,_,rfl⟩,fun _ _ _ _=> .inl ⟨aB _ _ _,a,rfl⟩⟩
theorem gV {B:Base} {E:Env} {w1:World} {m:Nat} {dh:List (Nat×Blk)} {w':World} {E':Env} (X:Ext E { E with w:=w1 }) (G:Good B { E with w:=w1 } m dh w' E'):Good B E m dh w' E':=
 ⟨G.rel,X.trans G.ext,G.w,G.h,G.u⟩
theorem yM {t:Ty} {S:Nat→Prop} {w:World} {xs ys:List (Den t)} {l0:List Value} (h0:l0.length=xs.length*sz t) {l:List Value} (hx :∀ (i:Nat) (h:i<xs.length),Rd S w t xs[i] ((l0.drop (i*sz t)).take (sz t)))
  (hy :∀ (i:Nat) (h:i<ys.length),Rd S w t ys[i] ((l.drop (i*sz t)).take (sz t))) (i:Nat) (h:i <(xs++ys).length):Rd S w t (xs++ys)[i] (((l0++l).drop (i*sz t)).take (sz t)):=by
 by_cases hi:i<xs.length
 ·rw [List.getElem_append_left hi]
  have hm :(i+1)*sz t≤xs.length*sz t:=Nat.mul_le_mul_right _ hi
  rw [Nat.add_mul] at hm
  rw [List.drop_append_of_le_length (by omega),List.take_append_of_le_length (by simp;omega)]
  exact hx i hi
 ·have hi':i - xs.length<ys.length:=by simp at h;omega
  rw [List.getElem_append_right (by omega)]
  obtain ⟨d,rfl⟩ :∃ d,i=xs.length+d:=⟨i - xs.length,by omega⟩
  have e :((l0++l).drop ((xs.length+d)*sz t))=l.drop (d*sz t):=by
   rw [Nat.add_mul,←h0,List.drop_append,List.drop_eq_nil_of_le (by omega)]
   simp
  rw [e]
  have:=hy d (by omega)
  simpa using this
theorem vG {B:Base} {E:Env} (hE:HRel B E) {tb:Tbl} (hT:c8 P tb) {tS tX:TypeId} {tdS tdX:TD} (hS:TDok P tS tdS) (hX:TDok P tX tdX) (hkX:AppK tdX) (m:Nat) (hm :¬ E.U m) {s x:V} {sv xv:Value}
  (hs:af E s sv) (hx:af E x xv) (ty:TypeId) {ps:List Ob} {v:V} {dh:List (Nat×Blk)} (h:lx tb tdS E.H m s x = .val ps v dh) (hps :∀ p∈ps,p.holds) :
  ∃ v' w' E',(Builtin.append_ #[tS,tX] ty #[sv,xv]).run P E.w = .ok v' w'∧Good B E m dh w' E'∧af E' v v':=by
 unfold lx at h
 split at h
 case h_2=>cases h
 rename_i e hk
 split at h
 case h_2=>cases h
 rename_i te hte0
 have hte:=hT _ _ hte0
 split at h
 case h_2=>cases h
 rename_i t ht
 split at h
 case isFalse=>cases h
 rename_i hc
 obtain ⟨c1,c2,c3,c4⟩:=hc
 split at h
 case h_2=>cases h
 rename_i ys hys
 obtain ⟨a,cap,l,src⟩:=BC (P:=P) hE hx hys
 obtain ⟨R0,X0⟩:=xQ hE E.w.drew rfl rfl rfl rfl
 have hsmall :∀ n,n*te.bytes≤70368744177664→n≤aJ:=fun n hn=>by
  have:n*1≤n*te.bytes:=Nat.mul_le_mul_left _ c2
  unfold aJ
  omega
 have onto :∀ (h0:Nat) (hh:E.U h0∨h0=m) (base:Option Addr),ys.length*te.bytes≤70368744177664→sv = .slice base 0 0→
   ∃ v' w' E',(Builtin.append_ #[tS,tX] ty #[sv,xv]).run P E.w = .ok v' w'∧Good B E m [(h0,.row m true t ys)] w' E'∧af E' (.osl h0 m) v':=fun h0 hh base hp esv=>by
  subst esv
  rcases Nat.eq_zero_or_pos ys.length with hz|hz
  ·have hy0:ys=[]:=List.eq_nil_of_length_eq_zero hz
   have hl0:l=[]:=List.eq_nil_of_length_eq_zero (by rw [src.len,hz,Nat.zero_mul])
   obtain ⟨E',G,hv⟩:=PZ hE m hm h0 hh t base
   have hrun:=fN hS hX hk hkX hte c1 src.toSrcC base 0 0 (by omega) ty E.w (fun a' _=>by rw [hl0];rfl) (fun _=>rfl)
   rw [hz] at hrun
   subst hy0
   exact ⟨_,_,E',hrun,G,hv⟩
  ·have hold :∀ (w:World),w.heap=E.w.heap→(Builtin.firstCells (sz t) 0 (.slice base 0 0)).run P w = .ok ([]:List Value).toArray w:=fun w _=>by
    cases base with
    | none=>simp [Builtin.firstCells]
    | some a=>simpa [Builtin.firstCells] using run_loadCells_list (P:=P) w a [] (fun j v hj=>by simp at hj)
   obtain ⟨nc,c,g1,g2,g3,g4⟩:=fj hE hS hX hk hkX hte c1 c4 c2 c3 src.toSrcC base 0 0 [] (by simp) hold (by omega) (by rw [Nat.zero_add];exact hp) ty
   simp only [Nat.zero_add,List.nil_append] at g1 g3 g4
   have hrd :∀ (i:Nat) (h:i<ys.length),Rd E.S E.w.drew t ys[i] (seg c (i*sz t) (sz t)):=fun i hi=>by
    have h1:=src.rd i hi
    rw [←g3] at h1
    have hm :(i+1)*sz t≤ys.length*sz t:=Nat.mul_le_mul_right _ hi
    rw [Nat.add_mul] at hm
    have e :((c.toList.take (ys.length*sz t)).drop (i*sz t)).take (sz t)=seg c (i*sz t) (sz t):=by
     simp only [seg,List.drop_take,List.take_take]
     congr 1
     omega
    rw [e] at h1
    exact h1.ext X0.s X0.keepS
   obtain ⟨E',G,hv⟩:=Jz R0 m hm h0 hh t ys c e nc g2 g1 (hsmall _ hp) hrd
   exact ⟨_,_,E',g4,gV X0 G,hv⟩
 split at h
 ·cases h
  simp only [af] at hs
  exact onto m (.inr rfl) none (hps _ (List.mem_singleton.2 rfl)) hs
 ·cases h
  simp only [af] at hs
  obtain ⟨b0,hs⟩:=hs
  exact onto m (.inr rfl) b0 (hps _ (List.mem_singleton.2 rfl)) hs
 ·rename_i hh ver
  split at h
  case h_2=>cases h
  rename_i ver' t' xs hH
  split at h
  case isFalse=>cases h
  rename_i e1
  subst e1
  split at h
  case isFalse=>cases h
  rename_i e2
  subst e2
  cases h
  have hp:=hps _ (List.mem_singleton.2 rfl)
  simp only [Ob.holds] at hp
  have hU:=hE.used _ _ hH
  rcases mo hE hH hs with ⟨h2,h3,b0,h4⟩ |⟨b,cap',c,T,fr,h3,h4,h5,h6,hcap,h7,h8,h9,h10,h11,h12⟩
  ·subst h3
   have:=onto hh (.inl hU) b0 (by simpa using hp) h4
   simpa using this
  ·by_cases hroom:xs.length+ys.length≤cap'
   ·
    have hbd:xs.length*sz t'+l.length≤c.size:=by
     rw [src.len,h6,←Nat.add_mul]
     exact Nat.mul_le_mul_right _ hroom
    obtain ⟨c',g1,g2⟩:=ei b l (xs.length*sz t') E.w c h5 hbd
    have hcs:c'.size=c.size:=by
     have:=congrArg List.length g2
     simp at this
     omega
    have hrun:=fN hS hX hk hkX hte c1 src.toSrcC (some ⟨b,0,none⟩) xs.length cap' hroom ty (E.w.setCells b (xs.length*sz t') l) (fun a' ea=>by
     cases ea
     have:=run_storeCells_cells (P:=P) b (xs.length*sz t') l 0 E.w (fun j hj=>by rw [ig h5];simp;omega) (fun j hj=>oE h5 h7 (by omega)) src.one
     rw [cj]
     simpa using this) (fun en=>by cases en)
    obtain ⟨R,X⟩:=kW hE hh (.row m true t' (xs++ys)) (some b) (E.w.setCells b (xs.length*sz t') l) (fun n=>E.U n∨n=m) (fun n h=> .inl h) (.inl hU)
     (dJ b (fun b1=>some b=some b1) rfl _ _ _) (fun b1 e=>by cases e;exact .inr ⟨h3,_,hH,rfl⟩) (fun b1 e=>by cases e;exact h8 rfl)
     (fun _ e _=>by cases e) (fun _ _ _ _ e _ h=>by cases e;exact absurd h hm)
     (fun X=>⟨.inr rfl,.inr ⟨b,c',T,fr,aB _ _ _,g1,jY h7 hcs,fun _=>h8 rfl,(fun e=>by cases e),by
      rw [hcs,h6,List.length_append];exact Nat.mul_le_mul_right _ hroom,by rw [List.length_append];exact hsmall _ hp,fun i hi=>by
       have key:Rd E.S E.w t' (xs++ys)[i] ((((c.toList.take (xs.length*sz t'))++l).drop (i*sz t')).take (sz t')):=by
        refine yM (by simp;omega) (fun j hj=>?_) src.rd i hi
        have h1:=h12 j hj
        have hm :(j+1)*sz t'≤xs.length*sz t':=Nat.mul_le_mul_right _ hj
        rw [Nat.add_mul] at hm
        have e :((c.toList.take (xs.length*sz t')).drop (j*sz t')).take (sz t')=seg c (j*sz t') (sz t'):=by
         simp only [seg,List.drop_take,List.take_take]
         congr 1
         omega
        rw [e];exact h1
       have hi2 :(i+1)*sz t'≤(xs.length+ys.length)*sz t':=Nat.mul_le_mul_right _ (by rw [List.length_append] at hi;exact hi)
       rw [Nat.add_mul,Nat.add_mul] at hi2
       have e:seg c' (i*sz t') (sz t') =(((c.toList.take (xs.length*sz t'))++l).drop (i*sz t')).take (sz t'):=by
        unfold seg
        rw [g2]
        have hlen :(c.toList.take (xs.length*sz t')++l).length =(xs.length+ys.length)*sz t':=by
         simp [src.len,Nat.add_mul];omega
        rw [List.drop_append_of_le_length (by rw [hlen,Nat.add_mul];omega),List.take_append_of_le_length (by rw [List.length_drop,hlen,Nat.add_mul];omega)]
       show Rd E.S (E.w.setCells b (xs.length*sz t') l) t' (xs++ys)[i] (seg c' (i*sz t') (sz t'))
       rw [e]
       exact key.ext X.s X.keepS⟩⟩)
    refine ⟨_,_,_,by rw [h4];exact hrun,⟨R,X,rfl,(cB _ _ _).symm,fun n h=>?_⟩,?_⟩
    ·rcases h with h|h
     ·exact .inl h
     ·exact .inr ⟨by omega,by unfold KN;omega⟩
    ·simp only [af]
     refine ⟨.inl hU,.inr trivial,⟨_,_,_,rfl⟩,fun rw t2 xs2 hH2=> .inr ⟨b,cap',c',T,fr,aB _ _ _,?_⟩⟩
     simp only [aB,Option.some.injEq] at hH2
     cases hH2
     exact ⟨by rw [List.length_append],g1,by rw [hcs];exact h6,by rw [List.length_append];exact hroom⟩
   ·
    have hl0 :(seg c 0 (xs.length*sz t')).length=xs.length*sz t':=ve _ _ _ (by omega)
    obtain ⟨nc,c',g1,g2,g3,g4⟩:=fj hE hS hX hk hkX hte c1 c4 c2 c3 src.toSrcC (some ⟨b,0,none⟩) xs.length cap' (seg c 0 (xs.length*sz t')) hl0 (fun w hw=>by
     have hbw:w.heap[b]?=some (.cells c T fr):=by rw [hw];exact h5
     have:=run_loadCells_list (P:=P) w ⟨b,0,none⟩ (seg c 0 (xs.length*sz t')) (fun j v hj=>by
      rw [cj,ig hbw]
      rw [mz] at hj
      split at hj
      ·exact hj
      ·cases hj)
     rw [hl0] at this
     simpa [Builtin.firstCells] using this) (by omega) hp ty
    have hrd :∀ (i:Nat) (h:i <(xs++ys).length),Rd E.S E.w.drew t' (xs++ys)[i] (seg c' (i*sz t') (sz t')):=fun i hi=>by
     have key:Rd E.S E.w t' (xs++ys)[i] (((seg c 0 (xs.length*sz t')++l).drop (i*sz t')).take (sz t')):=by
      refine yM hl0 (fun j hj=>?_) src.rd i hi
      have h1:=h12 j hj
      have hm :(j+1)*sz t'≤xs.length*sz t':=Nat.mul_le_mul_right _ hj
      rw [Nat.add_mul] at hm
      have e :((seg c 0 (xs.length*sz t')).drop (j*sz t')).take (sz t')=seg c (j*sz t') (sz t'):=by
       simp only [seg,List.drop_zero,List.drop_take,List.take_take]
       congr 1
       omega
      rw [e];exact h1
     rw [←g3] at key
     have hi2 :(i+1)*sz t'≤(xs.length+ys.length)*sz t':=Nat.mul_le_mul_right _ (by rw [List.length_append] at hi;exact hi)
     rw [Nat.add_mul] at hi2
     have e :((c'.toList.take ((xs.length+ys.length)*sz t')).drop (i*sz t')).take (sz t')=seg c' (i*sz t') (sz t'):=by
      simp only [seg,List.drop_take,List.take_take]
      congr 1
      omega
     rw [e] at key
     exact key.ext X0.s X0.keepS
    obtain ⟨E',G,hv⟩:=Jz R0 m hm hh (.inl hU) t' (xs++ys) c' e nc g2 (by rw [List.length_append];exact g1) (by rw [List.length_append];exact hsmall _ hp) hrd
    refine ⟨_,_,E',by rw [h4];exact g4,gV X0 G,?_⟩
    rw [List.length_append] at hv
    exact hv
 ·cases h
end
section
open Go.RowKit
variable {P:Program}
theorem D6 {α:Type} (a:Array α) (x:α) (f:α→α) :(a.push x).modify a.size f=a.push (f x):=by
 apply Array.ext
 ·simp
 ·intro i h1 h2
  simp only [Array.getElem_modify,Array.getElem_push]
  by_cases h:i<a.size
  ·have :¬ a.size=i:=by omega
   simp [h,this]
  ·have:a.size=i:=by simp at h1;omega
   simp [this]
theorem tw (w:World) (c:Array Value) (T:TypeId) :
  World.freeze { w with heap:=w.heap.push (.cells c T (0,0)) } ⟨w.heap.size,c.size,none⟩ 1={ w with heap:=w.heap.push (.cells c T (c.size,c.size+1)) }:=by
 unfold World.freeze
 rw [if_neg (by decide)]
 simp only [D6]
 rfl
theorem G7 {B:Base} {E:Env} (hE:HRel B E) (m:Nat) (hm :¬ E.U m) (t:Ty) (xs:List (Den t)) (c:Array Value) (T:TypeId) (cap:Nat) (hcap:c.size=cap*sz t) (hlc:xs.length≤cap) (hl:xs.length≤aJ)
  (hx :∀ (i:Nat) (h:i<xs.length),Rd E.S E.w t xs[i] (seg c (i*sz t) (sz t))) :
  ∃ E',Good B E m [(m,.row m true t xs)] { E.w with heap:=E.w.heap.push (.cells c T (c.size,c.size+1)) } E'∧af E' (.osl m m) (.slice (some ⟨E.w.heap.size,0,none⟩) xs.length cap):=by
 have hsz:xs.length*sz t≤c.size:=by rw [hcap];exact Nat.mul_le_mul_right _ hlc
 have hS :¬ E.S E.w.heap.size:=fun h=>Nat.lt_irrefl _ (hE.stab _ h)
 have hget :(E.w.heap.push (.cells c T (c.size,c.size+1)))[E.w.heap.size]?=some (.cells c T (c.size,c.size+1)):=by simp
 obtain ⟨R,X⟩:=kW hE m (.row m true t xs) (some E.w.heap.size) { E.w with heap:=E.w.heap.push (.cells c T (c.size,c.size+1)) } (fun n=>E.U n∨n=m) (fun n h=> .inl h) (.inr rfl)
  ⟨rfl,rfl,rfl,by simp,fun b hb' _=>Below.heap_alloc E.w _ b hb'⟩ (fun b e=>by cases e;exact .inl ⟨Nat.le_refl _,by simp⟩) (fun b e=>by cases e;exact hS)
  (fun _ e _=>by cases e) (fun _ _ _ _ e _ h=>by cases e;exact absurd h hm)
  (fun X=>⟨.inr rfl,.inr ⟨_,c,T,(c.size,c.size+1),aB _ _ _,hget,(fun i hi h=>by have:=h.1;simp at this;omega),(fun _=>hS),(fun e=>by cases e),hsz,hl,fun i hi=>(hx i hi).ext X.s X.keepS⟩⟩)
 refine ⟨_,⟨R,X,rfl,(cB _ _ _).symm,fun n h=>?_⟩,?_⟩
 ·rcases h with h|h
  ·exact .inl h
  ·exact .inr ⟨by omega,by unfold KN;omega⟩
 ·simp only [af]
  refine ⟨.inr trivial,.inr trivial,⟨_,_,_,rfl⟩,fun rw t' xs' hH=> .inr ⟨_,cap,c,T,(c.size,c.size+1),aB _ _ _,?_⟩⟩
  simp only [aB,Option.some.injEq] at hH
  cases hH
  exact ⟨rfl,hget,hcap,hlc⟩
theorem yd {B:Base} {E:Env} (hE:HRel B E) {tb:Tbl} (hT:c8 P tb) {s d:TypeId} {ts td:TD} (hs:TDok P s ts) (hd:TDok P d td) (m:Nat) (hm :¬ E.U m) {x:V} {xv:Value} (hx:af E x xv) {ps:List Ob} {v:V} {dh:List (Nat×Blk)}
  (h:Ba tb ts td m x = .val ps v dh) :∃ v' w' E',(convert s d xv).run P E.w = .ok v' w'∧Good B E m dh w' E'∧af E' v v':=by
 have hsk:=hs.kind
 have hdk:=hd.kind
 unfold Ba at h
 split at h
 case h_2=>cases h
 rename_i e str h1 h2
 split at h
 case h_2=>cases h
 rename_i te hte
 have hek:=(hT _ _ hte).kind
 split at h
 case h_2=>cases h
 rename_i h3
 cases h
 rw [h1] at hsk;rw [h2] at hdk;rw [h3] at hek
 simp only [bA] at hsk hdk hek
 simp only [af] at hx
 obtain ⟨rfl,hlen⟩:=hx
 obtain ⟨R0,X0⟩:=xQ hE E.w.drew rfl rfl rfl rfl
 generalize hq :(Question.appendCap str.size 0 e).cut (E.w.tape E.w.drawn (Question.appendCap str.size 0 e))=cap
 have hcap:str.size≤cap:=by rw [←hq];simp only [Question.cut];omega
 let c:Array Value:=(str.data.map fun b=>Value.int .u8 b.toNat)++Array.replicate (cap - str.size) (.int .u8 0)
 have hds:str.data.size=str.size:=ByteArray.size_data
 have hcs:c.size=cap*sz (.int .u8):=by simp [c,sz,hds];omega
 have hl :(bm str).length=str.size:=by simp [bm,hds]
 have hl1 :(bm str).length≤cap:=by rw [hl];exact hcap
 have hl2 :(bm str).length≤aJ:=by rw [hl];exact hlen
 obtain ⟨E',G,hv⟩:=G7 R0 m hm (.int .u8) (bm str) c e cap hcs hl1 hl2 (fun i hi=>by
  have hi0:i <(bm str).length:=hi
  have hi':i<str.data.size:=by rw [hl] at hi0;omega
  have e1:seg c (i*sz (.int .u8)) (sz (.int .u8))=[Value.int .u8 (str.data[i].toNat:Int)]:=by
   simp only [seg,sz,Nat.mul_one,c,Array.toList_append,Array.toList_map]
   rw [List.drop_append_of_le_length (by simp;omega),List.take_append_of_le_length (by simp;omega),List.drop_eq_getElem_cons (by simp;omega)]
   simp
  rw [e1]
  have e2 :(bm str)[i]'hi0 =(str.data[i].toNat:Int):=by simp [bm]
  have e3:Rd E.S E.w.drew (.int .u8) ((str.data[i].toNat:Int):Den (.int .u8)) [Value.int .u8 (str.data[i].toNat:Int)]:= .int (MP _)
  exact (congrArg (fun q:Int=>Rd E.S E.w.drew (.int .u8) q [Value.int .u8 (str.data[i].toNat:Int)]) e2).mpr e3)
 rw [show @List.length (Den (.int .u8)) (bm str)=str.size from hl] at hv
 refine ⟨_,_,E',?_,gV X0 G,hv⟩
 have hfd:Question.forced (Question.appendCap str.size 0 e)=false:=rfl
 have hns:E.w.drew.heap.size=E.w.heap.size:=rfl
 simp only [convert,Sem.run_bind,run_underlying hsk,run_underlying hdk,run_underlying hek,Result.andThen_ok,Conv.stringToBytes,run_choose,hfd,hq]
 simp only [Bool.false_eq_true,if_false,Result.andThen_ok,newRow,Sem.run_bind,run_newObj,Sem.run_pure,markStringish,run_shape]
 have hsh:World.shape? { E.w.drew with heap:=E.w.drew.heap.push (.cells c e (0,0)) } E.w.drew.heap.size=some (e,c.size):=by
  have hget :(E.w.drew.heap.push (.cells c e (0,0)))[E.w.drew.heap.size]?=some (.cells c e (0,0)):=Array.getElem?_push_size
  unfold World.shape?
  simp only [hget]
 have hfz:=tw E.w.drew c e
 simp only [World.drew] at hsh hfz ⊢
 simp only [c] at hsh hfz
 rw [hsh]
 simp only [Result.andThen_ok,run_freeze,Sem.run_pure]
 rw [hfz]
end
section
open Go.RowKit
variable {P:Program}
theorem memN_iff {l:List Nat} {i:Nat}:memN l i=true↔i∈l:=by
 induction l with
 | nil=>simp [memN]
 | cons k r ih=>simp only [memN,Bool.or_eq_true,ih,List.mem_cons,Nat.beq_eq];exact ⟨fun h=>h.imp Eq.symm id,fun h=>h.imp Eq.symm id⟩
theorem roL_cells {H:bj} {L:List Nat} {h:Nat} {cs:List V}:roL H L h=some (.cells cs)↔H h=some (.cells cs):=by
 unfold roL
 cases hx:H h with
 | none=>simp
 | some k=>cases k <;> simp
theorem u9 {H:bj} {L:List Nat} {h ver:Nat} {rw':Bool} {t:Ty} {xs:List (Den t)} (hr:roL H L h=some (.row ver rw' t xs)) :∃ rw,H h=some (.row ver rw t xs)∧rw' =(bif memN L h then false else rw):=by
 unfold roL at hr
 cases hx:H h with
 | none=>rw [hx] at hr;cases hr
 | some k=>
  rw [hx] at hr
  cases k with
  | row ver rw t xs=>simp only [Option.some.injEq] at hr;cases hr;exact ⟨rw,rfl,rfl⟩
  | _=>cases hr
theorem xw {H:bj} {L:List Nat} {h ver esz:Nat} {cs:List V} (hr:roL H L h=some (.grow ver esz cs)):H h=some (.grow ver esz cs):=by
 unfold roL at hr
 split at hr
 ·cases hr
 ·exact hr
theorem Hc {H:bj} {L:List Nat} {h:Nat} {es:List (V×V)} (hr:roL H L h=some (.mp es)):H h=some (.mp es):=by
 unfold roL at hr
 split at hr
 ·cases hr
 ·exact hr
theorem B0 {H:bj} {L:List Nat} {h k:Nat} {t:Ty} {x:Den t} (hr:roL H L h=some (.abs k t x)):H h=some (.abs k t x):=by
 unfold roL at hr
 split at hr
 ·cases hr
 ·exact hr
theorem rK {H:bj} {L:List Nat} {h:Nat} {k:Blk} (hr:roL H L h=some k) :∃ k0,H h=some k0∧∀ w b,ta w k b=ta w k0 b:=by
 cases k with
 | cells cs=>exact ⟨_,roL_cells.1 hr,fun _ _=>rfl⟩
 | row ver rw t xs=>obtain ⟨rw0,h1,_⟩:=u9 hr;exact ⟨_,h1,fun _ _=>rfl⟩
 | grow ver esz cs=>exact ⟨_,xw hr,fun _ _=>rfl⟩
 | mp es=>exact ⟨_,Hc hr,fun _ _=>rfl⟩
 | abs k t x=>exact ⟨_,B0 hr,fun _ _=>rfl⟩
theorem Nw {H:bj} {L:List Nat} {h:Nat} {k:Blk} (hr:roL H L h=some k) :∃ k0,H h=some k0:=by
 unfold roL at hr
 cases hx:H h with
 | none=>rw [hx] at hr;cases hr
 | some k=>exact ⟨k,rfl⟩
def V3 (E:Env) (L:List Nat) (b:Nat):Prop:=∃ h,h∈L∧(∃ (ver:Nat) (rw:Bool) (t:Ty) (xs:List (Den t)),E.H h=some (.row ver rw t xs))∧E.ρ h=some b
def cE (E:Env) (L:List Nat):Env:=⟨E.U,E.ρ,fun b=>E.S b∨V3 E L b,E.w,roL E.H L⟩
theorem dv {B:Base} {E:Env} (hE:HRel B E) (L:List Nat):HRel B (cE E L)∧Ext E (cE E L):=by
 have X:Ext E (cE E L):=by
  refine ⟨fun _ h=>h,fun _ h=> .inl h,fun _ _=>rfl,fun h cs _ hx=>⟨⟨cs,roL_cells.1 hx⟩,rfl⟩,fun h ver rw' t xs _ _ hx=>?_,fun h ver esz cs _ _ hx=>⟨cs,xw hx,rfl,rfl,fun b c T fr _ hw=>⟨c,T,fr,hw,rfl⟩⟩,fun h es _ hx=>⟨⟨es,Hc hx⟩,rfl⟩,fun h k t x _ hx=>⟨⟨x,B0 hx⟩,rfl⟩⟩
  obtain ⟨rw,h1,_⟩:=u9 hx
  exact ⟨rw,xs,h1,rfl,rfl,fun b c T fr _ hw=>⟨c,T,fr,hw,rfl⟩⟩
 refine ⟨⟨fun h b hx=>?_,fun b hs=>?_,fun h k b hx hb=>?_,fun h1 h2 k1 k2 b x1 x2 b1 b2=>?_,fun h k hx=>?_,hE.keeps,fun h k b hx hb=>?_,fun b hs=> .inl (hE.s0 b hs),fun b hs=>?_⟩,X⟩
 ·obtain ⟨k0,h1⟩:=Nw hx;exact hE.used _ _ h1
 ·rcases hs with hs |⟨h,_,⟨ver,rw,t,xs,hx⟩,hb⟩
  ·exact hE.stab b hs
  ·exact hE.lt _ _ _ hx hb
 ·obtain ⟨k0,h1,h2⟩:=rK hx;exact hE.lt' _ _ _ h1 (hb.imp id fun ⟨b0,c1,c2⟩=>⟨b0,c1,by rw [←h2];exact c2⟩)
 ·obtain ⟨_,y1,z1⟩:=rK x1
  obtain ⟨_,y2,z2⟩:=rK x2
  exact hE.inj' _ _ _ _ _ y1 y2 (b1.imp id fun ⟨b0,c1,c2⟩=>⟨b0,c1,by rw [←z1];exact c2⟩) (b2.imp id fun ⟨b0,c1,c2⟩=>⟨b0,c1,by rw [←z2];exact c2⟩)
 ·have notS :∀ k0 b,E.H h=some k0→(∀ (ver:Nat) (rw:Bool) (t:Ty) (xs:List (Den t)),k0 = .row ver rw t xs→h∉L)→Tch E h k0 b→¬ E.S b→¬(cE E L).S b:=fun k0 b hk hnot hb hs hs'=>by
   rcases hs' with hs' |⟨h2,hm,⟨ver,rw,t,xs,hx2⟩,hb2⟩
   ·exact hs hs'
   ·have:=hE.inj' _ _ _ _ _ hk hx2 hb (.inl hb2)
    subst this
    rw [hk] at hx2
    exact hnot _ _ _ _ (Option.some.inj hx2) hm
  cases k with
  | cells cs=>
   have h0:=roL_cells.1 hx
   exact dp X rfl (fun _ _=>rfl) (fun b hb _ hs=>notS _ b h0 (fun _ _ _ _ e=>by cases e) hb hs) (hE.blk _ _ h0)
  | grow ver esz cs=>
   have h0:=xw hx
   exact dp X rfl (fun _ _=>rfl) (fun b hb _ hs=>notS _ b h0 (fun _ _ _ _ e=>by cases e) hb hs) (hE.blk _ _ h0)
  | abs kk t x=>
   have h0:=B0 hx
   exact dp X rfl (fun _ _=>rfl) (fun b hb _ hs=>notS _ b h0 (fun _ _ _ _ e=>by cases e) hb hs) (hE.blk _ _ h0)
  | mp es=>
   have h0:=Hc hx
   exact dp X rfl (fun _ _=>rfl) (fun b hb _ hs=>notS _ b h0 (fun _ _ _ _ e=>by cases e) hb hs) (hE.blk _ _ h0)
  | row ver rw' t xs=>
   obtain ⟨rw,h0,e⟩:=u9 hx
   obtain ⟨hu,hk⟩:=hE.blk _ _ h0
   refine ⟨hu,?_⟩
   rcases hk with ⟨k1,k2⟩ |⟨b,c,T,fr,k1,k2,k3,k4,k5,k6,k7,k8⟩
   ·exact .inl ⟨k1,k2⟩
   ·refine .inr ⟨b,c,T,fr,k1,k2,k3,fun e'=>?_,fun e'=>?_,k6,k7,fun i hi=>(k8 i hi).ext X.s X.keepS⟩
    ·cases hm:memN L h with
     | true=>rw [hm] at e;simp only [cond_true] at e;rw [e] at e';cases e'
     | false=>
      rw [hm] at e;simp only [cond_false] at e
      exact notS _ b h0 (fun _ _ _ _ _ hl=>by rw [memN_iff.2 hl] at hm;cases hm) (.inl k1) (k4 (by rw [←e];exact e'))
    ·cases hm:memN L h with
     | true=>exact .inr ⟨h,memN_iff.1 hm,⟨ver,rw,t,xs,h0⟩,k1⟩
     | false=>
      rw [hm] at e;simp only [cond_false] at e
      exact .inl (k5 (by rw [←e];exact e'))
 ·obtain ⟨k0,h1,h2⟩:=rK hx;exact hE.own' _ _ _ h1 (hb.imp id fun ⟨b0,c1,c2⟩=>⟨b0,c1,by rw [←h2];exact c2⟩)
 ·rcases hs with hs |⟨h,_,⟨ver,rw,t,xs,hx⟩,hb⟩
  ·exact hE.sb b hs
  ·exact .inr (hE.own _ _ _ hx hb)
theorem l7 (H:bj) (L:List Nat) (h:Nat):aY H (fJ H L) h=roL H L h:=by
 have key:find (fJ H L) h=if h∈L then (match H h with|some (.row ver _ t xs)=>some (.row ver false t xs)|_=>none) else none:=by
  induction L with
  | nil=>simp [fJ,find]
  | cons x L ih=>
   by_cases hx:x=h
   ·subst hx
    simp only [List.mem_cons,true_or,if_true]
    cases hH:H x with
    | none=>simp only [fJ,hH];rw [ih];simp [hH]
    | some k=>
     cases k with
     | row ver rw t xs=>simp [fJ,hH,find]
     | _=>simp only [fJ,hH];rw [ih];simp [hH]
   ·have hmem:h∈x::L↔h∈L:=by simp [Ne.symm hx]
    have hs:find (fJ H (x::L)) h=find (fJ H L) h:=by
     cases hH:H x with
     | none=>simp only [fJ,hH]
     | some k=>
      cases k with
      | row ver rw t xs=>
       simp only [fJ,hH,find]
       cases hb:Nat.beq x h with
       | true=>exact absurd (Nat.eq_of_beq_eq_true hb) hx
       | false=>rfl
      | _=>simp only [fJ,hH]
    rw [hs,ih]
    simp only [hmem]
 unfold aY roL
 rw [key]
 by_cases hm:h∈L
 ·rw [if_pos hm]
  cases hH:H h with
  | none=>rfl
  | some k=>
   cases k with
   | row ver rw t xs=>simp [memN_iff.2 hm]
   | _=>rfl
 ·rw [if_neg hm]
  have hf:memN L h=false:=by cases hx:memN L h with|true=>exact absurd (memN_iff.1 hx) hm|false=>rfl
  cases hH:H h with
  | none=>rfl
  | some k=>
   cases k with
   | row ver rw t xs=>simp [hf]
   | _=>rfl
theorem qZ (H:bj) (l r:List (Nat×Blk)):aY H (l++r)=aY (aY H r) l:=by
 have key :∀ (l r:List (Nat×Blk)) (i:Nat),find (l++r) i=match find l i with|some v=>some v|none=>find r i:=fun l r i=>by
  induction l with
  | nil=>rfl
  | cons x l ih=>
   obtain ⟨k,v⟩:=x
   simp only [List.cons_append,find]
   cases Nat.beq k i with
   | true=>rfl
   | false=>simpa using ih
 funext h
 simp only [aY,key]
 cases find l h <;> rfl
theorem EP {E E':Env} (X:Ext E E') :∀ {parts:List (Nat×V)} {pv:List (Nat×Value)},pB E parts pv→pB E' parts pv
 | [],[],_=>trivial
 | _::_,[],h=>by simp [pB] at h
 | [],_::_,h=>by simp [pB] at h
 | _::_,_::_,h=>⟨h.1,cF X _ _ h.2.1,EP X h.2.2⟩
theorem pw {B:Base} {E:Env} (hE:HRel B E) {tb:Tbl} (hT:c8 P tb) {t:TypeId} {td:TD} (ht:TDok P t td) (m:Nat) (hm :¬ E.U m) {n:Nat} {parts:List (Nat×V)} {pv:Array (Nat×Value)} (hp:pB E parts pv.toList)
  {ps:List Ob} {v:V} {dh:List (Nat×Blk)} (h:la tb td E.H m n parts = .val ps v dh) :∃ v' w' E',(Instr.buildSlice t n pv).run P E.w = .ok v' w'∧Good B E m dh w' E'∧af E' v v':=by
 unfold la at h
 split at h
 case h_2=>exact jL hE hT ht m hm hp h
 cases he:T9 tb td with
 | false=>rw [he] at h;cases h
 | true=>
  rw [he] at h
  simp only [cond_true] at h
  unfold ti at h
  split at h
  ·rename_i ps' v0 dh' hb
   cases h
   obtain ⟨R,X⟩:=dv hE (hss (parts.map (·.2)))
   obtain ⟨v',w',E',h1,G,h3⟩:=jL (E:=cE E (hss (parts.map (·.2)))) R hT ht m hm (EP X hp) (n:=n) (show gz tb td (cE E (hss (parts.map (·.2)))).H m n parts = .val ps v dh' from hb)
   refine ⟨v',w',E',h1,⟨G.rel,X.trans G.ext,G.w,?_,G.u⟩,h3⟩
   rw [G.h,qZ]
   congr 1
   funext k
   exact (l7 E.H _ k).symm
  ·rename_i hne
   exact absurd h (hne _ _ _)
end
section
open Go.RowKit
variable {P:Program}
theorem ib {E:Env} {α:Type} (f:α→V) (g:α→Value) (h :∀ x,af E (f x) (g x)) :∀ l:List α,ah E (l.map f) (l.map g)
 | []=>by simp [ah]
 | x::l=>by simp only [List.map_cons,ah];exact ⟨h x,ib f g h l⟩
structure GBlk (E:Env) (h esz off len:Nat) (cs:List V) (v:Value) (b cap:Nat) (c:Array Value) (T:TypeId) (fr:Nat×Nat):Prop where
 at_:E.ρ h=some b
 val:v = .slice (some ⟨b,off*esz,none⟩) len cap
 blk:E.w.heap[b]?=some (.cells c T fr)
 room :(off+cap)*esz≤c.size
 fits:len≤cap
 known :(off+len)*esz≤cs.length
 frz:rC fr c.size
 S :¬ E.S b
 rel:ah E cs (c.toList.take cs.length)
 le:cs.length≤c.size
theorem Dp {f:Nat→Option (Nat×Nat)} :∀ {parts:List (Nat×V)} {cs cs':List V},nh f cs parts=some cs'→cs'.length=cs.length
 | [],cs,cs',h=>by simp only [nh,Option.some.injEq] at h;rw [h]
 |(i,v)::ps,cs,cs',h=>by
  simp only [nh] at h
  split at h
  case h_2=>cases h
  split at h
  case h_2=>cases h
  split at h
  case isFalse=>cases h
  split at h
  case isFalse=>cases h
  rename_i h2
  rw [Dp h]
  unfold ko
  simp
  omega
theorem oJ {B:Base} {E:Env} (hE:HRel B E) {h ver esz off len:Nat} {cs:List V} (hH:E.H h=some (.grow ver esz cs)) {v:Value} (hv:af E (.gsl h ver esz off len) v) :
  ∃ b cap c T fr,GBlk E h esz off len cs v b cap c T fr:=by
 simp only [af] at hv
 obtain ⟨b,cap,c,T,fr,h1,h2,h3,h4,h5,h6⟩:=hv.2.2.2 _ hH
 obtain ⟨_,b',c',T',fr',k1,k2,k3,k4,k5⟩:=hE.blk _ _ hH
 rw [h1] at k1;cases k1
 rw [h3] at k2;cases k2
 have:=bu k5
 simp only [List.length_take,Array.length_toList] at this
 exact ⟨b,cap,c,T,fr,h1,h2,h3,h4,h5,h6,k3,k4,k5,by omega⟩
theorem yh {B:Base} {E:Env} (hE:HRel B E) {t:TypeId} {td:TD} (ht:TDok P t td) {a:V} {av:Value} (ha:af E a av) {ps:List Ob} {v:V} {dh:List (Nat×Blk)} (h:kE td E.H a = .val ps v dh) :
  dh=[]∧∃ v',(Instr.loadAt t av).run P E.w = .ok v' E.w∧af E v v':=by
 unfold kE at h
 split at h
 ·rename_i hh ver off
  split at h
  case h_2=>cases h
  rename_i ver' esz cs hH
  split at h
  case isFalse=>cases h
  rename_i e
  subst e
  simp only [af] at ha
  obtain ⟨_,b,c,T,fr,k1,k2,k3,k4,k5⟩:=hE.blk _ _ hH
  obtain ⟨b',hb',rfl⟩:=ha.2.2.2 _ _ hH
  rw [k1] at hb';cases hb'
  have hl:=bu k5
  simp only [List.length_take,Array.length_toList] at hl
  have:=rn ht k2 (p:=0) (n:=cs.length) (by omega) (by simpa [seg] using k5) h
  simpa [Instr.loadAt,Instr.sureAddr] using this
 ·exact qO hE ht ha h
theorem jP {B:Base} {E:Env} (hE:HRel B E) {t:TypeId} {td:TD} (ht:TDok P t td) {a x:V} {av xv:Value} (ha:af E a av) (hx:af E x xv) (m:Nat) {ps:List Ob} {dh:List (Nat×Blk)} (h:jO td E.H a x = .skip ps dh) :
  ∃ w' E',(Instr.storeAt t av xv).run P E.w = .ok () w'∧Good B E m dh w' E':=by
 unfold jO at h
 split at h
 ·rename_i hh ver off
  split at h
  case h_2=>cases h
  rename_i xs hxs
  split at h
  case isFalse=>cases h
  rename_i hlen
  obtain ⟨hlen,hone⟩:=hlen
  split at h
  case h_2=>cases h
  rename_i ver' esz cs hH
  split at h
  case isFalse=>cases h
  rename_i hsz
  obtain ⟨e,hsz⟩:=hsz
  subst e
  cases h
  have hvs:=cX hx hxs
  have hvl:xv.cells.toList.length=td.size:=by rw [←bu hvs];exact hlen
  have hvl':xv.cells.size=td.size:=by simpa using hvl
  have h1c:=uG hone hvs
  simp only [af] at ha
  obtain ⟨hU,b,c,T,fr,h1,h2,h3,h4,h5⟩:=hE.blk _ _ hH
  obtain ⟨b',hb',rfl⟩:=ha.2.2.2 _ _ hH
  rw [h1] at hb';cases hb'
  have hl:=bu h5
  simp only [List.length_take,Array.length_toList] at hl
  have run :(Instr.storeAt t (.pointer (some ⟨b,off,none⟩)) xv).run P E.w = .ok () (E.w.setCells b off xv.cells.toList):=by
   have:=run_storeCells_cells (P:=P) b off xv.cells.toList 0 E.w (fun j hj=>by rw [ig h2];simp;omega) (fun j hj=>oE h2 h3 (by omega)) h1c
   simp only [Instr.storeAt,Instr.sureAddr,storeVar,Sem.run_bind,Sem.run_pure,Result.andThen_ok,ht.sizeOf,hvl',ne_eq,not_true_eq_false,if_false,this,Nat.add_zero]
  obtain ⟨c',g1,g2⟩:=ei b xv.cells.toList off E.w c h2 (by omega)
  have hcs:c'.size=c.size:=by
   have:=congrArg List.length g2
   simp at this
   omega
  have hsl :(ko cs off xs).length=cs.length:=by
   unfold ko;simp;omega
  obtain ⟨R,X⟩:=kW hE hh (.grow ver esz (ko cs off xs)) (some b) (E.w.setCells b off xv.cells.toList) E.U (fun _ h=>h) (hE.used _ _ hH)
   (dJ b (fun b1=>some b=some b1) rfl _ _ _) (fun b1 e=>by cases e;exact .inr ⟨h1,_,hH,rfl⟩) (fun b1 e=>by cases e;exact h4) (fun _ e _=>by cases e) (fun _ _ _ _ e=>by cases e)
   (fun X=>⟨hU,b,c',T,fr,aB _ _ _,g1,jY h3 hcs,h4,by
    rw [g2,hsl]
    have h6:=jv (bD X _ _ h5) (bD X _ _ hvs) off
    have e :(c.toList.take off++xv.cells.toList++c.toList.drop (off+xv.cells.toList.length)).take cs.length =(c.toList.take cs.length).take off++xv.cells.toList ++(c.toList.take cs.length).drop (off+xv.cells.toList.length):=by
     have e1 :(c.toList.take off++xv.cells.toList).length=off+td.size:=by simp only [List.length_append,List.length_take,Array.length_toList,hvl];omega
     rw [List.take_append,List.take_of_length_le (by rw [e1];exact hsz),e1,List.take_take,Nat.min_eq_left (by omega),hvl]
     congr 1
     rw [List.drop_take]
    rw [e]
    exact h6⟩)
   (fun ver2 esz2 cs2 e _ _=>by
    cases e
    exact ⟨cs,hH,hsl.symm,h1.symm,fun b2 c2 T2 fr2 hb2 hw2=>by
     rw [h1] at hb2;cases hb2
     rw [h2] at hw2;cases hw2
     exact ⟨c',T,fr,g1,hcs⟩⟩)
  exact ⟨_,_,run,R,X,rfl,(cB _ _ _).symm,fun _ h=> .inl h⟩
 ·exact yl hE ht ha hx m h
theorem vK {E:Env} {tb:Tbl} (hT:c8 P tb) {t:TypeId} {td:TD} (ht:TDok P t td) {x:V} {xv:Value} (hx:af E x xv) {f:Nat} {ps:List Ob} {v:V} {dh:List (Nat×Blk)}
  (h:vJ tb td x f = .val ps v dh):dh=[]∧∃ v',(Instr.fieldAt t xv f).run P E.w = .ok v' E.w∧af E v v':=by
 unfold vJ at h
 split at h
 ·rename_i hh ver off
  split at h
  case h_2=>cases h
  rename_i fs hk
  have hkd:=ht.kind
  rw [hk] at hkd
  obtain ⟨fields,hu,hfs⟩:=hkd
  split at h
  case h_2=>cases h
  rename_i o ft hf
  obtain ⟨fl,h1,h2,h3⟩:=mE hfs hf
  split at h
  case h_2=>cases h
  rename_i tf htf
  have htf':=hT _ _ htf
  split at h
  case isTrue=>cases h
  rename_i hsz
  cases h
  have run' :∀ (a:Addr),(Instr.fieldAt t (.pointer (some a)) f).run P E.w = .ok (.pointer (some (a.add o))) E.w:=fun a=>by
   simp [Instr.fieldAt,run_underlying hu,h1,Instr.sureAddr,fieldPlace,h3,htf'.sizeOf,hsz,h2]
  refine ⟨rfl,?_⟩
  simp only [af] at hx ⊢
  obtain ⟨a,rfl⟩:=hx.2.2.1
  refine ⟨_,run' a,hx.1,hx.2.1,⟨_,rfl⟩,fun esz cs hcs=>?_⟩
  obtain ⟨b,hb,he⟩:=hx.2.2.2 _ _ hcs
  cases he
  exact ⟨b,hb,by rw [cj]⟩
 ·exact ye hT ht hx h
theorem vQ {B:Base} {E:Env} (hE:HRel B E) {tb:Tbl} (hT:c8 P tb) {t:TypeId} {td:TD} (ht:TDok P t td) {x i:V} {xv iv:Value} (hx:af E x xv) (hi:af E i iv) {ps:List Ob} {v:V} {dh:List (Nat×Blk)}
  (h:jM tb td E.H x i = .val ps v dh) (hps :∀ p∈ps,p.holds):dh=[]∧∃ v',(Instr.indexAt t xv iv).run P E.w = .ok v' E.w∧af E v v':=by
 unfold jM at h
 have hkd:=ht.kind
 split at h
 ·rename_i hh ver esz off len
  split at h
  case h_2=>cases h
  rename_i k n
  simp only [af] at hi
  obtain ⟨rfl,_⟩:=hi
  split at h
  case h_2=>cases h
  rename_i e hk
  rw [hk] at hkd
  simp only [bA] at hkd
  split at h
  case h_2=>cases h
  rename_i te hte
  have hte':=hT _ _ hte
  split at h
  case h_2=>cases h
  rename_i ver' esz' cs hH
  split at h
  case isFalse=>cases h
  rename_i hc
  obtain ⟨hsz,rfl,rfl⟩:=hc
  cases h
  have hp:=hps _ (List.mem_singleton.2 rfl)
  simp only [Ob.holds] at hp
  have hx0:=hx
  simp only [af] at hx0
  obtain ⟨b,cap,c,T,fr,G⟩:=oJ hE hH hx
  have e:=G.val
  subst e
  refine ⟨rfl,.pointer (some ⟨b,(off+n.toNat)*esz,none⟩),?_,?_⟩
  ·have e2 :(off+n.toNat)*esz=off*esz+n.toNat*esz:=Nat.add_mul _ _ _
   rw [e2]
   simp [Instr.indexAt,asIntOf,run_underlying hkd,hte'.sizeOf,hp.1,hp.2,cj,hsz]
  ·simp only [af]
   refine ⟨hx0.1,hx0.2.1,⟨_,rfl⟩,fun esz2 cs2 hH2=>?_⟩
   exact ⟨b,G.at_,rfl⟩
 ·rename_i hh ver off
  split at h
  case h_2=>cases h
  rename_i k n
  simp only [af] at hi
  obtain ⟨rfl,_⟩:=hi
  split at h
  case h_2=>cases h
  rename_i len e hk
  rw [hk] at hkd
  simp only [bA] at hkd
  split at h
  case h_2=>cases h
  rename_i te hte
  have hte':=hT _ _ hte
  cases h
  have hp:=hps _ (List.mem_singleton.2 rfl)
  simp only [Ob.holds] at hp
  refine ⟨rfl,?_⟩
  simp only [af] at hx
  obtain ⟨hU,hU2,⟨a,rfl⟩,hx⟩:=hx
  refine ⟨.pointer (some (a.add (n.toNat*te.size))),?_,?_⟩
  ·simp [Instr.indexAt,asIntOf,run_underlying hkd,hte'.sizeOf,hp.1,hp.2,Instr.sureAddr]
  ·simp only [af]
   refine ⟨hU,hU2,⟨_,rfl⟩,fun esz cs hcs=>?_⟩
   obtain ⟨b,hb,he⟩:=hx _ cs hcs
   cases he
   exact ⟨b,hb,by rw [cj]⟩
 ·exact yg hE hT ht hx hi h hps
theorem vV {B:Base} {E:Env} (hE:HRel B E) {tb:Tbl} (hT:c8 P tb) {t:TypeId} {td:TD} (ht:TDok P t td) (m:Nat) {x:V} {lo hi mx:Option V} {xv:Value} {lov hiv mxv:Option Value} (hx:af E x xv) (hlo:iJ E lo lov) (hhi:iJ E hi hiv) (hmx:iJ E mx mxv)
  {ps:List Ob} {v:V} {dh:List (Nat×Blk)}
  (h:jN tb td E.H x lo hi mx = .val ps v dh) (hps :∀ p∈ps,p.holds) :∃ v' E',(Instr.sliceAt t xv lov hiv mxv).run P E.w = .ok v' E.w∧Good B E m dh E.w E'∧af E' v v':=by
 unfold jN at h
 have hkd:=ht.kind
 have runS :∀ (e:TypeId) (te:TD) (_:td.kind = .slice e) (_:TDok P e te) (a:Option Addr) (len cap l h m:Nat),(Instr.sliceBounds true len cap lov hiv mxv).run P E.w = .ok (l,h,m) E.w→
   (Instr.sliceAt t (.slice a len cap) lov hiv mxv).run P E.w = .ok (.slice (if m=l then a else a.map (·.add (l*te.size))) (h - l) (m - l)) E.w:=fun e te hk hte a len cap l h m hr=>by
  rw [hk] at hkd
  simp only [bA] at hkd
  simp [Instr.sliceAt,Instr.slice,run_underlying hkd,hr,hte.sizeOf]
 split at h
 ·rename_i hh ver esz off len
  split at h
  ·rename_i k0 n0
   split at h
   case isFalse=>cases h
   rename_i hc
   obtain ⟨rfl,h1,h2,h3⟩:=hc
   cases h
   obtain ⟨n,hn⟩:=Option.isSome_iff_exists.1 h3
   obtain ⟨e,te,hk,hte,_⟩:=jx hT hn
   obtain ⟨kl,rfl⟩:=q8 h1 hlo
   obtain ⟨kh,rfl⟩:=q8 h2 hhi
   have hmv :∃ km,mxv=some (.int km 0):=by
    cases mxv with
    | none=>simp [iJ] at hmx
    | some v=>simp only [iJ,af] at hmx;exact ⟨_,by rw [hmx.1]⟩
   obtain ⟨km,rfl⟩:=hmv
   simp only [af] at hx
   obtain ⟨_,_,⟨a,l,c,rfl⟩,_⟩:=hx
   refine ⟨_,E,runS e te hk hte (some a) l c 0 0 0 (by simp [Instr.sliceBounds,Instr.sliceBound,asIntOf]),ef hE m,?_⟩
   simp [af]
  ·cases h
  ·have hmv:mxv=none:=by
    cases mxv with
    | none=>rfl
    | some v=>simp [iJ] at hmx
   subst hmv
   split at h
   case h_2=>cases h
   rename_i n l r hn el er
   split at h
   case h_2=>cases h
   rename_i ver' esz' cs hH
   split at h
   case isFalse=>cases h
   rename_i hc
   obtain ⟨rfl,rfl,rfl⟩:=hc
   cases h
   have hp:=hps _ (List.mem_singleton.2 rfl)
   simp only [Ob.holds] at hp
   obtain ⟨e,te,hk,hte,hts⟩:=jx hT hn
   have hx0:=hx
   simp only [af] at hx0
   obtain ⟨b,cap,c,T,fr,G⟩:=oJ hE hH hx
   have ev:=G.val
   subst ev
   have hr:=runS e te hk hte (some ⟨b,off*n,none⟩) len cap _ _ cap (hJ (P:=P) hlo hhi true len cap G.fits el er hp.1 hp.2.1 hp.2.2)
   refine ⟨_,E,hr,ef hE m,?_⟩
   have hcapl:=G.room
   have hlen:=G.fits
   have hcsl:=G.known
   cases hb:Nat.beq l.toNat 0||Nat.blt l.toNat r.toNat with
   | false=>
    simp only [cond_false,af]
    simp only [Bool.or_eq_false_iff] at hb
    have h1 :¬ l.toNat<r.toNat:=fun h=>by
     have:Nat.blt l.toNat r.toNat=true:=by rw [Nat.blt_eq];exact h
     rw [this] at hb;cases hb.2
    rw [show r.toNat - l.toNat=0 by omega]
    exact .nil
   | true=>
    simp only [cond_true,af]
    have hadd :(if cap=l.toNat then some (⟨b,off*n,none⟩:Addr) else (some (⟨b,off*n,none⟩:Addr)).map (·.add (l.toNat*te.size)))=some ⟨b,(off+l.toNat)*n,none⟩:=by
     simp only [Bool.or_eq_true,Nat.blt_eq] at hb
     split
     ·rename_i hcl
      have:l.toNat=0:=by
       rcases hb with h|h
       ·exact Nat.eq_of_beq_eq_true h
       ·omega
      rw [this];simp
     ·simp only [Option.map_some,cj,hts,Nat.add_mul]
    rw [hadd]
    refine ⟨hx0.1,hx0.2.1,⟨_,_,_,rfl⟩,fun cs2 hH2=>?_⟩
    rw [hH] at hH2;cases hH2
    refine ⟨b,cap - l.toNat,c,T,fr,G.at_,rfl,G.blk,?_,by omega,?_⟩
    ·rw [show off+l.toNat +(cap - l.toNat)=off+cap by omega];exact hcapl
    ·refine Nat.le_trans (Nat.mul_le_mul_right _ ?_) hcsl
     omega
 ·exact yj hE hT ht m hx hlo hhi hmx h hps
theorem D9 {B:Base} {E:Env} (hE:HRel B E) (m:Nat) (hm :¬ E.U m) (esz len cap:Nat) (cs:List V) (c:Array Value) (T:TypeId) (hc:ah E cs (c.toList.take cs.length)) (hcap:cap*esz≤c.size) (hl:len≤cap) (hcs:len*esz≤cs.length) :
  ∃ E',Good B E m [(m,.grow m esz cs)] { E.w with heap:=E.w.heap.push (.cells c T (0,0)) } E'∧af E' (.gsl m m esz 0 len) (.slice (some ⟨E.w.heap.size,0,none⟩) len cap):=by
 obtain ⟨E',G,h1,h2,h3⟩:=sA hE m hm (.grow m esz cs) c T (fun E' X hu hρ hw hS _=>⟨hu,_,c,T,(0,0),hρ,hw,fun i _ h=>by simp at h,hS,bD X _ _ hc⟩) (fun n=>E.U n∨n=m) (fun _=>Iff.rfl)
 refine ⟨E',G,?_⟩
 simp only [af]
 refine ⟨h1,h1,⟨_,_,_,rfl⟩,fun cs2 hH2=>⟨_,cap,c,T,(0,0),h2,by simp,h3,by simpa using hcap,hl,?_⟩⟩
 have:E'.H m=some (.grow m esz cs):=by rw [G.h,cB];exact aB _ _ _
 rw [this] at hH2;cases hH2
 simpa using hcs
theorem AZ (z:Array Value) (sz N:Nat) (hzl:z.size=sz) :
  ∃ zc:Array Value,((N*sz=0∧zc=#[])∨(N*sz≠0∧zc=z))∧((Array.range (N*sz)).map (zc[· % zc.size]!)).toList =(List.replicate N z.toList).flatten:=by
 by_cases h0:N*sz=0
 ·refine ⟨#[],.inl ⟨h0,rfl⟩,?_⟩
  rw [h0]
  rcases Nat.mul_eq_zero.1 h0 with h0|h0
  ·subst h0;simp
  ·have:z.toList=[]:=List.eq_nil_of_length_eq_zero (by rw [Array.length_toList];omega)
   rw [this];simp
 ·refine ⟨z,.inr ⟨h0,rfl⟩,?_⟩
  rw [←hzl,Array.toList_map,Array.toList_range]
  exact mu _ _
theorem px {B:Base} {E:Env} (hE:HRel B E) {tb:Tbl} (hT:c8 P tb) {t:TypeId} {td:TD} (ht:TDok P t td) (m:Nat) (hm :¬ E.U m) {n:Nat} {parts:List (Nat×V)} {pv:Array (Nat×Value)} (hp:pB E parts pv.toList)
  {ps:List Ob} {v:V} {dh:List (Nat×Blk)} (h:lf tb td E.H m n parts = .val ps v dh) :∃ v' w' E',(Instr.buildSlice t n pv).run P E.w = .ok v' w'∧Good B E m dh w' E'∧af E' v v':=by
 unfold lf at h
 split at h
 case h_2=>exact pw hE hT ht m hm hp h
 have hk:=ht.kind
 split at h
 case h_2=>cases h
 rename_i e h1
 rw [h1] at hk
 simp only [bA] at hk
 split at h
 case h_2=>cases h
 rename_i te hte
 have hte':=hT _ _ hte
 split at h
 case isFalse=>cases h
 rename_i hc
 obtain ⟨c2,c3,c4⟩:=hc
 split at h
 case h_2=>cases h
 rename_i cs hcs
 cases h
 obtain ⟨z,hz,hzz⟩:=hte'.zeroValue E.w
 have hzr:ah E te.zero z.cells.toList:=dD hzz
 have hzl:z.cells.size=te.size:=by have:=bu hzr;simp at this;omega
 have hsmall :¬(n*te.size>2 ^ 24):=by
  have:=Nat.mul_le_mul c2 c3
  omega
 obtain ⟨zc,hz1,hz2⟩:=AZ z.cells te.size n hzl
 have hzv:=ic hzr n
 rw [←hz2] at hzv
 obtain ⟨cells',r1,r2⟩:=jQ hp hzv hcs
 have hl2:=bu r2
 have hl3:cells'.size=n*te.size:=by
  have e:=Dp hcs
  have e2 :(yy te.zero n).length=n*te.size:=by
   have:=bu (ic hzr n)
   rw [this];simp [hzl]
  have:=Array.length_toList (xs:=cells')
  omega
 obtain ⟨E',G,hv⟩:=D9 hE m hm te.size n n cs cells' e (by rw [List.take_of_length_le (by omega)];exact r2) (by omega) (Nat.le_refl _) (by have:=Array.length_toList (xs:=cells');omega)
 refine ⟨_,_,E',?_,G,hv⟩
 unfold Instr.buildSlice
 simp only [Sem.run_bind,run_underlying hk,Result.andThen_ok,hte'.sizeOf,hsmall,if_false]
 rcases hz1 with ⟨h0,rfl⟩ |⟨h0,rfl⟩
 ·simp only [h0,if_true,Sem.run_bind,Sem.run_pure,Result.andThen_ok] at r1 ⊢
  simp only [r1,newRow,Sem.run_bind,run_newObj,Result.andThen_ok,Sem.run_pure]
 ·simp only [h0,if_false,Sem.run_bind,hz,Sem.run_pure,Result.andThen_ok,r1,newRow,run_newObj]
theorem Np {α:Type} (z:List α) (n N:Nat) (h:n≤N) :((List.replicate N z).flatten).take (n*z.length) =(List.replicate n z).flatten:=by
 obtain ⟨d,rfl⟩ :∃ d,N=n+d:=⟨N - n,by omega⟩
 rw [←List.replicate_append_replicate,List.flatten_append]
 have hl :((List.replicate n z).flatten).length=n*z.length:=by simp
 rw [←hl,List.take_left]
theorem p8 {B:Base} {E:Env} (hE:HRel B E) {tb:Tbl} (hT:c8 P tb) {t:TypeId} {td:TD} (ht:TDok P t td) (m:Nat) (hm :¬ E.U m) {l c:V} {lv cv:Value} (hl:af E l lv) (hc:af E c cv)
  {ps:List Ob} {v:V} {dh:List (Nat×Blk)} (h:l5 tb td E.H m l c = .val ps v dh) (hps :∀ p∈ps,p.holds) :∃ v' w' E',(Instr.makeSlice t lv cv).run P E.w = .ok v' w'∧Good B E m dh w' E'∧af E' v v':=by
 unfold l5 at h
 split at h
 case h_2=>exact qP hE hT ht m hm hl hc h hps
 have hk:=ht.kind
 split at h
 case h_2=>cases h
 rename_i k1 n k2 c
 split at h
 case h_2=>cases h
 rename_i e h1
 rw [h1] at hk
 simp only [bA] at hk
 split at h
 case h_2=>cases h
 rename_i te hte
 have hte':=hT _ _ hte
 split at h
 case isFalse=>cases h
 rename_i hcc
 obtain ⟨c2,c4⟩:=hcc
 cases h
 have hp:=hps _ (List.mem_singleton.2 rfl)
 simp only [Ob.holds] at hp
 obtain ⟨p1,p2,p3⟩:=hp
 simp only [af] at hl hc
 obtain ⟨rfl,_⟩:=hl
 obtain ⟨rfl,_⟩:=hc
 obtain ⟨z,hz,hzz⟩:=hte'.zeroValue E.w
 have hzr:ah E te.zero z.cells.toList:=dD hzz
 have hzl:z.cells.size=te.size:=by have:=bu hzr;simp at this;omega
 obtain ⟨M,rfl⟩:=Int.eq_ofNat_of_zero_le p1
 obtain ⟨N,rfl⟩:=Int.eq_ofNat_of_zero_le (Int.le_trans p1 p2)
 have hN:N≤17179869184:=by omega
 have hMN:M≤N:=by omega
 have hwrap :∀ (X:Nat),X≤N→IntKind.i64.wrap (X:Int) =(X:Int):=fun X hX=>by
  unfold IntKind.wrap
  simp [IntKind.bits,IntKind.signed]
  omega
 have hbytes :((te.bytes:Int) *(N:Int))≤281474976710656:=by
  have:te.bytes*N≤1000*17179869184:=Nat.mul_le_mul c2 hN
  have h2 :((te.bytes*N:Nat):Int)≤17179869184000:=by omega
  rw [Int.natCast_mul] at h2
  omega
 obtain ⟨hb1,hb2⟩:=hte'.bytes E.w
 obtain ⟨zc,hz1,hz2⟩:=AZ z.cells te.size N hzl
 have hsz :((Array.range (N*te.size)).map (zc[· % zc.size]!)).size=N*te.size:=by simp
 have hlen0 :(yy te.zero M).length=M*te.size:=by
  have:=bu (ic hzr M)
  rw [this];simp [hzl]
 have htk :((Array.range (N*te.size)).map (zc[· % zc.size]!)).toList.take (yy te.zero M).length =(List.replicate M z.cells.toList).flatten:=by
  rw [hz2,hlen0]
  have:=Np z.cells.toList M N hMN
  rw [show z.cells.toList.length=te.size by simpa using hzl] at this
  exact this
 obtain ⟨E',G,hv⟩:=D9 hE m hm te.size M N (yy te.zero M) ((Array.range (N*te.size)).map (zc[· % zc.size]!)) e (by rw [htk];exact ic hzr M) (by rw [hsz];exact Nat.le_refl _) hMN (by rw [hlen0];exact Nat.le_refl _)
 refine ⟨_,_,E',?_,by simpa using G,by simpa using hv⟩
 unfold Instr.makeSlice
 simp only [Sem.run_bind,run_underlying hk,Result.andThen_ok,asInt,asIntOf,Sem.run_pure,hb1,hb2,hwrap M hMN,hwrap N (Nat.le_refl _)]
 have hcond :¬((decide ((N:Int)<0)||decide ((te.bytes:Int) *(N:Int)>2 ^ 48)||decide ((M:Int)<0)||decide ((M:Int) >(N:Int)))=true):=by
  have e48 :(2:Int) ^ 48=281474976710656:=by decide
  rw [e48]
  simp only [Bool.or_eq_true,decide_eq_true_eq]
  omega
 rw [if_neg hcond]
 simp only [Sem.run_bind,run_askRoom,Result.andThen_ok,hte'.sizeOf,Int.toNat_natCast]
 rcases hz1 with ⟨h0,rfl⟩ |⟨h0,rfl⟩
 ·simp only [h0,if_true,Sem.run_bind,Sem.run_pure,Result.andThen_ok,newRow,run_newObj]
  rfl
 ·simp only [h0,if_false,Sem.run_bind,hz,Sem.run_pure,Result.andThen_ok,newRow,run_newObj]
  rfl
theorem Bo {B:Base} {E:Env} (hE:HRel B E) {z:Nat} {x:V} {xv:Value} (hx:af E x xv) {n:Nat} {ys:List V} (h:sf E.H z x=some (n,ys)) (hone:ys.all V.one=true) :
  ∃ a cap l,SrcC P E z n xv a cap l∧ah E ys l:=by
 have empty :∀ (a:Option Addr) (cap:Nat),n=0→ys=[]→xv = .slice a 0 cap→∃ a cap l,SrcC P E z n xv a cap l∧ah E ys l:=fun a cap e1 e3 e2=>by
  subst e1;subst e2;subst e3
  refine ⟨a,cap,[],⟨fun _=>rfl,by simp,fun w _=>?_,fun v hv=>by cases hv⟩,trivial⟩
  cases a with
  | none=>simp [Builtin.firstCells]
  | some a=>
   have:=run_loadCells_list (P:=P) w a [] (fun j v hj=>by simp at hj)
   simpa [Builtin.firstCells] using this
 unfold sf at h
 split at h
 ·cases h;simp only [af] at hx;exact empty _ _ rfl rfl hx
 ·cases h;simp only [af] at hx;obtain ⟨a,hx⟩:=hx;exact empty _ _ rfl rfl hx
 ·cases h
  simp only [af] at hx
  generalize hl:[xv]=l0 at hx
  cases hx with
  | nil=>cases hl;exact empty _ _ rfl rfl rfl
  | slice=>cases hl;exact empty _ _ rfl rfl rfl
 ·rename_i hh ver esz off len
  split at h
  case h_2=>cases h
  rename_i ver' esz2 cs hH
  split at h
  case isFalse=>cases h
  rename_i e
  obtain ⟨rfl,rfl,rfl⟩:=e
  cases h
  obtain ⟨b,cap,c,T,fr,G⟩:=oJ hE hH hx
  have ev:=G.val
  subst ev
  have hkn:=G.known
  have hle:=G.le
  have h2:off*esz2+n*esz2≤cs.length:=by rw [←Nat.add_mul];exact hkn
  have hv:ah E ((cs.drop (off*esz2)).take (n*esz2)) (((c.toList.take cs.length).drop (off*esz2)).take (n*esz2)):=kx (ku G.rel _) _
  have hl :(((c.toList.take cs.length).drop (off*esz2)).take (n*esz2)).length=n*esz2:=by
   simp;omega
  refine ⟨some ⟨b,off*esz2,none⟩,cap,_,⟨fun _=>rfl,hl,fun w hw=>?_,uG hone hv⟩,hv⟩
  have hbw:w.heap[b]?=some (.cells c T fr):=by rw [hw];exact G.blk
  have:=run_loadCells_list (P:=P) w ⟨b,off*esz2,none⟩ (((c.toList.take cs.length).drop (off*esz2)).take (n*esz2)) (fun j v hj=>by
   rw [cj,ig hbw]
   have hjl:j<n*esz2:=by
    rcases Nat.lt_or_ge j (n*esz2) with h1|h1
    ·exact h1
    ·rw [List.getElem?_eq_none (by omega)] at hj;cases hj
   rw [List.getElem?_take_of_lt hjl,List.getElem?_drop,List.getElem?_take_of_lt (by omega)] at hj
   exact hj)
  rw [hl] at this
  simpa [Builtin.firstCells] using this
 ·cases h
theorem ER {B:Base} {E:Env} (hE:HRel B E) (m:Nat) (hm :¬ E.U m) (h0:Nat) (hh:E.U h0∨h0=m) (esz len cap:Nat) (cs:List V) (c:Array Value) (T:TypeId) (hc:ah E cs (c.toList.take cs.length)) (hcap:cap*esz≤c.size) (hl:len≤cap) (hcs:len*esz≤cs.length) :
  ∃ E',Good B E m [(h0,.grow m esz cs)] { E.w with heap:=E.w.heap.push (.cells c T (0,0)) } E'∧af E' (.gsl h0 m esz 0 len) (.slice (some ⟨E.w.heap.size,0,none⟩) len cap):=by
 have hS :¬ E.S E.w.heap.size:=fun h=>Nat.lt_irrefl _ (hE.stab _ h)
 have hget :(E.w.heap.push (.cells c T (0,0)))[E.w.heap.size]?=some (.cells c T (0,0)):=by simp
 obtain ⟨R,X⟩:=kW hE h0 (.grow m esz cs) (some E.w.heap.size) { E.w with heap:=E.w.heap.push (.cells c T (0,0)) } (fun n=>E.U n∨n=m) (fun n h=> .inl h) hh
  ⟨rfl,rfl,rfl,by simp,fun b hb' _=>Below.heap_alloc E.w _ b hb'⟩ (fun b e=>by cases e;exact .inl ⟨Nat.le_refl _,by simp⟩) (fun b e=>by cases e;exact hS)
  (fun _ e _=>by cases e) (fun _ _ _ _ e=>by cases e)
  (fun X=>⟨.inr rfl,_,c,T,(0,0),aB _ _ _,hget,(fun i _ h=>by simp at h),hS,bD X _ _ hc⟩)
  (fun _ _ _ e _ h=>by cases e;exact absurd h hm)
 refine ⟨_,⟨R,X,rfl,(cB _ _ _).symm,fun n h=>?_⟩,?_⟩
 ·rcases h with h|h
  ·exact .inl h
  ·exact .inr ⟨by omega,by unfold KN;omega⟩
 ·simp only [af]
  refine ⟨hh,.inr trivial,⟨_,_,_,rfl⟩,fun cs2 hH=>⟨_,cap,c,T,(0,0),aB _ _ _,by simp,hget,by simpa using hcap,hl,?_⟩⟩
  simp only [aB,Option.some.injEq] at hH
  cases hH
  simpa using hcs
theorem ui {B:Base} {E:Env} (hE:HRel B E) {tb:Tbl} (hT:c8 P tb) {tS tX:TypeId} {tdS tdX:TD} (hS:TDok P tS tdS) (hX:TDok P tX tdX) (hkX:AppK tdX) (m:Nat) (hm :¬ E.U m) {s x:V} {sv xv:Value}
  (hs:af E s sv) (hx:af E x xv) (ty:TypeId) {ps:List Ob} {v:V} {dh:List (Nat×Blk)} (h:jz tb tdS E.H m s x = .val ps v dh) (hps :∀ p∈ps,p.holds) :
  ∃ v' w' E',(Builtin.append_ #[tS,tX] ty #[sv,xv]).run P E.w = .ok v' w'∧Good B E m dh w' E'∧af E' v v':=by
 unfold jz at h
 split at h
 case h_2=>cases h
 rename_i e hk
 split at h
 case h_2=>cases h
 rename_i te hte0
 have hte:=hT _ _ hte0
 split at h
 case isFalse=>exact vG hE hT hS hX hkX m hm hs hx ty h hps
 split at h
 case isFalse=>cases h
 rename_i hc
 obtain ⟨c2,c3,c4⟩:=hc
 split at h
 case h_2=>cases h
 rename_i k ys hys
 split at h
 case isFalse=>cases h
 rename_i hone
 obtain ⟨a,cap,l,src,hyl⟩:=Bo (P:=P) hE hx hys hone
 have hyl0:=bu hyl
 obtain ⟨R0,X0⟩:=xQ hE E.w.drew rfl rfl rfl rfl
 split at h
 ·
  have hl0:l=[]:=List.eq_nil_of_length_eq_zero (by rw [src.len];omega)
  subst hl0
  have same :∀ (base:Option Addr) (sl sc:Nat),sl≤sc→(Builtin.append_ #[tS,tX] ty #[.slice base sl sc,xv]).run P E.w = .ok (.slice base sl sc) E.w:=fun base sl sc hle=>by
   have:=fN hS hX hk hkX hte rfl src base sl sc (by omega) ty E.w (fun a' _=>rfl) (fun _=>rfl)
   simpa using this
  split at h
  ·cases h
   simp only [af] at hs
   subst hs
   exact ⟨_,_,E,same none 0 0 (Nat.le_refl _),ef hE m,by simp [af]⟩
  ·cases h
   simp only [af] at hs
   obtain ⟨b0,rfl⟩:=hs
   exact ⟨_,_,E,same b0 0 0 (Nat.le_refl _),ef hE m,by simp [af]⟩
  ·split at h
   case h_2=>cases h
   rename_i ver' esz' cs hH
   split at h
   case isFalse=>cases h
   rename_i e1
   obtain ⟨rfl,rfl⟩:=e1
   cases h
   obtain ⟨b,cap',c,T,fr,G⟩:=oJ hE hH hs
   have ev:=G.val
   subst ev
   exact ⟨_,_,E,same _ _ _ G.fits,ef hE m,hs⟩
  ·cases h
 ·rename_i k
  have onto :∀ (base:Option Addr),(k+1)*te.bytes≤70368744177664→sv = .slice base 0 0→
    ∃ v' w' E',(Builtin.append_ #[tS,tX] ty #[sv,xv]).run P E.w = .ok v' w'∧Good B E m [(m,.grow m te.size ys)] w' E'∧af E' (.gsl m m te.size 0 (k+1)) v':=fun base hp esv=>by
   subst esv
   have hold :∀ (w:World),w.heap=E.w.heap→(Builtin.firstCells te.size 0 (.slice base 0 0)).run P w = .ok ([]:List Value).toArray w:=fun w _=>by
    cases base with
    | none=>simp [Builtin.firstCells]
    | some a=>simpa [Builtin.firstCells] using run_loadCells_list (P:=P) w a [] (fun j v hj=>by simp at hj)
   obtain ⟨nc,c,g1,g2,g3,g4⟩:=fj hE hS hX hk hkX hte rfl c4 c2 c3 src base 0 0 [] (by simp) hold (by omega) (by rw [Nat.zero_add];exact hp) ty
   simp only [Nat.zero_add,List.nil_append] at g1 g3 g4
   have hl1:l.length =(k+1)*te.size:=src.len
   obtain ⟨E',G,hv⟩:=ER R0 m hm m (.inr rfl) te.size (k+1) nc ys c e (by rw [hyl0,hl1,g3];exact bD X0 _ _ hyl) (by rw [g2];exact Nat.le_refl _) g1 (by rw [hyl0,hl1];exact Nat.le_refl _)
   exact ⟨_,_,E',g4,gV X0 G,hv⟩
  split at h
  ·cases h
   simp only [af] at hs
   exact onto none (hps _ (List.mem_singleton.2 rfl)) hs
  ·cases h
   simp only [af] at hs
   obtain ⟨b0,hs⟩:=hs
   exact onto b0 (hps _ (List.mem_singleton.2 rfl)) hs
  ·rename_i hh ver esz off len _
   split at h
   case h_2=>cases h
   rename_i ver' esz' cs hH
   split at h
   case isFalse=>cases h
   rename_i e1
   obtain ⟨rfl,rfl,rfl,rfl,hlen⟩:=e1
   cases h
   have hp:=hps _ (List.mem_singleton.2 rfl)
   simp only [Ob.holds] at hp
   have hU:=hE.used _ _ hH
   obtain ⟨b,cap',c,T,fr,G⟩:=oJ hE hH hs
   have ev:=G.val
   subst ev
   have hle:=G.le
   have hrm:=G.room
   have hl1:l.length =(k+1)*te.size:=src.len
   by_cases hroom:len +(k+1)≤cap'
   ·have hm2 :(len +(k+1))*te.size≤cap'*te.size:=Nat.mul_le_mul_right _ hroom
    rw [Nat.add_mul] at hm2
    simp only [Nat.zero_add] at hrm
    obtain ⟨c',g1,g2⟩:=ei b l (len*te.size) E.w c G.blk (by omega)
    have hcs:c'.size=c.size:=by
     have:=congrArg List.length g2
     simp at this
     omega
    have hrun:=fN hS hX hk hkX hte rfl src (some ⟨b,0*te.size,none⟩) len cap' hroom ty (E.w.setCells b (len*te.size) l) (fun a' ea=>by
     cases ea
     have:=run_storeCells_cells (P:=P) b (len*te.size) l 0 E.w (fun j hj=>by rw [ig G.blk];simp;omega) (fun j hj=>oE G.blk G.frz (by omega)) src.one
     rw [cj]
     simpa using this) (fun en=>by cases en)
    have htk:c'.toList.take (cs++ys).length=c.toList.take cs.length++l:=by
     rw [g2,hlen,List.length_append,hyl0,List.take_append_of_le_length (by simp;omega),List.take_of_length_le (by simp;omega)]
    obtain ⟨R,X⟩:=kW hE hh (.grow m te.size (cs++ys)) (some b) (E.w.setCells b (len*te.size) l) (fun n=>E.U n∨n=m) (fun n h=> .inl h) (.inl hU)
     (dJ b (fun b1=>some b=some b1) rfl _ _ _) (fun b1 e=>by cases e;exact .inr ⟨G.at_,_,hH,rfl⟩) (fun b1 e=>by cases e;exact G.S)
     (fun _ e _=>by cases e) (fun _ _ _ _ e=>by cases e)
     (fun X=>⟨.inr rfl,b,c',T,fr,aB _ _ _,g1,jY G.frz hcs,G.S,by
      rw [htk]
      exact cp (bD X _ _ G.rel) (bD X _ _ hyl)⟩)
     (fun _ _ _ e _ h=>by cases e;exact absurd h hm)
    refine ⟨_,_,_,hrun,⟨R,X,rfl,(cB _ _ _).symm,fun n h=>?_⟩,?_⟩
    ·rcases h with h|h
     ·exact .inl h
     ·exact .inr ⟨by omega,by unfold KN;omega⟩
    ·simp only [af]
     refine ⟨.inl hU,.inr trivial,⟨_,_,_,rfl⟩,fun cs2 hH2=>⟨b,cap',c',T,fr,aB _ _ _,rfl,g1,by rw [hcs];simpa using hrm,hroom,?_⟩⟩
     simp only [aB,Option.some.injEq] at hH2
     cases hH2
     rw [List.length_append,hyl0,hl1,←hlen,Nat.zero_add,Nat.add_mul]
     exact Nat.le_refl _
   ·have hl0 :(seg c 0 (len*te.size)).length=len*te.size:=ve _ _ _ (by omega)
    obtain ⟨nc,c',g1,g2,g3,g4⟩:=fj hE hS hX hk hkX hte rfl c4 c2 c3 src (some ⟨b,0*te.size,none⟩) len cap' (seg c 0 (len*te.size)) hl0 (fun w hw=>by
     have hbw:w.heap[b]?=some (.cells c T fr):=by rw [hw];exact G.blk
     have:=run_loadCells_list (P:=P) w ⟨b,0*te.size,none⟩ (seg c 0 (len*te.size)) (fun j v hj=>by
      rw [cj,ig hbw]
      rw [mz] at hj
      split at hj
      ·simpa using hj
      ·cases hj)
     rw [hl0] at this
     simpa [Builtin.firstCells] using this) (by omega) hp ty
    have htk:c'.toList.take (cs++ys).length=c.toList.take cs.length++l:=by
     rw [List.length_append,hyl0,hl1,←hlen,←Nat.add_mul,g3,seg,List.drop_zero]
    obtain ⟨E',G',hv⟩:=ER R0 m hm hh (.inl hU) te.size (len +(k+1)) nc (cs++ys) c' e (by
     rw [htk]
     exact cp (bD X0 _ _ G.rel) (bD X0 _ _ hyl)) (by rw [g2];exact Nat.le_refl _) g1 (by rw [List.length_append,hyl0,hl1,←hlen,←Nat.add_mul];exact Nat.le_refl _)
    exact ⟨_,_,E',g4,gV X0 G',hv⟩
  ·cases h
theorem vI {B:Base} {E:Env} (hE:HRel B E) {tb:Tbl} (hT:c8 P tb) {s d:TypeId} {ts td:TD} (hs:TDok P s ts) (hd:TDok P d td) (m:Nat) (hm :¬ E.U m) {x:V} {xv:Value} (hx:af E x xv) {ps:List Ob} {v:V} {dh:List (Nat×Blk)}
  (h:vH tb ts td m x = .val ps v dh) :∃ v' w' E',(convert s d xv).run P E.w = .ok v' w'∧Good B E m dh w' E'∧af E' v v':=by
 have hsk:=hs.kind
 have hdk:=hd.kind
 unfold vH at h
 split at h
 case h_2=>cases h
 rename_i e str h1 h2
 split at h
 case h_2=>cases h
 rename_i te hte
 have hek:=(hT _ _ hte).kind
 split at h
 ·exact yd hE hT hs hd m hm hx h
 split at h
 case h_2=>cases h
 rename_i h3
 cases h
 rw [h1] at hsk;rw [h2] at hdk;rw [h3] at hek
 simp only [bA] at hsk hdk hek
 simp only [af] at hx
 obtain ⟨rfl,hlen⟩:=hx
 obtain ⟨R0,X0⟩:=xQ hE E.w.drew rfl rfl rfl rfl
 generalize hq :(Question.appendCap str.size 0 e).cut (E.w.tape E.w.drawn (Question.appendCap str.size 0 e))=cap
 have hcap:str.size≤cap:=by rw [←hq];simp only [Question.cut];omega
 let c:Array Value:=(str.data.map fun b=>Value.int .u8 b.toNat)++Array.replicate (cap - str.size) (.int .u8 0)
 have hds:str.data.size=str.size:=ByteArray.size_data
 have hcs:c.size=cap:=by simp [c,hds];omega
 have hl :((bm str).map fun n=>V.int .u8 n).length=str.size:=by simp [bm,hds]
 have hrel :∀ E2:Env,ah E2 ((bm str).map fun n=>V.int .u8 n) (c.toList.take ((bm str).map fun n=>V.int .u8 n).length):=fun E2=>by
  have e1:c.toList.take ((bm str).map fun n=>V.int .u8 n).length=str.data.toList.map fun b=>Value.int .u8 b.toNat:=by
   rw [hl]
   simp only [c,Array.toList_append,Array.toList_map]
   rw [List.take_append_of_le_length (by simp [hds]),List.take_of_length_le (by simp [hds])]
  rw [e1]
  unfold bm
  rw [List.map_map]
  exact ib _ _ (fun b=>jb (MP b)) _
 have hS :¬ E.S E.w.heap.size:=fun h=>Nat.lt_irrefl _ (hE.stab _ h)
 have hget :(E.w.heap.push (.cells c e (c.size,c.size+1)))[E.w.heap.size]?=some (.cells c e (c.size,c.size+1)):=by simp
 obtain ⟨R,X⟩:=kW R0 m (.grow m 1 ((bm str).map fun n=>V.int .u8 n)) (some E.w.heap.size) { E.w.drew with heap:=E.w.heap.push (.cells c e (c.size,c.size+1)) } (fun n=>E.U n∨n=m) (fun n h=> .inl h) (.inr rfl)
  ⟨rfl,rfl,rfl,by show E.w.heap.size≤(E.w.heap.push _).size;simp,fun b hb' _=>Below.heap_alloc E.w _ b hb'⟩ (fun b e=>by cases e;exact .inl ⟨Nat.le_refl _,by simp⟩) (fun b e=>by cases e;exact hS)
  (fun _ e _=>by cases e) (fun _ _ _ _ e=>by cases e)
  (fun X=>⟨.inr rfl,_,c,e,(c.size,c.size+1),aB _ _ _,hget,(fun i hi h=>by have:=h.1;simp at this;omega),hS,hrel _⟩)
  (fun _ _ _ e _ h=>by cases e;exact absurd h hm)
 refine ⟨.slice (some ⟨E.w.heap.size,0,none⟩) str.size cap,_,_,?_,gV X0 ⟨R,X,rfl,(cB _ _ _).symm,fun n h=>?_⟩,?_⟩
 ·have hfd:Question.forced (Question.appendCap str.size 0 e)=false:=rfl
  simp only [convert,Sem.run_bind,run_underlying hsk,run_underlying hdk,run_underlying hek,Result.andThen_ok,Conv.stringToBytes,run_choose,hfd,hq]
  simp only [Bool.false_eq_true,if_false,Result.andThen_ok,newRow,Sem.run_bind,run_newObj,Sem.run_pure,markStringish,run_shape]
  have hsh:World.shape? { E.w.drew with heap:=E.w.drew.heap.push (.cells c e (0,0)) } E.w.drew.heap.size=some (e,c.size):=by
   have hget :(E.w.drew.heap.push (.cells c e (0,0)))[E.w.drew.heap.size]?=some (.cells c e (0,0)):=Array.getElem?_push_size
   unfold World.shape?
   simp only [hget]
  have hfz:=tw E.w.drew c e
  simp only [World.drew] at hsh hfz ⊢
  simp only [c] at hsh hfz
  rw [hsh]
  simp only [Result.andThen_ok,run_freeze,Sem.run_pure]
  rw [hfz]
 ·rcases h with h|h
  ·exact .inl h
  ·exact .inr ⟨by omega,by unfold KN;omega⟩
 ·simp only [af]
  refine ⟨.inr trivial,.inr trivial,⟨_,_,_,rfl⟩,fun cs2 hH=>⟨_,cap,c,e,(c.size,c.size+1),aB _ _ _,by simp,hget,by omega,hcap,?_⟩⟩
  simp only [aB,Option.some.injEq] at hH
  cases hH
  rw [hl];omega
theorem Bg {B:Base} {E:Env} (hE:HRel B E) {t:TypeId} {td:TD} (ht:TDok P t td) {x:V} {xv:Value} (hx:af E x xv) (ty:TypeId) {ps:List Ob} {v:V} {dh:List (Nat×Blk)}
  (h:p7 td E.H x = .val ps v dh):dh=[]∧∃ v',(Builtin.len_ #[t] ty #[xv]).run P E.w = .ok v' E.w∧af E v v':=by
 have hk:=ht.kind
 unfold p7 at h
 split at h
 ·rename_i e hh ver esz off len h1
  rw [h1] at hk;simp only [bA] at hk
  split at h
  case h_2=>cases h
  rename_i ver' esz' cs hH
  split at h
  case isFalse=>cases h
  rename_i hc
  obtain ⟨rfl,rfl,hl⟩:=hc
  cases h
  obtain ⟨b,cap,c,T,fr,G⟩:=oJ hE hH hx
  have ev:=G.val
  subst ev
  exact ⟨rfl,_,by simp [Builtin.len_,run_underlying hk,goInt],jb (mi hl)⟩
 ·exact Dm hE ht hx ty h
end
section
open Go.RowKit
variable {P:Program}
theorem oB {E:Env} :∀ {i:Nat} {xs:List (V×V)} {es:List MapEntry},cA E i xs es→xs.length=es.length
 | _,[],[],_=>rfl
 | _,_::_,[],h=>by simp [cA] at h
 | _,[],_::_,h=>by simp [cA] at h
 | i,x::xs,e::es,h=>by simp [oB h.2]
theorem jy {E:Env} :∀ {i:Nat} {xs:List (V×V)} {es:List MapEntry},cA E i xs es→∀ (j:Nat) (q:V×V),xs[j]?=some q→∃ e,es[j]?=some e∧af E q.1 e.key∧af E q.2 e.val∧e.born=i+j
 | _,[],[],_,j,q,hq=>by simp at hq
 | _,_::_,[],h,_,_,_=>by simp [cA] at h
 | _,[],_::_,h,_,_,_=>by simp [cA] at h
 | i,x::xs,e::es,h,j,q,hq=>by
  cases j with
  | zero=>simp only [List.getElem?_cons_zero,Option.some.injEq] at hq;subst hq;exact ⟨e,by simp,h.1.1,h.1.2.1,h.1.2.2⟩
  | succ j=>
   obtain ⟨e',h1,h2,h3,h4⟩:=jy h.2 j q (by simpa using hq)
   exact ⟨e',by simpa using h1,h2,h3,by omega⟩
theorem oC {E:Env} :∀ {i:Nat} {xs:List (V×V)} {es:List MapEntry},cA E i xs es→∀ (j:Nat) (q:V×V) (f:MapEntry→MapEntry),(∀ e,es[j]?=some e→af E q.1 (f e).key∧af E q.2 (f e).val∧(f e).born=e.born)→cA E i (xs.set j q) (es.modify j f)
 | _,[],[],_,j,q,f,_=>by simp [cA]
 | _,_::_,[],h,_,_,_,_=>by simp [cA] at h
 | _,[],_::_,h,_,_,_,_=>by simp [cA] at h
 | i,x::xs,e::es,h,j,q,f,hf=>by
  cases j with
  | zero=>
   obtain ⟨h1,h2,h3⟩:=hf e (by simp)
   simp only [List.set_cons_zero,List.modify_zero_cons,cA]
   exact ⟨⟨h1,h2,by rw [h3];exact h.1.2.2⟩,h.2⟩
  | succ j=>
   simp only [List.set_cons_succ,List.modify_succ_cons,cA]
   exact ⟨h.1,oC h.2 j q f (fun e' he=>hf e' (by simpa using he))⟩
theorem p4 {E:Env} :∀ {i:Nat} {xs:List (V×V)} {es:List MapEntry},cA E i xs es→∀ (q:V×V) (e:MapEntry),af E q.1 e.key→af E q.2 e.val→e.born=i+xs.length→cA E i (xs++[q]) (es++[e])
 | _,[],[],_,q,e,h1,h2,h3=>⟨⟨h1,h2,by simpa using h3⟩,trivial⟩
 | _,_::_,[],h,_,_,_,_,_=>by simp [cA] at h
 | _,[],_::_,h,_,_,_,_,_=>by simp [cA] at h
 | i,x::xs,e::es,h,q,e',h1,h2,h3=>⟨h.1,p4 h.2 q e' h1 h2 (by simp at h3;omega)⟩
theorem wK {E:Env} :∀ (xs ys:List V) (vs us:List Value) (ks:List EK),eks xs=some ks→eks ys=some ks→ah E xs vs→ah E ys us→vs.map iV=us.map iV→vs=us
 | [],[],[],[],_,_,_,_,_,_=>rfl
 | [],[],_::_,_,_,_,_,h,_,_=>by simp [ah] at h
 | [],[],_,_::_,_,_,_,_,h,_=>by simp [ah] at h
 | [],y::ys,_,_,ks,h1,h2,_,_,_=>by
  obtain ⟨k,r,_,_,rfl⟩:=fB h2
  simp [eks] at h1
 | x::xs,[],_,_,ks,h1,h2,_,_,_=>by
  obtain ⟨k,r,_,_,rfl⟩:=fB h1
  simp [eks] at h2
 | _::_,_::_,[],_,_,_,_,h,_,_=>by simp [ah] at h
 | _::_,_::_,_::_,[],_,_,_,_,h,_=>by simp [ah] at h
 | x::xs,y::ys,v::vs,u::us,ks,h1,h2,hv,hu,he=>by
  obtain ⟨k,r,a1,a2,rfl⟩:=fB h1
  obtain ⟨k',r',b1,b2,e⟩:=fB h2
  cases e
  simp only [ah] at hv hu
  simp only [List.map_cons,List.cons.injEq] at he
  have ih:=wK xs ys vs us r a2 b2 hv.2 hu.2 he.2
  subst ih
  have h0:v=u:=by
   rcases dC a1 hv.1 with ⟨q,n,_,hk,rfl,_⟩ |⟨b,_,hk,rfl,_⟩ |⟨s,_,hk,rfl,_⟩
   ·rcases dC b1 hu.1 with ⟨q',n',_,hk',rfl,_⟩ |⟨b',_,hk',rfl,_⟩ |⟨s',_,hk',rfl,_⟩
    ·have:=he.1;simp only [iV,Lit.int.injEq] at this;obtain ⟨rfl,rfl⟩:=this;rfl
    ·rw [hk] at hk';cases hk'
    ·rw [hk] at hk';cases hk'
   ·rcases dC b1 hu.1 with ⟨q',n',_,hk',rfl,_⟩ |⟨b',_,hk',rfl,_⟩ |⟨s',_,hk',rfl,_⟩
    ·rw [hk] at hk';cases hk'
    ·have:=he.1;simp only [iV,Lit.bool.injEq] at this;subst this;rfl
    ·rw [hk] at hk';cases hk'
   ·rcases dC b1 hu.1 with ⟨q',n',_,hk',rfl,_⟩ |⟨b',_,hk',rfl,_⟩ |⟨s',_,hk',rfl,_⟩
    ·rw [hk] at hk';cases hk'
    ·rw [hk] at hk';cases hk'
    ·have:=he.1
     simp only [iV,Lit.string.injEq] at this
     have:s=s':=by
      cases s;cases s'
      simp only at this
      congr 1
      exact Array.ext' this
     rw [this]
  rw [h0]
theorem nY {E:Env} :∀ (xs:List V) (vs:List Value) (ks:List EK),eks xs=some ks→ah E xs vs→∀ n,∀ v∈vs,Instr.sameBits n v v=true
 | [],[],_,_,_,_,v,h=>by cases h
 | [],_::_,_,_,h,_,_,_=>by simp [ah] at h
 | _::_,[],_,_,h,_,_,_=>by simp [ah] at h
 | x::xs,u::vs,ks,h1,hv,n,v,hm=>by
  obtain ⟨k,r,a1,a2,rfl⟩:=fB h1
  simp only [ah] at hv
  rcases List.mem_cons.1 hm with rfl|hm
  ·rcases dC a1 hv.1 with ⟨q,n',_,_,rfl,_⟩ |⟨b,_,_,rfl,_⟩ |⟨s,_,_,rfl,_⟩
   ·cases n <;> simp [Instr.sameBits]
   ·cases n <;> simp [Instr.sameBits]
   ·cases n <;> simp [Instr.sameBits,Go.MapKept.bytes_beq]
  ·exact nY xs vs r a2 hv.2 n v hm
theorem yL {E:Env} {t:TypeId} {td:TD} (ht:TDok P t td) (hp:td.plain=true) {xs:List V} {cs:Array Value} (hx:ah E xs cs.toList) (h1:eks xs=eks td.zero) :
  (match P.underlying t with|some (.array _ _)|some (.struct _)=>true|_=>false)=true∧(∀ em,(Instr.checkKey em 10000 t (.agg cs)).run P E.w = .ok () E.w):=by
 have hp':=hp
 unfold TD.plain at hp'
 simp only [Bool.and_eq_true] at hp'
 obtain ⟨hagg,hsome⟩:=hp'
 obtain ⟨ks,hks⟩:=Option.isSome_iff_exists.1 hsome
 rw [hks] at h1
 have hB:=ht.eqk hp ks hks
 simp only [eqB,Bool.and_eq_true,decide_eq_true_eq,Bool.not_eq_true'] at hB
 obtain ⟨⟨hl,hkt⟩,hg⟩:=hB
 have len:P.keyLits 9 t cs.toList=some (cs.toList.map iV)∧cs.size=P.cellsOf t:=by
  obtain ⟨a1,a2,a3⟩:=BB (P:=P) 9 t ks [] hl cs.toList (Gc xs _ ks h1 hx)
  have h0:cs.toList.drop (P.cellsOf t)=[]:=by
   cases hd:cs.toList.drop (P.cellsOf t) with
   | nil=>rfl
   | cons v l=>rw [hd] at a2;simp [mW] at a2
  have h3:cs.toList.length≤P.cellsOf t:=List.drop_eq_nil_iff.1 h0
  rw [List.take_of_length_le h3] at a1
  exact ⟨a1,by simp only [Array.length_toList] at h3 a3;omega⟩
 have hkd:=ht.kind
 have wide :(match P.underlying t with|some (.array _ _)|some (.struct _)=>true|_=>false)=true∧(Value.agg cs).formed P t=true:=by
  cases hk:td.kind <;> rw [hk] at hagg hkd <;> simp only [TK.agg,Bool.false_eq_true] at hagg <;> simp only [bA] at hkd
  ·obtain ⟨fs,hu,_⟩:=hkd
   exact ⟨by rw [hu],by simp [Value.formed,hu,len.2]⟩
  ·exact ⟨by rw [hkd],by simp [Value.formed,hkd,len.2]⟩
 refine ⟨wide.1,fun em=>?_⟩
 have:=run_checkKey_deep (P:=P) em 9991 9 t hkt
 exact this E.w 9 (.agg cs) _ wide.2 (by simpa [Value.cells] using len.1)
theorem dt {tk:TD} {k:V} (h:jT tk k=true) :(∃ q n,k = .int q n∧tk.kind = .int q)∨(∃ s,k = .str s∧tk.kind = .str)∨∃ xs,k = .agg xs∧tk.plain=true∧eks xs=eks tk.zero:=by
 cases k <;> simp only [jT,Bool.false_eq_true] at h
 ·split at h
  ·rename_i q' hk
   simp only [decide_eq_true_eq] at h
   subst h
   exact .inl ⟨_,_,rfl,hk⟩
  ·cases h
 ·split at h
  ·rename_i hk
   exact .inr (.inl ⟨_,rfl,hk⟩)
  ·cases h
 ·simp only [Bool.and_eq_true,decide_eq_true_eq] at h
  exact .inr (.inr ⟨_,rfl,h.1,h.2⟩)
theorem sL {E:Env} {kt:TypeId} {tk:TD} (ht:TDok P kt tk) {k:V} {kv:Value} (hk:af E k kv) (h:jT tk k=true) (em:Bool) :(Instr.checkKey em 10000 kt kv).run P E.w = .ok () E.w:=by
 have hkd:=ht.kind
 rcases dt h with ⟨q,n,rfl,hq⟩ |⟨s,rfl,hq⟩ |⟨xs,rfl,h1,h2⟩
 ·rw [hq] at hkd
  simp only [bA] at hkd
  simp only [af] at hk
  obtain ⟨rfl,_⟩:=hk
  exact Go.MapKept.run_checkKey hkd (by simp [Go.MapKept.IsKey]) em 9999
 ·rw [hq] at hkd
  simp only [bA] at hkd
  simp only [af] at hk
  obtain ⟨rfl,_⟩:=hk
  exact Go.MapKept.run_checkKey hkd (by simp [Go.MapKept.IsKey]) em 9999
 ·simp only [af] at hk
  obtain ⟨l,rfl,hl⟩:=hk
  exact (yL ht h1 hl h2).2 em
theorem Ml {E:Env} {tk:TD} {k k':V} {kv kv':Value} (h:jT tk k=true) (h':jT tk k'=true) (hk:af E k kv) (hk':af E k' kv') (he:nr k k'=true):kv'=kv∧Instr.sameBits 10000 kv kv=true:=by
 rcases dt h with ⟨q,n,rfl,hq⟩ |⟨s,rfl,hq⟩ |⟨xs,rfl,h1,h2⟩
 ·rcases dt h' with ⟨q',n',rfl,hq'⟩ |⟨s',rfl,hq'⟩ |⟨ys,rfl,h3,h4⟩
  ·rw [hq] at hq'
   cases hq'
   simp only [nr,eq1,beq_iff_eq] at he
   subst he
   simp only [af] at hk hk'
   obtain ⟨rfl,_⟩:=hk
   obtain ⟨rfl,_⟩:=hk'
   exact ⟨rfl,by simp [Instr.sameBits]⟩
  ·rw [hq] at hq';cases hq'
  ·unfold TD.plain at h3;rw [hq] at h3;simp [TK.agg] at h3
 ·rcases dt h' with ⟨q',n',rfl,hq'⟩ |⟨s',rfl,hq'⟩ |⟨ys,rfl,h3,h4⟩
  ·rw [hq] at hq';cases hq'
  ·simp only [nr,eq1] at he
   rw [bytes_eq_iff] at he
   have:s=s':=by
    cases s;cases s'
    simp only at he
    congr 1
    exact Array.ext' he
   subst this
   simp only [af] at hk hk'
   obtain ⟨rfl,_⟩:=hk
   obtain ⟨rfl,_⟩:=hk'
   exact ⟨rfl,by simp [Instr.sameBits,Go.MapKept.bytes_beq]⟩
  ·unfold TD.plain at h3;rw [hq] at h3;simp [TK.agg] at h3
 ·rcases dt h' with ⟨q',n',rfl,hq'⟩ |⟨s',rfl,hq'⟩ |⟨ys,rfl,h3,h4⟩
  ·unfold TD.plain at h1;rw [hq'] at h1;simp [TK.agg] at h1
  ·unfold TD.plain at h1;rw [hq'] at h1;simp [TK.agg] at h1
  ·simp only [nr] at he
   have hp':=h1
   unfold TD.plain at hp'
   simp only [Bool.and_eq_true] at hp'
   obtain ⟨ks,hks⟩:=Option.isSome_iff_exists.1 hp'.2
   rw [hks] at h2 h4
   simp only [af] at hk hk'
   obtain ⟨l,rfl,hl⟩:=hk
   obtain ⟨l',rfl,hl'⟩:=hk'
   have e1:=(vD xs ys l.toList l'.toList ks h2 h4 hl hl').1 he
   have e2:=wK xs ys l.toList l'.toList ks h2 h4 hl hl' e1
   have e3:l=l':=Array.ext' e2
   subst e3
   refine ⟨rfl,?_⟩
   have hs:=nY xs l.toList ks h2 hl 9999
   simp only [Instr.sameBits,beq_self_eq_true,Bool.true_and,List.all_eq_true]
   intro q hq
   obtain ⟨a,b⟩:=q
   have :∀ (l:List Value) (a b:Value),(a,b)∈l.zip l→a=b∧a∈l:=by
    intro l
    induction l with
    | nil=>intro a b h;simp at h
    | cons x l ih=>
     intro a b h
     simp only [List.zip_cons_cons,List.mem_cons,Prod.mk.injEq] at h
     rcases h with ⟨rfl,rfl⟩|h
     ·exact ⟨rfl,List.mem_cons_self⟩
     ·exact ⟨(ih a b h).1,List.mem_cons_of_mem _ (ih a b h).2⟩
   obtain ⟨rfl,hm⟩:=this l.toList a b hq
   exact hs a hm
def FindR (tk:TD) (k:V) (i:Nat) (xs:List (V×V)) (es:List MapEntry) (a:Option (Nat×Value)):Option (Nat×V)→Prop
 | none=>a=none
 | some (j,v)=>i≤j∧∃ e k',es[j - i]?=some e∧xs[j - i]?=some (k',v)∧a=some (j,e.val)∧jT tk k'=true∧nr k k'=true
theorem FindR.up {tk:TD} {k:V} {i:Nat} {x:V×V} {xs:List (V×V)} {e:MapEntry} {es:List MapEntry} {a:Option (Nat×Value)} {r:Option (Nat×V)} (h:FindR tk k (i+1) xs es a r):FindR tk k i (x::xs) (e::es) a r:=by
 cases r with
 | none=>exact h
 | some q=>
  obtain ⟨j,v⟩:=q
  obtain ⟨h1,e',k',h2,h3,h4⟩:=h
  refine ⟨by omega,e',k',?_,?_,h4⟩
  ·rw [show j - i =(j - (i+1))+1 by omega];simpa using h2
  ·rw [show j - i =(j - (i+1))+1 by omega];simpa using h3
theorem vZ {E:Env} {tk:TD} {k:V} {kv:Value} {d:TypeDesc} (hc :∀ k' kv',jT tk k'=true→af E k' kv'→Instr.sameNow d kv kv'=some (nr k k')) :∀ {xs:List (V×V)} {es:List MapEntry} {i:Nat},cA E i xs es→∀ r,jW tk k xs i=some r→∃ a,Instr.findNow d kv es i=some a∧FindR tk k i xs es a r
 | [],[],i,_,r,hr=>by
  simp only [jW,Option.some.injEq] at hr
  subst hr
  exact ⟨none,rfl,rfl⟩
 | _::_,[],_,h,_,_=>by simp [cA] at h
 | [],_::_,_,h,_,_=>by simp [cA] at h
 |(k',v)::xs,e::es,i,he,r,hr=>by
  obtain ⟨⟨e1,e2,e3⟩,he⟩:=he
  simp only [jW] at hr
  split at hr
  case h_2=>cases hr
  rename_i hok
  have hcmp:=hc k' e.key hok e1
  split at hr
  ·rename_i hke
   rw [hke] at hcmp
   simp only [Option.some.injEq] at hr
   subst hr
   exact ⟨some (i,e.val),by simp [Instr.findNow,hcmp],Nat.le_refl _,e,k',by simp,by simp,rfl,hok,hke⟩
  ·rename_i hke
   rw [hke] at hcmp
   obtain ⟨a,h1,h2⟩:=vZ hc he r hr
   exact ⟨a,by simp only [Instr.findNow,hcmp];exact h1,h2.up⟩
theorem Dq {E:Env} {tk:TD} {k:V} {kv:Value} {kt:TypeId} (hc :∀ k' kv',jT tk k'=true→af E k' kv'→(Op.equal kt kv kv').run P E.w = .ok (nr k k') E.w) :∀ {xs:List (V×V)} {es:List MapEntry} {i:Nat},cA E i xs es→∀ r,jW tk k xs i=some r→∃ a,(Instr.findAsking kt kv es i).run P E.w = .ok a E.w∧FindR tk k i xs es a r
 | [],[],i,_,r,hr=>by
  simp only [jW,Option.some.injEq] at hr
  subst hr
  exact ⟨none,by simp [Instr.findAsking],rfl⟩
 | _::_,[],_,h,_,_=>by simp [cA] at h
 | [],_::_,_,h,_,_=>by simp [cA] at h
 |(k',v)::xs,e::es,i,he,r,hr=>by
  obtain ⟨⟨e1,e2,e3⟩,he⟩:=he
  simp only [jW] at hr
  split at hr
  case h_2=>cases hr
  rename_i hok
  have hcmp:=hc k' e.key hok e1
  split at hr
  ·rename_i hke
   rw [hke] at hcmp
   simp only [Option.some.injEq] at hr
   subst hr
   exact ⟨some (i,e.val),by simp [Instr.findAsking,hcmp],Nat.le_refl _,e,k',by simp,by simp,rfl,hok,hke⟩
  ·rename_i hke
   rw [hke] at hcmp
   obtain ⟨a,h1,h2⟩:=Dq hc he r hr
   exact ⟨a,by simp [Instr.findAsking,hcmp,h1],h2.up⟩
theorem oW {td:TD} {k:TK} (hk:td.kind=k) (ha:k.agg=false) (h:td.plain=true):False:=by
 unfold TD.plain at h
 rw [hk,ha] at h
 cases h
theorem gU {E:Env} {kt:TypeId} {tk:TD} (ht:TDok P kt tk) {k:V} {kv:Value} (hk:af E k kv) (h:jT tk k=true) {xs:List (V×V)} {es:List MapEntry} {i:Nat} (hi:i=0) (he:cA E i xs es) {r:Option (Nat×V)} (hr:jW tk k xs i=some r) :
  ∃ a,(Instr.findKey kt kv es).run P E.w = .ok a E.w∧FindR tk k i xs es a r:=by
 subst hi
 have hkd:=ht.kind
 rcases dt h with ⟨q,n,rfl,hq⟩ |⟨s,rfl,hq⟩ |⟨zs,rfl,h1,h2⟩
 ·rw [hq] at hkd
  simp only [bA] at hkd
  simp only [af] at hk
  obtain ⟨rfl,_⟩:=hk
  obtain ⟨a,a1,a2⟩:=vZ (d:= .int q) (kv:= .int q n) (tk:=tk) (k:= .int q n) (fun k' kv' hok' hv'=>by
   rcases dt hok' with ⟨q',n',rfl,hq'⟩ |⟨s',rfl,hq'⟩ |⟨ys,rfl,h3,h4⟩
   ·rw [hq] at hq'
    cases hq'
    simp only [af] at hv'
    rw [hv'.1]
    simp [Instr.sameNow,nr,eq1]
   ·rw [hq] at hq';cases hq'
   ·exact (oW hq rfl h3).elim) he r hr
  exact ⟨a,Go.MapKept.run_findKey hkd a1,a2⟩
 ·rw [hq] at hkd
  simp only [bA] at hkd
  simp only [af] at hk
  obtain ⟨rfl,_⟩:=hk
  obtain ⟨a,a1,a2⟩:=vZ (d:= .string) (kv:= .string s) (tk:=tk) (k:= .str s) (fun k' kv' hok' hv'=>by
   rcases dt hok' with ⟨q',n',rfl,hq'⟩ |⟨s',rfl,hq'⟩ |⟨ys,rfl,h3,h4⟩
   ·rw [hq] at hq';cases hq'
   ·simp only [af] at hv'
    rw [hv'.1]
    simp only [Instr.sameNow,nr,eq1,Option.some.injEq]
    cases hb :(s.toList==s'.toList) with
    | true=>
     rw [bytes_eq_iff] at hb
     rw [Go.MapKept.bytes_beq]
     cases s;cases s'
     simp only at hb
     congr 1
     exact Array.ext' hb
    | false=>
     cases hb2 :(s==s') with
     | false=>rfl
     | true=>
      rw [Go.MapKept.bytes_beq] at hb2
      subst hb2
      simp at hb
   ·exact (oW hq rfl h3).elim) he r hr
  exact ⟨a,Go.MapKept.run_findKey hkd a1,a2⟩
 ·simp only [af] at hk
  obtain ⟨l,rfl,hl⟩:=hk
  have hw:=(yL ht h1 hl h2).1
  obtain ⟨a,a1,a2⟩:=Dq (P:=P) (kt:=kt) (kv:= .agg l) (tk:=tk) (k:= .agg zs) (fun k' kv' hok' hv'=>by
   rcases dt hok' with ⟨q',n',rfl,hq'⟩ |⟨s',rfl,hq'⟩ |⟨ys,rfl,h3,h4⟩
   ·exact (oW hq' rfl h1).elim
   ·exact (oW hq' rfl h1).elim
   ·simp only [af] at hv'
    obtain ⟨l',rfl,hl'⟩:=hv'
    exact (xx ht h1 hl hl' h2 h4).1) he r hr
  exact ⟨a,by rw [run_findKey_eq E.w hw];exact a1,a2⟩
theorem J5 {w:World} {r:Nat} {es:Array MapEntry} {c:Nat} (hb:w.heap[r]?=some (.map es c)) :(getObj r).run P w = .ok (.map es c) w:=by
 simp [getObj,Sem.run,hb]
theorem Oa {w:World} {r:Nat} {es:Array MapEntry} {c:Nat} (o:Obj) (hb:w.heap[r]?=some (.map es c)) :(setObj r o).run P w = .ok () { w with heap:=w.heap.setIfInBounds r o }:=by
 simp [setObj,Sem.run,hb]
theorem rA {B:Base} {E:Env} (hE:HRel B E) {h:Nat} {es:List (V×V)} (hh:E.H h=some (.mp es)) {v:Value} (hv:af E (.mpv h) v) :∃ b l,E.ρ h=some b∧v = .map (some b)∧E.w.heap[b]?=some (.map l l.size)∧¬ E.S b∧cA E 0 es l.toList∧E.U h:=by
 simp only [af] at hv
 obtain ⟨hU,_,hv⟩:=hv
 obtain ⟨b,h1,h2⟩:=hv es hh
 obtain ⟨b',l,k,g1,g2,g3,g4,g5⟩:=hE.blk h _ hh
 rw [h1] at g1
 cases g1
 subst g5
 exact ⟨b,l,h1,h2,g2,g3,g4,hU⟩
theorem xm {B:Base} {E:Env} (hE:HRel B E) (m:Nat) {h:Nat} {es es':List (V×V)} (hh:E.H h=some (.mp es)) {b:Nat} {l l':Array MapEntry} (hρ:E.ρ h=some b) (hb:E.w.heap[b]?=some (.map l l.size)) (hS :¬ E.S b) (hU:E.U h) (hes:cA E 0 es' l'.toList) :
  ∃ E',Good B E m [(h,.mp es')] { E.w with heap:=E.w.heap.setIfInBounds b (.map l' l'.size) } E'∧Ext E E':=by
 have hlt:b<E.w.heap.size:=(Array.getElem?_eq_some_iff.1 hb).1
 obtain ⟨R,X⟩:=kW hE h (.mp es') (some b) { E.w with heap:=E.w.heap.setIfInBounds b (.map l' l'.size) } E.U (fun n h=>h) hU
  ⟨rfl,rfl,rfl,by simp,fun b' _ hne=>by
   have:b'≠b:=fun e=>hne (by rw [e])
   simp [Array.getElem?_setIfInBounds_ne (Ne.symm this)]⟩
  (fun b' e=>by cases e;exact .inr ⟨hρ,_,hh,rfl⟩) (fun b' e=>by cases e;exact hS)
  (fun _ e _=>by cases e) (fun _ _ _ _ e _ _=>by cases e)
  (fun X=>⟨b,l',l'.size,aB _ _ _,by simp [hlt],hS,rY X _ _ _ hes,rfl⟩)
  (fun _ _ _ e _ _=>by cases e) (fun es1 e _=>⟨⟨es,hh⟩,hρ.symm⟩)
 exact ⟨_,⟨R,X,rfl,(cB _ _ _).symm,fun n h=> .inl h⟩,X⟩
theorem yn {B:Base} {E:Env} (hE:HRel B E) (m:Nat) (hm :¬ E.U m) (t:TypeId) :∃ w' E',(Instr.makeMap t none).run P E.w = .ok (.map (some E.w.heap.size)) w'∧Good B E m [(m,.mp [])] w' E'∧af E' (.mpv m) (.map (some E.w.heap.size)):=by
 have hS :¬ E.S E.w.heap.size:=fun h=>Nat.lt_irrefl _ (hE.stab _ h)
 have hrun :(Instr.makeMap t none).run P E.w = .ok (.map (some E.w.heap.size)) (E.w.alloc (.map #[] 0)):=by simp [Instr.makeMap,Result.andThen]
 have hw:E.w.alloc (.map #[] 0)={ E.w with heap:=E.w.heap.push (.map #[] 0) }:=rfl
 obtain ⟨R,X⟩:=kW hE m (.mp []) (some E.w.heap.size) { E.w with heap:=E.w.heap.push (.map #[] 0) } (fun n=>E.U n∨n=m) (fun n h=> .inl h) (.inr rfl)
  ⟨rfl,rfl,rfl,by simp,fun b hb' _=>Below.heap_alloc E.w _ b hb'⟩ (fun b e=>by cases e;exact .inl ⟨Nat.le_refl _,by simp⟩) (fun b e=>by cases e;exact hS)
  (fun _ _ h=>absurd h hm) (fun _ _ _ _ _ h _=>absurd h hm)
  (fun X=>⟨_,#[],0,aB _ _ _,by simp,hS,trivial,rfl⟩) (fun _ _ _ _ h _=>absurd h hm) (fun _ _ h=>absurd h hm)
 refine ⟨_,_,hrun,⟨R,X,hw.symm▸rfl,(cB _ _ _).symm,fun n h=>?_⟩,?_⟩
 ·rcases h with h|h
  ·exact .inl h
  ·exact .inr ⟨by omega,by unfold KN;omega⟩
 ·simp only [af]
  exact ⟨.inr trivial,⟨_,rfl⟩,fun _ _=>⟨_,aB _ _ _,rfl⟩⟩
theorem nw {tb:Tbl} (hT:c8 P tb) {t:TypeId} {q:TD×TD} (h:nv tb t=some q) :∃ k e,P.underlying t=some (.map k e)∧TDok P k q.1∧TDok P e q.2:=by
 unfold nv at h
 split at h
 case h_2=>cases h
 rename_i td htd
 split at h
 case h_2=>cases h
 rename_i k e hk
 split at h
 case h_2=>cases h
 rename_i tk te h1 h2
 cases h
 have hkd:=(hT _ _ htd).kind
 rw [hk] at hkd
 exact ⟨k,e,hkd,hT _ _ h1,hT _ _ h2⟩
theorem FZ {E:Env} {e:TypeId} {te:TD} (ht:TDok P e te) {z:V} (h:zV te=some z) :∃ zv,(zeroValue e).run P E.w = .ok zv E.w∧∀ E':Env,af E' z zv:=by
 obtain ⟨i,z0,h1,h2,h3,h4,h5⟩:=ht.info
 have h6:=ht.zagg i z0 h1 h4
 refine ⟨z0,by simp [Go.zeroValue,typeInfo,h1,h4],fun E'=>?_⟩
 have hc:=dD (E:=E') h5
 unfold zV at h
 split at h
 ·rename_i ha
  cases h
  rw [ha] at h6
  cases z0 <;> simp only [wo,Bool.false_eq_true] at h6
  simp only [af]
  exact ⟨_,rfl,by simpa [Value.cells] using hc⟩
 ·rename_i ha
  rw [ha] at h6
  split at h
  case h_2=>cases h
  rename_i z1 hz
  cases h
  rw [hz] at hc
  have:z0.cells.toList=[z0]:=by cases z0 <;> first|rfl|simp [wo] at h6
  rw [this] at hc
  simp only [ah] at hc
  exact hc.1
theorem vS {B:Base} {E:Env} (hE:HRel B E) {tb:Tbl} (hT:c8 P tb) {t:TypeId} {q:TD×TD} (hq:nv tb t=some q) {x k:V} {xv kv:Value} (hx:af E x xv) (hk:af E k kv) {ok:Bool} {ps:List Ob} {v:V} {dh:List (Nat×Blk)} (h:vR q.1 q.2 E.H x k ok = .val ps v dh) :
  dh=[]∧∃ v',(Instr.lookup t xv kv ok).run P E.w = .ok v' E.w∧af E v v':=by
 obtain ⟨kt,et,hu,hkt,het⟩:=nw hT hq
 unfold vR at h
 split at h
 case h_2=>cases h
 rename_i es hko hes
 obtain ⟨l,hl,hrel⟩ :∃ l:Array MapEntry,((xv = .map none∧l=#[])∨∃ b,xv = .map (some b)∧(getObj b).run P E.w = .ok (.map l l.size) E.w)∧cA E 0 es l.toList:=by
  unfold Us at hes
  split at hes
  ·split at hes
   case h_2=>cases hes
   rename_i h0 es0 hh
   cases hes
   obtain ⟨b,l,g1,rfl,g2,_,g4,_⟩:=rA hE hh hx
   exact ⟨l,.inr ⟨b,rfl,J5 g2⟩,g4⟩
  ·cases hes
   simp only [af] at hx
   exact ⟨#[],.inl ⟨hx,rfl⟩,trivial⟩
  ·cases hes
 have hck :∀ em,(Instr.checkKey em 10000 kt kv).run P E.w = .ok () E.w:=fun em=>sL hkt hk hko em
 have finS :∀ (j:Nat) (u:Value),(Instr.findKey kt kv l.toList).run P E.w = .ok (some (j,u)) E.w→(Instr.lookup t xv kv ok).run P E.w = .ok (if ok then .tuple #[u,.bool true] else u) E.w:=fun j u h1=>by
  rcases hl with ⟨rfl,rfl⟩ |⟨b,rfl,hg⟩
  ·simp only [Instr.lookup,Sem.run_bind,run_underlying hu,Result.andThen_ok,Sem.run_pure,hck,h1]
  ·simp only [Instr.lookup,Sem.run_bind,run_underlying hu,Result.andThen_ok,Sem.run_pure,hg,hck,h1]
 have finN :∀ (u:Value),(Instr.findKey kt kv l.toList).run P E.w = .ok none E.w→(zeroValue et).run P E.w = .ok u E.w→(Instr.lookup t xv kv ok).run P E.w = .ok (if ok then .tuple #[u,.bool false] else u) E.w:=fun u h1 h2=>by
  rcases hl with ⟨rfl,rfl⟩ |⟨b,rfl,hg⟩
  ·simp only [Instr.lookup,Sem.run_bind,run_underlying hu,Result.andThen_ok,Sem.run_pure,hck,h1,h2]
  ·simp only [Instr.lookup,Sem.run_bind,run_underlying hu,Result.andThen_ok,Sem.run_pure,hg,hck,h1,h2]
 have lk :∀ (v:V) (v1:Value) (b1:Bool),af E v v1→af E (lkV ok v b1) (if ok then .tuple #[v1,.bool b1] else v1):=fun v v1 b1 hv=>by
  cases ok with
  | true=>simp only [lkV,if_true,af];exact ⟨_,rfl,by simp only [ah,af];exact ⟨hv,trivial,trivial⟩⟩
  | false=>simpa [lkV] using hv
 split at h
 ·rename_i j v0 hf
  cases h
  obtain ⟨a,a1,a2⟩:=gU hkt hk hko rfl hrel hf
  obtain ⟨_,e,k',b1,b2,rfl,_,_⟩:=a2
  obtain ⟨e',c1,_,c3,_⟩:=jy hrel _ _ b2
  rw [c1] at b1
  cases b1
  exact ⟨rfl,_,finS _ e.val a1,lk _ _ true c3⟩
 ·rename_i hf
  split at h
  case h_2=>cases h
  rename_i z hz
  cases h
  obtain ⟨a,a1,a2⟩:=gU hkt hk hko rfl hrel hf
  have a2:a=none:=a2
  subst a2
  obtain ⟨zv,z1,z2⟩:=FZ (E:=E) het hz
  exact ⟨rfl,_,finN zv a1 z1,lk _ _ false (z2 E)⟩
 ·cases h
theorem DG {E:Env} {tk:TD} {k k':V} {kv kv':Value} (h:jT tk k=true) (h':jT tk k'=true) (hk:af E k kv) (hk':af E k' kv') (he:nr k k'=true) :(Instr.keyThatStays kv' kv).run P E.w = .ok kv E.w:=by
 obtain ⟨rfl,hs⟩:=Ml h h' hk hk' he
 simp [Instr.keyThatStays,hs]
theorem vU {B:Base} {E:Env} (hE:HRel B E) {tb:Tbl} (hT:c8 P tb) {t:TypeId} {q:TD×TD} (hq:nv tb t=some q) {x k v:V} {xv kv vv:Value} (hx:af E x xv) (hk:af E k kv) (hv:af E v vv) (m:Nat) {ps:List Ob} {dh:List (Nat×Blk)} (h:Qv (vT q.1 E.H x k v)=some (ps,dh)) :
  ∃ w' E',(Instr.mapUpdate t xv kv vv).run P E.w = .ok () w'∧Good B E m dh w' E':=by
 obtain ⟨kt,et,hu,hkt,het⟩:=nw hT hq
 unfold vT at h
 split at h
 case h_2=>cases h
 rename_i h0 hko
 split at h
 case h_2=>cases h
 rename_i es hh
 obtain ⟨b,l,g1,rfl,g2,g3,g4,g5⟩:=rA hE hh hx
 have hck:=sL hkt hk hko false
 split at h
 ·rename_i i v0 hf
  cases h
  obtain ⟨a,a1,a2⟩:=gU hkt hk hko rfl g4 hf
  obtain ⟨_,e,k',b1,b2,rfl,b3,b4⟩:=a2
  obtain ⟨e',c1,c2,c3,_⟩:=jy g4 _ _ b2
  rw [c1] at b1
  cases b1
  have hks:=DG (P:=P) hko b3 hk c2 b4
  have hi:l[i]?=some e:=by simpa using c1
  obtain ⟨E',G,_⟩:=xm hE m hh (es':=es.set i (k,v)) (l':=l.modify i fun e=>{ e with key:=kv,val:=vv }) g1 g2 g3 g5 (by
   rw [Array.toList_modify]
   exact oC g4 i (k,v) _ (fun e _=>⟨hk,hv,rfl⟩))
  refine ⟨_,E',?_,G⟩
  simp [Instr.mapUpdate,run_underlying hu,J5 g2,hck,a1,hi,hks,Oa _ g2,Result.andThen]
 ·rename_i hf
  cases h
  obtain ⟨a,a1,a2⟩:=gU hkt hk hko rfl g4 hf
  have a2:a=none:=a2
  subst a2
  have hl:=oB g4
  obtain ⟨E',G,_⟩:=xm hE m hh (es':=es++[(k,v)]) (l':=l.push { key:=kv,val:=vv,born:=l.size }) g1 g2 g3 g5 (by
   rw [Array.toList_push]
   exact p4 g4 (k,v) _ hk hv (by simp at hl ⊢;omega))
  refine ⟨_,E',?_,G⟩
  simp [Instr.mapUpdate,run_underlying hu,J5 g2,hck,a1,Oa _ g2,Result.andThen]
 ·cases h
theorem se {B:Base} {E:Env} (hE:HRel B E) {tb:Tbl} (hT:c8 P tb) {t:TypeId} {q:TD×TD} (hq:nv tb t=some q) {x k:V} {xv kv:Value} (hx:af E x xv) (hk:af E k kv) (m:Nat) {ps:List Ob} {v:V} {dh:List (Nat×Blk)} (h:p9 q.1 q.2 E.H x k = .val ps v dh) :
  ∃ v' w' E',(Instr.mapEntry t xv kv).run P E.w = .ok v' w'∧Good B E m dh w' E'∧af E' v v':=by
 obtain ⟨kt,et,hu,hkt,het⟩:=nw hT hq
 unfold p9 at h
 split at h
 case h_2=>cases h
 rename_i h0 hko
 split at h
 case h_2=>cases h
 rename_i es hh
 split at h
 case isFalse=>cases h
 rename_i hlen
 obtain ⟨b,l,g1,rfl,g2,g3,g4,g5⟩:=rA hE hh hx
 have hck:=sL hkt hk hko false
 have hl:=oB g4
 have okb :∀ n:Nat,n≤1000000→ok .i64 (n:Int):=fun n hn=>by unfold ok IntKind.min IntKind.max;simp [IntKind.bits,IntKind.signed];omega
 split at h
 ·rename_i i v0 hf
  cases h
  obtain ⟨a,a1,a2⟩:=gU hkt hk hko rfl g4 hf
  obtain ⟨_,e,k',b1,b2,rfl,b3,b4⟩:=a2
  obtain ⟨e',c1,c2,c3,c4⟩:=jy g4 _ _ b2
  rw [c1] at b1
  cases b1
  have hks:=DG (P:=P) hko b3 hk c2 b4
  have hi:l[i]?=some e:=by simpa using c1
  have hi2:i<es.length:=(List.getElem?_eq_some_iff.1 b2).1
  obtain ⟨E',G,X⟩:=xm hE m hh (es':=es.set i (k,v0)) (l':=l.modify i fun e=>{ e with key:=kv }) g1 g2 g3 g5 (by
   rw [Array.toList_modify]
   exact oC g4 i (k,v0) _ (fun e'' he=>⟨hk,by rw [show l.toList[i]?=some e from by simpa using hi] at he;cases he;exact c3,rfl⟩))
  refine ⟨.tuple #[e.val,goInt e.born],_,E',?_,G,?_⟩
  ·simp [Instr.mapEntry,run_underlying hu,J5 g2,hck,a1,hi,hks,Oa _ g2,Result.andThen]
  ·simp only [af]
   refine ⟨_,rfl,?_⟩
   simp only [ah]
   refine ⟨cF X _ _ c3,?_,trivial⟩
   rw [show e.born=i by omega]
   exact jb (okb i (by omega))
 ·rename_i hf
  split at h
  case h_2=>cases h
  rename_i z hz
  cases h
  obtain ⟨a,a1,a2⟩:=gU hkt hk hko rfl g4 hf
  have a2:a=none:=a2
  subst a2
  obtain ⟨zv,z1,z2⟩:=FZ (E:=E) het hz
  obtain ⟨E',G,X⟩:=xm hE m hh (es':=es++[(k,z)]) (l':=l.push { key:=kv,val:=zv,born:=l.size }) g1 g2 g3 g5 (by
   rw [Array.toList_push]
   exact p4 g4 (k,z) _ hk (z2 E) (by simp at hl ⊢;omega))
  refine ⟨.tuple #[zv,goInt l.size],_,E',?_,G,?_⟩
  ·simp [Instr.mapEntry,run_underlying hu,J5 g2,hck,a1,z1,Oa _ g2,Result.andThen]
  ·simp only [af]
   refine ⟨_,rfl,?_⟩
   simp only [ah]
   refine ⟨z2 E',?_,trivial⟩
   have:es.length=l.size:=by simpa using hl
   rw [this]
   exact jb (okb l.size (by omega))
 ·cases h
theorem p5 {B:Base} {E:Env} (hE:HRel B E) (t:TypeId) {x s v:V} {xv sv vv:Value} (hx:af E x xv) (hs:af E s sv) (hv:af E v vv) (m:Nat) {ps:List Ob} {dh:List (Nat×Blk)} (h:Qv (lZ E.H x s v)=some (ps,dh)) :
  ∃ w' E',(Instr.entryStore t xv sv vv).run P E.w = .ok () w'∧Good B E m dh w' E':=by
 unfold lZ at h
 split at h
 case h_2=>cases h
 rename_i h0 q n
 split at h
 case h_2=>cases h
 rename_i es hh
 split at h
 case isFalse=>cases h
 rename_i hn
 split at h
 case h_2=>cases h
 rename_i p hp
 cases h
 obtain ⟨b,l,g1,rfl,g2,g3,g4,g5⟩:=rA hE hh hx
 simp only [af] at hs
 obtain ⟨rfl,_⟩:=hs
 obtain ⟨e,c1,c2,c3,c4⟩:=jy g4 _ _ hp
 have hi:l[n.toNat]?=some e:=by simpa using c1
 have hfind:l.findIdx? (fun e=>(e.born:Int)==n)=some n.toNat:=by
  rw [Array.findIdx?_eq_some_iff_getElem]
  have hlt:n.toNat<l.size:=(Array.getElem?_eq_some_iff.1 hi).1
  refine ⟨hlt,?_,fun j hj=>?_⟩
  ·have:l[n.toNat]=e:=(Array.getElem?_eq_some_iff.1 hi).2
   rw [this,beq_iff_eq]
   omega
  ·have hl:=oB g4
   have hjl:j<es.length:=by simp at hl;omega
   obtain ⟨e2,d1,_,_,d4⟩:=jy g4 j es[j] (List.getElem?_eq_getElem hjl)
   have:l[j]=e2:=(Array.getElem?_eq_some_iff.1 (show l[j]?=some e2 by simpa using d1)).2
   rw [this]
   simp only [Bool.not_eq_true,beq_eq_false_iff_ne,ne_eq]
   omega
 obtain ⟨E',G,_⟩:=xm hE m hh (es':=es.set n.toNat (p.1,v)) (l':=l.modify n.toNat fun e=>{ e with val:=vv }) g1 g2 g3 g5 (by
  rw [Array.toList_modify]
  exact oC g4 n.toNat (p.1,v) _ (fun e' he=>⟨by rw [c1] at he;cases he;exact c2,hv,rfl⟩))
 refine ⟨_,E',?_,G⟩
 simp [Instr.entryStore,J5 g2,asInt,asIntOf,hfind,Oa _ g2,Result.andThen]
end
section
open Go.RowKit
variable {P:Program}
theorem Pb {B:Base} {E:Env} (hE:HRel B E) (m:Nat) (hm :¬ E.U m) :
  ∃ E',Good B E m [(m,.abs 0 .str (ByteArray.empty:Den .str))] { E.w with heap:=E.w.heap.push (.cells #[.pointer none,.slice none 0 0] bTy (0,0)) } E'∧af E' (.av 0 m) (.pointer (some ⟨E.w.heap.size,0,none⟩)):=by
 have hget :(E.w.heap.push (.cells #[.pointer none,.slice none 0 0] bTy (0,0)))[E.w.heap.size]?=some (.cells #[.pointer none,.slice none 0 0] bTy (0,0)):=by simp
 have hm0:E.H m=none:=by
  cases h:E.H m with
  | none=>rfl
  | some k=>exact absurd (hE.used _ _ h) hm
 obtain ⟨R,X⟩:=Vq hE m 0 .str (ByteArray.empty:Den .str) E.w.heap.size { E.w with heap:=E.w.heap.push (.cells #[.pointer none,.slice none 0 0] bTy (0,0)) } (fun n=>E.U n∨n=m) (fun n h=> .inl h) (.inr rfl)
  ⟨rfl,rfl,rfl,by simp,fun b hb' _=>Below.heap_alloc E.w _ b hb'⟩ (.inr ⟨hm,Nat.le_refl _,by simp⟩)
  (fun g hg=>by
   have h0:s9 { E.w with heap:=E.w.heap.push (.cells #[.pointer none,.slice none 0 0] bTy (0,0)) } E.w.heap.size=none:=by unfold s9;rw [hget];rfl
   have hg:s9 { E.w with heap:=E.w.heap.push (.cells #[.pointer none,.slice none 0 0] bTy (0,0)) } E.w.heap.size=some g:=hg
   rw [h0] at hg;cases hg)
  (.inl ⟨rfl,ByteArray.empty,rfl,Nat.zero_le _,.inl ⟨Nat.zero_le _,_,hget,World.ownsRowF_nil _ _ _ _,by simp [Value.ownBlock]⟩⟩)
 refine ⟨_,⟨R,X,rfl,(cB _ _ _).symm,fun n h=>?_⟩,?_⟩
 ·rcases h with h|h
  ·exact .inl h
  ·exact .inr ⟨by omega,by unfold KN;omega⟩
 ·simp only [af]
  exact ⟨.inr trivial,⟨_,rfl⟩,fun _ _ _=>⟨_,aB _ _ _,rfl⟩⟩
theorem ya {Γ:FuncId→Option Ctr} {t:TypeId} {td:TD} {m:Nat} {ps:List Ob} {v:V} {dh:List (Nat×Blk)} (h:A8 Γ t td m = .val ps v dh) :
  (ps=[]∧v = .ptr m 0∧dh=[(m,.cells td.zero)])∨(t=bTy∧Gh td.zero=true∧ps=[]∧v = .av 0 m∧dh=[(m,.abs 0 .str (ByteArray.empty:Den .str))]):=by
 unfold A8 at h
 split at h
 ·cases hb :(Nat.beq t bTy&&Gh td.zero) with
  | false=>rw [hb] at h;cases h;exact .inl ⟨rfl,rfl,rfl⟩
  | true=>
   rw [hb] at h
   cases h
   simp only [Bool.and_eq_true,Nat.beq_eq] at hb
   exact .inr ⟨hb.1,hb.2,rfl,rfl,rfl⟩
 ·cases h;exact .inl ⟨rfl,rfl,rfl⟩
structure GoodK (B:Base) (E:Env) (m K:Nat) (dh:List (Nat×Blk)) (w':World) (E':Env):Prop where
 rel:HRel B E'
 ext:Ext E E'
 w:E'.w=w'
 h:E'.H=aY E.H dh
 u :∀ n,E'.U n→E.U n∨(m≤n∧n<m+K)
theorem Good.toK {B:Base} {E:Env} {m K:Nat} {dh:List (Nat×Blk)} {w':World} {E':Env} (G:Good B E m dh w' E') (hK:1≤K):GoodK B E m K dh w' E':=
 ⟨G.rel,G.ext,G.w,G.h,fun n h=>(G.u n h).imp id fun h=>⟨h.1,by have:=h.2;unfold KN at this;omega⟩⟩
structure CtrOK (P:Program) (K:Nat) (f:FuncId) (c:Ctr):Prop where
 fn :∃ fn,P.funcs[f]?=some fn∧fn.body.isSome=true∧(fn.name == "runtime.NumGoroutine")=false
 calls :∀ (B:Base) (E:Env),HRel B E→∀ (args:List V) (av:List Value),ah E args av→∀ m,(∀ n,m≤n→n<m+K→¬ E.U n)→∀ ps v dh,c args E.H m=some (ps,v,dh)→(∀ p∈ps,p)→
  Calls P f av.toArray E.w fun e w'=>∃ E' v',e = .returned v'∧GoodK B E m K dh w' E'∧af E' v v'
theorem xi {E:Env} (f:Operand→V) (g:Operand→Value) (h :∀ x,af E (f x) (g x)) :∀ l:List (Nat×Operand),pB E (l.map fun p=>(p.1,f p.2)) (l.map fun p=>(p.1,g p.2))
 | []=>by simp [pB]
 | x::l=>by simp only [List.map_cons,pB];exact ⟨trivial,h _,xi f g h l⟩
theorem w8 {E:Env} (f:Operand→V) (g:Operand→Value) (h :∀ x,af E (f x) (g x)) (o:Option Operand):iJ E (o.map f) (o.map g):=by
 cases o with
 | none=>simp [iJ]
 | some x=>simp only [Option.map_some,iJ];exact h x
variable {B:Base} {E:Env} {tb:Tbl} {K:Nat} {Γ:FuncId→Option Ctr} {m:Nat} {ev:Operand→V} {a:Act}
theorem Bl {E:Env} {asz xs caps:List V} {av:List Value} {l:Array Value} {f:FuncId} (hx:Bk asz caps=some xs) (ha:ah E asz av) (hl:ah E caps l.toList) :
  ∃ first cap,fnV f l = .func (.func f) first cap∧ah E xs (first.toList++av++cap.toList):=by
 obtain ⟨l⟩:=l
 cases caps with
 | nil=>
  cases l with
  | nil=>cases hx;exact ⟨#[],#[],rfl,by simpa using ha⟩
  | cons v vs=>simp [ah] at hl
 | cons c cs=>
  cases l with
  | nil=>simp [ah] at hl
  | cons v vs=>
   have hl0:=hl
   simp only [ah] at hl
   cases c <;> simp only [Bk,reduceCtorEq,Option.some.injEq] at hx
   case ptr h o=>
    subst hx
    have h1:=hl.1
    simp only [af] at h1
    obtain ⟨_,⟨a,rfl⟩,_⟩:=h1
    exact ⟨#[],⟨.pointer (some a)::vs⟩,rfl,by simpa using cp ha hl0⟩
   case nilmap=>
    subst hx
    have h1:=hl.1
    simp only [af] at h1
    subst h1
    exact ⟨⟨vs⟩,#[],rfl,by simpa using cp hl.2 ha⟩
theorem Bf {E:Env} {f:FuncId} {xs cs:List V} {first caps:List Value} (hx:ah E xs first) (hc:ah E cs caps) {ps:List Ob} {v:V} {dh:List (Nat×Blk)} (h:Be f xs cs = .val ps v dh) :
  dh=[]∧af E v (.func (.func f) first.toArray caps.toArray):=by
 cases xs with
 | nil=>
  cases first with
  | cons _ _=>simp [ah] at hx
  | nil=>
   cases cs with
   | nil=>
    cases caps with
    | cons _ _=>simp [ah] at hc
    | nil=>cases h;exact ⟨rfl,by simp only [af];exact ⟨#[],rfl,by simp [ah]⟩⟩
   | cons c r=>
    cases c <;> simp only [Be,reduceCtorEq] at h
    case ptr k o=>
     cases h
     cases caps with
     | nil=>simp [ah] at hc
     | cons v vs=>
      have h1:=hc
      simp only [ah,af] at h1
      obtain ⟨⟨_,⟨a,rfl⟩,_⟩,_⟩:=h1
      exact ⟨rfl,by simp only [af];exact ⟨⟨.pointer (some a)::vs⟩,rfl,hc⟩⟩
 | cons x r=>
  cases cs with
  | nil=>
   cases h
   cases caps with
   | cons _ _=>simp [ah] at hc
   | nil=>exact ⟨rfl,by simp only [af];exact ⟨⟨.map none::first⟩,rfl,by simp only [ah,af];exact ⟨trivial,hx⟩⟩⟩
  | cons c r'=>simp only [Be,reduceCtorEq] at h
theorem Bb (hE:HRel B E) (hΓ :∀ f c,Γ f=some c→CtrOK P K f c) (hm :∀ n,m≤n→n<m+K→¬ E.U n) (hev :∀ x,af E (ev x) (a.eval x)) {c:Call} {o:Oper} (ho:o.op = .call c) {f:Operand} (hf:c.callee = .value f) {g:FuncId} {caps asz:List V} (hg:ev f = .fn g caps) {ct:Ctr} (hct:Γ g=some ct) {ps:List Ob} {v:V} {dh:List (Nat×Blk)}
  (has:Bk (c.args.toList.map ev) caps=some asz) (h:F6 ct asz E.H m = .val ps v dh) (hps :∀ p∈ps,p.holds) {next:Act→World→Prop} {Q:Exit→Act→World→Prop}
  (hn :∀ v' E',GoodK B E m K dh E'.w E'→af E' v v'→next (a.put o.dst v') E'.w):o.wp P a E.w next Q:=by
 have hfv:=hev f
 rw [hg] at hfv
 simp only [af] at hfv
 obtain ⟨l,hfe,hl⟩:=hfv
 obtain ⟨first,cap,hfn,hargs⟩:=Bl (f:=g) has (ib _ _ hev _) hl
 rw [hfn] at hfe
 unfold F6 at h
 split at h
 case h_2=>cases h
 rename_i ps' v' dh' hc
 cases h
 have hok:=hΓ _ _ hct
 obtain ⟨fn,h1,h2,h3⟩:=hok.fn
 have hb :¬ fn.body=none:=by cases hb:fn.body with|none=>rw [hb] at h2;cases h2|some _=>simp
 have h4 :¬ fn.name = "runtime.NumGoroutine":=by simpa using h3
 have hcalls:=hok.calls B E hE _ _ hargs m hm _ _ _ hc (fun p hp=>hps (.prop p) (List.mem_map_of_mem hp))
 have hrun :(execOp a.eval o).run P E.w = .ok (.enter g (first.toList++c.args.toList.map a.eval++cap.toList).toArray) E.w:=by
  have e :(first.toList++c.args.toList.map a.eval++cap.toList).toArray=first++c.args.map a.eval++cap:=by
   apply Array.ext'
   simp
  rw [e]
  simp [execOp,ho,resolve,hf,Deferred.ofValue,hfe,invoke,callFunc,h1,h4,hb]
 unfold Oper.wp
 rw [hrun]
 simp only [Oper.upon]
 refine hcalls.mono fun e w' hh=>?_
 obtain ⟨E',v'',rfl,G,hv⟩:=hh
 have:=hn v'' E' (by rw [G.w];exact G) hv
 rw [G.w] at this
 exact this
theorem F8 (hE:HRel B E) (hT:c8 P tb) (hK:1≤K) (hΓ :∀ f c,Γ f=some c→CtrOK P K f c) (hm :∀ n,m≤n→n<m+K→¬ E.U n) (hev :∀ x,af E (ev x) (a.eval x)) {o:Oper} {ps:List Ob} {v:V} {dh:List (Nat×Blk)} (h:qQ tb Γ m E.H ev o.op = .val ps v dh) (hps :∀ p∈ps,p.holds) {next:Act→World→Prop} {Q:Exit→Act→World→Prop}
  (hn :∀ v' E',GoodK B E m K dh E'.w E'→af E' v v'→next (a.put o.dst v') E'.w):o.wp P a E.w next Q:=by
 have hm0 :¬ E.U m:=hm m (Nat.le_refl _) (by omega)
 have same :∀ {v'},(execOp a.eval o).run P E.w = .ok (.value v') E.w→dh=[]→af E v v'→o.wp P a E.w next Q:=fun hrun hd hv=>by
  unfold Oper.wp
  rw [hrun]
  simp only [Oper.upon]
  subst hd
  exact hn _ E ((ef hE m).toK hK) hv
 have step :∀ {v' w' E'},(execOp a.eval o).run P E.w = .ok (.value v') w'→Good B E m dh w' E'→af E' v v'→o.wp P a E.w next Q:=fun hrun G hv=>by
  unfold Oper.wp
  rw [hrun]
  simp only [Oper.upon]
  have:=hn _ _ (by rw [G.w];exact G.toK hK) hv
  rw [G.w] at this
  exact this
 cases ho:o.op <;> rw [ho] at h <;> simp only [qQ,reduceCtorEq] at h
 case move x=>cases h;exact same (by simp [execOp,ho]) rfl (hev x)
 case assign x=>cases h;exact same (by simp [execOp,ho]) rfl (hev x)
 case pick c x y=>
  obtain ⟨e,q,h1,h2⟩:=Bi (P:=P) (hev c) (hev x) (hev y) h
  exact same (by simp [execOp,ho,h1]) e h2
 case alloc t=>
  split at h
  case h_2=>cases h
  rename_i td htd
  have ht:=hT _ _ htd
  obtain ⟨z,hz,hzz⟩:=ht.zeroValue E.w
  rcases ya h with ⟨rfl,rfl,rfl⟩ |⟨rfl,hb,rfl,rfl,rfl⟩
  ·obtain ⟨E',G,hv⟩:=zX hE m hm0 td.zero z.cells t (dD hzz)
   exact step (by simp [execOp,ho,Instr.alloc,hz,newVar,newRow]) G hv
  ·have hzv:=dD (E:=E) hzz
   generalize td.zero=zs at hb hzv
   match zs,hb with
   | [.nilptr,.nilsl],_=>
    generalize hl:z.cells.toList=l at hzv
    match l,hzv with
    | [a1,a2],hzv=>
     simp only [ah,af] at hzv
     obtain ⟨rfl,rfl,_⟩:=hzv
     have hc:z.cells=#[.pointer none,.slice none 0 0]:=Array.toList_inj.1 hl
     obtain ⟨E',G,hv⟩:=Pb hE m hm0
     exact step (by simp [execOp,ho,Instr.alloc,hz,newVar,newRow,hc]) G hv
 case box t x=>
  split at h
  case h_2=>cases h
  rename_i cs hcs
  cases h
  obtain ⟨E',G,hv⟩:=zX hE m hm0 cs (a.eval x).cells t (cX (hev x) hcs)
  exact step (by simp [execOp,ho,Instr.box,newVar,newRow]) G hv
 case build t parts=>
  split at h
  case h_2=>cases h
  rename_i td htd
  obtain ⟨e,v',hr,hv⟩:=yc hT (hT _ _ htd) (pv:=parts.map fun p=>(p.1,a.eval p.2)) (by rw [Array.toList_map];exact xi _ _ hev _) h
  exact same (by simp [execOp,ho,hr]) e hv
 case buildSlice t n parts=>
  split at h
  case h_2=>cases h
  rename_i td htd
  obtain ⟨v',w',E',hr,G,hv⟩:=px hE hT (hT _ _ htd) m hm0 (pv:=parts.map fun p=>(p.1,a.eval p.2)) (by rw [Array.toList_map];exact xi _ _ hev _) h
  exact step (by simp [execOp,ho,hr]) G hv
 case load t x=>
  split at h
  case h_2=>cases h
  rename_i td htd
  obtain ⟨e,v',hr,hv⟩:=yh hE (hT _ _ htd) (hev x) h
  exact same (by simp [execOp,ho,hr]) e hv
 case nilCheck x=>
  have hx:=hev x
  unfold QJ at h
  split at h
  ·rename_i hh off e;cases h;rw [e] at hx;have hx0:=hx;simp only [af] at hx0;obtain ⟨ad,hx1⟩:=hx0.2.1
   exact same (v':=a.eval x) (by simp [execOp,ho,hx1]) rfl hx
  ·rename_i t' xs i off e;cases h;rw [e] at hx;have hx0:=hx;simp only [af] at hx0
   obtain ⟨_,_,_,_,_,_,_,_,_,_,_,hx1⟩:=hx0
   exact same (v':=a.eval x) (by simp [execOp,ho,hx1]) rfl hx
  ·rename_i hh ver i off e;cases h;rw [e] at hx;have hx0:=hx;simp only [af] at hx0;obtain ⟨ad,hx1⟩:=hx0.2.2.1
   exact same (v':=a.eval x) (by simp [execOp,ho,hx1]) rfl hx
  ·rename_i f caps e;cases h;rw [e] at hx;have hx0:=hx;simp only [af] at hx0;obtain ⟨l,hx1,_⟩:=hx0
   exact same (v':=a.eval x) (by simp [execOp,ho,hx1,fnV]) rfl hx
  ·rename_i hh ver off e;cases h;rw [e] at hx;have hx0:=hx;simp only [af] at hx0;obtain ⟨ad,hx1⟩:=hx0.2.2.1
   exact same (v':=a.eval x) (by simp [execOp,ho,hx1]) rfl hx
  ·cases h
 case binOp op t x y t'=>
  split at h
  case h_2=>cases h
  rename_i td htd
  obtain ⟨e,v',hr,hv⟩:=Dj (hT _ _ htd) (hev x) (hev y) x y h hps
  refine same (v':=v') ?_ e hv
  have e2:execOp a.eval o =(do let r←(do eqGuard op t x y (a.eval x) (a.eval y);binOp op t (a.eval x) (a.eval y):Sem Value);pure (.value r)):=by simp only [execOp,ho]
  rw [e2,Sem.run_bind,hr]
  rfl
 case unOp op t x=>
  obtain ⟨e,v',hr,hv⟩:=Gb (P:=P) (hev x) h
  exact same (by simp [execOp,ho,hr]) e hv
 case convert s d x=>
  split at h
  case h_2=>cases h
  rename_i ts td hts htd
  unfold IC at h
  split at h
  ·obtain ⟨v',w',E',hr,G,hv⟩:=vI hE hT (hT _ _ hts) (hT _ _ htd) m hm0 (hev x) h
   exact step (by simp [execOp,ho,hr]) G hv
  ·obtain ⟨e,v',hr,hv⟩:=Bc (hT _ _ hts) (hT _ _ htd) (hev x) h
   exact same (by simp [execOp,ho,hr]) e hv
 case makeFunc fn first caps=>
  cases fn <;> simp only [reduceCtorEq] at h
  rename_i f
  obtain ⟨e,hv⟩:=Bf (ib ev a.eval hev first.toList) (ib ev a.eval hev caps.toList) h
  refine same (v':= .func (.func f) (first.map a.eval) (caps.map a.eval)) (by simp [execOp,ho,Instr.makeFunc]) e ?_
  have e1 :(first.toList.map a.eval).toArray=first.map a.eval:=by apply Array.ext';simp
  have e2 :(caps.toList.map a.eval).toArray=caps.map a.eval:=by apply Array.ext';simp
  rw [e1,e2] at hv
  exact hv
 case makeSlice t l c=>
  split at h
  case h_2=>cases h
  rename_i td htd
  obtain ⟨v',w',E',hr,G,hv⟩:=p8 hE hT (hT _ _ htd) m hm0 (hev l) (hev c) h hps
  exact step (by simp [execOp,ho,hr]) G hv
 case slice t x lo hi mx=>
  split at h
  case h_2=>cases h
  rename_i td htd
  obtain ⟨v',E',hr,G,hv⟩:=vV hE hT (hT _ _ htd) m (hev x) (w8 _ _ hev lo) (w8 _ _ hev hi) (w8 _ _ hev mx) h hps
  exact step (by simp [execOp,ho,hr]) G hv
 case fieldAddr t x f=>
  split at h
  case h_2=>cases h
  rename_i td htd
  obtain ⟨e,v',hr,hv⟩:=vK hT (hT _ _ htd) (hev x) h
  exact same (by simp [execOp,ho,hr]) e hv
 case field t x f=>
  split at h
  case h_2=>cases h
  rename_i td htd
  obtain ⟨e,v',hr,hv⟩:=rZ hT (hT _ _ htd) (hev x) h
  exact same (by simp [execOp,ho,hr]) e hv
 case indexAddr t x i=>
  split at h
  case h_2=>cases h
  rename_i td htd
  obtain ⟨e,v',hr,hv⟩:=vQ hE hT (hT _ _ htd) (hev x) (hev i) h hps
  exact same (by simp [execOp,ho,hr]) e hv
 case index t x i=>
  split at h
  case h_2=>cases h
  rename_i td htd
  obtain ⟨e,v',hr,hv⟩:=vP hT (hT _ _ htd) (hev x) (hev i) h hps
  exact same (by simp [execOp,ho,hr]) e hv
 case extract t i=>
  have hx:=hev t
  generalize hy:ev t=y at h hx
  cases y <;> simp only [yS,reduceCtorEq] at h
  rename_i vs
  simp only [af] at hx
  obtain ⟨l,hx1,hl⟩:=hx
  split at h
  case h_2=>cases h
  rename_i u hu
  cases h
  obtain ⟨v',h1,h2⟩:=ia hl _ _ hu
  have h1':l[i]?=some v':=by simpa using h1
  exact same (v':=v') (by simp [execOp,ho,hx1,Instr.extract,h1']) rfl h2
 case makeMap t r=>
  cases r with
  | some _=>cases h
  | none=>
   cases h
   obtain ⟨w',E',hr,G,hv⟩:=yn (P:=P) hE m hm0 t
   exact step (by simp [execOp,ho,hr]) G hv
 case lookup t x k ok=>
  split at h
  case h_2=>cases h
  rename_i q hq
  obtain ⟨e,v',hr,hv⟩:=vS hE hT hq (hev x) (hev k) h
  exact same (by simp [execOp,ho,hr]) e hv
 case mapEntry t x k=>
  split at h
  case h_2=>cases h
  rename_i q hq
  obtain ⟨v',w',E',hr,G,hv⟩:=se hE hT hq (hev x) (hev k) m h
  exact step (by simp [execOp,ho,hr]) G hv
 case call c=>
  split at h
  ·
   rename_i hc
   split at h
   case h_2=>cases h
   rename_i t x ht hx
   split at h
   case h_2=>cases h
   rename_i td htd
   obtain ⟨e,v',hr,hv⟩:=Bg hE (hT _ _ htd) (hev x) o.type h
   have e1:c.argTypes=#[t]:=by apply Array.ext';exact ht
   have e2:c.args=#[x]:=by apply Array.ext';exact hx
   exact same (v':=v') (by simp [execOp,ho,resolve,hc,invoke,builtin,e1,e2,hr]) e hv
  ·rename_i hc
   split at h
   case h_2=>cases h
   rename_i x r hx
   obtain ⟨e,v',hr,hv⟩:=vN (P:=P) (hev x) (ib _ _ hev r) h
   have e2:c.args.toList.map a.eval=a.eval x::r.map a.eval:=by rw [hx];rfl
   exact same (v':=v') (by simp [execOp,ho,resolve,hc,invoke,builtin,Builtin.min_,e2,hr]) e hv
  ·rename_i hc
   split at h
   case h_2=>cases h
   rename_i x r hx
   obtain ⟨e,v',hr,hv⟩:=vM (P:=P) (hev x) (ib _ _ hev r) h
   have e2:c.args.toList.map a.eval=a.eval x::r.map a.eval:=by rw [hx];rfl
   exact same (v':=v') (by simp [execOp,ho,resolve,hc,invoke,builtin,Builtin.max_,e2,hr]) e hv
  ·rename_i hc
   split at h
   case h_2=>cases h
   rename_i t t2 s x ht hx
   split at h
   case h_2=>cases h
   rename_i td td2 htd htd2
   split at h
   case isFalse=>cases h
   rename_i hel
   have hkX:AppK td2:=by
    unfold T5 at hel
    rcases (Bool.or_eq_true _ _).mp hel with hel|hel
    ·obtain ⟨n,hn'⟩:=Option.isSome_iff_exists.1 hel
     obtain ⟨eX,te,hkX,_⟩:=jx hT hn'
     exact .inl ⟨eX,hkX⟩
    ·split at hel
     ·rename_i hk;exact .inr hk
     ·cases hel
   obtain ⟨v',w',E',hr,G,hv⟩:=ui hE hT (hT _ _ htd) (hT _ _ htd2) hkX m hm0 (hev s) (hev x) o.type h hps
   have e1:c.argTypes=#[t,t2]:=by apply Array.ext';exact ht
   have e2:c.args=#[s,x]:=by apply Array.ext';exact hx
   exact step (v':=v') (w':=w') (by simp [execOp,ho,resolve,hc,invoke,builtin,e1,e2,hr]) G hv
  ·rename_i f hc
   split at h
   case h_2=>cases h
   rename_i g caps hg
   split at h
   case h_2=>cases h
   rename_i ct hct
   split at h
   case h_2=>cases h
   rename_i asz has
   exact Bb hE hΓ hm hev ho hc hg hct has h hps hn
  ·cases h
theorem vW {B:Base} {E:Env} (hE:HRel B E) {t:TypeId} {td:TD} (ht:TDok P t td) {a x:V} {av xv:Value} (ha:af E a av) (hx:af E x xv) (m:Nat) {ps:List Ob} {dh:List (Nat×Blk)} (h:ng td E.H a x = .skip ps dh) :
  ∃ w' E',(Instr.storeAt t av xv).run P E.w = .ok () w'∧Good B E m dh w' E':=by
 unfold ng at h
 split at h
 ·split at h
  ·split at h
   case h_2=>cases h
   rename_i ps' dh' hb
   cases h
   obtain ⟨R,X⟩:=dv hE x.hs
   obtain ⟨w',E',h1,G⟩:=jP (E:=cE E x.hs) R ht (cF X _ _ ha) (cF X _ _ hx) m hb
   refine ⟨w',E',h1,⟨G.rel,X.trans G.ext,G.w,?_,G.u⟩⟩
   rw [G.h,qZ]
   congr 1
   funext k
   exact (l7 E.H _ k).symm
  ·exact jP hE ht ha hx m h
 ·exact jP hE ht ha hx m h
theorem Ga (hE:HRel B E) (hT:c8 P tb) (hK:1≤K) (hev :∀ x,af E (ev x) (a.eval x)) {o:Oper} {ps:List Ob} {dh:List (Nat×Blk)} (h:yk tb E.H ev o.op=some (ps,dh)) {next:Act→World→Prop} {Q:Exit→Act→World→Prop}
  (hn :∀ E',GoodK B E m K dh E'.w E'→next (a.put o.dst undef) E'.w):o.wp P a E.w next Q:=by
 have step :∀ {w' E'},(execOp a.eval o).run P E.w = .ok .skip w'→Good B E m dh w' E'→o.wp P a E.w next Q:=fun hrun G=>by
  unfold Oper.wp
  rw [hrun]
  simp only [Oper.upon]
  have:=hn _ (by rw [G.w];exact G.toK hK)
  rw [G.w] at this
  exact this
 cases ho:o.op <;> rw [ho] at h <;> simp only [yk,reduceCtorEq] at h
 case store t x y=>
  split at h
  case h_2=>cases h
  rename_i td htd
  split at h
  case h_2=>cases h
  rename_i ps' dh' hs
  cases h
  obtain ⟨w',E',hr,G⟩:=vW hE (hT _ _ htd) (hev x) (hev y) m hs
  exact step (by simp [execOp,ho,hr]) G
 case mapUpdate t x k v=>
  split at h
  case h_2=>cases h
  rename_i q hq
  obtain ⟨w',E',hr,G⟩:=vU hE hT hq (hev x) (hev k) (hev v) m h
  exact step (by simp [execOp,ho,hr]) G
 case entryStore t x s v=>
  obtain ⟨w',E',hr,G⟩:=p5 (P:=P) hE t (hev x) (hev s) (hev v) m h
  exact step (by simp [execOp,ho,hr]) G
end
section
open Go.RowKit
variable {P:Program}
def hsE:List (V×V)→List Nat
 | []=> []
 |(k,v)::r=>k.hs++v.hs++hsE r
def Blk.hs:Blk→List Nat
 | .cells cs=>hss cs
 | .grow _ _ cs=>hss cs
 | .mp es=>hsE es
 | .abs _ _ _=> []
 | .row _ _ _ _=> []
def restr (H:bj) (R:List Nat):bj:=fun h=>bif memN R h then H h else none
mutual
theorem po {E E':Env} (hU :∀ n,E.U n→E'.U n) (hS :∀ b,E.S b→E'.S b) (hw:E'.w=E.w) (D:Nat→Prop) (hD :∀ h,D h→E'.H h=E.H h∧E'.ρ h=E.ρ h) :∀ (x:V) (v:Value),(∀ h∈x.hs,D h)→af E x v→af E' x v
 | .any,_,_,_=>by simp [af]
 | .int _ _,_,_,h=>by simpa [af] using h
 | .bool _,_,_,h=>by simpa [af] using h
 | .kb _,_,_,h=>by simpa [af] using h
 | .str _,_,_,h=>by simpa [af] using h
 | .nilptr,_,_,h=>by simpa [af] using h
 | .ptr hh off,v,hd,h=>by
  simp only [af] at h ⊢
  obtain ⟨e1,e2⟩:=hD hh (hd hh (by simp [V.hs]))
  rw [e1,e2]
  exact ⟨hU _ h.1,h.2⟩
 | .fp t xs i off,v,_,h=>by
  simp only [af] at h ⊢
  obtain ⟨b,o,c,T,fr,h1,h2,h3,h4,h5,h6,h7⟩:=h
  exact ⟨b,o,c,T,fr,hS _ h1,by rw [hw];exact h2,h3,fun j hj=>(h4 j hj).ext hS (fun _ _=>by rw [hw]),h5,h6,h7⟩
 | .rp hh ver i off,v,hd,h=>by
  simp only [af] at h ⊢
  obtain ⟨e1,e2⟩:=hD hh (hd hh (by simp [V.hs]))
  rw [e1,e2]
  exact ⟨hU _ h.1,hU _ h.2.1,h.2.2⟩
 | .nilsl,_,_,h=>by simpa [af] using h
 | .esl,_,_,h=>by simpa [af] using h
 | .osl hh ver,v,hd,h=>by
  simp only [af] at h ⊢
  obtain ⟨e1,e2⟩:=hD hh (hd hh (by simp [V.hs]))
  rw [e1,e2,hw]
  exact ⟨hU _ h.1,hU _ h.2.1,h.2.2⟩
 | .fsl t xs,v,_,h=>by
  simp only [af] at h ⊢
  exact h.ext hS (fun _ _=>by rw [hw])
 | .gsl hh ver esz off len,v,hd,h=>by
  simp only [af] at h ⊢
  obtain ⟨e1,e2⟩:=hD hh (hd hh (by simp [V.hs]))
  rw [e1,e2,hw]
  exact ⟨hU _ h.1,hU _ h.2.1,h.2.2⟩
 | .gp hh ver off,v,hd,h=>by
  simp only [af] at h ⊢
  obtain ⟨e1,e2⟩:=hD hh (hd hh (by simp [V.hs]))
  rw [e1,e2]
  exact ⟨hU _ h.1,hU _ h.2.1,h.2.2⟩
 | .mpv hh,v,hd,h=>by
  simp only [af] at h ⊢
  obtain ⟨e1,e2⟩:=hD hh (hd hh (by simp [V.hs]))
  rw [e1,e2]
  exact ⟨hU _ h.1,h.2⟩
 | .av _ hh,v,hd,h=>by
  simp only [af] at h ⊢
  obtain ⟨e1,e2⟩:=hD hh (hd hh (by simp [V.hs]))
  rw [e1,e2]
  exact ⟨hU _ h.1,h.2⟩
 | .nilfn,_,_,h=>by simpa [af] using h
 | .nilmap,_,_,h=>by simpa [af] using h
 | .hint _ _,_,_,h=>by simpa [af] using h
 | .fn f caps,v,hd,h=>by
  simp only [af] at h ⊢
  obtain ⟨l,h1,h2⟩:=h
  exact ⟨l,h1,ie hU hS hw D hD _ _ (fun h hh=>hd h (by simpa [V.hs] using hh)) h2⟩
 | .agg cs,v,hd,h=>by
  simp only [af] at h ⊢
  obtain ⟨l,h1,h2⟩:=h
  exact ⟨l,h1,ie hU hS hw D hD _ _ (fun h hh=>hd h (by simpa [V.hs] using hh)) h2⟩
 | .tup cs,v,hd,h=>by
  simp only [af] at h ⊢
  obtain ⟨l,h1,h2⟩:=h
  exact ⟨l,h1,ie hU hS hw D hD _ _ (fun h hh=>hd h (by simpa [V.hs] using hh)) h2⟩
theorem ie {E E':Env} (hU :∀ n,E.U n→E'.U n) (hS :∀ b,E.S b→E'.S b) (hw:E'.w=E.w) (D:Nat→Prop) (hD :∀ h,D h→E'.H h=E.H h∧E'.ρ h=E.ρ h) :∀ (xs:List V) (vs:List Value),(∀ h∈hss xs,D h)→ah E xs vs→ah E' xs vs
 | [],[],_,_=>by simp [ah]
 | _::_,[],_,h=>by simp [ah] at h
 | [],_::_,_,h=>by simp [ah] at h
 | x::xs,v::vs,hd,h=>by
  simp only [ah] at h ⊢
  exact ⟨po hU hS hw D hD x v (fun h hh=>hd h (by simp [hss,hh])) h.1,ie hU hS hw D hD xs vs (fun h hh=>hd h (by simp [hss,hh])) h.2⟩
end
theorem vE {E E':Env} (hU :∀ n,E.U n→E'.U n) (hS :∀ b,E.S b→E'.S b) (hw:E'.w=E.w) (D:Nat→Prop) (hD :∀ h,D h→E'.H h=E.H h∧E'.ρ h=E.ρ h) :∀ (i:Nat) (xs:List (V×V)) (es:List MapEntry),(∀ h∈hsE xs,D h)→cA E i xs es→cA E' i xs es
 | _,[],[],_,_=>trivial
 | _,_::_,[],_,h=>by simp [cA] at h
 | _,[],_::_,_,h=>by simp [cA] at h
 | i,(k,v)::xs,e::es,hd,h=>⟨⟨po hU hS hw D hD _ _ (fun h hh=>hd h (by simp [hsE,hh])) h.1.1,po hU hS hw D hD _ _ (fun h hh=>hd h (by simp [hsE,hh])) h.1.2.1,h.1.2.2⟩,
  vE hU hS hw D hD (i+1) xs es (fun h hh=>hd h (by simp [hsE,hh])) h.2⟩
theorem JR {E E':Env} (hU :∀ n,E.U n→E'.U n) (hS :∀ b,E.S b→E'.S b) (hS' :∀ b,E'.S b→E.S b) (hw:E'.w=E.w) (D:Nat→Prop) (hD :∀ h,D h→E'.H h=E.H h∧E'.ρ h=E.ρ h) {h:Nat} (hh:D h) {k:Blk} (hk :∀ x∈k.hs,D x) (hb:F3 E h k):F3 E' h k:=by
 obtain ⟨_,e2⟩:=hD h hh
 cases k with
 | cells cs=>
  obtain ⟨b,c,T,fr,h1,h2,h3,h4,h5⟩:=hb
  exact ⟨b,c,T,fr,by rw [e2];exact h1,by rw [hw];exact h2,h3,fun hs=>h4 (hS' _ hs),ie hU hS hw D hD _ _ hk h5⟩
 | row ver rw t xs=>
  obtain ⟨hu,hb⟩:=hb
  refine ⟨hU _ hu,?_⟩
  rcases hb with ⟨h1,h2⟩ |⟨b,c,T,fr,h1,h2,h3,h4,h5,h6,h7,h8⟩
  ·exact .inl ⟨by rw [e2];exact h1,h2⟩
  ·exact .inr ⟨b,c,T,fr,by rw [e2];exact h1,by rw [hw];exact h2,h3,fun e hs=>h4 e (hS' _ hs),fun e=>hS _ (h5 e),h6,h7,fun i hi=>(h8 i hi).ext hS (fun _ _=>by rw [hw])⟩
 | grow ver esz cs=>
  obtain ⟨hu,b,c,T,fr,h1,h2,h3,h4,h5⟩:=hb
  exact ⟨hU _ hu,b,c,T,fr,by rw [e2];exact h1,by rw [hw];exact h2,h3,fun hs=>h4 (hS' _ hs),ie hU hS hw D hD _ _ hk h5⟩
 | mp es=>
  obtain ⟨b,l,k,h1,h2,h3,h4,h5⟩:=hb
  exact ⟨b,l,k,by rw [e2];exact h1,by rw [hw];exact h2,fun hs=>h3 (hS' _ hs),vE hU hS hw D hD _ _ _ hk h4,h5⟩
 | abs kk t x=>
  obtain ⟨b,h1,h2,h3,h4⟩:=hb
  exact ⟨b,by rw [e2];exact h1,fun hs=>h2 (hS' _ hs),fun g hg hs=>h3 g (by rw [hw] at hg;exact hg) (hS' _ hs),by rw [hw];exact h4⟩
def LZ (E:Env) (R:List Nat):Nat→Prop:=fun b=>∃ h,h∈R∧∃ k,E.H h=some k∧Tch E h k b
def Vs (E:Env) (R:List Nat) (g:vi E.w (LZ E R)):Base:=Da E.w (LZ E R) E.S g
theorem yT {B:Base} {E:Env} (hE:HRel B E) (R:List Nat):vi E.w (LZ E R):=hE.glob fun _ ⟨h,_,k,hk,hb⟩=>⟨h,k,hk,hb⟩
theorem HRel.restr {B:Base} {E:Env} (hE:HRel B E) (R:List Nat):HRel (Vs E R (yT hE R)) { E with H:=Mir.restr E.H R }:=by
 have get :∀ h k,Mir.restr E.H R h=some k→h∈R∧E.H h=some k:=fun h k hh=>by
  unfold Mir.restr at hh
  cases hm:memN R h with
  | false=>rw [hm] at hh;cases hh
  | true=>rw [hm] at hh;exact ⟨memN_iff.1 hm,hh⟩
 have X:Ext E { E with H:=Mir.restr E.H R }:=by
  refine ⟨fun _ h=>h,fun _ h=>h,fun _ _=>rfl,fun h cs _ hx=>⟨⟨cs,(get _ _ hx).2⟩,rfl⟩,fun h ver rw t xs _ _ hx=>⟨rw,xs,(get _ _ hx).2,rfl,rfl,fun b c T fr _ hw=>⟨c,T,fr,hw,rfl⟩⟩,fun h ver esz cs _ _ hx=>⟨cs,(get _ _ hx).2,rfl,rfl,fun b c T fr _ hw=>⟨c,T,fr,hw,rfl⟩⟩,fun h es _ hx=>⟨⟨es,(get _ _ hx).2⟩,rfl⟩,fun h k t x _ hx=>⟨⟨x,(get _ _ hx).2⟩,rfl⟩⟩
 refine ⟨fun h b hx=>hE.used _ _ (get _ _ hx).2,hE.stab,fun h k b hx hb=>hE.lt' _ _ _ (get _ _ hx).2 hb,fun h h' k k' b h1 h2 b1 b2=>hE.inj' _ _ _ _ _ (get _ _ h1).2 (get _ _ h2).2 b1 b2,
  fun h k hx=>dp X rfl (fun _ _=>rfl) (fun _ _ _ h=>h) (hE.blk _ _ (get _ _ hx).2),Keeps.refl _ _,fun h k b hx hb=> .inl ⟨h,(get _ _ hx).1,_,(get _ _ hx).2,hb⟩,fun _ h=>h,fun _ h=> .inl h⟩
theorem Ub {B:Base} {E:Env} (hE:HRel B E) {R:List Nat} {m K:Nat} (hm :∀ n,m≤n→n<m+K→¬ E.U n) {dh:List (Nat×Blk)} {w':World} {Es:Env} (G:GoodK (Vs E R (yT hE R)) { E with H:=restr E.H R } m K dh w' Es)
  (_ :∀ h∈R,∃ k,E.H h=some k) (hc :∀ h∈R,∀ k,E.H h=some k→∀ x∈k.hs,x∈R∨(m≤x∧x<m+K))
  (hk :∀ h k,find dh h=some k→(h∈R∨(m≤h∧h<m+K))∧∀ x∈k.hs,x∈R∨(m≤x∧x<m+K)) :
  ∃ E',GoodK B E m K dh w' E'∧∀ (v:V) (u:Value),(∀ x∈v.hs,x∈R∨(m≤x∧x<m+K))→af Es v u→af E' v u:=by
 classical
 let D:Nat→Prop:=fun h=>h∈R∨(m≤h∧h<m+K)
 let E':Env:=⟨Es.U,fun h=>if D h then Es.ρ h else E.ρ h,Es.S,Es.w,aY E.H dh⟩
 have hEs:=G.rel
 have Xs:=G.ext
 have hH :∀ h,D h→E'.H h=Es.H h:=fun h hd=>by
  show aY E.H dh h=Es.H h
  rw [G.h]
  unfold aY
  cases hf:find dh h with
  | some k=>rfl
  | none=>
   simp only
   unfold Mir.restr
   cases hm':memN R h with
   | true=>rfl
   | false=>
    rcases hd with hd|hd
    ·rw [memN_iff.2 hd] at hm';cases hm'
    ·cases hx:E.H h with
     | none=>rfl
     | some k=>exact absurd (hE.used _ _ hx) (hm h hd.1 hd.2)
 have hρ :∀ h,D h→E'.ρ h=Es.ρ h:=fun h hd=>if_pos hd
 have hHn :∀ h,¬ D h→E'.H h=E.H h:=fun h hd=>by
  show aY E.H dh h=E.H h
  unfold aY
  cases hf:find dh h with
  | some k=>exact absurd (hk h k hf).1 hd
  | none=>rfl
 have hρn :∀ h,¬ D h→E'.ρ h=E.ρ h:=fun h hd=>if_neg hd
 have notF :∀ h k b,¬ D h→E.H h=some k→Tch E h k b→¬ LZ E R b:=fun h k b hd hx hb hf=>by
  obtain ⟨h2,g1,k2,g2,g3⟩:=hf
  have:=hE.inj' _ _ _ _ _ hx g2 hb g3
  subst this
  exact hd (.inl g1)
 have keep' :∀ h k b,¬ D h→E.H h=some k→Tch E h k b→Es.w.heap[b]?=E.w.heap[b]?:=fun h k b hd hx hb=>
  hEs.keeps.block b (hE.lt' _ _ _ hx hb) (notF h k b hd hx hb)
 have keep :∀ h k b,¬ D h→E.H h=some k→E.ρ h=some b→Es.w.heap[b]?=E.w.heap[b]?:=fun h k b hd hx hb=>keep' h k b hd hx (.inl hb)
 have tD :∀ {h k b},D h→Tch E' h k b→Tch Es h k b:=fun hd ht=>ht.mv (hρ _ hd) (fun _ _=>rfl)
 have tN :∀ {h k b},¬ D h→E.H h=some k→Tch E' h k b→Tch E h k b:=fun hd hx ht=>ht.mv (hρn _ hd) (fun b hb=>keep _ _ b hd hx hb)
 have X:Ext E E':=by
  refine ⟨Xs.u,Xs.s,Xs.keepS,fun h cs' hu hx=>?_,fun h ver rw' t' xs' hu hv hx=>?_,fun h ver esz cs' hu hv hx=>?_,fun h es' hu hx=>?_,fun h kk t x' hu hx=>?_⟩
  case refine_5=>
   by_cases hd:D h
   ·rw [hH h hd] at hx
    obtain ⟨⟨x,h1⟩,h2⟩:=Xs.ha h kk t x' hu hx
    refine ⟨⟨x,?_⟩,by rw [hρ h hd];exact h2⟩
    have h1':Mir.restr E.H R h=some (.abs kk t x):=h1
    unfold Mir.restr at h1'
    cases hm':memN R h with
    | false=>rw [hm'] at h1';cases h1'
    | true=>rw [hm'] at h1';exact h1'
   ·rw [hHn h hd] at hx
    exact ⟨⟨x',hx⟩,hρn h hd⟩
  ·by_cases hd:D h
   ·rw [hH h hd] at hx
    obtain ⟨⟨cs,h1⟩,h2⟩:=Xs.hc h cs' hu hx
    refine ⟨⟨cs,?_⟩,by rw [hρ h hd];exact h2⟩
    have h1':Mir.restr E.H R h=some (.cells cs):=h1
    unfold Mir.restr at h1'
    cases hm':memN R h with
    | false=>rw [hm'] at h1';cases h1'
    | true=>rw [hm'] at h1';exact h1'
   ·rw [hHn h hd] at hx
    exact ⟨⟨cs',hx⟩,hρn h hd⟩
  ·by_cases hd:D h
   ·rw [hH h hd] at hx
    obtain ⟨rw,xs,h1,h2,h3,h4⟩:=Xs.hr h ver rw' t' xs' hu hv hx
    refine ⟨rw,xs,?_,h2,by rw [hρ h hd];exact h3,h4⟩
    have h1':Mir.restr E.H R h=some (.row ver rw t' xs):=h1
    unfold Mir.restr at h1'
    cases hm':memN R h with
    | false=>rw [hm'] at h1';cases h1'
    | true=>rw [hm'] at h1';exact h1'
   ·rw [hHn h hd] at hx
    exact ⟨rw',xs',hx,rfl,hρn h hd,fun b c T fr hb hw=>⟨c,T,fr,by rw [show E'.w=Es.w from rfl,keep h _ b hd hx hb];exact hw,rfl⟩⟩
  ·by_cases hd:D h
   ·rw [hH h hd] at hx
    obtain ⟨xs,h1,h2,h3,h4⟩:=Xs.hg h ver esz cs' hu hv hx
    refine ⟨xs,?_,h2,by rw [hρ h hd];exact h3,h4⟩
    have h1':Mir.restr E.H R h=some (.grow ver esz xs):=h1
    unfold Mir.restr at h1'
    cases hm':memN R h with
    | false=>rw [hm'] at h1';cases h1'
    | true=>rw [hm'] at h1';exact h1'
   ·rw [hHn h hd] at hx
    exact ⟨cs',hx,rfl,hρn h hd,fun b c T fr hb hw=>⟨c,T,fr,by rw [show E'.w=Es.w from rfl,keep h _ b hd hx hb];exact hw,rfl⟩⟩
  ·by_cases hd:D h
   ·rw [hH h hd] at hx
    obtain ⟨⟨es,h1⟩,h2⟩:=Xs.hm h es' hu hx
    refine ⟨⟨es,?_⟩,by rw [hρ h hd];exact h2⟩
    have h1':Mir.restr E.H R h=some (.mp es):=h1
    unfold Mir.restr at h1'
    cases hm':memN R h with
    | false=>rw [hm'] at h1';cases h1'
    | true=>rw [hm'] at h1';exact h1'
   ·rw [hHn h hd] at hx
    exact ⟨⟨es',hx⟩,hρn h hd⟩
 have trans :∀ (v:V) (u:Value),(∀ x∈v.hs,D x)→af Es v u→af E' v u:=fun v u hd hv=>
  po (E:=Es) (E':=E') (fun _ h=>h) (fun _ h=>h) rfl D (fun h hd=>⟨hH h hd,hρ h hd⟩) v u hd hv
 have hw0:E.w.heap.size≤Es.w.heap.size:=hEs.keeps.size
 have hB0:B.w0.heap.size≤E.w.heap.size:=hE.keeps.size
 have hfoot :∀ b,LZ E R b→B.F b∨B.w0.heap.size≤b:=fun b ⟨h2,_,k2,g2,g3⟩=>hE.own' _ _ _ g2 g3
 have R':HRel B E':=by
  refine ⟨fun h b hx=>?_,hEs.stab,fun h k b hx hb=>?_,fun h h' k k' b h1 h2 b1 b2=>?_,fun h k hx=>?_,?_,fun h k b hx hb=>?_,fun b hs=>Xs.s _ (hE.s0 b hs),fun b hs=>?_⟩
  ·by_cases hd:D h
   ·rw [hH h hd] at hx;exact hEs.used _ _ hx
   ·rw [hHn h hd] at hx;exact Xs.u _ (hE.used _ _ hx)
  ·by_cases hd:D h
   ·rw [hH h hd] at hx;exact hEs.lt' _ _ _ hx (tD hd hb)
   ·rw [hHn h hd] at hx;exact Nat.lt_of_lt_of_le (hE.lt' _ _ _ hx (tN hd hx hb)) hw0
  ·have mix :∀ h h' k k',D h→¬ D h'→E'.H h=some k→E'.H h'=some k'→Tch E' h k b→Tch E' h' k' b→False:=fun h h' k k' hd hd' h1 h2 b1 b2=>by
    rw [hH h hd] at h1;replace b1:=tD hd b1;rw [hHn h' hd'] at h2;replace b2:=tN hd' h2 b2
    rcases hEs.own' _ _ _ h1 b1 with h3|h3
    ·exact notF _ _ _ hd' h2 b2 h3
    ·have h4:=hE.lt' _ _ _ h2 b2
     have h5:E.w.heap.size≤b:=h3
     omega
   by_cases hd:D h <;> by_cases hd':D h'
   ·rw [hH h hd] at h1;rw [hH h' hd'] at h2
    exact hEs.inj' _ _ _ _ _ h1 h2 (tD hd b1) (tD hd' b2)
   ·exact (mix h h' k k' hd hd' h1 h2 b1 b2).elim
   ·exact (mix h' h k' k hd' hd h2 h1 b2 b1).elim
   ·rw [hHn h hd] at h1;rw [hHn h' hd'] at h2
    exact hE.inj' _ _ _ _ _ h1 h2 (tN hd h1 b1) (tN hd' h2 b2)
  ·by_cases hd:D h
   ·have hx':=hx
    rw [hH h hd] at hx'
    refine JR (E:=Es) (E':=E') (fun _ h=>h) (fun _ h=>h) (fun _ h=>h) rfl D (fun h hd=>⟨hH h hd,hρ h hd⟩) hd ?_ (hEs.blk _ _ hx')
    have hx2:aY E.H dh h=some k:=hx
    unfold aY at hx2
    cases hf:find dh h with
    | some k2=>rw [hf] at hx2;simp only [Option.some.injEq] at hx2;subst hx2;exact (hk h _ hf).2
    | none=>
     rw [hf] at hx2
     rcases hd with hd|hd
     ·exact hc h hd k hx2
     ·exact absurd (hE.used _ _ hx2) (hm h hd.1 hd.2)
   ·have hx':=hx
    rw [hHn h hd] at hx'
    refine dp X (hρn h hd) (fun b hb=>keep' h k b hd hx' hb) (fun b hb _ hs hs'=>?_) (hE.blk _ _ hx')
    rcases hEs.sb b hs' with h1|h1|h1
    ·exact hs h1
    ·exact notF h k b hd hx' hb h1
    ·have h4:=hE.lt' _ _ _ hx' hb
     have h5:E.w.heap.size≤b:=h1
     omega
  ·exact hE.keeps.trans hEs.keeps hfoot
  ·by_cases hd:D h
   ·rw [hH h hd] at hx
    rcases hEs.own' _ _ _ hx (tD hd hb) with h3|h3
    ·exact hfoot b h3
    ·exact .inr (Nat.le_trans hB0 h3)
   ·rw [hHn h hd] at hx;exact hE.own' _ _ _ hx (tN hd hx hb)
  ·rcases hEs.sb b hs with h1|h1|h1
   ·exact hE.sb b h1
   ·exact .inr (hfoot b h1)
   ·exact .inr (.inr (Nat.le_trans hB0 h1))
 exact ⟨E',⟨R',X,G.w,rfl,G.u⟩,trans⟩
end
section
open Go.RowKit
structure Cfg where
 tb:Tbl
 Γ:FuncId→Option Ctr
 K:Nat
 N:Nat
structure Dl where
 tm:List (Nat×V)
 hp:List (Nat×Blk)
structure St where
 tm:List (Nat×V)
 hp:List (Nat×Blk)
 H0:bj
 nx:Nat
def St.H (s:St):bj:=aY s.H0 s.hp
def St.app (s:St) (d:Dl) (nx:Nat):St:=⟨d.tm++s.tm,d.hp++s.hp,s.H0,nx⟩
def fD (tm:List (Nat×V)) (i:Nat):V:=match find tm i with|some v=>v|none=> .any
def EE (tm:List (Nat×V)):Operand→V
 | .tmp t=>fD tm t
 | .const v=>cv v
 | .func f=> .fn f []
 | .global _=> .any
def fq (rs:List Nat) (tm:List (Nat×V)):Operand→V
 | .tmp t=>bif memN rs t then fD tm t else .any
 | .const v=>cv v
 | .func f=> .fn f []
 | .global _=> .any
inductive Lf where
 | nrm|ext (id:Nat)|ret
inductive Tr where
 | leaf (e:Lf) (d:Dl) (nx:Nat)
 | br (b:Bool) (t e:Tr)
 | need (p:Prop) (t:Tr)
 | both (t u:Tr)
 | when (b:Bool) (t:Tr)
 | done
 | bad
def Tr.sat (Q:Lf→Dl→Nat→Prop):Tr→Prop
 | .leaf e d nx=>Q e d nx
 | .br b t e=>(b=true→t.sat Q)∧(b=false→e.sat Q)
 | .need p t=>p∧t.sat Q
 | .both t u=>t.sat Q∧u.sat Q
 | .when b t=>b=true→t.sat Q
 | .done=>True
 | .bad=>False
def needs:List Ob→Tr→Tr
 | [],t=>t
 | p::ps,t=> .need p.holds (needs ps t)
theorem zW {Q:Lf→Dl→Nat→Prop} {t:Tr} :∀ {ps:List Ob},(needs ps t).sat Q→(∀ p∈ps,p.holds)∧t.sat Q
 | [],h=>⟨fun p hp=>by simp at hp,h⟩
 | p::ps,h=>by
  simp only [needs,Tr.sat] at h
  obtain ⟨h1,h2⟩:=zW h.2
  exact ⟨fun q hq=>by rcases List.mem_cons.1 hq with rfl|hq;exact h.1;exact h1 q hq,h2⟩
def gw:Option Nat→V→List (Nat×V)
 | some d,v=> [(d,v)]
 | none,_=> []
def dstIn (N:Nat):Option Nat→Bool
 | some d=>Nat.blt d N
 | none=>true
def cn (all:List Oper) (o:Oper):List Nat:=
 (o.op.operands.toList.filterMap fun | .tmp t=>some t|_=>none) ++
  (match o.guard with|some (j,_)=>(match all[j]? with|some oj=>oj.dst.toList|none=> [])|none=> [])
def kH (all:List Oper) (tm:List (Nat×V)) (o:Oper):Option Bool:=
 match o.guard with
 | none=>some true
 | some (j,want)=>match all[j]? with
  | some oj=>match oj.dst with
   | some dj=>match fD tm dj with
    | .kb b=>some (b==want)
    | .tup []=>some false
    | _=>none
   | none=>none
  | none=>none
def OY (all:List Oper) (i:Nat):Bool:=all.any fun o=>match o.guard with|some (j,_)=>Nat.beq j i|none=>false
def No (H:bj):Nat→List Nat→List Nat→List Nat
 | 0,_,acc=>acc
 | n+1,new,acc=>
  let add:=new.filter fun h=>!memN acc h
  let nxt:=add.flatMap fun h=>match H h with|some b=>b.hs|none=> []
  match add with
  | []=>acc
  | _=>No H n nxt (add++acc)
def J7 (R:List Nat) (m K:Nat) (l:List Nat):Bool:=l.all fun h=>memN R h ||(Nat.ble m h&&Nat.blt h (m+K))
def Bn (H:bj) (R:List Nat) (m K:Nat) (v:V) (dh:List (Nat×Blk)):Bool:=
 (R.all fun h=>match H h with|some b=>J7 R m K b.hs|none=>false)&&(dh.all fun q=>J7 R m K [q.1]&&J7 R m K q.2.hs)&&J7 R m K v.hs
def gy (C:Cfg) (m:Nat) (H:bj) (ev:Operand→V) (o:Op):Option (List Ob×V×List (Nat×Blk)):=
 match yk C.tb H ev o with
 | some (ps,dh)=>some (ps,.tup [],dh)
 | none=>match qQ C.tb C.Γ m H ev o with
  | .val ps v dh=>some (ps,v,dh)
  | _=>none
structure Rec where
 dst:Option Nat
 v:V
 dh:List (Nat×Blk)
 R:List Nat
 rs:List Nat
def xR (C:Cfg) (dr:Bool) (rs:List Nat) (tm:List (Nat×V)) (H:bj) (m:Nat) (o:Oper):Option (List Ob×V×List (Nat×Blk)×List Nat):=
 match dr with
 | false=>match gy C m H (EE tm) o.op with
  | some (ps,v,dh)=>some (ps,v,dh,[])
  | none=>none
 | true=>
  let ev:=fq rs tm
  let R:=No H 8 (o.op.operands.toList.flatMap fun x=>(ev x).hs) []
  match gy C m (restr H R) ev o.op with
  | some (ps,v,dh)=>bif Bn H R m C.K v dh then some (ps,v,dh,R) else none
  | none=>none
def vB (ev:Operand→V):Op→Bool
 | .move _ | .assign _ | .pick _ _ _ | .alloc _ | .box _ _ | .build _ _ | .load _ _ | .nilCheck _ | .binOp _ _ _ _ _ | .unOp _ _ _ | .convert _ _ _ | .makeFunc _ _ _=>true
 | .fieldAddr _ _ _ | .field _ _ _ | .indexAddr _ _ _ | .index _ _ _ | .extract _ _ | .slice _ _ _ _ _=>true
 | .store _ a _=>match ev a with
  | .ptr _ _=>true
  | .gp _ _ _=>true
  | _=>false
 | .call c=>match c.callee with
  | .builtin .len=>true
  | .builtin .append=>true
  | _=>false
 | _=>false
def RZ (ev:Operand→V) (op:Op):List Nat:=
 match op with
 | .move _=> []
 | .assign _=> []
 | .nilCheck _=> []
 | .fieldAddr _ _ _=> []
 | op=>op.operands.toList.flatMap fun x=>(ev x).hs
def Ot (C:Cfg) (dr:Bool) (rs:List Nat) (tm:List (Nat×V)) (H:bj) (m:Nat) (o:Oper):Option (List Ob×V×List (Nat×Blk)×List Nat):=
 match dr with
 | false=>xR C false rs tm H m o
 | true=>match vB (fq rs tm) o.op with
  | true=>match gy C m H (fq rs tm) o.op with
   | some (ps,v,dh)=>some (ps,v,dh,RZ (fq rs tm) o.op)
   | none=>none
  | false=>xR C true rs tm H m o
def rr (acc:List Nat):List Edge→Nat
 | []=>0
 | e::es=>if Region.binds .any e then (rr acc es ||| 2 ^ e.on) |||(acc[e.on]?).getD 0 else rr acc es
def lG:List Oper→List Nat→List Nat
 | [],acc=>acc
 | o::os,acc=>lG os (acc++[rr acc o.after.toList])
def ik:Nat→List Oper→Bool
 | _,[]=>true
 | i,o::os=>(o.after.toList.all fun e=>!Region.binds .any e||Nat.blt e.on i)&&ik (i+1) os
def F5 (l r:List Nat):Bool:=l.all fun x=>!memN r x
def comm (r s:Rec):Bool:=
 F5 r.dst.toList s.dst.toList&&F5 r.dst.toList s.rs&&F5 s.dst.toList r.rs &&
  (F5 (r.dh.map (·.1)) (s.dh.map (·.1))&&F5 (r.dh.map (·.1)) s.R&&F5 (s.dh.map (·.1)) r.R)
def BU (ms:List Nat) (i:Nat) (r:Rec):Nat→List Rec→Bool
 | _,[]=>true
 | j,s::ss=>(((ms[j]?).getD 0).testBit i||comm r s)&&BU ms i r (j+1) ss
def lX (ms:List Nat):Nat→List Rec→Bool
 | _,[]=>true
 | i,r::rs=>BU ms i r (i+1) rs&&lX ms (i+1) rs
def CU (g:Bool) (v:V) (k:V→Tr):Tr:=
 match g,v with
 | true,.bool b=> .br b (k (.kb true)) (k (.kb false))
 | _,v=>k v
theorem xN {Q:Lf→Dl→Nat→Prop} {g:Bool} {v:V} {k:V→Tr} (h :(CU g v k).sat Q) :∃ v',(v'=v∨∃ b,v = .bool b∧v' = .kb b)∧(k v').sat Q:=by
 unfold CU at h
 split at h
 ·simp only [Tr.sat] at h
  rename_i b
  cases b with
  | true=>exact ⟨_,.inr ⟨true,rfl,rfl⟩,h.1 rfl⟩
  | false=>exact ⟨_,.inr ⟨false,rfl,rfl⟩,h.2 rfl⟩
 ·exact ⟨_,.inl rfl,h⟩
def CV (kd:IntKind) (n:Int) (k:V→Tr):Nat→Nat→Tr
 | 0,_=> .need False .done
 | m+1,j=> .br (n ==(j:Int)) (k (.int kd j)) (CV kd n k m (j+1))
def Br (tb:Tbl) (d:Option Nat):List Oper→Nat
 | []=>0
 | o::os=>match o.op,d with
  | .indexAddr t _ (.tmp i),some d=>bif Nat.beq i d then (match tb t with|some td=>(match td.kind with | .arr len _=>len|_=>Br tb (some d) os)|none=>0) else Br tb (some d) os
  | _,_=>Br tb d os
def Il (g:Bool) (l:Nat) (v:V) (k:V→Tr):Tr:=
 match l with
 | 0=>CU g v k
 | l+1=>match v with
  | .int kd n=>CV kd n k (l+1) 0
  | v=>CU g v k
theorem xO {Q:Lf→Dl→Nat→Prop} {kd:IntKind} {n:Int} {k:V→Tr} :∀ {m j:Nat},(CV kd n k m j).sat Q→(k (.int kd n)).sat Q
 | 0,j,h=>h.1.elim
 | m+1,j,h=>by
  simp only [CV,Tr.sat] at h
  cases hb:n ==(j:Int) with
  | true=>
   have:n =(j:Int):=by simpa using hb
   have:=h.1 hb
   rwa [←‹n =(j:Int)›] at this
  | false=>exact xO (h.2 hb)
theorem Im {Q:Lf→Dl→Nat→Prop} {g:Bool} {l:Nat} {v:V} {k:V→Tr} (h :(Il g l v k).sat Q) :∃ v',(v'=v∨∃ b,v = .bool b∧v' = .kb b)∧(k v').sat Q:=by
 unfold Il at h
 split at h
 ·exact xN h
 ·split at h
  ·exact ⟨_,.inl rfl,xO h⟩
  ·exact xN h
def tj (C:Cfg) (dr:Bool) (all:List Oper) (st:St):Nat→List Oper→Dl→List Rec→Tr
 | _,[],d,recs=>if dr=false∨(ik 0 all=true∧lX (lG all []) 0 recs=true) then .leaf .nrm d (st.nx+all.length*C.K) else .bad
 | i,o::rest,d,recs=>
  let tm:=d.tm++st.tm
  let rs:=cn all o
  bif dstIn C.N o.dst then
   match kH all tm o with
   | some false=>tj C dr all st (i+1) rest ⟨gw o.dst (.tup [])++d.tm,d.hp⟩ (recs++[⟨o.dst,.tup [],[],[],rs⟩])
   | some true=>match Ot C dr rs tm (aY st.H d.hp) (st.nx+i*C.K) o with
    | some (ps,v,dh,R)=>needs ps (Il (OY all i) (Br C.tb o.dst rest) v fun v=>tj C dr all st (i+1) rest ⟨gw o.dst v++d.tm,dh++d.hp⟩ (recs++[⟨o.dst,v,dh,R,rs⟩]))
    | none=> .bad
   | none=> .bad
  else .bad
inductive Does (C:Cfg) (dr:Bool) (all:List Oper) (tm:List (Nat×V)) (H:bj) (m:Nat) (o:Oper):Rec→Prop
 | skip:dstIn C.N o.dst=true→kH all tm o=some false→Does C dr all tm H m o ⟨o.dst,.tup [],[],[],cn all o⟩
 | run {ps:List Ob} {v v':V} {dh:List (Nat×Blk)} {R:List Nat}:dstIn C.N o.dst=true→kH all tm o=some true→xR C dr (cn all o) tm H m o=some (ps,v,dh,R)→(∀ p∈ps,p.holds)→
   (v'=v∨∃ b,v = .bool b∧v' = .kb b)→Does C dr all tm H m o ⟨o.dst,v',dh,R,cn all o⟩
 | dir {ps:List Ob} {v v':V} {dh:List (Nat×Blk)}:dr=true→dstIn C.N o.dst=true→kH all tm o=some true→vB (fq (cn all o) tm) o.op=true→gy C m H (fq (cn all o) tm) o.op=some (ps,v,dh)→(∀ p∈ps,p.holds)→
   (v'=v∨∃ b,v = .bool b∧v' = .kb b)→Does C dr all tm H m o ⟨o.dst,v',dh,RZ (fq (cn all o) tm) o.op,cn all o⟩
theorem x7 {C:Cfg} {dr:Bool} {all:List Oper} {tm:List (Nat×V)} {H:bj} {m:Nat} {o:Oper} {ps:List Ob} {v v':V} {dh:List (Nat×Blk)} {R:List Nat} (h1:dstIn C.N o.dst=true) (h2:kH all tm o=some true) (h3:Ot C dr (cn all o) tm H m o=some (ps,v,dh,R)) (h4 :∀ p∈ps,p.holds)
  (h5:v'=v∨∃ b,v = .bool b∧v' = .kb b):Does C dr all tm H m o ⟨o.dst,v',dh,R,cn all o⟩:=by
 unfold Ot at h3
 split at h3
 ·exact .run h1 h2 h3 h4 h5
 ·split at h3
  ·rename_i hd
   split at h3
   ·rename_i he
    simp only [Option.some.injEq,Prod.mk.injEq] at h3
    obtain ⟨rfl,rfl,rfl,rfl⟩:=h3
    exact .dir rfl h1 h2 hd he h4 h5
   ·cases h3
  ·exact .run h1 h2 h3 h4 h5
inductive Run (C:Cfg) (dr:Bool) (all:List Oper) (st:St):Nat→List Oper→Dl→List Rec→Dl→List Rec→Prop
 | nil {i:Nat} {d:Dl} {recs:List Rec}:Run C dr all st i [] d recs d recs
 | cons {i:Nat} {o:Oper} {rest:List Oper} {d:Dl} {recs:List Rec} {r:Rec} {df:Dl} {rf:List Rec}:Does C dr all (d.tm++st.tm) (aY st.H d.hp) (st.nx+i*C.K) o r→
   Run C dr all st (i+1) rest ⟨gw r.dst r.v++d.tm,r.dh++d.hp⟩ (recs++[r]) df rf→Run C dr all st i (o::rest) d recs df rf
theorem kn {C:Cfg} {dr:Bool} {all:List Oper} {st:St} {Q:Lf→Dl→Nat→Prop} :∀ (rest:List Oper) (i:Nat) (d:Dl) (recs:List Rec),(tj C dr all st i rest d recs).sat Q→
  ∃ df rf,Run C dr all st i rest d recs df rf∧(dr=false∨(ik 0 all=true∧lX (lG all []) 0 rf=true))∧Q .nrm df (st.nx+all.length*C.K)
 | [],i,d,recs,h=>by
  unfold tj at h
  split at h
  ·rename_i hc
   exact ⟨d,recs,.nil,hc,h⟩
  ·exact h.elim
 | o::rest,i,d,recs,h=>by
  unfold tj at h
  dsimp only at h
  cases hd:dstIn C.N o.dst with
  | false=>rw [hd] at h;exact h.elim
  | true=>
   rw [hd] at h
   simp only [cond_true] at h
   split at h
   ·rename_i hg
    obtain ⟨df,rf,h1,h2⟩:=kn rest _ _ _ h
    exact ⟨df,rf,.cons (.skip hd hg) h1,h2⟩
   ·rename_i hg
    split at h
    case h_2=>exact h.elim
    rename_i ps v dh R hs
    obtain ⟨hps,h⟩:=zW h
    obtain ⟨v',hv,h⟩:=Im h
    obtain ⟨df,rf,h1,h2⟩:=kn rest _ _ _ h
    exact ⟨df,rf,.cons (x7 hd hg hs hps hv) h1,h2⟩
   ·exact h.elim
variable {P:Program}
structure SRel (B:Base) (N:Nat) (T:Nat→Option V) (H:bj) (U:Nat→Prop) (a:Act) (w:World):Prop where
 ex :∃ E,HRel B E∧E.w=w∧E.H=H∧(B.G E∧∀ n,E.U n→U n)∧∀ s v,T s=some v→af E v (a.tmps.getD s undef)
 size:a.tmps.size=N
 defers:a.defers=B.dfs
theorem cY {α:Type} (l r:List (Nat×α)) (i:Nat):find (l++r) i=match find l i with|some v=>some v|none=>find r i:=by
 induction l with
 | nil=>rfl
 | cons x l ih=>
  obtain ⟨k,v⟩:=x
  simp only [List.cons_append,find]
  cases Nat.beq k i with
  | true=>rfl
  | false=>simpa using ih
theorem dN (H:bj) (l r:List (Nat×Blk)):aY H (l++r)=aY (aY H r) l:=by
 funext h
 simp only [aY,cY]
 cases find l h <;> rfl
theorem vy {E:Env} (v:Value):af E (cv v) v:=by
 unfold cv
 split
 ·split
  ·rename_i h;exact jb h
  ·simp [af]
 ·exact vkb _
 ·split
  ·rename_i h;exact LC h
  ·simp [af]
 ·simp [af]
 ·simp [af]
 ·simp [af]
 ·simp [af]
 ·simp [af]
def ju (E:Env) (T:Nat→Option V) (a:Act):Prop:=∀ s v,T s=some v→af E v (a.tmps.getD s undef)
theorem du {E:Env} {tm:List (Nat×V)} {a:Act} (h:ju E (find tm) a) (s:Nat):af E (fD tm s) (a.tmps.getD s undef):=by
 unfold fD
 cases hf:find tm s with
 | some v=>exact h s v hf
 | none=>simp [af]
theorem kc {E:Env} {tm:List (Nat×V)} {a:Act} (h:ju E (find tm) a) (x:Operand):af E (EE tm x) (a.eval x):=by
 cases x with
 | tmp t=>exact du h t
 | const v=>exact vy v
 | func f=>simp only [EE,af,Act.eval];exact ⟨#[],rfl,by simp [ah]⟩
 | _=>simp [EE,af]
theorem Does.dstIn {C:Cfg} {dr:Bool} {all:List Oper} {tm:List (Nat×V)} {H:bj} {m:Nat} {o:Oper} {r:Rec} (h:Does C dr all tm H m o r):dstIn C.N o.dst=true∧r.dst=o.dst∧r.rs=cn all o:=by
 cases h with
 | skip h _=>exact ⟨h,rfl,rfl⟩
 | run h _ _ _ _=>exact ⟨h,rfl,rfl⟩
 | dir _ h _ _ _ _ _=>exact ⟨h,rfl,rfl⟩
theorem Nn {E E':Env} (X:Ext E E') {T:Nat→Option V} {a:Act} (h:ju E T a) {N:Nat} (hs:a.tmps.size=N) {dst:Option Nat} (hd:dstIn N dst=true) {v:V} {v':Value} (hv:af E' v v') {T':Nat→Option V}
  (hT :∀ s u,T' s=some u→find (gw dst v) s=some u∨(find (gw dst v) s=none∧T s=some u)):ju E' T' (a.put dst v'):=by
 intro s u hu
 cases dst with
 | none=>
  rcases hT s u hu with h1|h1
  ·simp [gw,find] at h1
  ·exact cF X _ _ (h s u h1.2)
 | some d=>
  simp only [Mir.dstIn,Nat.blt_eq] at hd
  simp only [Act.put]
  rcases hT s u hu with h1 |⟨h1,h2⟩
  ·simp only [gw,find] at h1
   cases hb:Nat.beq d s with
   | true=>
    rw [hb] at h1
    simp only [cond_true,Option.some.injEq] at h1
    subst h1
    obtain rfl:=Nat.eq_of_beq_eq_true hb
    have :(a.tmps.setIfInBounds d v').getD d undef=v':=by simp [Array.getD_eq_getD_getElem?,hs,hd]
    rw [this];exact hv
   | false=>rw [hb] at h1;simp at h1
  ·simp only [gw,find] at h1
   cases hb:Nat.beq d s with
   | true=>rw [hb] at h1;simp at h1
   | false=>
    have hne:d≠s:=fun e=>by subst e;rw [Nat.beq_refl] at hb;cases hb
    have :(a.tmps.setIfInBounds d v').getD s undef=a.tmps.getD s undef:=by
     simp [Array.getD_eq_getD_getElem?,Array.getElem?_setIfInBounds_ne hne]
    rw [this];exact cF X _ _ (h s u h2)
theorem ES {a:Act} {dst:Option Nat} {v:Value} :(a.put dst v).tmps.size=a.tmps.size:=by cases dst <;> simp [Act.put]
theorem xk {a:Act} {dst:Option Nat} {v:Value} :(a.put dst v).defers=a.defers:=by cases dst <;> simp [Act.put]
theorem L2 {t:Array Value} {d:Nat} {v:Value} (h:t.getD d undef=v) (hv:v≠undef):t[d]?=some v:=by
 rw [Array.getD_eq_getD_getElem?] at h
 cases hx:t[d]? with
 | none=>rw [hx] at h;exact absurd h.symm hv
 | some u=>rw [hx] at h;simpa using h
theorem tz {E:Env} {all:List Oper} {T:Nat→V} {a:Act} (hT :∀ s,af E (T s) (a.tmps.getD s undef)) {o:Oper} {b:Bool}
  (h :(match o.guard with
   | none=>some true
   | some (j,want)=>match all[j]? with
    | some oj=>match oj.dst with
     | some dj=>match T dj with
      | .kb b=>some (b==want)
      | .tup []=>some false
      | _=>none
     | none=>none
    | none=>none:Option Bool)=some b):Region.wanted o (yielded all.toArray a.tmps)=b:=by
 unfold Region.wanted
 cases hg:o.guard with
 | none=>rw [hg] at h;simpa using h
 | some q=>
  obtain ⟨j,want⟩:=q
  rw [hg] at h
  simp only at h ⊢
  cases hj:all[j]? with
  | none=>rw [hj] at h;simp at h
  | some oj=>
   rw [hj] at h
   simp only at h
   cases hd:oj.dst with
   | none=>rw [hd] at h;simp at h
   | some dj=>
    rw [hd] at h
    simp only at h
    have hv:=hT dj
    have hy:yielded all.toArray a.tmps j=match a.tmps[dj]? with|some (.bool b)=>some b|_=>none:=by
     unfold yielded
     simp only [List.getElem?_toArray,hj,Option.bind_some,hd]
     rfl
    rw [hy]
    split at h
    ·rename_i b' hb
     rw [hb] at hv
     simp only [af] at hv
     rw [L2 hv (by simp [undef])]
     simp only [Option.some.injEq] at h
     subst h
     cases b' <;> cases want <;> rfl
    ·rename_i hb
     rw [hb] at hv
     simp only [af] at hv
     obtain ⟨l,hl,hv⟩:=hv
     have hl0:l.toList=[]:=by cases hx:l.toList with|nil=>rfl|cons=>rw [hx] at hv;simp [ah] at hv
     have hl1:l=#[]:=by apply Array.ext';simpa using hl0
     subst hl1
     simp only [Option.some.injEq] at h
     subst h
     rw [Array.getD_eq_getD_getElem?] at hl
     cases hx:a.tmps[dj]? with
     | none=>rfl
     | some u=>rw [hx] at hl;simp only [Option.getD_some] at hl;subst hl;rfl
    ·cases h
theorem pG {E:Env} {all:List Oper} {tm:List (Nat×V)} {a:Act} (hT:ju E (find tm) a) {o:Oper} {b:Bool} (h:kH all tm o=some b):Region.wanted o (yielded all.toArray a.tmps)=b:=
 tz (E:=E) (T:=fD tm) (fun s=>du hT s) h
theorem nb {B:Base} {E:Env} (hE:HRel B E) {C:Cfg} (hT:c8 P C.tb) (hK:1≤C.K) (hΓ :∀ f c,C.Γ f=some c→CtrOK P C.K f c) {m:Nat} (hm :∀ n,m≤n→n<m+C.K→¬ E.U n) {ev:Operand→V} {a:Act} (hev :∀ x,af E (ev x) (a.eval x))
  {o:Oper} {ps:List Ob} {v:V} {dh:List (Nat×Blk)} (h:gy C m E.H ev o.op=some (ps,v,dh)) (hps :∀ p∈ps,p.holds) {next:Act→World→Prop} {Q:Exit→Act→World→Prop}
  (hn :∀ v' E',GoodK B E m C.K dh E'.w E'→af E' v v'→next (a.put o.dst v') E'.w):o.wp P a E.w next Q:=by
 unfold gy at h
 split at h
 ·rename_i ps' dh' hs
  cases h
  exact Ga hE hT hK hev hs fun E' G=>hn _ _ G (by simp [af,undef,ah])
 ·split at h
  case h_2=>cases h
  rename_i ps' v' dh' hs
  cases h
  exact F8 hE hT hK hΓ hm hev hs hps hn
theorem TU {E:Env} {v v':V} {u:Value} (h:v'=v∨∃ b,v = .bool b∧v' = .kb b) (hv:af E v u):af E v' u:=by
 rcases h with rfl |⟨b,rfl,rfl⟩
 ·exact hv
 ·simpa [af] using hv
structure CfgOK (P:Program) (C:Cfg):Prop where
 tb:c8 P C.tb
 K:1≤C.K
 Γ :∀ f c,C.Γ f=some c→CtrOK P C.K f c
theorem vb {C:Cfg} (hC:CfgOK P C) {B:Base} {all:List Oper} {st:St} {Q:Exit→Act→World→Prop} :∀ (rest:List Oper) (i:Nat) (d:Dl) (recs:List Rec) (df:Dl) (rf:List Rec),Run C false all st i rest d recs df rf→
  (∀ a w,SRel B C.N (find (df.tm++st.tm)) (aY st.H df.hp) (fun n=>n<st.nx +(i+rest.length)*C.K) a w→Q .normal a w)→
  ∀ a w,SRel B C.N (find (d.tm++st.tm)) (aY st.H d.hp) (fun n=>n<st.nx+i*C.K) a w→wpList P all.toArray Q rest a w
 | [],i,d,recs,df,rf,hr,hQ,a,w,hs=>by
  cases hr
  exact wpList_nil (hQ a w (by simpa using hs))
 | o::rest,i,d,recs,df,rf,hr,hQ,a,w,hs=>by
  cases hr with
  | @cons _ _ _ _ _ r _ _ hdo hrun=>
   have ih:=vb hC (B:=B) (Q:=Q) rest (i+1) _ _ _ _ hrun (fun a w h=>hQ a w (by
    have e:i+1+rest.length=i +(o::rest).length:=by simp;omega
    rw [e] at h;exact h))
   obtain ⟨⟨E,hE,rfl,hH,⟨hG,hU⟩,hT⟩,hsz,hdf⟩:=hs
   have hTm:ju E (find (d.tm++st.tm)) a:=hT
   have after :∀ (E':Env) (v':Value),GoodK B E (st.nx+i*C.K) C.K r.dh E'.w E'→af E' r.v v'→dstIn C.N o.dst=true→r.dst=o.dst→
     SRel B C.N (find (gw r.dst r.v++d.tm++st.tm)) (aY st.H (r.dh++d.hp)) (fun n=>n<st.nx +(i+1)*C.K) (a.put o.dst v') E'.w:=fun E' v' G hv hd he=>by
    refine ⟨⟨E',G.rel,rfl,by rw [G.h,dN,hH],⟨B.clo _ _ hG G.ext,fun n hn=>?_⟩,?_⟩,by rw [ES];exact hsz,by rw [xk];exact hdf⟩
    ·rw [Nat.add_mul,Nat.one_mul]
     rcases G.u n hn with h|h
     ·have:=hU n h;omega
     ·omega
    ·rw [he]
     exact Nn G.ext hTm hsz hd hv (fun s u hu=>by
      rw [List.append_assoc,cY] at hu
      cases hf:find (gw o.dst r.v) s with
      | some x=>rw [hf] at hu;exact .inl hu
      | none=>rw [hf] at hu;exact .inr ⟨rfl,hu⟩)
   obtain ⟨hd,he,_⟩:=hdo.dstIn
   unfold wpList
   cases hdo with
   | dir hdr=>cases hdr
   | skip _ hg=>
    have hw:=pG (E:=E) hTm hg
    rw [hw]
    simp only [Bool.false_eq_true,if_false]
    exact ih _ _ (after E undef ⟨hE,Ext.refl E,rfl,rfl,fun n h=> .inl h⟩ (by simp [af,undef,ah]) hd rfl)
   | @run ps v v' dh R _ hg hst hps hv=>
    have hw:=pG (E:=E) hTm hg
    rw [hw]
    simp only [if_true]
    simp only [xR] at hst
    split at hst
    case h_2=>cases hst
    rename_i ps' v2 dh' hev
    cases hst
    rw [←hH] at hev
    exact .inl (nb hE hC.tb hC.K hC.Γ (fun n h1 h2 hu=>by have:=hU n hu;omega) (kc hTm) hev hps fun v'' E' G hv'=>ih _ _ (after E' v'' G (TU hv hv') hd rfl))
end
end Go.Mir
