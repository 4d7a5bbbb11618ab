/- Texts of the mirror and contracts, put together. -/
import Derived.Test.YtffdpnmioidloaaGreatDoorPT4
import Derived.Shelf.Strings.BuilderF
import Derived.Lib.FrozenHead2
import Derived.Shelf.Small.Strs
import Derived.Test.YtffdpnmioidloaaGreatDoorPT3
namespace Go.Proofs.YtffdpnmioidloaaGreatDoor
open Go Go.Mir Go.RowKit Go.Shelf
structure FrB (b:Nat) (w w':World):Prop where
 keeps:Keeps w (fun k=>k=b∨eY w b=some k) w'
 buf :∀ k,eY w' b=some k→eY w b=some k∨(w.heap.size≤k∧k<w'.heap.size)
theorem ji {w:World} {b:Nat} {p v:Value} {T:TypeId} {fr:Nat×Nat} (h:w.heap[b]?=some (.cells #[p,v] T fr)):eY w b=v.ownBlock:=by
 unfold eY
 rw [h]
 rfl
theorem su {w:World} {a:Addr} {v:Value} {k:Nat} (h:k≠a.block) :(w.setCell a v).heap[k]?=w.heap[k]?:=Below.heap_setCell _ _ _ _ h
theorem Kl {P:Program} (w:World) (t u ty e:TypeId) (i:TypeInfo) (ht:P.underlying t=some (.slice e)) (hu:P.underlying u=some .string) (hi:P.info? e=some i) (hz:i.zero=some (.int .u8 0))
  (hsize:i.size=1) (hby:i.bytes=1) (v:Value) (n:Nat) (xs:List Value) (hown:w.ownsRowF 0 e 1 v n xs) (s:ByteArray) (h63:n+s.size≤maxLen) (hbytes:n+s.size≤140737488355328) :
  ∃ v' w',(Builtin.append_ #[t,u] ty #[v,.string s]).run P w = .ok v' w'∧w'.ownsRowF 0 e 1 v' (n+s.size) (xs++Lib.strCells s)∧w.grownBy w' v.ownBlock∧∀ g,v'.ownBlock=some g→v.ownBlock=some g∨w.heap.size≤g:=by
 obtain ⟨v',w',h1,h2,h3,_⟩:=Lib.run_append_own_stringF (P:=P) w 0 t u ty e i ht hu hi hz hsize hby v n xs hown s h63 hbytes (Nat.zero_le _)
 refine ⟨v',w',h1,h2,h3,fun g hg=>?_⟩
 rcases hown.2 with ⟨rfl,rfl⟩ |⟨g0,cap,cur,fz,rfl,hbg,hg0,hfz,hnc,hcm,hcs,htake⟩
 ·obtain ⟨v1,w1,k1,k2,_,_⟩:=Lib.run_append_own_stringF (P:=P) w w.heap.size t u ty e i ht hu hi hz hsize hby (.slice none 0 0) 0 xs ⟨hown.1,.inl ⟨rfl,rfl⟩⟩ s h63 hbytes (Nat.le_refl _)
  rw [h1] at k1
  cases k1
  exact .inr (k2.lt g hg).1
 ·have hcs':cur.size=cap:=by simpa using hcs
  by_cases hroom:n+s.size≤cap
  ·have hr:=Lib.run_append_room_stringF (P:=P) w t u ty e i ht hu hi hsize g0 n cap cur fz hg0 (by simpa using hfz) s hroom (by omega)
   rw [h1] at hr
   cases hr
   exact .inl hg
  ·have hxl:xs.length=n:=by simpa using hown.1
   have hsmall:n+s.size≤9223372036854775807:=by simp only [maxLen] at h63;omega
   have hr:=Lib.run_append_grow_string (P:=P) w t u ty e i (.int .u8 0) ht hu hi hz ⟨g0,0,none⟩ n cap xs (by rw [hsize];simpa using hxl) (hown.cells (g:=g0) rfl) s (by omega) (by omega) (by rw [hby];exact growslice_fits (by omega) (by omega))
   rw [h1] at hr
   cases hr
   simp only [Value.ownBlock,Option.some.injEq] at hg
   subst hg
   exact .inr (Nat.le_refl _)
theorem Bh {P:Program} (w:World) {ops:Array Oper} {rest:List Oper} {o:Oper} {a:Act} {Q:Exit→Act→World→Prop} (hgd:o.guard=none) (sl x:Operand) (t u:TypeId)
  (ho:o.op = .call { callee:= .builtin .append,args:=#[sl,x],argTypes:=#[t,u] }) (e:TypeId) (i:TypeInfo) (ht:P.underlying t=some (.slice e)) (hu:P.underlying u=some .string) (hi:P.info? e=some i) (hz:i.zero=some (.int .u8 0))
  (hsize:i.size=1) (hby:i.bytes=1) (v:Value) (n:Nat) (xs:List Value) (hs:a.eval sl=v) (hown:w.ownsRowF 0 e 1 v n xs) (s:ByteArray) (hx:a.eval x = .string s) (h63:n+s.size≤maxLen) (hbytes:n+s.size≤140737488355328)
  (h :∀ v' w',w'.ownsRowF 0 e 1 v' (n+s.size) (xs++Lib.strCells s)→w.grownBy w' v.ownBlock→(∀ g,v'.ownBlock=some g→v.ownBlock=some g∨w.heap.size≤g)→wpList P ops Q rest (a.put o.dst v') w'):wpList P ops Q (o::rest) a w:=by
 refine wpList_plain hgd fun K hK=>?_
 obtain ⟨v',w',hr,h2,h3,h4⟩:=Kl (P:=P) w t u o.type e i ht hu hi hz hsize hby v n xs hown s h63 hbytes
 unfold Oper.wp execOp
 simp only [ho,resolve,invoke,builtin,Sem.run_bind,Sem.run_pure,Result.andThen_ok,List.map_toArray,List.map_cons,List.map_nil,hs,hx,hr]
 exact hK _ _ (h v' w' h2 h3 h4)
theorem Gw {P:Program} (w:World) (t ty e:TypeId) (i:TypeInfo) (ht:P.underlying t=some (.slice e)) (hi:P.info? e=some i) (hz:i.zero=some (.int .u8 0))
  (hsize:i.size=1) (hby:i.bytes=1) (v:Value) (n:Nat) (xs:List Value) (hown:w.ownsRowF 0 e 1 v n xs) (a:Addr) (c:Value) (hc:w.cell? a=some c) (hc1:c.oneCell'=true) (h63:n+1≤maxLen) (hbytes:n+1≤140737488355328) :
  ∃ v' w',(Builtin.append_ #[t,t] ty #[v,.slice (some a) 1 1]).run P w = .ok v' w'∧w'.ownsRowF 0 e 1 v' (n+1) (xs++[c])∧w.grownBy w' v.ownBlock∧∀ g,v'.ownBlock=some g→v.ownBlock=some g∨w.heap.size≤g:=by
 have hnews :∀ j u,[c][j]?=some u→w.cell? (a.add j)=some u:=fun j u hj=>by
  cases j with
  | zero=>simp at hj;subst hj;simpa [Addr.add] using hc
  | succ j=>simp at hj
 have h1c :∀ u∈ [c],u.oneCell'=true:=fun u hu=>by simp at hu;subst hu;exact hc1
 obtain ⟨v',w',h1,h2,h3,_⟩:=run_append_ownF (P:=P) w 0 t ty e i (.int .u8 0) 1 1 ht hi hz hsize hby rfl (by decide) v n xs hown a 1 1 [c] rfl hnews h1c h63 (by omega) (Nat.zero_le _)
 refine ⟨v',w',h1,h2,h3,fun g hg=>?_⟩
 rcases hown.2 with ⟨rfl,rfl⟩ |⟨g0,cap,cur,fz,rfl,hbg,hg0,hfz,hnc,hcm,hcs,htake⟩
 ·obtain ⟨v1,w1,k1,k2,_,_⟩:=run_append_ownF (P:=P) w w.heap.size t ty e i (.int .u8 0) 1 1 ht hi hz hsize hby rfl (by decide) (.slice none 0 0) 0 xs ⟨hown.1,.inl ⟨rfl,rfl⟩⟩ a 1 1 [c] rfl hnews h1c h63 (by omega) (Nat.le_refl _)
  rw [h1] at k1
  cases k1
  exact .inr (k2.lt g hg).1
 ·have hcs':cur.size=cap:=by simpa using hcs
  by_cases hroom:n+1≤cap
  ·have hr:=run_append_roomF (P:=P) w t ty e i ht hi g0 n cap cur fz hg0 (by rw [hsize];exact hfz) a 1 1 [c] (by rw [hsize];rfl) hnews h1c hroom (by rw [hsize];simp;omega)
   rw [h1] at hr
   cases hr
   exact .inl hg
  ·have hxl:xs.length=n:=by simpa using hown.1
   have hr:=run_append_grow (P:=P) w t ty e i (.int .u8 0) ht hi hz ⟨g0,0,none⟩ n cap xs (by rw [hsize];simpa using hxl) (hown.cells (g:=g0) rfl) a 1 1 [c] (by rw [hsize];rfl) hnews (by omega) (by simp only [maxLen] at h63;omega) (by rw [hby];exact growslice_fits (by omega) (by omega))
   rw [h1] at hr
   cases hr
   simp only [Value.ownBlock,Option.some.injEq] at hg
   subst hg
   exact .inr (Nat.le_refl _)
theorem yg {P:Program} (w:World) {ops:Array Oper} {rest:List Oper} {o:Oper} {a:Act} {Q:Exit→Act→World→Prop} (hgd:o.guard=none) (sl x:Operand) (t:TypeId)
  (ho:o.op = .call { callee:= .builtin .append,args:=#[sl,x],argTypes:=#[t,t] }) (e:TypeId) (i:TypeInfo) (ht:P.underlying t=some (.slice e)) (hi:P.info? e=some i) (hz:i.zero=some (.int .u8 0))
  (hsize:i.size=1) (hby:i.bytes=1) (v:Value) (n:Nat) (xs:List Value) (hs:a.eval sl=v) (hown:w.ownsRowF 0 e 1 v n xs) (ad:Addr) (c:Value) (hx:a.eval x = .slice (some ad) 1 1) (hc:w.cell? ad=some c) (hc1:c.oneCell'=true) (h63:n+1≤maxLen) (hbytes:n+1≤140737488355328)
  (h :∀ v' w',w'.ownsRowF 0 e 1 v' (n+1) (xs++[c])→w.grownBy w' v.ownBlock→(∀ g,v'.ownBlock=some g→v.ownBlock=some g∨w.heap.size≤g)→wpList P ops Q rest (a.put o.dst v') w'):wpList P ops Q (o::rest) a w:=by
 refine wpList_plain hgd fun K hK=>?_
 obtain ⟨v',w',hr,h2,h3,h4⟩:=Gw (P:=P) w t o.type e i ht hi hz hsize hby v n xs hown ad c hc hc1 h63 hbytes
 unfold Oper.wp execOp
 simp only [ho,resolve,invoke,builtin,Sem.run_bind,Sem.run_pure,Result.andThen_ok,List.map_toArray,List.map_cons,List.map_nil,hs,hx,hr]
 exact hK _ _ (h v' w' h2 h3 h4)
section
variable {P:Program} {ρ:Ren}
theorem GR (L:Lays.n240 P ρ) (X:Builder.X72 P ρ) (b:Nat) (bs:List Value) (w:World) (h:Lib.IsBuilderF (ρ.t 72) (ρ.t 5) 0 b bs w) :
  Calls P (ρ.f 240) #[.pointer (some ⟨b,0,none⟩)] w fun e w'=>e = .returned (.tuple #[])∧Lib.BuilderAtF (ρ.t 72) (ρ.t 5) 0 b (.pointer (some ⟨b,0,none⟩)) bs w'∧w'.os=w.os∧w'.tape=w.tape∧w'.output=w.output∧(w'.heap.size≤w.heap.size∧w.heap.size≤w'.heap.size)∧(∀ k,k≠b→w'.heap[k]?=w.heap[k]?)∧eY w' b=eY w b:=by
 rcases h with h|h
 ·refine (Any.Builder_copyCheck_fresh L X b w h.cell0 h.shape h.frozen0).mono ?_
  rintro e w' ⟨rfl,rfl⟩
  have hu:=h.used (.pointer (some ⟨b,0,none⟩))
  refine ⟨rfl,hu,rfl,rfl,rfl,⟨by simp [World.setCell],by simp [World.setCell]⟩,fun k hk=>su hk,?_⟩
  obtain ⟨_,v,h1,_⟩:=h
  have h2 :(w.setCell ⟨b,0,none⟩ (.pointer (some ⟨b,0,none⟩))).heap[b]?=some (.cells #[.pointer (some ⟨b,0,none⟩),v] (ρ.t 72) (0,0)):=by simp [World.setCell,Array.getElem?_modify,h1]
  rw [ji h1,ji h2]
 ·refine (Any.Builder_copyCheck_used L X b w h.cell0).mono ?_
  rintro e w' ⟨rfl,rfl⟩
  exact ⟨rfl,h,rfl,rfl,rfl,⟨Nat.le_refl _,Nat.le_refl _⟩,fun _ _=>rfl,rfl⟩
theorem Hg {b:Nat} {w w1 w2:World} {v v':Value} {T:TypeId} (h1:w1.os=w.os) (h2:w1.tape=w.tape) (h3:w1.output=w.output) (h4:w.heap.size≤w1.heap.size) (h5 :∀ k,k<w.heap.size→k≠b→w1.heap[k]?=w.heap[k]?) (h6:v.ownBlock=eY w b)
  (hb:w2.heap[b]?=some (.cells #[.pointer (some ⟨b,0,none⟩),v] T (0,0))) (hgr:w1.grownBy w2 v.ownBlock) (hv :∀ g,v'.ownBlock=some g→v.ownBlock=some g∨w1.heap.size≤g) (hlt :∀ g,v'.ownBlock=some g→g<w2.heap.size):FrB b w (w2.setCell ⟨b,1,none⟩ v'):=by
 refine ⟨⟨hgr.os.trans h1,hgr.tape.trans h2,hgr.output.trans h3,?_,fun k hk hn=>?_⟩,fun k hk=>?_⟩
 ·have:=hgr.size
  simp [World.setCell];omega
 ·have n1:k≠b:=fun e=>hn (.inl e)
  have n2:some k≠v.ownBlock:=fun e=>hn (.inr (by rw [←h6,←e]))
  rw [su n1,hgr.block k (by omega) n2,h5 k hk n1]
 ·have hb' :(w2.setCell ⟨b,1,none⟩ v').heap[b]?=some (.cells #[.pointer (some ⟨b,0,none⟩),v'] T (0,0)):=by simp [World.setCell,Array.getElem?_modify,hb]
  rw [ji hb'] at hk
  rcases hv k hk with h|h
  ·exact .inl (by rw [←h6];exact h)
  ·have:=hlt k hk
   exact .inr ⟨by omega,by simpa [World.setCell] using this⟩
set_option maxHeartbeats 2000000 in
set_option maxRecDepth 100000 in
theorem PM (L:Lays.n166 P ρ) (X:Builder.Extra P ρ) (b:Nat) (bs:List Value) (s:ByteArray) (w:World) (h:Lib.IsBuilderF (ρ.t 72) (ρ.t 5) 0 b bs w) (hlen:bs.length+s.size≤140737488355328) :
  Calls P (ρ.f 166) #[.pointer (some ⟨b,0,none⟩),.string s] w fun e w'=>e = .returned (.tuple #[.int .i64 s.size,.nilIface])∧Lib.BuilderAtF (ρ.t 72) (ρ.t 5) 0 b (.pointer (some ⟨b,0,none⟩)) (bs++Lib.strCells s) w'∧FrB b w w':=by
 obtain ⟨i0,hi,hz0,hz1,hz2⟩:=info_parts X.infoByte
 have mixed:=L.mixed
 have t72:=L.t72;have a72:=L.a72;have z72:=L.z72;have v72:=L.v72;have u72:=run_underlying L.t72
 have t70:=L.t70;have a70:=L.a70;have z70:=L.z70;have v70:=L.v70;have u70:=run_underlying L.t70
 have t37:=L.t37;have a37:=L.a37;have z37:=L.z37;have v37:=L.v37;have u37:=run_underlying L.t37
 have t3:=L.t3;have a3:=L.a3;have z3:=L.z3;have v3:=L.v3;have u3:=run_underlying L.t3
 have t9:=L.t9;have a9:=L.a9;have z9:=L.z9;have v9:=L.v9;have u9:=run_underlying L.t9
 have t4:=L.t4;have a4:=L.a4;have z4:=L.z4;have v4:=L.v4;have u4:=run_underlying L.t4
 have t164:=L.t164;have a164:=L.a164;have z164:=L.z164;have v164:=L.v164;have u164:=run_underlying L.t164
 have t5:=X.t5;have a5:=X.a5;have z5:=X.z5;have v5:=X.v5;have u5:=run_underlying X.t5
 have e240 :∀ args w,(callFunc (ρ.f 240) args).run P w = .ok (.enter (ρ.f 240) args) w:=enters_of L.f240 (by kernel_rfl) rfl
 go_enter L.f166,Body.n166_ntmps ρ
 go_wp2_with (go_at_fn (ρ.f 240);refine (GR { L with } X.toX72 b bs _ h).mono ?_)
 rintro e w1 ⟨rfl,h1,o1,o2,o3,o4,o5,o6⟩
 obtain ⟨hB,v,hbk,hown,hne⟩:=h1
 have c0:w1.cell? ⟨b,0,none⟩=some (.pointer (some ⟨b,0,none⟩)):=by rw [Lib.cell_of_heap hbk];rfl
 have c1:w1.cell? ⟨b,1,none⟩=some v:=by rw [Lib.cell_of_heap hbk];rfl
 go_wp2_with (at_builtin;refine Bh _ rfl _ _ (ρ.t 37) (ρ.t 9) rfl (ρ.t 5) i0 L.t37 L.t9 hi hz0 hz1 hz2 _ _ _ rfl hown s rfl ?c3 ?c4 ?_)
 case c3=>unfold maxLen;omega
 case c4=>omega
 intro v' w2 hown' hgrow hv'
 have hlt:b<w1.heap.size:=by
  rcases Nat.lt_or_ge b w1.heap.size with h'|h'
  ·exact h'
  ·simp [Array.getElem?_eq_none h'] at hbk
 have hb2:w2.heap[b]?=some (.cells #[.pointer (some ⟨b,0,none⟩),v] (ρ.t 72) (0,0)):=by
  rw [hgrow.block b hlt (fun e=>hne e.symm)]
  exact hbk
 have d0:w2.cell? ⟨b,0,none⟩=some (.pointer (some ⟨b,0,none⟩)):=by rw [Lib.cell_of_heap hb2];rfl
 have d1:w2.cell? ⟨b,1,none⟩=some v:=by rw [Lib.cell_of_heap hb2];rfl
 have f1:w2.frozen? ⟨b,1,none⟩=false:=Lib.frozen_of_heap hb2 1
 obtain ⟨ao,n',cap,rfl⟩ :∃ ao n' cap,v' = .slice ao n' cap:=by
  rcases hown'.2 with ⟨hv,_⟩ |⟨g,cap,cur,fz,hv,_⟩
  ·exact ⟨_,_,_,hv⟩
  ·exact ⟨_,_,_,hv⟩
 go_wp2
 go_ret2
 refine ⟨rfl,?_,Hg o1 o2 o3 o4.2 (fun k _ hk=>o5 k hk) ((ji hbk).symm.trans o6) hb2 hgrow hv' fun g hg=>(hown'.lt g hg).2⟩
 exact Lib.BuilderAtF.put (T:=(ρ.t 72)) (e:=(ρ.t 5)) hB hb2 (bs':=bs++Lib.strCells s) (by rw [List.length_append,Lib.strCells_length];exact hown') X.neB5
set_option maxHeartbeats 2000000 in
set_option maxRecDepth 100000 in
theorem PE (L:Lays.n167 P ρ) (X:Builder.Extra P ρ) (b:Nat) (bs:List Value) (c:Int) (w:World) (h:Lib.IsBuilderF (ρ.t 72) (ρ.t 5) 0 b bs w) (hlen:bs.length+1≤140737488355328) :
  Calls P (ρ.f 167) #[.pointer (some ⟨b,0,none⟩),.int .u8 c] w fun e w'=>e = .returned .nilIface∧Lib.BuilderAtF (ρ.t 72) (ρ.t 5) 0 b (.pointer (some ⟨b,0,none⟩)) (bs++[.int .u8 c]) w'∧FrB b w w':=by
 obtain ⟨i0,hi,hz0,hz1,hz2⟩:=info_parts X.infoByte
 have mixed:=L.mixed
 have t72:=L.t72;have a72:=L.a72;have z72:=L.z72;have v72:=L.v72;have u72:=run_underlying L.t72
 have t70:=L.t70;have a70:=L.a70;have z70:=L.z70;have v70:=L.v70;have u70:=run_underlying L.t70
 have t5:=L.t5;have a5:=L.a5;have z5:=L.z5;have v5:=L.v5;have u5:=run_underlying L.t5
 have t37:=L.t37;have a37:=L.a37;have z37:=L.z37;have v37:=L.v37;have u37:=run_underlying L.t37
 have t9:=L.t9;have a9:=L.a9;have z9:=L.z9;have v9:=L.v9;have u9:=run_underlying L.t9
 have t4:=L.t4;have a4:=L.a4;have z4:=L.z4;have v4:=L.v4;have u4:=run_underlying L.t4
 have t164:=L.t164;have a164:=L.a164;have z164:=L.z164;have v164:=L.v164;have u164:=run_underlying L.t164
 have e240 :∀ args w,(callFunc (ρ.f 240) args).run P w = .ok (.enter (ρ.f 240) args) w:=enters_of L.f240 (by kernel_rfl) rfl
 go_enter L.f167,Body.n167_ntmps ρ
 go_wp2_with (go_at_fn (ρ.f 240);refine (GR { L with } X.toX72 b bs _ h).mono ?_)
 rintro e w1 ⟨rfl,h1,o1,o2,o3,o4,o5,o6⟩
 obtain ⟨hB,v,hbk,hown,hne⟩:=h1
 have hlt:b<w1.heap.size:=by
  rcases Nat.lt_or_ge b w1.heap.size with h'|h'
  ·exact h'
  ·simp [Array.getElem?_eq_none h'] at hbk
 have c0:w1.cell? ⟨b,0,none⟩=some (.pointer (some ⟨b,0,none⟩)):=by rw [Lib.cell_of_heap hbk];rfl
 have c1:w1.cell? ⟨b,1,none⟩=some v:=by rw [Lib.cell_of_heap hbk];rfl
 go_wp2_with (at_builtin;refine yg _ rfl _ _ (ρ.t 37) rfl (ρ.t 5) i0 L.t37 hi hz0 hz1 hz2 _ _ _ rfl (hown.alloc _) ⟨w1.heap.size,0,none⟩ (.int .u8 c) rfl ?c1 rfl ?c3 ?c4 ?_)
 case c1=>simp
 case c3=>unfold maxLen;omega
 case c4=>omega
 intro v' w2 hown' hgrow hv'
 have hb2:w2.heap[b]?=some (.cells #[.pointer (some ⟨b,0,none⟩),v] (ρ.t 72) (0,0)):=by
  rw [hgrow.block b (by simp;omega) (fun e=>hne e.symm),Lib.alloc_old w1 _ b hlt]
  exact hbk
 have d0:w2.cell? ⟨b,0,none⟩=some (.pointer (some ⟨b,0,none⟩)):=by rw [Lib.cell_of_heap hb2];rfl
 have d1:w2.cell? ⟨b,1,none⟩=some v:=by rw [Lib.cell_of_heap hb2];rfl
 have f1:w2.frozen? ⟨b,1,none⟩=false:=Lib.frozen_of_heap hb2 1
 obtain ⟨g,cap,rfl⟩ :∃ g cap,v' = .slice (some ⟨g,0,none⟩) (bs.length+1) cap:=by
  rcases hown'.2 with ⟨_,h0⟩ |⟨g,cap,cur,fz,hv,_⟩
  ·omega
  ·exact ⟨g,cap,hv⟩
 go_wp2
 go_ret
 refine ⟨rfl,?_,Hg (w1:=w1.alloc _) o1 o2 o3 (by simp;omega) (fun k hk hn=>(Lib.alloc_old w1 _ k (by omega)).trans (o5 k hn)) ((ji hbk).symm.trans o6) hb2 hgrow (fun g hg=>(hv' g hg).imp id fun h=>by simpa using h) fun g hg=>(hown'.lt g hg).2⟩
 exact Lib.BuilderAtF.put (T:=(ρ.t 72)) (e:=(ρ.t 5)) hB hb2 (bs':=bs++[.int .u8 c]) (by simpa using hown') X.neB5
theorem ui {w:World} {p:Addr} {n k:Nat} (h:k≠p.block) :(w.freeze p n).heap[k]?=w.heap[k]?:=by
 unfold World.freeze
 split
 ·rfl
 ·simp only [Array.getElem?_modify]
  rw [if_neg (fun e=>h e.symm)]
theorem Dq {b:Nat} {w:World}:FrB b w w.drew:=⟨⟨rfl,rfl,rfl,Nat.le_refl _,fun _ _ _=>rfl⟩,fun _ h=> .inl h⟩
set_option maxHeartbeats 2000000 in
set_option maxRecDepth 100000 in
theorem LV (L:Lays.n169 P ρ) (X:Builder.Extra P ρ) (b:Nat) (l:List UInt8) (w:World) (h:Lib.IsBuilderF (ρ.t 72) (ρ.t 5) 0 b (Lib.byteCells l) w) (h0:l≠ []) :
  Calls P (ρ.f 169) #[.pointer (some ⟨b,0,none⟩)] w fun e w'=>e = .returned (.string ⟨l.toArray⟩)∧Lib.IsBuilderF (ρ.t 72) (ρ.t 5) 0 b (Lib.byteCells l) w'∧FrB b w w':=by
 obtain ⟨p,hp,hAt⟩ :∃ p,(p = .pointer none∨p = .pointer (some ⟨b,0,none⟩))∧Lib.BuilderAtF (ρ.t 72) (ρ.t 5) 0 b p (Lib.byteCells l) w:=by
  rcases h with h|h
  ·exact ⟨_,.inl rfl,h⟩
  ·exact ⟨_,.inr rfl,h⟩
 obtain ⟨hB,v,hbk,hown,hne⟩:=hAt
 have hl0:l.length≠0:=by simpa using h0
 rw [Lib.byteCells_length] at hown
 obtain ⟨g,cap,cur,fz,rfl,hbg,hg,hfz,hnc,hcm,hcs,htake⟩ :∃ g cap cur fz,v = .slice (some ⟨g,0,none⟩) l.length cap∧0≤g∧w.heap[g]?=some (.cells cur (ρ.t 5) fz)∧fz.2≤l.length*1∧l.length≤cap∧cap≤maxLen∧cur.size=cap*1∧cur.toList.take (l.length*1)=Lib.byteCells l:=by
  rcases hown.2 with ⟨_,hz⟩ |⟨g,cap,cur,fz,hv,r⟩
  ·exact absurd hz hl0
  ·exact ⟨g,cap,cur,fz,hv,r⟩
 have c1:w.drew.cell? ⟨b,1,none⟩=some (.slice (some ⟨g,0,none⟩) l.length cap):=by
  have:w.drew.heap[b]?=some (.cells #[p,.slice (some ⟨g,0,none⟩) l.length cap] (ρ.t 72) (0,0)):=hbk
  rw [Lib.cell_of_heap this];rfl
 have hSD :(Builtin.unsafeSliceData_ #[(ρ.t 37)] (ρ.t 127) #[.slice (some ⟨g,0,none⟩) l.length cap]).run P w.drew = .ok (.pointer (some ⟨g,0,none⟩)) w.drew:=
  Lib.run_unsafeSliceData_row _ _ _ _ _ _ (by omega)
 have hUS :(Builtin.unsafeString_ #[(ρ.t 127),(ρ.t 3)] (ρ.t 9) #[.pointer (some ⟨g,0,none⟩),.int .i64 l.length]).run P w.drew = .ok (.string ⟨l.toArray⟩) (w.drew.freeze ⟨g,0,none⟩ l.length):=by
  refine Lib.run_unsafeString_row w.drew (ρ.t 127) (ρ.t 3) (ρ.t 9) (ρ.t 5) L.t127 X.cellsByte g cur.size (by have hg':w.drew.heap[g]?=some (.cells cur (ρ.t 5) fz):=hg;simp [World.shape?,hg']) l h0 (by omega) (by unfold maxLen at hcm;omega) ?_
  intro j x hx
  have:=hown.cells (g:=g) rfl j (.int .u8 x.toNat) (by simp [Lib.byteCells,hx])
  exact this
 have hkeep:Lib.IsBuilderF (ρ.t 72) (ρ.t 5) 0 b (Lib.byteCells l) (w.drew.freeze ⟨g,0,none⟩ l.length):=by
  have hA:Lib.BuilderAtF (ρ.t 72) (ρ.t 5) 0 b p (Lib.byteCells l) w.drew:=⟨hB,_,hbk,by rw [Lib.byteCells_length];exact hown,hne⟩
  have hF:=hA.froze (g:=g) (cap:=cap) (by rw [Lib.byteCells_length];exact c1)
  rw [Lib.byteCells_length] at hF
  rcases hp with rfl|rfl
  ·exact .inl hF
  ·exact .inr hF
 have hbg2:b≠g:=fun e=>hne (by rw [e];rfl)
 have hfr:FrB b w (w.drew.freeze ⟨g,0,none⟩ l.length):=by
  have hs :(w.drew.freeze ⟨g,0,none⟩ l.length).heap.size=w.heap.size:=by
   unfold World.freeze
   split
   ·rfl
   ·simp
  have hf :(w.drew.freeze ⟨g,0,none⟩ l.length).os=w.os∧(w.drew.freeze ⟨g,0,none⟩ l.length).tape=w.tape∧(w.drew.freeze ⟨g,0,none⟩ l.length).output=w.output:=by
   unfold World.freeze
   split <;> exact ⟨rfl,rfl,rfl⟩
  refine ⟨⟨hf.1,hf.2.1,hf.2.2,by omega,fun k _ hn=>?_⟩,fun k hk=>?_⟩
  ·exact ui (w:=w.drew) fun e=>hn (.inr (by rw [ji hbk,show k=g from e];rfl))
  ·rw [oa (w:=w) (ui (w:=w.drew) (p:=⟨g,0,none⟩) hbg2)] at hk
   exact .inl hk
 have mixed:=L.mixed
 have t72:=L.t72;have a72:=L.a72;have z72:=L.z72;have v72:=L.v72;have u72:=run_underlying L.t72
 have t70:=L.t70;have a70:=L.a70;have z70:=L.z70;have v70:=L.v70;have u70:=run_underlying L.t70
 have t37:=L.t37;have a37:=L.a37;have z37:=L.z37;have v37:=L.v37;have u37:=run_underlying L.t37
 have t127:=L.t127;have a127:=L.a127;have z127:=L.z127;have v127:=L.v127;have u127:=run_underlying L.t127
 have t3:=L.t3;have a3:=L.a3;have z3:=L.z3;have v3:=L.v3;have u3:=run_underlying L.t3
 have t9:=L.t9;have a9:=L.a9;have z9:=L.z9;have v9:=L.v9;have u9:=run_underlying L.t9
 have t5:=X.t5;have a5:=X.a5;have z5:=X.z5;have v5:=X.v5;have u5:=run_underlying X.t5
 go_enter L.f169,Body.n169_ntmps ρ
 go_wp2
 go_region_o
 all_goals (go_wp2;go_ret;exact ⟨rfl,hkeep,hfr⟩)
set_option maxHeartbeats 2000000 in
set_option maxRecDepth 100000 in
theorem Ek (L:Lays.n169 P ρ) (X:Builder.Extra P ρ) (b:Nat) (p:Value) (w:World) (hA:Lib.BuilderAtF (ρ.t 72) (ρ.t 5) 0 b p [] w) :
  Calls P (ρ.f 169) #[.pointer (some ⟨b,0,none⟩)] w fun e w'=>e = .returned (.string ⟨#[]⟩)∧Lib.BuilderAtF (ρ.t 72) (ρ.t 5) 0 b p [] w'∧FrB b w w':=by
 have hUS:=Any.unsafeString_none L X
 have hlt:=hA.lt
 have hA':=hA
 obtain ⟨hB,v,hbk,hown,hne⟩:=hA
 have mixed:=L.mixed
 have t72:=L.t72;have a72:=L.a72;have z72:=L.z72;have v72:=L.v72;have u72:=run_underlying L.t72
 have t70:=L.t70;have a70:=L.a70;have z70:=L.z70;have v70:=L.v70;have u70:=run_underlying L.t70
 have t37:=L.t37;have a37:=L.a37;have z37:=L.z37;have v37:=L.v37;have u37:=run_underlying L.t37
 have t127:=L.t127;have a127:=L.a127;have z127:=L.z127;have v127:=L.v127;have u127:=run_underlying L.t127
 have t3:=L.t3;have a3:=L.a3;have z3:=L.z3;have v3:=L.v3;have u3:=run_underlying L.t3
 have t9:=L.t9;have a9:=L.a9;have z9:=L.z9;have v9:=L.v9;have u9:=run_underlying L.t9
 have t5:=X.t5;have a5:=X.a5;have z5:=X.z5;have v5:=X.v5;have u5:=run_underlying X.t5
 rcases hown.2 with ⟨rfl,_⟩ |⟨g,cap,cur,fz,rfl,hbg,hg,_,_,_,_,_⟩
 ·have c1:w.drew.cell? ⟨b,1,none⟩=some (.slice none 0 0):=by
   have:w.drew.heap[b]?=some (.cells #[p,.slice none 0 0] (ρ.t 72) (0,0)):=hbk
   rw [Lib.cell_of_heap this];rfl
  have hSD :(Builtin.unsafeSliceData_ #[(ρ.t 37)] (ρ.t 127) #[.slice none 0 0]).run P w.drew = .ok (.pointer none) w.drew:=rfl
  go_enter L.f169,Body.n169_ntmps ρ
  go_wp2
  go_region_o
  all_goals (go_wp2;go_ret;exact ⟨rfl,hA'.drew,Dq⟩)
 ·have hg':w.drew.heap[g]?=some (.cells cur (ρ.t 5) fz):=hg
  by_cases hc0:cap=0
  ·subst hc0
   have c1:w.drew.cell? ⟨b,1,none⟩=some (.slice (some ⟨g,0,none⟩) 0 0):=by
    have:w.drew.heap[b]?=some (.cells #[p,.slice (some ⟨g,0,none⟩) 0 0] (ρ.t 72) (0,0)):=hbk
    rw [Lib.cell_of_heap this];rfl
   have hSD :(Builtin.unsafeSliceData_ #[(ρ.t 37)] (ρ.t 127) #[.slice (some ⟨g,0,none⟩) 0 0]).run P w.drew = .ok (.pointer (some ⟨w.drew.heap.size,0,none⟩)) (w.drew.alloc (.view ⟨g,0,none⟩ (ρ.t 5))):=
    Lib.run_unsafeSliceData_zero w.drew _ _ (ρ.t 5) L.t127 ⟨g,0,none⟩ 0 ((ρ.t 5),cur.size) (by simp [World.shape?,hg'])
   have c2 :(w.drew.alloc (.view ⟨g,0,none⟩ (ρ.t 5))).cell? ⟨b,1,none⟩=some (.slice (some ⟨g,0,none⟩) 0 0):=by
    have :(w.drew.alloc (.view ⟨g,0,none⟩ (ρ.t 5))).heap[b]?=_:=(Lib.alloc_old w.drew _ b hlt).trans hbk
    rw [Lib.cell_of_heap this];rfl
   have c3 :(w.alloc (.view ⟨g,0,none⟩ (ρ.t 5))).drew.cell? ⟨b,1,none⟩=some (.slice (some ⟨g,0,none⟩) 0 0):=c2
   have c0:w.cell? ⟨b,1,none⟩=some (.slice (some ⟨g,0,none⟩) 0 0):=c1
   have hfr:FrB b w (w.drew.alloc (.view ⟨g,0,none⟩ (ρ.t 5))):=by
    refine ⟨⟨rfl,rfl,rfl,by simp,fun k hk _=>Lib.alloc_old w.drew _ k hk⟩,fun k hk=> .inl ?_⟩
    rw [oa (w:=w) (Lib.alloc_old w.drew _ b hlt)] at hk
    exact hk
   go_enter L.f169,Body.n169_ntmps ρ
   go_wp2
   go_region_o
   all_goals (go_wp2;go_ret;exact ⟨rfl,hA'.drew.alloc _,hfr⟩)
  ·have c1:w.drew.cell? ⟨b,1,none⟩=some (.slice (some ⟨g,0,none⟩) 0 cap):=by
    have:w.drew.heap[b]?=some (.cells #[p,.slice (some ⟨g,0,none⟩) 0 cap] (ρ.t 72) (0,0)):=hbk
    rw [Lib.cell_of_heap this];rfl
   have hSD :(Builtin.unsafeSliceData_ #[(ρ.t 37)] (ρ.t 127) #[.slice (some ⟨g,0,none⟩) 0 cap]).run P w.drew = .ok (.pointer (some ⟨g,0,none⟩)) w.drew:=
    Lib.run_unsafeSliceData_row _ _ _ _ _ _ hc0
   clear hc0
   go_enter L.f169,Body.n169_ntmps ρ
   go_wp2
   go_region_o
   all_goals (go_wp2;go_ret;exact ⟨rfl,hA'.drew,Dq⟩)
theorem Pa (L:Lays.n169 P ρ) (X:Builder.Extra P ρ) (b:Nat) (s:ByteArray) (w:World) (h:Lib.IsBuilderF (ρ.t 72) (ρ.t 5) 0 b (Lib.strCells s) w) :
  Calls P (ρ.f 169) #[.pointer (some ⟨b,0,none⟩)] w fun e w'=>e = .returned (.string s)∧Lib.IsBuilderF (ρ.t 72) (ρ.t 5) 0 b (Lib.strCells s) w'∧FrB b w w':=by
 have hs :(⟨s.data.toList.toArray⟩:ByteArray)=s:=by cases s;simp
 rw [Lib.strCells_eq] at h ⊢
 by_cases h0:s.data.toList=[]
 ·rw [h0] at h hs ⊢
  rcases h with h|h
  ·refine (Ek L X b _ w h).mono fun e w' ⟨h1,h2,h3⟩=>⟨by rw [h1,←hs],.inl h2,h3⟩
  ·refine (Ek L X b _ w h).mono fun e w' ⟨h1,h2,h3⟩=>⟨by rw [h1,←hs],.inr h2,h3⟩
 ·refine (LV L X b s.data.toList w h h0).mono fun e w' ⟨h1,h2,h3⟩=>⟨by rw [h1,hs],h2,h3⟩
end
theorem K0:Lays.n166 Tryz.prog lays156_ren:={ lays156 with }
theorem K2:Lays.n169 Tryz.prog lays156_ren:={ lays156 with }
def py:Go.Shelf.Ren:=⟨fun|167=>69|n=>lays156_ren.f n,lays156_ren.t,lays156_ren.g⟩
theorem K1:Lays.n167 Tryz.prog py where
 mixed:=by kernel_rfl
 f167:=Tryz.func69.trans (congrArg some (by kernel_rfl))
 f240:=Tryz.func120.trans (congrArg some (by kernel_rfl))
 f276:=Tryz.func176.trans (congrArg some (by kernel_rfl))
 t5:=Tryz.underlying5
 a5:=Tryz.isAgg5
 z5:=Tryz.sizeOf5
 v5:=Tryz.zeroValue5
 t0:=lays156.t0
 a0:=lays156.a0
 z0:=lays156.z0
 v0:=lays156.v0
 t4:=lays156.t4
 a4:=lays156.a4
 z4:=lays156.z4
 v4:=lays156.v4
 t9:=lays156.t9
 a9:=lays156.a9
 z9:=lays156.z9
 v9:=lays156.v9
 t20:=lays156.t20
 a20:=lays156.a20
 z20:=lays156.z20
 v20:=lays156.v20
 t37:=lays156.t37
 a37:=lays156.a37
 z37:=lays156.z37
 v37:=lays156.v37
 t70:=lays156.t70
 a70:=lays156.a70
 z70:=lays156.z70
 v70:=lays156.v70
 t72:=lays156.t72
 a72:=lays156.a72
 z72:=lays156.z72
 v72:=lays156.v72
 t75:=lays156.t75
 a75:=lays156.a75
 z75:=lays156.z75
 v75:=lays156.v75
 t164:=lays156.t164
 a164:=lays156.a164
 z164:=lays156.z164
 v164:=lays156.v164
theorem HY:Builder.Extra Tryz.prog py where
 sizeBuilder:=by kernel_rfl
 liesBuilder:=by kernel_rfl
 t5:=Tryz.underlying5
 a5:=Tryz.isAgg5
 z5:=Tryz.sizeOf5
 v5:=Tryz.zeroValue5
 infoByte:=by kernel_rfl
 cellsByte:=by kernel_rfl
 sizeByte:=by kernel_rfl
 neB5:=by decide
def wsV (s:ByteArray):List V→Option (List Prop×V×ByteArray)
 | [.str x]=>some ([s.size+x.size≤ak],.tup [.int .i64 x.size,.any],s++x)
 | _=>none
def chB (c:Int):ByteArray:=⟨#[UInt8.ofNat c.toNat]⟩
def wbV (s:ByteArray):List V→Option (List Prop×V×ByteArray)
 | [.int .u8 c]=>some ([s.size+1≤ak],.any,s++chB c)
 | _=>none
def stV (s:ByteArray):List V→Option (List Prop×V×ByteArray)
 | []=>some ([],.str s,s)
 | _=>none
theorem nU (s t:ByteArray):Lib.strCells (s++t)=Lib.strCells s++Lib.strCells t:=by
 unfold Lib.strCells
 rw [ByteArray.data_append,Array.toList_append,List.map_append]
def dU:FuncId×Ctr:=(68,yl wsV)
def kU:FuncId×Ctr:=(69,yl wbV)
def y3:FuncId×Ctr:=(70,yl stV)
theorem fm:CtrOK Tryz.prog KE 68 (yl wsV):=by
 refine Bj Tryz.func68 (by kernel_rfl) (by kernel_rfl) fun w b s r us E ps v s' hg hp hA hr=>?_
 unfold wsV at hg
 split at hg
 case h_2=>cases hg
 rename_i x
 cases hg
 have hz:s.size+x.size≤ak:=hp _ List.mem_cons_self
 match us,hr with
 | [u],hr=>
  simp only [ab,aa] at hr
  obtain ⟨⟨rfl,hx⟩,_⟩:=hr
  have hl :(140737488355328:Nat)=ak:=rfl
  refine (PM K0 zm b (Lib.strCells s) x w hA.2 (by rw [Lib.strCells_length];omega)).mono fun e w' ⟨h1,h2,h3⟩=>⟨_,h1,h3.keeps,h3.buf,⟨?_,?_⟩,fun E'=>?_⟩
  ·rw [ByteArray.size_append];exact hz
  ·rw [nU];exact .inr h2
  ·refine ⟨_,rfl,⟨rfl,?_⟩,trivial,trivial⟩
   have e1:IntKind.i64.min = -9223372036854775808:=by decide
   have e2:IntKind.i64.max=9223372036854775807:=by decide
   unfold ok
   rw [e1,e2]
   omega
theorem nL:CtrOK Tryz.prog KE 69 (yl wbV):=by
 refine Bj Tryz.func69 (by kernel_rfl) (by kernel_rfl) fun w b s r us E ps v s' hg hp hA hr=>?_
 unfold wbV at hg
 split at hg
 case h_2=>cases hg
 rename_i c
 cases hg
 have hz:s.size+1≤ak:=hp _ List.mem_cons_self
 match us,hr with
 | [u],hr=>
  simp only [ab,aa] at hr
  obtain ⟨⟨rfl,hc⟩,_⟩:=hr
  have e1:IntKind.u8.min=0:=by decide
  have e2:IntKind.u8.max=255:=by decide
  unfold ok at hc
  rw [e1,e2] at hc
  have hl :(140737488355328:Nat)=ak:=rfl
  have hcc:Lib.strCells (chB c)=[.int .u8 c]:=by
   unfold Lib.strCells chB
   simp only [List.map_cons,List.map_nil]
   rw [UInt8.toNat_ofNat']
   congr 2
   omega
  refine (PE K1 HY b (Lib.strCells s) c w hA.2 (by rw [Lib.strCells_length];omega)).mono fun e w' ⟨h1,h2,h3⟩=>⟨_,h1,h3.keeps,h3.buf,⟨?_,?_⟩,fun E'=>trivial⟩
  ·rw [ByteArray.size_append];exact hz
  ·rw [nU,hcc];exact .inr h2
theorem FC:CtrOK Tryz.prog KE 70 (yl stV):=by
 refine Bj Tryz.func70 (by kernel_rfl) (by kernel_rfl) fun w b s r us E ps v s' hg hp hA hr=>?_
 unfold stV at hg
 split at hg
 case h_2=>cases hg
 cases hg
 match us,hr with
 | [],_=>
  refine (Pa K2 zm b s w hA.2).mono fun e w' ⟨h1,h2,h3⟩=>⟨_,h1,h3.keeps,h3.buf,⟨hA.1,h2⟩,fun E'=>⟨rfl,hA.1⟩⟩
end Go.Proofs.YtffdpnmioidloaaGreatDoor
namespace Go.Proofs.YtffdpnmioidloaaGreatDoor
open Go Go.Mir Go.RowKit
attribute [local irreducible] Go.Mir.DT.sat Go.Mir.evPat Go.Mir.RT.sat Go.Mir.evFn
def kC (l:List ByteArray) (o:ByteArray):ByteArray:=l.foldl (fun o x=>o ++(spV++x)) o
abbrev Qn:List (Nat×PB):= [(0,.abs 0 .str),(1,.dat (.nm .Row))]
abbrev qW0:Pat:=⟨[(4,.c (.av 0 0)),(6,.c (.ptr 1 0)),(8,.h (.slice I)),(15,.h RwsL),(16,.h I),(17,.h I),(52,.h (.slice I)),(53,.h I),(54,.h I)],Qn,2⟩
abbrev xW0:List (Lf×Pat):= [(.ext 2,⟨[(4,.c (.av 0 0)),(6,.c (.ptr 1 0)),(8,.h (.slice I)),(15,.h RwsL),(16,.h I),(17,.h I)],Qn,2⟩)]
abbrev TW0:Type:=List Int×List Mir.Row×Int×Int×List Int×Int×Int×ByteArray×Mir.Row×Unit
def mn:TW0→List Int×List Mir.Row×Int×Int×ByteArray×Mir.Row×Unit
 |(ys,l,n,i,xs,_,j,o,r,_)=>(ys,l,n,i,lZ ((xs.drop j.toNat).map aY) o,r,())
def inR (l:List Int):Prop:=l.length≤100∧∀ x∈l,0≤x∧x≤1000000
def uB:TW0→Prop
 |(_,_,_,_,xs,m,j,o,_)=>(m =(xs.length:Int)∧inR xs)∧(0≤j∧j≤m)∧(o.size:Int)+30 *(m - j)≤900000000
def IB:TW0→Nat
 |(_,_,_,_,_,m,j,_)=>(m - j).toNat
abbrev qW1:Pat:=⟨[(4,.c (.av 0 0)),(15,.h RwsL),(16,.h I),(17,.h I),(66,.h (.slice I)),(67,.h I),(68,.h I)],[(0,.abs 0 .str)],1⟩
abbrev xW1:List (Lf×Pat):= [(.ext 4,⟨[(4,.c (.av 0 0)),(15,.h RwsL),(16,.h I),(17,.h I)],[(0,.abs 0 .str)],1⟩)]
abbrev TW1:Type:=List Mir.Row×Int×Int×List Int×Int×Int×ByteArray×Unit
def mo:TW1→List Mir.Row×Int×Int×ByteArray×Unit
 |(l,n,i,xs,_,j,o,_)=>(l,n,i,kC ((xs.drop j.toNat).map aY) o,())
def uD:TW1→Prop
 |(_,_,_,xs,m,j,o,_)=>(m =(xs.length:Int)∧inR xs)∧(0≤j∧j≤m)∧(o.size:Int)+30 *(m - j)≤900000000
def IC:TW1→Nat
 |(_,_,_,_,m,j,_)=>(m - j).toNat
theorem CE (s:Int) :(evPat (ay [] Tryz.f66) (fun _=>none) Tryz.f66 qI1 mR (s,())).sat fun z_=>z_ =(O4 (s,())).2:=by
 refine cast (by kernel_rfl) (?_ :(bif decide (s <(0:Int)) then true else decide (s >(1000000:Int)),()) =(dB s,()))
 all_goals trivial
def rB:FuncId×Ctr:=(66,ae KE qI1 mR O4)
theorem vf:CtrOK Tryz.prog KE 66 (ae KE qI1 mR O4):=by
 refine aE (C:=ay [] Tryz.f66) (au (CtrsOK.nil) _) mixed (fn:=Tryz.f66) Tryz.func66 (by kernel_rfl) (by kernel_rfl) (by kernel_rfl) (by kernel_rfl) (by kernel_rfl) (by kernel_rfl) (Λ:=fun _ _=>none) ?_ ?_
 ·exact fun _ _ _ _ _ _ _ _ h=>by cases h
 ·rintro ⟨s,⟨⟩⟩ hw hn
  exact CE s
noncomputable def lpLoL:Lp:=(⟨0,ay [rB] Tryz.f114,(fun _=>none),(bt Tryz.f114 0),(qLo 66),xLo⟩:Lp)
theorem LW (xs:List Int) (n:Int) (i:Int) (hi:uu (xs,n,i,())) :(Go.Mir.stepG lpLoL jz (fun y:Den (tyP lpLoL.q)=>uu y∧Fu y<Fu (xs,n,i,())) (xs,n,i,())∧Go.Mir.stepE lpLoL jz (xs,n,i,())=jz (xs,n,i,())):=by
 refine cast (by kernel_rfl) (?_ :((decide (i<n)=true→((0:Int)≤i∧i <(↑xs.length:Int))∧(dB (xs.getD i.toNat (dflt (Ty.int IntKind.i64)))=true→True)∧(dB (xs.getD i.toNat (dflt (Ty.int IntKind.i64)))=false→uu (xs,n,IntKind.i64.wrap (i +(1:Int)),())∧Fu (xs,n,IntKind.i64.wrap (i +(1:Int)),())<Fu (xs,n,i,())))∧(decide (i<n)=false→True))∧(bif decide (i<n) then bif dB (xs.getD i.toNat (dflt (Ty.int IntKind.i64))) then Sum.inl (i,()) else jz (xs,n,IntKind.i64.wrap (i +(1:Int)),()) else Sum.inr ())=jz (xs,n,i,()))
 obtain ⟨h1,h2,h3,h4⟩:=hi
 simp only at h1 h2 h3 h4
 have h5 :(xs.length:Int)≤140737488355328:=by have:xs.length≤140737488355328:=h4;omega
 refine ⟨⟨fun h=>?_,fun _=>trivial⟩,?_⟩
 ·have h:i<n:=of_decide_eq_true h
  rw [wrap64 (n:=i+1) (by omega) (by omega)]
  refine ⟨⟨h2,by omega⟩,fun _=>trivial,fun _=>⟨⟨h1,by simp only;omega,by simp only;omega,h4⟩,by simp only [Fu];omega⟩⟩
 ·by_cases h:i<n
  ·rw [decide_eq_true h,cond_true,wrap64 (n:=i+1) (by omega) (by omega)]
   have e:xs.drop i.toNat=xs.getD i.toNat (dflt (Ty.int IntKind.i64))::xs.drop (i+1).toNat:=gD h2 (by omega) _
   generalize xs.getD i.toNat (dflt (Ty.int IntKind.i64))=v at e ⊢
   simp only [jz,e,gT]
   cases dB v <;> rfl
  ·rw [decide_eq_false h,cond_false]
   simp only [jz]
   rw [fa (l:=xs) (by omega)]
   rfl
noncomputable def JT:LoopSum:=aD lpLoL jz uu
noncomputable def Js:Nat:=rid (bt Tryz.f114 0)
theorem K6:LoopOKp Tryz.prog 0 Tryz.f114.ntmps (bt Tryz.f114 0) (aD lpLoL jz uu):=
 bq lpLoL (au (.consU vf rfl .nil) _) mixed (fun b hb S hS=>by cases hS) jz uu Fu (fun |⟨xs,n,i,⟨⟩⟩,hi=>LW xs n i hi)
theorem FW (xs:List Int) (hx:xs.length≤ak) :(evPat (ay [rB] Tryz.f114) (find [(Js,JT)]) Tryz.f114 (qFo 66) LF (xs,())).sat fun z_=>z_ =((O3 66) (xs,())).2:=by
 refine cast (by kernel_rfl) (?_:let r1:Bool:=isL (jz (xs,(↑xs.length:Int),(0:Int),()));((jZ fun x=>none)∧(↑xs.length:Int) =(↑xs.length:Int)∧(0:Int)≤(0:Int)∧(0:Int)≤(↑xs.length:Int)∧xs.length≤ak)∧(r1=true→tp (dflt (I.prod Ty.unit)) (jz (xs,(↑xs.length:Int),(0:Int),())) =(IK (gT dB xs (0:Int)),()))∧(r1=false→((-1:Int),()) =(IK (gT dB xs (0:Int)),())))
 intro r1
 clear_value (hr1:r1=_)
 have e:jz (xs,(xs.length:Int),0,())=Qq (gT dB xs 0):=rfl
 try subst hr1
 rw [e]
 refine ⟨⟨rfl,rfl,Int.le_refl _,by omega,hx⟩,fun h=>?_,fun h=>?_⟩ <;> cases hf:gT dB xs 0 <;> rw [hf] at h <;> first|rfl|cases h
def DG:FuncId×Ctr:=(114,ae KE (qFo 66) LF (O3 66))
theorem IT:CtrOK Tryz.prog KE 114 (ae KE (qFo 66) LF (O3 66)):=by
 refine aE (C:=ay [rB] Tryz.f114) (au (.consU vf rfl .nil) _) mixed (fn:=Tryz.f114) Tryz.func114 (by kernel_rfl) (by kernel_rfl) (by kernel_rfl) (by kernel_rfl) (by kernel_rfl) (by kernel_rfl) (Λ:=fun x=>find [(Js,JT)]) ?_ ?_
 ·rintro ⟨xs,⟨⟩⟩ hw hn
  exact LoopsOKp.at (by kernel_rfl) (.cons (by kernel_rfl) (K6) .nil)
 ·rintro ⟨xs,⟨⟩⟩ hw hn
  exact FW xs (A9 (sQ hw))
theorem FU (xs:List Int) :(evPat (ay [DG] Tryz.f64) (fun _=>none) Tryz.f64 (qFo 66) mR (xs,())).sat fun z_=>z_ =((O0 66) (xs,())).2:=by
 refine cast (by kernel_rfl) (?_ :(decide (IK (gT dB xs (0:Int))≥(0:Int)),()) =(xs.any dB,()))
 have e:=rb (p:=dB) (l:=xs) (i:=0)
 rw [←e]
 cases hf:gT dB xs 0 with
 | none=>rfl
 | some k=>
  have:=yK hf
  simp [this,IK]
def KU:FuncId×Ctr:=(64,ae KE (qFo 66) mR (O0 66))
theorem IQ:CtrOK Tryz.prog KE 64 (ae KE (qFo 66) mR (O0 66)):=by
 refine aE (C:=ay [DG] Tryz.f64) (au (.consU IT rfl .nil) _) mixed (fn:=Tryz.f64) Tryz.func64 (by kernel_rfl) (by kernel_rfl) (by kernel_rfl) (by kernel_rfl) (by kernel_rfl) (by kernel_rfl) (Λ:=fun _ _=>none) ?_ ?_
 ·exact fun _ _ _ _ _ _ _ _ h=>by cases h
 ·rintro ⟨xs,⟨⟩⟩ hw hn
  exact FU xs
noncomputable def lpW0x:Lp:=(⟨0,ay [oD,dU] Tryz.f21,(fun _=>none),(jV Tryz.f21 0 0),qW0,xW0⟩:Lp)
theorem LY (ys:List Int) (l:List Mir.Row) (n:Int) (i:Int) (xs:List Int) (m:Int) (j:Int) (o:ByteArray) (r:Mir.Row) (hi:uB (ys,l,n,i,xs,m,j,o,r,())) :(Go.Mir.stepG lpW0x mn (fun y:Den (tyP lpW0x.q)=>uB y∧IB y<IB (ys,l,n,i,xs,m,j,o,r,())) (ys,l,n,i,xs,m,j,o,r,())∧Go.Mir.stepE lpW0x mn (ys,l,n,i,xs,m,j,o,r,())=mn (ys,l,n,i,xs,m,j,o,r,())):=by
 refine cast (by kernel_rfl) (?_:let r1:ByteArray:=aY (xs.getD j.toNat (dflt (Ty.int IntKind.i64)))++ByteArray.mk #[32];((decide (j<m)=true→((0:Int)≤j∧j <(↑xs.length:Int))∧(aY (xs.getD j.toNat (dflt (Ty.int IntKind.i64)))).size +(ByteArray.mk #[32]).size≤ak∧o.size+r1.size≤ak∧uB (ys,l,n,i,xs,m,IntKind.i64.wrap (j +(1:Int)),o++r1,r,())∧IB (ys,l,n,i,xs,m,IntKind.i64.wrap (j +(1:Int)),o++r1,r,())<IB (ys,l,n,i,xs,m,j,o,r,()))∧(decide (j<m)=false→True))∧(bif decide (j<m) then mn (ys,l,n,i,xs,m,IntKind.i64.wrap (j +(1:Int)),o++r1,r,()) else (ys,l,n,i,o,r,()))=mn (ys,l,n,i,xs,m,j,o,r,()))
 intro r1
 clear_value (hr1:r1=_)
 obtain ⟨⟨h1,h1b⟩,⟨h2,h3⟩,h4⟩:=hi
 have h1:m =(xs.length:Int):=h1
 have h1b:inR xs:=h1b
 have h2:0≤j:=h2
 have h3:j≤m:=h3
 have h4 :(o.size:Int)+30 *(m - j)≤900000000:=h4
 have hL :(1000000000:Nat)≤ak:=by decide
 have hf:=h1b.1
 by_cases h:j<m
 ·have e1:IntKind.i64.wrap (j+1)=j+1:=wrap64 (by omega) (by omega)
  have hd:xs.drop j.toNat=xs.getD j.toNat (dflt (Ty.int IntKind.i64))::xs.drop (j+1).toNat:=gD h2 (by omega) _
  have hm:xs.getD j.toNat (dflt (Ty.int IntKind.i64))∈xs:=List.mem_of_mem_drop (i:=j.toNat) (by rw [hd];exact List.mem_cons_self)
  obtain ⟨b1,b2⟩:=h1b.2 _ hm
  generalize xs.getD j.toNat (dflt (Ty.int IntKind.i64))=x at *
  have hz:=jk b1 b2
  have hsp :(ByteArray.mk #[(32:UInt8)]).size=1:=rfl
  have hr:r1.size≤22:=by rw [hr1,ByteArray.size_append,hsp];omega
  have key:mn (ys,l,n,i,xs,m,j,o,r,())=mn (ys,l,n,i,xs,m,j+1,o++r1,r,()):=by
   show (ys,l,n,i,lZ ((xs.drop j.toNat).map aY) o,r,()) =(ys,l,n,i,lZ ((xs.drop (j+1).toNat).map aY) (o++r1),r,())
   rw [hd,hr1]
   rfl
  rw [decide_eq_true h,e1,key]
  refine ⟨⟨fun _=>⟨⟨h2,by omega⟩,by rw [hsp];omega,by omega,⟨⟨h1,h1b⟩,⟨?_,?_⟩,?_⟩,?_⟩,fun z=>Bool.noConfusion z⟩,rfl⟩
  ·show 0≤j+1;omega
  ·show j+1≤m;omega
  ·show ((o++r1).size:Int)+30 *(m - (j+1))≤900000000
   rw [ByteArray.size_append];omega
  ·show (m - (j+1)).toNat <(m - j).toNat;omega
 ·rw [decide_eq_false h]
  refine ⟨⟨fun z=>Bool.noConfusion z,fun _=>trivial⟩,?_⟩
  show _ =(ys,l,n,i,lZ ((xs.drop j.toNat).map aY) o,r,())
  rw [fa (l:=xs) (by omega)]
  rfl
noncomputable def Pp:LoopSum:=aD lpW0x mn uB
noncomputable def OX:Nat:=rid (jV Tryz.f21 0 0)
theorem K7:LoopOKp Tryz.prog 0 Tryz.f21.ntmps (jV Tryz.f21 0 0) (aD lpW0x mn uB):=
 bq lpW0x (au (.consU mP rfl (.consU fm rfl .nil)) _) mixed (fun b hb S hS=>by cases hS) mn uB IB (fun |⟨ys,l,n,i,xs,m,j,o,r,⟨⟩⟩,hi=>LY ys l n i xs m j o r hi)
noncomputable def lpW1x:Lp:=(⟨0,ay [oD,dU] Tryz.f21,(fun _=>none),(jV Tryz.f21 0 1),qW1,xW1⟩:Lp)
theorem LZ (l:List Mir.Row) (n:Int) (i:Int) (xs:List Int) (m:Int) (j:Int) (o:ByteArray) (hi:uD (l,n,i,xs,m,j,o,())) :(Go.Mir.stepG lpW1x mo (fun y:Den (tyP lpW1x.q)=>uD y∧IC y<IC (l,n,i,xs,m,j,o,())) (l,n,i,xs,m,j,o,())∧Go.Mir.stepE lpW1x mo (l,n,i,xs,m,j,o,())=mo (l,n,i,xs,m,j,o,())):=by
 refine cast (by kernel_rfl) (?_:let r1:ByteArray:=ByteArray.mk #[32]++aY (xs.getD j.toNat (dflt (Ty.int IntKind.i64)));((decide (j<m)=true→((0:Int)≤j∧j <(↑xs.length:Int))∧(ByteArray.mk #[32]).size +(aY (xs.getD j.toNat (dflt (Ty.int IntKind.i64)))).size≤ak∧o.size+r1.size≤ak∧uD (l,n,i,xs,m,IntKind.i64.wrap (j +(1:Int)),o++r1,())∧IC (l,n,i,xs,m,IntKind.i64.wrap (j +(1:Int)),o++r1,())<IC (l,n,i,xs,m,j,o,()))∧(decide (j<m)=false→True))∧(bif decide (j<m) then mo (l,n,i,xs,m,IntKind.i64.wrap (j +(1:Int)),o++r1,()) else (l,n,i,o,()))=mo (l,n,i,xs,m,j,o,()))
 intro r1
 clear_value (hr1:r1=_)
 obtain ⟨⟨h1,h1b⟩,⟨h2,h3⟩,h4⟩:=hi
 have h1:m =(xs.length:Int):=h1
 have h1b:inR xs:=h1b
 have h2:0≤j:=h2
 have h3:j≤m:=h3
 have h4 :(o.size:Int)+30 *(m - j)≤900000000:=h4
 have hL :(1000000000:Nat)≤ak:=by decide
 have hf:=h1b.1
 by_cases h:j<m
 ·have e1:IntKind.i64.wrap (j+1)=j+1:=wrap64 (by omega) (by omega)
  have hd:xs.drop j.toNat=xs.getD j.toNat (dflt (Ty.int IntKind.i64))::xs.drop (j+1).toNat:=gD h2 (by omega) _
  have hm:xs.getD j.toNat (dflt (Ty.int IntKind.i64))∈xs:=List.mem_of_mem_drop (i:=j.toNat) (by rw [hd];exact List.mem_cons_self)
  obtain ⟨b1,b2⟩:=h1b.2 _ hm
  generalize xs.getD j.toNat (dflt (Ty.int IntKind.i64))=x at *
  have hz:=jk b1 b2
  have hsp :(ByteArray.mk #[(32:UInt8)]).size=1:=rfl
  have hr:r1.size≤22:=by rw [hr1,ByteArray.size_append,hsp];omega
  have key:mo (l,n,i,xs,m,j,o,())=mo (l,n,i,xs,m,j+1,o++r1,()):=by
   show (l,n,i,kC ((xs.drop j.toNat).map aY) o,()) =(l,n,i,kC ((xs.drop (j+1).toNat).map aY) (o++r1),())
   rw [hd,hr1]
   rfl
  rw [decide_eq_true h,e1,key]
  refine ⟨⟨fun _=>⟨⟨h2,by omega⟩,by rw [hsp];omega,by omega,⟨⟨h1,h1b⟩,⟨?_,?_⟩,?_⟩,?_⟩,fun z=>Bool.noConfusion z⟩,rfl⟩
  ·show 0≤j+1;omega
  ·show j+1≤m;omega
  ·show ((o++r1).size:Int)+30 *(m - (j+1))≤900000000
   rw [ByteArray.size_append];omega
  ·show (m - (j+1)).toNat <(m - j).toNat;omega
 ·rw [decide_eq_false h]
  refine ⟨⟨fun z=>Bool.noConfusion z,fun _=>trivial⟩,?_⟩
  show _ =(l,n,i,kC ((xs.drop j.toNat).map aY) o,())
  rw [fa (l:=xs) (by omega)]
  rfl
noncomputable def Pq:LoopSum:=aD lpW1x mo uD
noncomputable def OY:Nat:=rid (jV Tryz.f21 0 1)
theorem K8:LoopOKp Tryz.prog 0 Tryz.f21.ntmps (jV Tryz.f21 0 1) (aD lpW1x mo uD):=
 bq lpW1x (au (.consU mP rfl (.consU fm rfl .nil)) _) mixed (fun b hb S hS=>by cases hS) mo uD IC (fun |⟨l,n,i,xs,m,j,o,⟨⟩⟩,hi=>LZ l n i xs m j o hi)
end Go.Proofs.YtffdpnmioidloaaGreatDoor
namespace Go.Proofs.YtffdpnmioidloaaGreatDoor
open Go Go.Mir
attribute [local irreducible] Go.Mir.DT.sat Go.Mir.evPat
def OQ:Ty:= .prod .str (.prod (.int .u8) .unit)
def ixW (s:ByteArray) (c:Int):Int:=Lib.indexByte s.data.toList c.toNat.toUInt8
def JM:Den OQ→PRes:=fun x=>⟨[],.int .i64 (ixW x.1 x.2.1),[]⟩
def rA:FuncId×Ctr:=(108,bu KE OQ JM)
def ba (d:Delivery):Int:=
 if decide (d.Typ<1) ||(decide (d.Typ>3) ||(decide (d.Source>3)||decide (d.How>10))) then 3
 else if !inW d.Runs 0 7 ||(!inW d.Short 0 d.Runs ||(d.Boundary != 0&&(d.Boundary != 4&&d.Boundary != 6) ||(!inW d.Victim 0 2 ||(!inW d.Fielder 0 11 ||(!inW d.Second 0 11||!inW d.Sector 0 8))))) then 2 else 0
def vA:Den (tyP qD)→List Prop×Den (tyP Cn):=fun x=>([],(ba x.1,()))
def aC (k:Int):Prop:=1≤k∧k≤16
theorem MA :∀ (l:List UInt8) (c:UInt8),Lib.indexByte l c≤l.length
 | [],c=>by unfold Lib.indexByte;simp
 | b::l,c=>by
  have:=MA l c
  unfold Lib.indexByte
  simp only [List.length_cons]
  split
  ·omega
  ·split <;> omega
theorem zR:CtrOK Tryz.prog KE 108 (bu KE OQ JM):=by
 refine GO Tryz.func108 (by kernel_rfl) (by kernel_rfl) (fun _=>⟨rfl,rfl⟩) (fun x av w E hw _ hav=>?_) (fun _ _=>rfl)
 obtain ⟨s,c,⟨⟩⟩:=x
 obtain ⟨a,r,rfl,h1,h2⟩:=bh hav
 obtain ⟨b,r2,rfl,h3,h4⟩:=bh h2
 have h5:r2=[]:=by cases r2 with|nil=>rfl|cons=>simp [iD,ab] at h4
 subst h5
 simp only [dN,aa] at h1 h3
 obtain ⟨rfl,hs⟩:=h1
 obtain ⟨rfl,hc⟩:=h3
 refine (Any.strings_IndexByte DM s c w).mono fun e w' ⟨h6,h7⟩=>⟨_,h6,h7,fun E'=>?_⟩
 refine gv ?_
 have hge:=Lib.indexByte_ge s.data.toList c.toNat.toUInt8
 have hle:=MA s.data.toList c.toNat.toUInt8
 have hl:s.data.toList.length≤ak:=by rw [Array.length_toList];exact hs
 unfold ak at hl
 have e1:IntKind.i64.min = -9223372036854775808:=by decide
 have e2:IntKind.i64.max=9223372036854775807:=by decide
 unfold ok
 rw [e1,e2]
 show _≤ixW s c∧ixW s c≤_
 unfold ixW
 omega
theorem AE (n:Int) (lo:Int) (hi:Int) :(evPat (ay [] Tryz.f201) (fun _=>none) Tryz.f201 q3 rZ (n,lo,hi,())).sat fun z_=>z_ =(sIn (n,lo,hi,())).2:=by
 refine cast (by kernel_rfl) (?_ :(bif decide (n≥lo) then decide (n≤hi) else false,()) =(inW n lo hi,()))
 grind [inW]
def uK:FuncId×Ctr:=(201,ae KE q3 rZ sIn)
theorem B4:CtrOK Tryz.prog KE 201 (ae KE q3 rZ sIn):=by
 refine aE (C:=ay [] Tryz.f201) (au (CtrsOK.nil) _) mixed (fn:=Tryz.f201) Tryz.func201 (by kernel_rfl) (by kernel_rfl) (by kernel_rfl) (by kernel_rfl) (by kernel_rfl) (by kernel_rfl) (Λ:=fun _ _=>none) ?_ ?_
 ·exact fun _ _ _ _ _ _ _ _ h=>by cases h
 ·rintro ⟨n,lo,hi,⟨⟩⟩ hw hn
  exact AE n lo hi
theorem LR (n:Int) (lo:Int) (hi:Int) :(evPat (ay [] Tryz.f204) (fun _=>none) Tryz.f204 q3 rZ (n,lo,hi,())).sat fun z_=>z_ =(sIn (n,lo,hi,())).2:=by
 refine cast (by kernel_rfl) (?_ :(bif decide (n≥lo) then decide (n≤hi) else false,()) =(inW n lo hi,()))
 grind [inW]
def MC:FuncId×Ctr:=(204,ae KE q3 rZ sIn)
theorem OI:CtrOK Tryz.prog KE 204 (ae KE q3 rZ sIn):=by
 refine aE (C:=ay [] Tryz.f204) (au (CtrsOK.nil) _) mixed (fn:=Tryz.f204) Tryz.func204 (by kernel_rfl) (by kernel_rfl) (by kernel_rfl) (by kernel_rfl) (by kernel_rfl) (by kernel_rfl) (Λ:=fun _ _=>none) ?_ ?_
 ·exact fun _ _ _ _ _ _ _ _ h=>by cases h
 ·rintro ⟨n,lo,hi,⟨⟩⟩ hw hn
  exact LR n lo hi
theorem FY (d:Delivery) :(evPat (ay [uK] Tryz.f150) (fun _=>none) Tryz.f150 qD Cn (d,())).sat fun z_=>z_ =(vA (d,())).2:=by
 refine cast (by kernel_rfl) (?_:let r1:Bool:=bif !inW d.8 (0:Int) (2:Int) then true else bif !inW d.9 (0:Int) (11:Int) then true else bif !inW d.10 (0:Int) (11:Int) then true else !inW d.12 (0:Int) (8:Int);let r2:Bool:=bif decide (d.1 <(1:Int)) then true else bif decide (d.1 >(3:Int)) then true else bif decide (d.2 >(3:Int)) then true else decide (d.7 >(10:Int));let r3:Bool:=bif !inW d.3 (0:Int) (7:Int) then true else bif !inW d.4 (0:Int) d.3 then true else bif d.5 !=(0:Int) then bif d.5 !=(4:Int) then bif d.5 !=(6:Int) then true else r1 else r1 else r1;(r2=true→((3:Int),()) =(ba d,()))∧(r2=false→(r3=true→((2:Int),()) =(ba d,()))∧(r3=false→((0:Int),()) =(ba d,()))))
 intro r1 r2 r3
 clear_value (hr1:r1=_) (hr2:r2=_) (hr3:r3=_)
 repeat' (first|refine And.intro ?_ ?_|intro h)
 all_goals grind (splits:=40) [ba]
def DI:FuncId×Ctr:=(150,ae KE qD Cn vA)
theorem IW:CtrOK Tryz.prog KE 150 (ae KE qD Cn vA):=by
 refine aE (C:=ay [uK] Tryz.f150) (au (.consU B4 rfl .nil) _) mixed (fn:=Tryz.f150) Tryz.func150 (by kernel_rfl) (by kernel_rfl) (by kernel_rfl) (by kernel_rfl) (by kernel_rfl) (by kernel_rfl) (Λ:=fun _ _=>none) ?_ ?_
 ·exact fun _ _ _ _ _ _ _ _ h=>by cases h
 ·rintro ⟨d,⟨⟩⟩ hw hn
  exact FY d
theorem CJ (d:Delivery) :(evPat (ay [MC] Tryz.f155) (fun _=>none) Tryz.f155 qD Cn (d,())).sat fun z_=>z_ =(vA (d,())).2:=by
 refine cast (by kernel_rfl) (?_:let r1:Bool:=bif !inW d.8 (0:Int) (2:Int) then true else bif !inW d.9 (0:Int) (11:Int) then true else bif !inW d.10 (0:Int) (11:Int) then true else !inW d.12 (0:Int) (8:Int);let r2:Bool:=bif decide (d.1 <(1:Int)) then true else bif decide (d.1 >(3:Int)) then true else bif decide (d.2 >(3:Int)) then true else decide (d.7 >(10:Int));let r3:Bool:=bif !inW d.3 (0:Int) (7:Int) then true else bif !inW d.4 (0:Int) d.3 then true else bif d.5 !=(0:Int) then bif d.5 !=(4:Int) then bif d.5 !=(6:Int) then true else r1 else r1 else r1;(r2=true→((3:Int),()) =(ba d,()))∧(r2=false→(r3=true→((2:Int),()) =(ba d,()))∧(r3=false→((0:Int),()) =(ba d,()))))
 intro r1 r2 r3
 clear_value (hr1:r1=_) (hr2:r2=_) (hr3:r3=_)
 repeat' (first|refine And.intro ?_ ?_|intro h)
 all_goals grind (splits:=40) [ba]
def za:FuncId×Ctr:=(155,ae KE qD Cn vA)
theorem FH:CtrOK Tryz.prog KE 155 (ae KE qD Cn vA):=by
 refine aE (C:=ay [MC] Tryz.f155) (au (.consU OI rfl .nil) _) mixed (fn:=Tryz.f155) Tryz.func155 (by kernel_rfl) (by kernel_rfl) (by kernel_rfl) (by kernel_rfl) (by kernel_rfl) (by kernel_rfl) (Λ:=fun _ _=>none) ?_ ?_
 ·exact fun _ _ _ _ _ _ _ _ h=>by cases h
 ·rintro ⟨d,⟨⟩⟩ hw hn
  exact CJ d
end Go.Proofs.YtffdpnmioidloaaGreatDoor
namespace Go.Proofs.YtffdpnmioidloaaGreatDoor
open Go Go.Mir
attribute [local irreducible] Go.Mir.DT.sat Go.Mir.evPat Go.Mir.RT.sat Go.Mir.evFn
abbrev ln:Pat:=dI [I]
abbrev qIb:Pat:=dI [I,I]
abbrev aU:Pat:=dI [.str]
def dgs36:ByteArray:=⟨#[48,49,50,51,52,53,54,55,56,57,97,98,99,100,101,102,103,104,105,106,107,108,109,110,111,112,113,114,115,116,117,118,119,120,121,122]⟩
def sm200:ByteArray:=⟨((List.range 100).flatMap fun n=> [UInt8.ofNat (48+n / 10),UInt8.ofNat (48+n % 10)]).toArray⟩
def bC (n:Int):ByteArray:=if decide (n<10) then dgs36.extract n.toNat (n+1).toNat else sm200.extract (n*2).toNat (n*2+2).toNat
def cX (n:Int):Prop:=0≤n∧n<100
def qv (n:Int):Prop:=n=10
def gu:Den (tyP ln)→List Prop×Den (tyP aU):=fun x=>([cX x.1],(bC x.1,()))
def F4:Den (tyP qIb)→List Prop×Den (tyP aU):=fun x=>([cX x.1,qv x.2.1],(bC x.1,()))
def iA (n:Int):ByteArray:=Utf8.encode (IntKind.i32.wrap (IntKind.i64.wrap (48+n)))
def CN:Den (tyP ln)→List Prop×Den (tyP aU):=fun x=>([],(iA x.1,()))
def dE (t s:Int):ByteArray:=if s==0 then (if t != 2 then ⟨#[46]⟩ else ⟨#[]⟩) else if s==1 then (if t==2 then ⟨#[111]⟩ else ⟨#[]⟩) else if s==2 then ⟨#[98]⟩ else if s==3 then ⟨#[108]⟩ else ⟨#[]⟩
def xS:Den (tyP qD)→List Prop×Den (tyP aU):=fun x=>([],(dE x.1.Typ x.1.Source,()))
def lets:ByteArray:=⟨#[78,66,67,76,83,72,82,84,79,77,81]⟩
def wZ (h:Int):ByteArray:=lets.extract h.toNat (h+1).toNat
def gN (d:Delivery):Bool:=d.Fielder != 0 ||(d.Second != 0||d.Sub)
def qa (d:Delivery):ByteArray:=(⟨#[47]⟩++wZ d.How)++iA d.Victim
def x9 (d:Delivery):ByteArray:=qa d ++(⟨#[40]⟩++bC d.Fielder)
def sR (d:Delivery):ByteArray:=if d.Second != 0 then x9 d ++(⟨#[44]⟩++bC d.Second) else x9 d
def sS (d:Delivery):ByteArray:=if d.Sub then sR d ++⟨#[115]⟩ else sR d
def lz (d:Delivery):ByteArray:=if d.How==0&&(d.Victim==0&&!gN d) then ⟨#[]⟩ else if gN d then sS d ++⟨#[41]⟩ else qa d
def Fg (d:Delivery):Prop:=(0≤d.How∧d.How≤10)∧cX d.Fielder∧cX d.Second
def xT:Den (tyP qD)→List Prop×Den (tyP aU):=fun x=>([Fg x.1],(lz x.1,()))
def mX (t:Int):ByteArray:=if t==2 then ⟨#[119]⟩ else if t==3 then ⟨#[110]⟩ else ⟨#[]⟩
theorem Qa (n:Int) :(Utf8.encode n).size≤4:=by
 unfold Utf8.encode
 generalize (if Utf8.valid n then n.toNat else Utf8.runeError)=c
 show (ite _ _ _:ByteArray).size≤4
 by_cases h1:c<0x80
 ·rw [if_pos h1];exact Nat.le_of_ble_eq_true rfl
 ·rw [if_neg h1]
  by_cases h2:c<0x800
  ·rw [if_pos h2];exact Nat.le_of_ble_eq_true rfl
  ·rw [if_neg h2]
   by_cases h3:c<0x10000
   ·rw [if_pos h3];exact Nat.le_of_ble_eq_true rfl
   ·rw [if_neg h3];exact Nat.le_of_ble_eq_true rfl
theorem qE {n:Int} (h:cX n) :(bC n).size≤200:=by
 have z5:dgs36.size=36:=rfl
 have z6:sm200.size=200:=by kernel_rfl
 unfold bC
 split <;> rw [ByteArray.size_extract] <;> omega
theorem AC (n:Int) (hk:cX n) :(evPat (ay [] Tryz.f210) (fun _=>none) Tryz.f210 ln aU (n,())).sat fun z_=>z_ =(gu (n,())).2:=by
 refine cast (by kernel_rfl) (?_:let r1:Int:=IntKind.i64.wrap (n +(1:Int));let r2:Int:=IntKind.i64.wrap (n *(2:Int));let r3:Bool:=decide (n <(10:Int));let r4:Int:=IntKind.i64.wrap (r2 +(2:Int));let r5:ByteArray:=ByteArray.mk #[48,49,50,51,52,53,54,55,56,57,97,98,99,100,101,102,103,104,105,106,107,108,109,110,111,112,113,114,115,116,117,118,119,120,121,122];let r6:ByteArray:=ByteArray.mk (([(48:UInt8),(48:UInt8),(48:UInt8),(49:UInt8),(48:UInt8),(50:UInt8),(48:UInt8),(51:UInt8),(48:UInt8),(52:UInt8),(48:UInt8),(53:UInt8),(48:UInt8),(54:UInt8),(48:UInt8),(55:UInt8),(48:UInt8),(56:UInt8),(48:UInt8),(57:UInt8),(49:UInt8),(48:UInt8),(49:UInt8),(49:UInt8),(49:UInt8),(50:UInt8),(49:UInt8),(51:UInt8),(49:UInt8),(52:UInt8),(49:UInt8),(53:UInt8),(49:UInt8),(54:UInt8),(49:UInt8),(55:UInt8),(49:UInt8),(56:UInt8),(49:UInt8),(57:UInt8),(50:UInt8),(48:UInt8),(50:UInt8),(49:UInt8),(50:UInt8),(50:UInt8),(50:UInt8),(51:UInt8),(50:UInt8),(52:UInt8)].append [(50:UInt8),(53:UInt8),(50:UInt8),(54:UInt8),(50:UInt8),(55:UInt8),(50:UInt8),(56:UInt8),(50:UInt8),(57:UInt8),(51:UInt8),(48:UInt8),(51:UInt8),(49:UInt8),(51:UInt8),(50:UInt8),(51:UInt8),(51:UInt8),(51:UInt8),(52:UInt8),(51:UInt8),(53:UInt8),(51:UInt8),(54:UInt8),(51:UInt8),(55:UInt8),(51:UInt8),(56:UInt8),(51:UInt8),(57:UInt8),(52:UInt8),(48:UInt8),(52:UInt8),(49:UInt8),(52:UInt8),(50:UInt8),(52:UInt8),(51:UInt8),(52:UInt8),(52:UInt8),(52:UInt8),(53:UInt8),(52:UInt8),(54:UInt8),(52:UInt8),(55:UInt8),(52:UInt8),(56:UInt8),(52:UInt8),(57:UInt8)]).append ([(53:UInt8),(48:UInt8),(53:UInt8),(49:UInt8),(53:UInt8),(50:UInt8),(53:UInt8),(51:UInt8),(53:UInt8),(52:UInt8),(53:UInt8),(53:UInt8),(53:UInt8),(54:UInt8),(53:UInt8),(55:UInt8),(53:UInt8),(56:UInt8),(53:UInt8),(57:UInt8),(54:UInt8),(48:UInt8),(54:UInt8),(49:UInt8),(54:UInt8),(50:UInt8),(54:UInt8),(51:UInt8),(54:UInt8),(52:UInt8),(54:UInt8),(53:UInt8),(54:UInt8),(54:UInt8),(54:UInt8),(55:UInt8),(54:UInt8),(56:UInt8),(54:UInt8),(57:UInt8),(55:UInt8),(48:UInt8),(55:UInt8),(49:UInt8),(55:UInt8),(50:UInt8),(55:UInt8),(51:UInt8),(55:UInt8),(52:UInt8)].append [(55:UInt8),(53:UInt8),(55:UInt8),(54:UInt8),(55:UInt8),(55:UInt8),(55:UInt8),(56:UInt8),(55:UInt8),(57:UInt8),(56:UInt8),(48:UInt8),(56:UInt8),(49:UInt8),(56:UInt8),(50:UInt8),(56:UInt8),(51:UInt8),(56:UInt8),(52:UInt8),(56:UInt8),(53:UInt8),(56:UInt8),(54:UInt8),(56:UInt8),(55:UInt8),(56:UInt8),(56:UInt8),(56:UInt8),(57:UInt8),(57:UInt8),(48:UInt8),(57:UInt8),(49:UInt8),(57:UInt8),(50:UInt8),(57:UInt8),(51:UInt8),(57:UInt8),(52:UInt8),(57:UInt8),(53:UInt8),(57:UInt8),(54:UInt8),(57:UInt8),(55:UInt8),(57:UInt8),(56:UInt8),(57:UInt8),(57:UInt8)])).toArray;(r3=true→((0:Int)≤n∧n≤r1∧r1≤(↑r5.size:Int))∧(r5.extract n.toNat r1.toNat,()) =(bC n,()))∧(r3=false→((0:Int)≤r2∧r2≤r4∧r4≤(↑r6.size:Int))∧(r6.extract r2.toNat r4.toNat,()) =(bC n,())))
 intro r1 r2 r3 r4 r5 r6
 clear_value (hr1:r1=_) (hr2:r2=_) (hr3:r3=_) (hr4:r4=_) (hr5:r5=_) (hr6:r6=_)
 obtain ⟨h0,h1⟩:=hk
 have e1:r1=n+1:=by rw [hr1];exact wrap64 (by omega) (by omega)
 have e2:r2=n*2:=by rw [hr2];exact wrap64 (by omega) (by omega)
 have e4:r4=n*2+2:=by rw [hr4,e2];exact wrap64 (by omega) (by omega)
 have e5:r5=dgs36:=hr5
 have e6:r6=sm200:=by rw [hr6];kernel_rfl
 have z5:dgs36.size=36:=rfl
 have z6:sm200.size=200:=by kernel_rfl
 clear hr1 hr2 hr4 hr5 hr6
 subst e1 e2 e4 e5 e6
 refine ⟨fun h=>?_,fun h=>?_⟩
 ·rw [hr3] at h
  have hd:=of_decide_eq_true h
  refine ⟨⟨h0,by omega,by omega⟩,?_⟩
  unfold bC;rw [h];rfl
 ·rw [hr3] at h
  refine ⟨⟨by omega,by omega,by omega⟩,?_⟩
  unfold bC;rw [h];rfl
def uI:FuncId×Ctr:=(210,ae KE ln aU gu)
theorem B2:CtrOK Tryz.prog KE 210 (ae KE ln aU gu):=by
 refine aE (C:=ay [] Tryz.f210) (au (CtrsOK.nil) _) mixed (fn:=Tryz.f210) Tryz.func210 (by kernel_rfl) (by kernel_rfl) (by kernel_rfl) (by kernel_rfl) (by kernel_rfl) (by kernel_rfl) (Λ:=fun _ _=>none) ?_ ?_
 ·exact fun _ _ _ _ _ _ _ _ h=>by cases h
 ·rintro ⟨n,⟨⟩⟩ hw hn
  exact AC n (hn _ List.mem_cons_self)
theorem FV (n:Int) (b:Int) (hk:cX n) (hb:qv b) :(evPat (ay [uI] Tryz.f169) (fun _=>none) Tryz.f169 qIb aU (n,b,())).sat fun z_=>z_ =(F4 (n,b,())).2:=by
 refine cast (by kernel_rfl) (?_:let r1:Bool:=bif decide ((0:Int)≤n) then decide (n <(100:Int)) else false;((b ==(10:Int))=true→(r1=true→cX n∧(bC n,()) =(bC n,()))∧(r1=false→False))∧((b ==(10:Int))=false→False))
 intro r1
 clear_value (hr1:r1=_)
 have hb:b=10:=hb
 have e1:r1=true:=by rw [hr1,decide_eq_true hk.1,decide_eq_true hk.2];rfl
 subst hb
 exact ⟨fun _=>⟨fun _=>⟨hk,rfl⟩,fun h=>by rw [e1] at h;cases h⟩,fun h=>by cases h⟩
def DF:FuncId×Ctr:=(169,ae KE qIb aU F4)
theorem IR:CtrOK Tryz.prog KE 169 (ae KE qIb aU F4):=by
 refine aE (C:=ay [uI] Tryz.f169) (au (.consU B2 rfl .nil) _) mixed (fn:=Tryz.f169) Tryz.func169 (by kernel_rfl) (by kernel_rfl) (by kernel_rfl) (by kernel_rfl) (by kernel_rfl) (by kernel_rfl) (Λ:=fun _ _=>none) ?_ ?_
 ·exact fun _ _ _ _ _ _ _ _ h=>by cases h
 ·rintro ⟨n,b,⟨⟩⟩ hw hn
  exact FV n b (hn _ List.mem_cons_self) (hn _ (List.mem_cons_of_mem _ List.mem_cons_self))
theorem CD (n:Int) (b:Int) (hk:cX n) (hb:qv b) :(evPat (ay [DF] Tryz.f105) (fun _=>none) Tryz.f105 qIb aU (n,b,())).sat fun z_=>z_ =(F4 (n,b,())).2:=by
 refine cast (by kernel_rfl) (?_:cX n∧qv b∧(bC n,()) =(bC n,()))
 exact ⟨hk,hb,rfl⟩
def yY:FuncId×Ctr:=(105,ae KE qIb aU F4)
theorem FA:CtrOK Tryz.prog KE 105 (ae KE qIb aU F4):=by
 refine aE (C:=ay [DF] Tryz.f105) (au (.consU IR rfl .nil) _) mixed (fn:=Tryz.f105) Tryz.func105 (by kernel_rfl) (by kernel_rfl) (by kernel_rfl) (by kernel_rfl) (by kernel_rfl) (by kernel_rfl) (Λ:=fun _ _=>none) ?_ ?_
 ·exact fun _ _ _ _ _ _ _ _ h=>by cases h
 ·rintro ⟨n,b,⟨⟩⟩ hw hn
  exact CD n b (hn _ List.mem_cons_self) (hn _ (List.mem_cons_of_mem _ List.mem_cons_self))
theorem AD (n:Int) (hk:cX n) :(evPat (ay [yY] Tryz.f45) (fun _=>none) Tryz.f45 ln aU (n,())).sat fun z_=>z_ =(gu (n,())).2:=by
 refine cast (by kernel_rfl) (?_:cX n∧qv (10:Int)∧(bC n,()) =(bC n,()))
 exact ⟨hk,rfl,rfl⟩
def uJ:FuncId×Ctr:=(45,ae KE ln aU gu)
theorem B3:CtrOK Tryz.prog KE 45 (ae KE ln aU gu):=by
 refine aE (C:=ay [yY] Tryz.f45) (au (.consU FA rfl .nil) _) mixed (fn:=Tryz.f45) Tryz.func45 (by kernel_rfl) (by kernel_rfl) (by kernel_rfl) (by kernel_rfl) (by kernel_rfl) (by kernel_rfl) (Λ:=fun _ _=>none) ?_ ?_
 ·exact fun _ _ _ _ _ _ _ _ h=>by cases h
 ·rintro ⟨n,⟨⟩⟩ hw hn
  exact AD n (hn _ List.mem_cons_self)
theorem FZ (n:Int) :(evPat (ay [] Tryz.f152) (fun _=>none) Tryz.f152 ln aU (n,())).sat fun z_=>z_ =(CN (n,())).2:=by
 refine cast (by kernel_rfl) (?_ :(Utf8.encode (IntKind.i32.wrap (IntKind.i64.wrap ((48:Int)+n))),()) =(iA n,()))
 rfl
def qj:FuncId×Ctr:=(152,ae KE ln aU CN)
theorem zU:CtrOK Tryz.prog KE 152 (ae KE ln aU CN):=by
 refine aE (C:=ay [] Tryz.f152) (au (CtrsOK.nil) _) mixed (fn:=Tryz.f152) Tryz.func152 (by kernel_rfl) (by kernel_rfl) (by kernel_rfl) (by kernel_rfl) (by kernel_rfl) (by kernel_rfl) (Λ:=fun _ _=>none) ?_ ?_
 ·exact fun _ _ _ _ _ _ _ _ h=>by cases h
 ·rintro ⟨n,⟨⟩⟩ hw hn
  exact FZ n
theorem CF (d:Delivery) :(evPat (ay [] Tryz.f151) (fun _=>none) Tryz.f151 qD aU (d,())).sat fun z_=>z_ =(xS (d,())).2:=by
 refine cast (by kernel_rfl) (?_ :(((d.2 ==(0:Int))=true→((d.1 !=(2:Int))=true→(ByteArray.mk #[46],()) =(dE d.1 d.2,()))∧((d.1 !=(2:Int))=false→True))∧((d.2 ==(0:Int))=false→((d.2 ==(1:Int))=true→((d.1 ==(2:Int))=true→(ByteArray.mk #[111],()) =(dE d.1 d.2,()))∧((d.1 ==(2:Int))=false→True))∧((d.2 ==(1:Int))=false→((d.2 ==(2:Int))=true→(ByteArray.mk #[98],()) =(dE d.1 d.2,()))∧((d.2 ==(2:Int))=false→((d.2 ==(3:Int))=true→(ByteArray.mk #[108],()) =(dE d.1 d.2,()))∧((d.2 ==(3:Int))=false→True)))))∧((bif d.2 ==(0:Int) then !d.1 !=(2:Int) else bif d.2 ==(1:Int) then !d.1 ==(2:Int) else bif d.2 ==(2:Int) then false else !d.2 ==(3:Int))=true→(ByteArray.mk #[],()) =(dE d.1 d.2,())))
 unfold dE
 generalize d.Typ=t
 generalize d.Source=s
 cases h0:s==0 <;> cases h1:s==1 <;> cases h2:s==2 <;> cases h3:s==3 <;> cases ht:t==2 <;> simp [h0,h1,h2,h3,ht,bne]
def y7:FuncId×Ctr:=(151,ae KE qD aU xS)
theorem FE:CtrOK Tryz.prog KE 151 (ae KE qD aU xS):=by
 refine aE (C:=ay [] Tryz.f151) (au (CtrsOK.nil) _) mixed (fn:=Tryz.f151) Tryz.func151 (by kernel_rfl) (by kernel_rfl) (by kernel_rfl) (by kernel_rfl) (by kernel_rfl) (by kernel_rfl) (Λ:=fun _ _=>none) ?_ ?_
 ·exact fun _ _ _ _ _ _ _ _ h=>by cases h
 ·rintro ⟨d,⟨⟩⟩ hw hn
  exact CF d
theorem CG (d:Delivery) (hd:Fg d) :(evPat (ay [qj,uJ] Tryz.f153) (fun _=>none) Tryz.f153 qD aU (d,())).sat fun z_=>z_ =(xT (d,())).2:=by
 refine cast (by kernel_rfl) (?_:let r1:Int:=IntKind.u8.wrap (d.7 +(1:Int));let r2:ByteArray:=ByteArray.mk #[40]++bC d.9;let r3:ByteArray:=ByteArray.mk #[44]++bC d.10;let r4:Bool:=!bif d.9 !=(0:Int) then true else bif d.10 !=(0:Int) then true else d.11;let r5:Bool:=bif d.7 ==(0:Int) then bif d.8 ==(0:Int) then r4 else false else false;let r6:ByteArray:=ByteArray.mk #[78,66,67,76,83,72,82,84,79,77,81];let r7:ByteArray:=r6.extract d.7.toNat r1.toNat;let r8:ByteArray:=ByteArray.mk #[47]++r7;let r9:ByteArray:=r8++iA d.8;let r10:ByteArray:=r9++r2;let r11:ByteArray:=bif d.10 !=(0:Int) then r10++r3 else r10;let r12:ByteArray:=bif d.11 then r11++ByteArray.mk #[115] else r11;(r5=true→(ByteArray.mk #[],()) =(lz d,()))∧(r5=false→((0:Int)≤d.7∧d.7≤r1∧r1≤(↑r6.size:Int))∧(ByteArray.mk #[47]).size+r7.size≤ak∧r8.size +(iA d.8).size≤ak∧(r4=true→(r9,()) =(lz d,()))∧(r4=false→cX d.9∧(ByteArray.mk #[40]).size +(bC d.9).size≤ak∧r9.size+r2.size≤ak∧(((d.10 !=(0:Int))=true→cX d.10∧(ByteArray.mk #[44]).size +(bC d.10).size≤ak∧r10.size+r3.size≤ak∧True)∧((d.10 !=(0:Int))=false→True))∧(true=true→((d.11=true→r11.size +(ByteArray.mk #[115]).size≤ak∧True)∧(d.11=false→True))∧(true=true→r12.size +(ByteArray.mk #[41]).size≤ak∧(r12++ByteArray.mk #[41],()) =(lz d,()))))))
 intro r1 r2 r3 r4 r5 r6 r7 r8 r9 r10 r11 r12
 clear_value (hr1:r1=_) (hr2:r2=_) (hr3:r3=_) (hr4:r4=_) (hr5:r5=_) (hr6:r6=_) (hr7:r7=_) (hr8:r8=_) (hr9:r9=_) (hr10:r10=_) (hr11:r11=_) (hr12:r12=_)
 obtain ⟨⟨h0,h1⟩,hf,hs⟩:=hd
 have e1:r1=d.How+1:=by
  rw [hr1]
  simp only [IntKind.wrap,IntKind.bits,IntKind.signed]
  simp
  omega
 have e6:r6.size=11:=by rw [hr6];rfl
 have z7:r7.size≤11:=by rw [hr7,ByteArray.size_extract];omega
 have zd:=Qa (IntKind.i32.wrap (IntKind.i64.wrap (48+d.Victim)))
 have zd :(iA d.Victim).size≤4:=zd
 have zf:=qE hf
 have zs:=qE hs
 have z8:r8.size≤12:=by rw [hr8,ByteArray.size_append];show 1+_≤_;omega
 have z9:r9.size≤16:=by rw [hr9,ByteArray.size_append];omega
 have z2:r2.size≤201:=by rw [hr2,ByteArray.size_append];show 1+_≤_;omega
 have z3:r3.size≤201:=by rw [hr3,ByteArray.size_append];show 1+_≤_;omega
 have z10:r10.size≤217:=by rw [hr10,ByteArray.size_append];omega
 have z11:r11.size≤418:=by
  rw [hr11]
  cases d.Second != 0
  ·show r10.size≤_;omega
  ·show (r10++r3).size≤_;rw [ByteArray.size_append];omega
 have z12:r12.size≤419:=by
  rw [hr12]
  cases d.Sub
  ·show r11.size≤_;omega
  ·show (r11++_).size≤_;rw [ByteArray.size_append];show _+1≤_;omega
 have one :∀ c:UInt8,(ByteArray.mk #[c]).size=1:=fun _=>rfl
 have hL :(500:Nat)≤ak:=by decide
 have eA:r4=!gN d:=by rw [hr4];unfold gN;cases d.Fielder != 0 <;> cases d.Second != 0 <;> rfl
 have e7:r7=wZ d.How:=by rw [hr7,e1,hr6];rfl
 have w1:r9=qa d:=by rw [hr9,hr8,e7];rfl
 have w2:r10=x9 d:=by rw [hr10,w1,hr2];rfl
 have w3:r11=sR d:=by rw [hr11,w2,hr3];unfold sR;cases d.Second != 0 <;> rfl
 have w4:r12=sS d:=by rw [hr12,w3];unfold sS;cases d.Sub <;> rfl
 have e5 :(d.How==0&&(d.Victim==0&&!gN d))=r5:=by rw [hr5,eA];cases d.How==0 <;> cases d.Victim==0 <;> rfl
 refine ⟨fun h=>?_,fun h=>⟨⟨h0,by omega,by omega⟩,by rw [one];omega,by omega,fun a=>?_,fun a=>⟨hf,by rw [one];omega,by omega,⟨fun _=>⟨hs,by rw [one];omega,by omega,trivial⟩,fun _=>trivial⟩,fun _=>⟨⟨fun _=>⟨by rw [one];omega,trivial⟩,fun _=>trivial⟩,fun _=>⟨by rw [one];omega,?_⟩⟩⟩⟩⟩
 ·unfold lz;rw [e5,h];rfl
 ·have:gN d=false:=by rw [eA] at a;simpa using a
  unfold lz;rw [e5,h,this,w1];rfl
 ·have:gN d=true:=by rw [eA] at a;simpa using a
  unfold lz;rw [e5,h,this,w4];rfl
def y8:FuncId×Ctr:=(153,ae KE qD aU xT)
theorem FF:CtrOK Tryz.prog KE 153 (ae KE qD aU xT):=by
 refine aE (C:=ay [qj,uJ] Tryz.f153) (au (.consU zU rfl (.consU B3 rfl .nil)) _) mixed (fn:=Tryz.f153) Tryz.func153 (by kernel_rfl) (by kernel_rfl) (by kernel_rfl) (by kernel_rfl) (by kernel_rfl) (by kernel_rfl) (Λ:=fun _ _=>none) ?_ ?_
 ·exact fun _ _ _ _ _ _ _ _ h=>by cases h
 ·rintro ⟨d,⟨⟩⟩ hw hn
  exact CG d (hn _ List.mem_cons_self)
end Go.Proofs.YtffdpnmioidloaaGreatDoor
namespace Go.Proofs.YtffdpnmioidloaaGreatDoor
open Go Go.Mir
attribute [local irreducible] Go.Mir.DT.sat Go.Mir.evPat Go.Mir.RT.sat Go.Mir.evFn
abbrev Ap:Pat:=dI [.str,I]
def cb (b:Bool) (x y:ByteArray):ByteArray:=bif b then x else y
def AQ (d:Delivery) (src:ByteArray):Bool:=decide (d.Runs>0) ||((src.toList ==(ByteArray.mk #[]).toList)&&(d.Boundary==0&&d.Typ != 2))
def prA (d:Delivery):ByteArray:=mX d.Typ++dE d.Typ d.Source
def prB (d:Delivery):ByteArray:=cb (AQ d (dE d.Typ d.Source)) (prA d++iA d.Runs) (prA d)
def prC (d:Delivery):ByteArray:=cb (d.Boundary==4) (prB d ++⟨#[70]⟩) (cb (d.Boundary==6) (prB d ++⟨#[83]⟩) (prB d))
def prD (d:Delivery):ByteArray:=cb (decide (d.Short>0)) (prC d ++(⟨#[45]⟩++iA d.Short)) (prC d)
def prE (d:Delivery):ByteArray:=cb d.Crossed (prD d ++⟨#[120]⟩) (prD d)
def prF (d:Delivery):ByteArray:=prE d++lz d
def prG (d:Delivery):ByteArray:=cb (decide (d.Sector>0)) (prF d ++(⟨#[64]⟩++iA d.Sector)) (prF d)
def prS (d:Delivery):ByteArray:=if ba d != 0 then ⟨#[]⟩ else prG d
def CP:Den (tyP qD)→List Prop×Den (tyP Ap):=fun x=>([],(prS x.1,ba x.1,()))
abbrev qTS:Pat:=dI [U8,U8]
abbrev qT:Pat:=dI [U8]
def JK:Den (tyP qT)→List Prop×Den (tyP aU):=fun x=>([],(mX x.1,()))
def JI:Den (tyP qTS)→List Prop×Den (tyP aU):=fun x=>([],(dE x.1 x.2.1,()))
theorem Q3 {n:Nm} {x:n.T} (h:wfD (.nm n) x):wfD n.flds (n.to x):=by
 obtain ⟨S,w,cs,h⟩:=h
 cases h with
 | nm h=>exact ⟨_,_,_,h⟩
theorem PH {k:IntKind} {n:Int} (h:wfD (.int k) n):Mir.ok k n:=by
 obtain ⟨S,w,cs,h⟩:=h
 cases h with
 | int h=>exact h
theorem J9 {d:Delivery} (h:wfD (.nm .Delivery) d):0≤d.How:=by
 have h1:wfD (.prod (.int .u8) (.prod (.int .u8) (.prod I (.prod I (.prod I (.prod .bool (.prod (.int .u8) (.prod I (.prod I (.prod I (.prod .bool (.prod I .unit)))))))))))) (d.Typ,d.Source,d.Runs,d.Short,d.Boundary,d.Crossed,d.How,d.Victim,d.Fielder,d.Second,d.Sub,d.Sector,()):=Q3 h
 exact (PH (sQ (oZ (oZ (oZ (oZ (oZ (oZ h1)))))))).1
theorem dp {d:Delivery} (h:ba d=0) :(1≤d.Typ∧d.Typ≤3)∧d.Source≤3∧d.How≤10∧(0≤d.Fielder∧d.Fielder≤11)∧(0≤d.Second∧d.Second≤11):=by
 unfold ba at h
 split at h
 ·cases h
 ·rename_i h1
  split at h
  ·cases h
  ·rename_i h2
   simp [inW] at h1 h2
   omega
theorem vE (t s:Int) :(dE t s).size≤1:=by
 unfold dE
 repeat' split
 all_goals exact Nat.le_of_ble_eq_true rfl
theorem vG (t:Int) :(mX t).size≤1:=by
 unfold mX
 repeat' split
 all_goals exact Nat.le_of_ble_eq_true rfl
theorem dy (n:Int) :(iA n).size≤4:=Qa _
theorem Ba {d:Delivery} (h:Fg d) :(lz d).size≤500:=by
 obtain ⟨⟨h0,h1⟩,hf,hs⟩:=h
 have one :∀ c:UInt8,(ByteArray.mk #[c]).size=1:=fun _=>rfl
 have zh :(wZ d.How).size≤11:=by
  have:lets.size=11:=rfl
  unfold wZ;rw [ByteArray.size_extract];omega
 have zd:=dy d.Victim
 have zf:=qE hf
 have zs:=qE hs
 have z1 :(qa d).size≤16:=by unfold qa;rw [ByteArray.size_append,ByteArray.size_append,one];omega
 have z2 :(x9 d).size≤217:=by unfold x9;rw [ByteArray.size_append,ByteArray.size_append,one];omega
 have z3 :(sR d).size≤418:=by
  unfold sR
  split
  ·rw [ByteArray.size_append,ByteArray.size_append,one];omega
  ·omega
 have z4 :(sS d).size≤419:=by
  unfold sS
  split
  ·rw [ByteArray.size_append,one];omega
  ·omega
 unfold lz
 split
 ·exact Nat.zero_le _
 ·split
  ·rw [ByteArray.size_append,one];omega
  ·omega
theorem dZ {b:Bool} {x y:ByteArray} {n:Nat} (hx:x.size≤n) (hy:y.size≤n) :(cb b x y).size≤n:=by cases b <;> assumption
theorem F1 (d:Delivery) (hp:0≤d.How) :(evPat (ay [DI,y7,qj,y8] Tryz.f87) (fun _=>none) Tryz.f87 qD Ap (d,())).sat fun z_=>z_ =(CP (d,())).2:=by
 refine cast (by kernel_rfl) (?_:let r1:Int:=IntKind.u8.wrap (d.1 - (1:Int));let r2:Bool:=decide (d.4 >(0:Int));let r3:Bool:=decide (d.12 >(0:Int));let r4:ByteArray:=ByteArray.mk #[45]++iA d.4;let r5:ByteArray:=ByteArray.mk #[64]++iA d.12;let r6:List ByteArray:= [ByteArray.mk #[],ByteArray.mk #[119],ByteArray.mk #[110]];let r7:ByteArray:=r6.getD r1.toNat (dflt Ty.str);let r8:Bool:=bif decide (d.3 >(0:Int)) then true else bif (dE d.1 d.2).toList ==(ByteArray.mk #[]).toList then bif d.5 ==(0:Int) then d.1 !=(2:Int) else false else false;let r9:ByteArray:=r7++dE d.1 d.2;let r10:ByteArray:=bif r8 then r9++iA d.3 else r9;let r11:ByteArray:=bif d.5 ==(4:Int) then r10++ByteArray.mk #[70] else bif d.5 ==(6:Int) then r10++ByteArray.mk #[83] else r10;let r12:ByteArray:=bif r2 then r11++r4 else r11;let r13:ByteArray:=bif d.6 then r12++ByteArray.mk #[120] else r12;let r14:ByteArray:=r13++lz d;((ba d !=(0:Int))=true→(ByteArray.mk #[],ba d,()) =(prS d,ba d,()))∧((ba d !=(0:Int))=false→((0:Int)≤r1∧r1 <(↑r6.length:Int))∧r7.size +(dE d.1 d.2).size≤ak∧((r8=true→r9.size +(iA d.3).size≤ak∧True)∧(r8=false→True))∧(true=true→(((d.5 ==(4:Int))=true→r10.size +(ByteArray.mk #[70]).size≤ak∧True)∧((d.5 ==(4:Int))=false→((d.5 ==(6:Int))=true→r10.size +(ByteArray.mk #[83]).size≤ak∧True)∧((d.5 ==(6:Int))=false→True)))∧(true=true→((r2=true→(ByteArray.mk #[45]).size +(iA d.4).size≤ak∧r11.size+r4.size≤ak∧True)∧(r2=false→True))∧(true=true→((d.6=true→r12.size +(ByteArray.mk #[120]).size≤ak∧True)∧(d.6=false→True))∧(true=true→Fg d∧r13.size +(lz d).size≤ak∧((r3=true→(ByteArray.mk #[64]).size +(iA d.12).size≤ak∧r14.size+r5.size≤ak∧True)∧(r3=false→True))∧(true=true→(bif r3 then r14++r5 else r14,(0:Int),()) =(prS d,ba d,()))))))))
 intro r1 r2 r3 r4 r5 r6 r7 r8 r9 r10 r11 r12 r13 r14
 clear_value (hr1:r1=_) (hr2:r2=_) (hr3:r3=_) (hr4:r4=_) (hr5:r5=_) (hr6:r6=_) (hr7:r7=_) (hr8:r8=_) (hr9:r9=_) (hr10:r10=_) (hr11:r11=_) (hr12:r12=_) (hr13:r13=_) (hr14:r14=_)
 refine ⟨fun h=>by unfold prS;rw [if_pos h],fun h=>?_⟩
 have hF:ba d=0:=by simpa using h
 obtain ⟨⟨t1,t3⟩,s3,ho,⟨f0,f1⟩,k0,k1⟩:=dp hF
 have hD:Fg d:=⟨⟨hp,ho⟩,⟨f0,by omega⟩,⟨k0,by omega⟩⟩
 have e1:r1=d.Typ - 1:=by
  rw [hr1]
  simp only [IntKind.wrap,IntKind.bits,IntKind.signed]
  simp
  omega
 have e6:r6.length=3:=by rw [hr6];rfl
 have e7:r7=mX d.Typ:=by
  rw [hr7,e1,hr6]
  rcases (by omega:d.Typ=1∨d.Typ=2∨d.Typ=3) with h|h|h <;> rw [h] <;> rfl
 have one :∀ c:UInt8,(ByteArray.mk #[c]).size=1:=fun _=>rfl
 have hL :(2000:Nat)≤ak:=by decide
 have zt:=vG d.Typ
 have zs:=vE d.Typ d.Source
 have zr:=dy d.Runs
 have zh:=dy d.Short
 have zx:=dy d.Sector
 have zw:=Ba hD
 have e9:r9=prA d:=by rw [hr9,e7];rfl
 have e8:r8=AQ d (dE d.Typ d.Source):=by
  rw [hr8];unfold AQ
  cases decide (d.Runs>0) <;> cases (dE d.Typ d.Source).toList ==(ByteArray.mk #[]).toList <;> cases d.Boundary==0 <;> rfl
 have e10:r10=prB d:=by rw [hr10,e8,e9];rfl
 have e11:r11=prC d:=by rw [hr11,e10];rfl
 have e12:r12=prD d:=by rw [hr12,e11,hr2,hr4];rfl
 have e13:r13=prE d:=by rw [hr13,e12];rfl
 have e14:r14=prF d:=by rw [hr14,e13];rfl
 have z4:r4.size≤5:=by rw [hr4,ByteArray.size_append,one];omega
 have z5:r5.size≤5:=by rw [hr5,ByteArray.size_append,one];omega
 have zA :(prA d).size≤2:=by unfold prA;rw [ByteArray.size_append];omega
 have zB :(prB d).size≤6:=dZ (by rw [ByteArray.size_append];omega) (by omega)
 have zC :(prC d).size≤7:=dZ (by rw [ByteArray.size_append,one];omega) (dZ (by rw [ByteArray.size_append,one];omega) (by omega))
 have zD :(prD d).size≤12:=dZ (by rw [ByteArray.size_append,ByteArray.size_append,one];omega) (by omega)
 have zE :(prE d).size≤13:=dZ (by rw [ByteArray.size_append,one];omega) (by omega)
 have zF :(prF d).size≤513:=by unfold prF;rw [ByteArray.size_append];omega
 have eS:prS d=prG d:=by unfold prS;rw [hF];rfl
 rw [e7,e9,e10,e11,e12,e13,e14,eS,hF]
 refine ⟨⟨by omega,by omega⟩,by omega,⟨fun _=>⟨by omega,trivial⟩,fun _=>trivial⟩,fun _=>⟨⟨fun _=>⟨by rw [one];omega,trivial⟩,fun _=>⟨fun _=>⟨by rw [one];omega,trivial⟩,fun _=>trivial⟩⟩,fun _=>⟨⟨fun _=>⟨by rw [one];omega,by omega,trivial⟩,fun _=>trivial⟩,fun _=>⟨⟨fun _=>⟨by rw [one];omega,trivial⟩,fun _=>trivial⟩,fun _=>⟨hD,by omega,⟨fun _=>⟨by rw [one];omega,by omega,trivial⟩,fun _=>trivial⟩,fun _=>?_⟩⟩⟩⟩⟩
 rw [hr3,hr5];rfl
def DJ:FuncId×Ctr:=(87,ae KE qD Ap CP)
theorem IY:CtrOK Tryz.prog KE 87 (ae KE qD Ap CP):=by
 refine aE (C:=ay [DI,y7,qj,y8] Tryz.f87) (au (.consU IW rfl (.consU FE rfl (.consU zU rfl (.consU FF rfl .nil)))) _) mixed (fn:=Tryz.f87) Tryz.func87 (by kernel_rfl) (by kernel_rfl) (by kernel_rfl) (by kernel_rfl) (by kernel_rfl) (by kernel_rfl) (Λ:=fun _ _=>none) ?_ ?_
 ·exact fun _ _ _ _ _ _ _ _ h=>by cases h
 ·rintro ⟨d,⟨⟩⟩ hw hn
  exact F1 d (J9 (sQ hw))
theorem AK (t:Int) :(evPat (ay [] Tryz.f157) (fun _=>none) Tryz.f157 qT aU (t,())).sat fun z_=>z_ =(JK (t,())).2:=by
 refine cast (by kernel_rfl) (?_ :((t ==(2:Int))=true→(ByteArray.mk #[119],()) =(mX t,()))∧((t ==(2:Int))=false→((t ==(3:Int))=true→(ByteArray.mk #[110],()) =(mX t,()))∧((t ==(3:Int))=false→(ByteArray.mk #[],()) =(mX t,()))))
 unfold mX
 cases h2:t==2 <;> cases h3:t==3 <;> simp [h2,h3]
def uP:FuncId×Ctr:=(157,ae KE qT aU JK)
theorem B9:CtrOK Tryz.prog KE 157 (ae KE qT aU JK):=by
 refine aE (C:=ay [] Tryz.f157) (au (CtrsOK.nil) _) mixed (fn:=Tryz.f157) Tryz.func157 (by kernel_rfl) (by kernel_rfl) (by kernel_rfl) (by kernel_rfl) (by kernel_rfl) (by kernel_rfl) (Λ:=fun _ _=>none) ?_ ?_
 ·exact fun _ _ _ _ _ _ _ _ h=>by cases h
 ·rintro ⟨t,⟨⟩⟩ hw hn
  exact AK t
theorem tx (t:Int) (s:Int) :(evPat (ay [] Tryz.f156) (fun _=>none) Tryz.f156 qTS aU (t,s,())).sat fun z_=>z_ =(JI (t,s,())).2:=by
 refine cast (by kernel_rfl) (?_:let r1:Bool:=bif t ==(2:Int) then s ==(1:Int) else false;let r2:Bool:=bif t !=(2:Int) then s ==(0:Int) else false;((s ==(2:Int))=true→(ByteArray.mk #[98],()) =(dE t s,()))∧((s ==(2:Int))=false→((s ==(3:Int))=true→(ByteArray.mk #[108],()) =(dE t s,()))∧((s ==(3:Int))=false→(r1=true→(ByteArray.mk #[111],()) =(dE t s,()))∧(r1=false→(r2=true→(ByteArray.mk #[46],()) =(dE t s,()))∧(r2=false→(ByteArray.mk #[],()) =(dE t s,()))))))
 intro r1 r2
 clear_value (hr1:r1=_) (hr2:r2=_)
 unfold dE
 cases h0:s==0 <;> cases h1:s==1 <;> cases h2:s==2 <;> cases h3:s==3 <;> cases ht:t==2 <;> simp_all [bne]
def px:FuncId×Ctr:=(156,ae KE qTS aU JI)
theorem xz:CtrOK Tryz.prog KE 156 (ae KE qTS aU JI):=by
 refine aE (C:=ay [] Tryz.f156) (au (CtrsOK.nil) _) mixed (fn:=Tryz.f156) Tryz.func156 (by kernel_rfl) (by kernel_rfl) (by kernel_rfl) (by kernel_rfl) (by kernel_rfl) (by kernel_rfl) (Λ:=fun _ _=>none) ?_ ?_
 ·exact fun _ _ _ _ _ _ _ _ h=>by cases h
 ·rintro ⟨t,s,⟨⟩⟩ hw hn
  exact tx t s
end Go.Proofs.YtffdpnmioidloaaGreatDoor
namespace Go.Proofs.YtffdpnmioidloaaGreatDoor
open Go Go.Mir
attribute [local irreducible] Go.Mir.DT.sat Go.Mir.evPat Go.Mir.RT.sat Go.Mir.evFn
def C5 (w:Int):Prop:=w=1
def xQ:Den (tyP qIb)→List Prop×Den (tyP aU):=fun x=>([cX x.1,C5 x.2.1],(bC x.1,()))
abbrev qPd:Pat:=⟨[(1,.h I),(5,.h .str),(6,.h (.int .u64)),(7,.h .str),(8,.h .str)],[],0⟩
abbrev xPd:List (Lf×Pat):= [(.ext 0,⟨[(5,.h .str),(8,.h .str)],[],0⟩)]
abbrev TPd:Type:=Int×ByteArray×Int×ByteArray×ByteArray×Unit
def dgs10:ByteArray:=⟨#[48,49,50,51,52,53,54,55,56,57]⟩
def dg1 (n:Int):ByteArray:=dgs10.extract n.toNat (n+1).toNat
def p0 (u:Int) (s:ByteArray):ByteArray:=if decide (u≥10) then dg1 (u / 10) ++(dg1 (u % 10)++s) else if decide (u>0)||decide ((s.size:Int)<1) then dg1 u++s else s
def uz (x:TPd):Prop:=x.1=1∧(0≤x.2.2.1∧x.2.2.1<100)∧x.2.2.2.1=dgs10∧(x.2.2.2.2.1.size:Int)+x.2.2.1≤200
def Iz (x:TPd):Nat:=x.2.2.1.toNat +(if x.2.2.2.2.1.size=0 then 1 else 0)
def pP (x:TPd):ByteArray×ByteArray×Unit:=(x.2.1,p0 x.2.2.1 x.2.2.2.2.1,())
def sq:Den (tyP qD)→List Prop×Den (tyP Ap):=fun x=>([],(prS x.1,ba x.1,()))
theorem bW {a b:ByteArray} (h:a.data.toList=b.data.toList):a=b:=ByteArray.ext (Array.toList_inj.1 h)
theorem E8 (a:ByteArray):ByteArray.mk #[]++a=a:=bW (by simp [ByteArray.data_append])
theorem tJ (a:ByteArray):a++ByteArray.mk #[]=a:=bW (by simp [ByteArray.data_append])
theorem ng {n:Int} (h0:0≤n) (h1:n≤9):iA n=bC n:=by
 have key :((List.range 10).all fun k=>(iA (k:Int)).data.toList ==(bC (k:Int)).data.toList)=true:=by kernel_rfl
 have:=List.all_eq_true.1 key n.toNat (List.mem_range.2 (by omega))
 rw [show ((n.toNat:Nat):Int)=n from by omega] at this
 exact bW (eq_of_beq this)
theorem Ls {n:Int} (h:cX n):p0 n ⟨#[]⟩=bC n:=by
 have key :((List.range 100).all fun k=>(p0 (k:Int) ⟨#[]⟩).data.toList ==(bC (k:Int)).data.toList)=true:=by kernel_rfl
 have:=List.all_eq_true.1 key n.toNat (List.mem_range.2 (by have:=h.1;have:=h.2;omega))
 rw [show ((n.toNat:Nat):Int)=n from by have:=h.1;omega] at this
 exact bW (eq_of_beq this)
theorem GZ {n:Int} (h0:0≤n) (h1:n≤9) :(dg1 n).size=1:=by
 have:dgs10.size=10:=rfl
 unfold dg1;rw [ByteArray.size_extract];omega
theorem Kb {n:Int} (h0:0≤n) (h1:n<18446744073709551616):IntKind.u64.wrap n=n:=by
 simp only [IntKind.wrap,IntKind.bits,IntKind.signed]
 simp
 omega
theorem cK {d:Delivery} (h:ba d=0) :(0≤d.Runs∧d.Runs≤7)∧(0≤d.Short∧d.Short≤7)∧(0≤d.Victim∧d.Victim≤2)∧(0≤d.Sector∧d.Sector≤8):=by
 unfold ba at h
 split at h
 ·cases h
 ·rename_i h1
  split at h
  ·cases h
  ·rename_i h2
   simp [inW] at h1 h2
   omega
noncomputable def lpPd:Lp:=(⟨0,ay [] Tryz.f121,(fun _=>none),(bt Tryz.f121 0),qPd,xPd⟩:Lp)
theorem Pl (w:Int) (sg:ByteArray) (u:Int) (dg:ByteArray) (s:ByteArray) (hi:uz (w,sg,u,dg,s,())) :(Go.Mir.stepG lpPd pP (fun y:Den (tyP lpPd.q)=>uz y∧Iz y<Iz (w,sg,u,dg,s,())) (w,sg,u,dg,s,())∧Go.Mir.stepE lpPd pP (w,sg,u,dg,s,())=pP (w,sg,u,dg,s,())):=by
 refine cast (by kernel_rfl) (?_:let r1:Int:=IntKind.u64.wrap (u.tmod (10:Int) +(1:Int));let r2:Int:=if (20:Int)<w then (20:Int) else w;let r3:ByteArray:=dg.extract (u.tmod (10:Int)).toNat r1.toNat;let r4:Int:=if r2 >(1:Int) then r2 else (1:Int);let r5:Bool:=bif decide (u >(0:Int)) then true else decide ((↑s.size:Int)<r4);((r5=true→(10:Int)≠(0:Int)∧(10:Int)≠(0:Int)∧((0:Int)≤u.tmod (10:Int)∧u.tmod (10:Int)≤r1∧r1≤(↑dg.size:Int))∧r3.size+s.size≤ak∧(10:Int)≠(0:Int)∧uz (w,sg,IntKind.u64.wrap (u.tdiv (10:Int)),dg,r3++s,())∧Iz (w,sg,IntKind.u64.wrap (u.tdiv (10:Int)),dg,r3++s,())<Iz (w,sg,u,dg,s,()))∧(r5=false→True))∧(bif r5 then pP (w,sg,IntKind.u64.wrap (u.tdiv (10:Int)),dg,r3++s,()) else (sg,s,()))=pP (w,sg,u,dg,s,()))
 intro r1 r2 r3 r4 r5
 clear_value (hr1:r1=_) (hr2:r2=_) (hr3:r3=_) (hr4:r4=_) (hr5:r5=_)
 obtain ⟨h1,⟨h2,h3⟩,h4,h5⟩:=hi
 have h1:w=1:=h1
 have h2:0≤u:=h2
 have h3:u<100:=h3
 have h4:dg=dgs10:=h4
 have h5 :(s.size:Int)+u≤200:=h5
 have et:u.tmod 10=u % 10:=Int.tmod_eq_emod_of_nonneg h2
 have ed:u.tdiv 10=u / 10:=Int.tdiv_eq_ediv_of_nonneg h2
 rw [ed]
 rw [et] at hr1 hr3 ⊢
 have e1:r1=u % 10+1:=by rw [hr1];exact Kb (by omega) (by omega)
 have e2:r2=1:=by rw [hr2,h1];rfl
 have e4:r4=1:=by rw [hr4,e2];rfl
 have e3:r3=dg1 (u % 10):=by rw [hr3,e1,h4];rfl
 have z3:=GZ (n:=u % 10) (by omega) (by omega)
 have zs :(r3++s).size=1+s.size:=by rw [ByteArray.size_append,e3,z3]
 have eW:IntKind.u64.wrap (u / 10)=u / 10:=Kb (by omega) (by omega)
 have hL :(500:Nat)≤ak:=by decide
 have e5:r5 =(decide (u>0)||decide ((s.size:Int)<1)):=by rw [hr5,e4];cases decide (u>0) <;> rfl
 have hc:r5=true→u>0∨(s.size:Int)<1:=fun h=>by rw [e5] at h;simpa using h
 have z10 :(dgs10.size:Int)=10:=rfl
 rw [eW]
 refine ⟨⟨fun h=>⟨by decide,by decide,⟨by omega,by omega,by rw [h4];omega⟩,by rw [e3,z3];omega,by decide,⟨h1,⟨by show 0≤u / 10;omega,by show u / 10<100;omega⟩,h4,?_⟩,?_⟩,fun _=>trivial⟩,?_⟩
 ·show ((r3++s).size:Int)+u / 10≤200
  rw [zs]
  rcases hc h with h|h <;> omega
 ·show (u / 10).toNat +(if (r3++s).size=0 then 1 else 0)<u.toNat +(if s.size=0 then 1 else 0)
  rw [zs,if_neg (by omega)]
  rcases hc h with h|h
  ·omega
  ·rw [if_pos (by omega)];omega
 ·cases hb:r5 with
  | true=>
   have hc:=hc hb
   show (sg,p0 (u / 10) (r3++s),()) =(sg,p0 u s,())
   have:p0 (u / 10) (r3++s)=p0 u s:=by
    unfold p0
    by_cases h10:u≥10
    ·rw [decide_eq_true h10,decide_eq_false (show ¬ u / 10≥10 by omega),decide_eq_true (show u / 10>0 by omega),e3]
     simp
    ·have hu:u / 10=0:=by omega
     have hm:u % 10=u:=by omega
     rw [e5] at hb
     rw [decide_eq_false h10,hu,decide_eq_false (show ¬(0:Int)≥10 by decide),hb,decide_eq_false (show ¬(0:Int)>0 by decide),decide_eq_false (show ¬((r3++s).size:Int)<1 by rw [zs];omega),e3,hm]
     simp
   rw [this]
  | false=>
   rw [e5] at hb
   have hb':=hb
   simp only [Bool.or_eq_false_iff,decide_eq_false_iff_not] at hb'
   show (sg,s,()) =(sg,p0 u s,())
   have:p0 u s=s:=by
    unfold p0
    rw [decide_eq_false (show ¬ u≥10 by omega),hb]
    simp
   rw [this]
noncomputable def M9:LoopSum:=aD lpPd pP uz
noncomputable def MQ:Nat:=rid (bt Tryz.f121 0)
theorem Ol:LoopOKp Tryz.prog 0 Tryz.f121.ntmps (bt Tryz.f121 0) (aD lpPd pP uz):=
 bq lpPd (au (CtrsOK.nil) _) mixed (fun b hb S hS=>by cases hS) pP uz Iz (fun |⟨w,sg,u,dg,s,⟨⟩⟩,hi=>Pl w sg u dg s hi)
theorem AI (n:Int) (w:Int) (hk:cX n) (hw1:C5 w) :(evPat (ay [] Tryz.f121) (find [(MQ,M9)]) Tryz.f121 qIb aU (n,w,())).sat fun z_=>z_ =(xQ (n,w,())).2:=by
 refine cast (by kernel_rfl) (?_:let r1:Bool:=decide (n <(0:Int));let r2:ByteArray:=bif r1 then ByteArray.mk #[45] else ByteArray.mk #[];let r3:Int:=bif r1 then IntKind.u64.wrap ((0:Int) - IntKind.u64.wrap n) else IntKind.u64.wrap n;let r4:ByteArray:=p0 r3 (ByteArray.mk #[]);((jZ fun x=>none)∧w =(1:Int)∧((0:Int)≤r3∧r3 <(100:Int))∧ByteArray.mk #[48,49,50,51,52,53,54,55,56,57]=dgs10∧(↑(ByteArray.mk #[]).size:Int)+r3≤(200:Int))∧r2.size+r4.size≤ak∧(r2++r4,()) =(bC n,()))
 intro r1 r2 r3 r4
 clear_value (hr1:r1=_) (hr2:r2=_) (hr3:r3=_) (hr4:r4=_)
 obtain ⟨k0,k1⟩:=hk
 have e1:r1=false:=by rw [hr1];exact decide_eq_false (by omega)
 have e2:r2=ByteArray.mk #[]:=by rw [hr2,e1];rfl
 have e3:r3=n:=by rw [hr3,e1];exact Kb k0 (by omega)
 have e4:r4=bC n:=by rw [hr4,e3];exact Ls ⟨k0,k1⟩
 have z:=qE ⟨k0,k1⟩
 have hL :(500:Nat)≤ak:=by decide
 rw [e2,e3,e4,E8]
 exact ⟨⟨rfl,hw1,⟨k0,k1⟩,rfl,by show (0:Int)+n≤200;omega⟩,by show 0+_≤_;omega,rfl⟩
def uO:FuncId×Ctr:=(121,ae KE qIb aU xQ)
theorem B8:CtrOK Tryz.prog KE 121 (ae KE qIb aU xQ):=by
 refine aE (C:=ay [] Tryz.f121) (au (CtrsOK.nil) _) mixed (fn:=Tryz.f121) Tryz.func121 (by kernel_rfl) (by kernel_rfl) (by kernel_rfl) (by kernel_rfl) (by kernel_rfl) (by kernel_rfl) (Λ:=fun x=>find [(MQ,M9)]) ?_ ?_
 ·rintro ⟨n,w,⟨⟩⟩ hw hn
  exact LoopsOKp.at (by kernel_rfl) (.cons (by kernel_rfl) (Ol) .nil)
 ·rintro ⟨n,w,⟨⟩⟩ hw hn
  exact AI n w (hn _ List.mem_cons_self) (hn _ (List.mem_cons_of_mem _ List.mem_cons_self))
theorem xO (n:Int) (hk:cX n) :(evPat (ay [uO] Tryz.f71) (fun _=>none) Tryz.f71 ln aU (n,())).sat fun z_=>z_ =(gu (n,())).2:=by
 refine cast (by kernel_rfl) (?_:cX n∧C5 (1:Int)∧(bC n,()) =(bC n,()))
 exact ⟨hk,rfl,rfl⟩
def rC:FuncId×Ctr:=(71,ae KE ln aU gu)
theorem zW:CtrOK Tryz.prog KE 71 (ae KE ln aU gu):=by
 refine aE (C:=ay [uO] Tryz.f71) (au (.consU B8 rfl .nil) _) mixed (fn:=Tryz.f71) Tryz.func71 (by kernel_rfl) (by kernel_rfl) (by kernel_rfl) (by kernel_rfl) (by kernel_rfl) (by kernel_rfl) (Λ:=fun _ _=>none) ?_ ?_
 ·exact fun _ _ _ _ _ _ _ _ h=>by cases h
 ·rintro ⟨n,⟨⟩⟩ hw hn
  exact xO n (hn _ List.mem_cons_self)
theorem Jz (n:Int) (hk:cX n) :(evPat (ay [rC] Tryz.f158) (fun _=>none) Tryz.f158 ln aU (n,())).sat fun z_=>z_ =(gu (n,())).2:=by
 refine cast (by kernel_rfl) (?_:cX n∧(bC n,()) =(bC n,()))
 exact ⟨hk,rfl⟩
def HU:FuncId×Ctr:=(158,ae KE ln aU gu)
theorem Lo:CtrOK Tryz.prog KE 158 (ae KE ln aU gu):=by
 refine aE (C:=ay [rC] Tryz.f158) (au (.consU zW rfl .nil) _) mixed (fn:=Tryz.f158) Tryz.func158 (by kernel_rfl) (by kernel_rfl) (by kernel_rfl) (by kernel_rfl) (by kernel_rfl) (by kernel_rfl) (Λ:=fun _ _=>none) ?_ ?_
 ·exact fun _ _ _ _ _ _ _ _ h=>by cases h
 ·rintro ⟨n,⟨⟩⟩ hw hn
  exact Jz n (hn _ List.mem_cons_self)
theorem CL (d:Delivery) (hp:0≤d.How) :(evPat (ay [za,uP,px,HU] Tryz.f89) (fun _=>none) Tryz.f89 qD Ap (d,())).sat fun z_=>z_ =(sq (d,())).2:=by
 refine cast (by kernel_rfl) (?_:let r1:ByteArray:=mX d.1++dE d.1 d.2;let r2:Int:=IntKind.u8.wrap (d.7 +(1:Int));let r3:Bool:=decide (d.4 >(0:Int));let r4:Bool:=decide (d.12 >(0:Int));let r5:ByteArray:=ByteArray.mk #[45]++bC d.4;let r6:ByteArray:=ByteArray.mk #[40]++bC d.9;let r7:ByteArray:=ByteArray.mk #[44]++bC d.10;let r8:ByteArray:=ByteArray.mk #[64]++bC d.12;let r9:Bool:=bif d.9 !=(0:Int) then true else bif d.10 !=(0:Int) then true else d.11;let r10:Bool:=bif d.7 !=(0:Int) then true else bif d.8 !=(0:Int) then true else r9;let r11:Bool:=bif decide (d.3 >(0:Int)) then true else bif (dE d.1 d.2).toList ==(ByteArray.mk #[]).toList then bif d.5 ==(0:Int) then d.1 !=(2:Int) else false else false;let r12:ByteArray:=ByteArray.mk #[78,66,67,76,83,72,82,84,79,77,81];let r13:ByteArray:=r12.extract d.7.toNat r2.toNat;let r14:ByteArray:=bif r11 then r1++bC d.3 else r1;let r15:ByteArray:=ByteArray.mk #[47]++r13;let r16:ByteArray:=r15++bC d.8;let r17:ByteArray:=bif d.5 ==(4:Int) then r14++ByteArray.mk #[70] else bif d.5 ==(6:Int) then r14++ByteArray.mk #[83] else r14;let r18:ByteArray:=bif r3 then r17++r5 else r17;let r19:ByteArray:=bif d.6 then r18++ByteArray.mk #[120] else r18;let r20:ByteArray:=r19++r16;let r21:ByteArray:=r20++r6;let r22:ByteArray:=bif d.10 !=(0:Int) then r21++r7 else r21;let r23:ByteArray:=bif d.11 then r22++ByteArray.mk #[115] else r22;let r24:ByteArray:=bif r10 then bif r9 then r23++ByteArray.mk #[41] else r20 else r19;((ba d !=(0:Int))=true→(ByteArray.mk #[],ba d,()) =(prS d,ba d,()))∧((ba d !=(0:Int))=false→(mX d.1).size +(dE d.1 d.2).size≤ak∧((r11=true→cX d.3∧r1.size +(bC d.3).size≤ak∧True)∧(r11=false→True))∧(true=true→(((d.5 ==(4:Int))=true→r14.size +(ByteArray.mk #[70]).size≤ak∧True)∧((d.5 ==(4:Int))=false→((d.5 ==(6:Int))=true→r14.size +(ByteArray.mk #[83]).size≤ak∧True)∧((d.5 ==(6:Int))=false→True)))∧(true=true→((r3=true→cX d.4∧(ByteArray.mk #[45]).size +(bC d.4).size≤ak∧r17.size+r5.size≤ak∧True)∧(r3=false→True))∧(true=true→((d.6=true→r18.size +(ByteArray.mk #[120]).size≤ak∧True)∧(d.6=false→True))∧(true=true→((r10=true→((0:Int)≤d.7∧d.7≤r2∧r2≤(↑r12.size:Int))∧(ByteArray.mk #[47]).size+r13.size≤ak∧cX d.8∧r15.size +(bC d.8).size≤ak∧r19.size+r16.size≤ak∧(r9=true→cX d.9∧(ByteArray.mk #[40]).size +(bC d.9).size≤ak∧r20.size+r6.size≤ak∧(((d.10 !=(0:Int))=true→cX d.10∧(ByteArray.mk #[44]).size +(bC d.10).size≤ak∧r21.size+r7.size≤ak∧True)∧((d.10 !=(0:Int))=false→True))∧(true=true→((d.11=true→r22.size +(ByteArray.mk #[115]).size≤ak∧True)∧(d.11=false→True))∧(true=true→r23.size +(ByteArray.mk #[41]).size≤ak∧True)))∧(r9=false→True))∧(r10=false→True))∧((bif r10 then bif r9 then true&&true else true else true)=true→((r4=true→cX d.12∧(ByteArray.mk #[64]).size +(bC d.12).size≤ak∧r24.size+r8.size≤ak∧True)∧(r4=false→True))∧(true=true→(bif r4 then r24++r8 else r24,(0:Int),()) =(prS d,ba d,())))))))))
 intro r1 r2 r3 r4 r5 r6 r7 r8 r9 r10 r11 r12 r13 r14 r15 r16 r17 r18 r19 r20 r21 r22 r23 r24
 clear_value (hr1:r1=_) (hr2:r2=_) (hr3:r3=_) (hr4:r4=_) (hr5:r5=_) (hr6:r6=_) (hr7:r7=_) (hr8:r8=_) (hr9:r9=_) (hr10:r10=_) (hr11:r11=_) (hr12:r12=_) (hr13:r13=_) (hr14:r14=_) (hr15:r15=_) (hr16:r16=_) (hr17:r17=_) (hr18:r18=_) (hr19:r19=_) (hr20:r20=_) (hr21:r21=_) (hr22:r22=_) (hr23:r23=_) (hr24:r24=_)
 refine ⟨fun h=>by unfold prS;rw [if_pos h],fun h=>?_⟩
 have hF:ba d=0:=by simpa using h
 obtain ⟨⟨t1,t3⟩,s3,ho,⟨f0,f1⟩,k0,k1⟩:=dp hF
 obtain ⟨⟨a0,a1⟩,⟨b0,b1⟩,⟨c0,c1⟩,g0,g1⟩:=cK hF
 have nR:cX d.Runs:=⟨a0,by omega⟩
 have nS:cX d.Short:=⟨b0,by omega⟩
 have nV:cX d.Victim:=⟨c0,by omega⟩
 have nX:cX d.Sector:=⟨g0,by omega⟩
 have nF:cX d.Fielder:=⟨f0,by omega⟩
 have nG:cX d.Second:=⟨k0,by omega⟩
 have hD:Fg d:=⟨⟨hp,ho⟩,nF,nG⟩
 have e2:r2=d.How+1:=by
  rw [hr2]
  simp only [IntKind.wrap,IntKind.bits,IntKind.signed]
  simp
  omega
 have eR:=ng a0 (by omega)
 have eSh:=ng b0 (by omega)
 have eV:=ng c0 (by omega)
 have eX:=ng g0 (by omega)
 rw [←eR] at hr14
 rw [←eSh] at hr5
 rw [←eV] at hr16
 rw [←eX] at hr8
 have one :∀ c:UInt8,(ByteArray.mk #[c]).size=1:=fun _=>rfl
 have hL :(5000:Nat)≤ak:=by decide
 have zt:=vG d.Typ
 have zs:=vE d.Typ d.Source
 have zr:=qE nR
 have zh:=qE nS
 have zv:=qE nV
 have zx:=qE nX
 have zf:=qE nF
 have zg:=qE nG
 have zw:=Ba hD
 have z12:r12.size=11:=by rw [hr12];rfl
 have e1:r1=prA d:=hr1
 have e11:r11=AQ d (dE d.Typ d.Source):=by
  rw [hr11];unfold AQ
  cases decide (d.Runs>0) <;> cases (dE d.Typ d.Source).toList ==(ByteArray.mk #[]).toList <;> cases d.Boundary==0 <;> rfl
 have e14:r14=prB d:=by rw [hr14,e11,e1];rfl
 have e17:r17=prC d:=by rw [hr17,e14];rfl
 have e18:r18=prD d:=by rw [hr18,e17,hr3,hr5];rfl
 have e19:r19=prE d:=by rw [hr19,e18];rfl
 have e13:r13=wZ d.How:=by rw [hr13,e2,hr12];rfl
 have e16:r16=qa d:=by rw [hr16,hr15,e13];rfl
 have e9:r9=gN d:=by rw [hr9];unfold gN;cases d.Fielder != 0 <;> cases d.Second != 0 <;> rfl
 have e20:r20=prE d++qa d:=by rw [hr20,e19,e16]
 have e21:r21=prE d++x9 d:=by rw [hr21,e20,hr6,ByteArray.append_assoc];rfl
 have e22:r22=prE d++sR d:=by
  rw [hr22,e21,hr7];unfold sR
  cases d.Second != 0
  ·rfl
  ·exact ByteArray.append_assoc
 have e23:r23=prE d++sS d:=by
  rw [hr23,e22];unfold sS
  cases d.Sub
  ·rfl
  ·exact ByteArray.append_assoc
 have e10:r10=!(d.How==0&&(d.Victim==0&&!gN d)):=by rw [hr10,e9];cases hh:d.How==0 <;> cases hv:d.Victim==0 <;> simp [bne,hh,hv]
 have e24:r24=prF d:=by
  rw [hr24,e10,e9,e19,e20,e23]
  unfold prF lz
  cases d.How==0&&(d.Victim==0&&!gN d)
  ·cases gN d
   ·rfl
   ·exact ByteArray.append_assoc
  ·exact (tJ _).symm
 have z5:r5.size≤5:=by rw [hr5,ByteArray.size_append,one];have:=dy d.Short;omega
 have z8:r8.size≤5:=by rw [hr8,ByteArray.size_append,one];have:=dy d.Sector;omega
 have z6:r6.size≤201:=by rw [hr6,ByteArray.size_append,one];omega
 have z7:r7.size≤201:=by rw [hr7,ByteArray.size_append,one];omega
 have zA :(prA d).size≤2:=by unfold prA;rw [ByteArray.size_append];omega
 have zB :(prB d).size≤6:=dZ (by rw [ByteArray.size_append];have:=dy d.Runs;omega) (by omega)
 have zC :(prC d).size≤7:=dZ (by rw [ByteArray.size_append,one];omega) (dZ (by rw [ByteArray.size_append,one];omega) (by omega))
 have zD :(prD d).size≤12:=dZ (by rw [ByteArray.size_append,ByteArray.size_append,one];have:=dy d.Short;omega) (by omega)
 have zE :(prE d).size≤13:=dZ (by rw [ByteArray.size_append,one];omega) (by omega)
 have zF :(prF d).size≤513:=by unfold prF;rw [ByteArray.size_append];omega
 have z13:r13.size≤11:=by rw [hr13,ByteArray.size_extract];omega
 have z15:r15.size≤12:=by rw [hr15,ByteArray.size_append,one];omega
 have z16:r16.size≤16:=by rw [hr16,ByteArray.size_append];have:=dy d.Victim;omega
 have z20:r20.size≤29:=by rw [hr20,ByteArray.size_append,e19];omega
 have z21:r21.size≤230:=by rw [hr21,ByteArray.size_append];omega
 have z22:r22.size≤431:=by
  rw [hr22]
  exact dZ (b:=d.Second != 0) (by rw [ByteArray.size_append];omega) (by omega)
 have z23:r23.size≤432:=by
  rw [hr23]
  exact dZ (b:=d.Sub) (by rw [ByteArray.size_append,one];omega) (by omega)
 have eS:prS d=prG d:=by unfold prS;rw [hF];rfl
 rw [e1,e14,e17,e18,e19,e24,eS,hF]
 refine ⟨by omega,⟨fun _=>⟨nR,by omega,trivial⟩,fun _=>trivial⟩,fun _=>⟨⟨fun _=>⟨by rw [one];omega,trivial⟩,fun _=>⟨fun _=>⟨by rw [one];omega,trivial⟩,fun _=>trivial⟩⟩,fun _=>⟨⟨fun _=>⟨nS,by rw [one];omega,by omega,trivial⟩,fun _=>trivial⟩,fun _=>⟨⟨fun _=>⟨by rw [one];omega,trivial⟩,fun _=>trivial⟩,fun _=>⟨⟨fun _=>⟨⟨hp,by omega,by omega⟩,by rw [one];omega,nV,by omega,by omega,fun _=>⟨nF,by rw [one];omega,by omega,⟨fun _=>⟨nG,by rw [one];omega,by omega,trivial⟩,fun _=>trivial⟩,fun _=>⟨⟨fun _=>⟨by rw [one];omega,trivial⟩,fun _=>trivial⟩,fun _=>⟨by rw [one];omega,trivial⟩⟩⟩,fun _=>trivial⟩,fun _=>trivial⟩,fun _=>⟨⟨fun _=>⟨nX,by rw [one];omega,by omega,trivial⟩,fun _=>trivial⟩,fun _=>?_⟩⟩⟩⟩⟩⟩
 rw [hr4,hr8];rfl
def zb:FuncId×Ctr:=(89,ae KE qD Ap sq)
theorem FI:CtrOK Tryz.prog KE 89 (ae KE qD Ap sq):=by
 refine aE (C:=ay [za,uP,px,HU] Tryz.f89) (au (.consU FH rfl (.consU B9 rfl (.consU xz rfl (.consU Lo rfl .nil)))) _) mixed (fn:=Tryz.f89) Tryz.func89 (by kernel_rfl) (by kernel_rfl) (by kernel_rfl) (by kernel_rfl) (by kernel_rfl) (by kernel_rfl) (Λ:=fun _ _=>none) ?_ ?_
 ·exact fun _ _ _ _ _ _ _ _ h=>by cases h
 ·rintro ⟨d,⟨⟩⟩ hw hn
  exact CL d (J9 (sQ hw))
end Go.Proofs.YtffdpnmioidloaaGreatDoor
namespace Go.Proofs.YtffdpnmioidloaaGreatDoor
open Go Go.Mir
attribute [local irreducible] Go.Mir.DT.sat Go.Mir.evPat Go.Mir.RT.sat Go.Mir.evFn
def hd (s:ByteArray):Int:=((s.data.getD 0 0).toNat:Int)
def emp (s:ByteArray):Bool:=s.toList ==(ByteArray.mk #[]).toList
def tl (s:ByteArray):ByteArray:=s.extract 1 s.size
def tkB (s:ByteArray) (c:Int):Bool:=!emp s&&hd s==c
def tkR (s:ByteArray) (c:Int):ByteArray:=if tkB s c then tl s else s
def cf (s:ByteArray):Bool:=!emp s&&(decide (hd s≥48)&&decide (hd s≤57))
def dgV (s:ByteArray):Int:=if cf s then hd s - 48 else 0
def dgR (s:ByteArray):ByteArray:=if cf s then tl s else s
def nmV (s:ByteArray):Int:=if cf (dgR s) then 10*dgV s+dgV (dgR s) else dgV s
def nmR (s:ByteArray):ByteArray:=if cf (dgR s) then dgR (dgR s) else dgR s
def soV (t:Int) (s:ByteArray):Int:=if tkB s 98 then 2 else if tkB s 108 then 3 else if t==2&&tkB s 111 then 1 else if t==2 then 0 else if tkB s 46 then 0 else 1
def soR (t:Int) (s:ByteArray):ByteArray:=if tkB s 98 then tl s else if tkB s 108 then tl s else if t==2&&tkB s 111 then tl s else if t==2 then s else tkR s 46
abbrev HF:List (Nat×PB):= [(0,.cells [.h .str])]
abbrev qTk:Pat:=⟨[(0,.c (.ptr 0 0)),(1,.h U8)],HF,1⟩
abbrev LJ:Pat:=⟨[(0,.h .bool)],HF,1⟩
abbrev qRd:Pat:=⟨[(0,.c (.ptr 0 0))],HF,1⟩
abbrev pK:Pat:=⟨[(0,.h I)],HF,1⟩
abbrev D8:Pat:=⟨[(0,.h U8)],HF,1⟩
def JJ:Den (tyP qTk)→List Prop×Den (tyP LJ):=fun x=>([],(tkB x.2.1 x.1,tkR x.2.1 x.1,()))
def CR:Den (tyP qRd)→List Prop×Den (tyP pK):=fun x=>([],(dgV x.1,dgR x.1,()))
def CS:Den (tyP qRd)→List Prop×Den (tyP pK):=fun x=>([],(nmV x.1,nmR x.1,()))
def CU:Den (tyP qTk)→List Prop×Den (tyP D8):=fun x=>([],(soV x.1 x.2.1,soR x.1 x.2.1,()))
theorem fc {s:ByteArray} (h:emp s=false):1≤s.size:=by
 rcases Nat.eq_zero_or_pos s.size with hz|hz
 ·have hl:s.data.toList =(ByteArray.mk #[]).data.toList:=by
   have:s.data.toList.length=0:=by simpa using hz
   rw [List.eq_nil_of_length_eq_zero this]
  have:emp s=true:=bytes_eq_iff.2 hl
  rw [h] at this;cases this
 ·exact hz
theorem Hy (s:ByteArray):0≤hd s∧hd s≤255:=by
 unfold hd
 have:=(s.data.getD 0 0).toNat_lt
 omega
theorem Pu {s:ByteArray} {c:Int} (h:emp s=true):tkB s c=false:=by unfold tkB;rw [h];rfl
theorem bG {s:ByteArray} {c:Int} (h:tkB s c=false):tkR s c=s:=by unfold tkR;rw [h];rfl
theorem aQ {s:ByteArray} {c:Int} (h:tkB s c=true):tkR s c=tl s:=by unfold tkR;rw [h];rfl
theorem F2 (c:Int) (s:ByteArray) :(evPat (ay [] Tryz.f116) (fun _=>none) Tryz.f116 qTk LJ (c,s,())).sat fun z_=>z_ =(JJ (c,s,())).2:=by
 refine cast (by kernel_rfl) (?_:let r1:Bool:=s.toList ==(ByteArray.mk #[]).toList;let r2:Bool:=bif r1 then true else (↑(s.1.getD (Int.toNat (0:Int)) (0:UInt8)).toNat:Int) != c;((r1=true→True)∧(r1=false→((0:Int)≤(0:Int)∧(0:Int) <(↑s.size:Int))∧True))∧(true=true→(r2=true→(false,s,()) =(tkB s c,tkR s c,()))∧(r2=false→((0:Int)≤(1:Int)∧(1:Int)≤(↑s.size:Int)∧(↑s.size:Int)≤(↑s.size:Int))∧(true,s.extract (Int.toNat (1:Int)) (↑s.size:Int).toNat,()) =(tkB s c,tkR s c,()))))
 intro r1 r2
 clear_value (hr1:r1=_) (hr2:r2=_)
 have e1:r1=emp s:=hr1
 have e2:r2=!tkB s c:=by rw [hr2,e1];unfold tkB;show (bif emp s then true else hd s != c)=_;cases emp s <;> simp [bne]
 have hz:r1=false→1≤s.size:=fun h=>fc (by rw [←e1];exact h)
 refine ⟨⟨fun _=>trivial,fun h=>⟨⟨Int.le_refl _,by have:=hz h;omega⟩,trivial⟩⟩,fun _=>⟨fun h=>?_,fun h=>?_⟩⟩
 ·have hb:tkB s c=false:=by rw [e2] at h;simpa using h
  rw [hb,bG hb]
 ·have hb:tkB s c=true:=by rw [e2] at h;simpa using h
  have h1:r1=false:=by rw [e1];cases he:emp s with|false=>rfl|true=>rw [Pu he] at hb;cases hb
  have:=hz h1
  rw [hb,aQ hb]
  exact ⟨⟨by decide,by omega,Int.le_refl _⟩,rfl⟩
def lL:FuncId×Ctr:=(116,ae KE qTk LJ JJ)
theorem rO:CtrOK Tryz.prog KE 116 (ae KE qTk LJ JJ):=by
 refine aE (C:=ay [] Tryz.f116) (au (CtrsOK.nil) _) mixed (fn:=Tryz.f116) Tryz.func116 (by kernel_rfl) (by kernel_rfl) (by kernel_rfl) (by kernel_rfl) (by kernel_rfl) (by kernel_rfl) (Λ:=fun _ _=>none) ?_ ?_
 ·exact fun _ _ _ _ _ _ _ _ h=>by cases h
 ·rintro ⟨c,s,⟨⟩⟩ hw hn
  exact F2 c s
theorem CH (s:ByteArray) :(evPat (ay [] Tryz.f118) (fun _=>none) Tryz.f118 qRd pK (s,())).sat fun z_=>z_ =(CR (s,())).2:=by
 refine cast (by kernel_rfl) (?_:let r1:Bool:=s.toList ==(ByteArray.mk #[]).toList;let r2:Int:=(↑(s.1.getD (Int.toNat (0:Int)) (0:UInt8)).toNat:Int);let r3:Bool:=decide (r2 <(48:Int));let r4:Bool:=bif r1 then true else bif r3 then true else decide (r2 >(57:Int));((r1=true→True)∧(r1=false→((0:Int)≤(0:Int)∧(0:Int) <(↑s.size:Int))∧(r3=true→True)∧(r3=false→((0:Int)≤(0:Int)∧(0:Int) <(↑s.size:Int))∧True)))∧(true=true→(r4=true→((0:Int),s,()) =(dgV s,dgR s,()))∧(r4=false→((0:Int)≤(0:Int)∧(0:Int) <(↑s.size:Int))∧((0:Int)≤(1:Int)∧(1:Int)≤(↑s.size:Int)∧(↑s.size:Int)≤(↑s.size:Int))∧(IntKind.i64.wrap (IntKind.u8.wrap (r2 - (48:Int))),s.extract (Int.toNat (1:Int)) (↑s.size:Int).toNat,()) =(dgV s,dgR s,()))))
 intro r1 r2 r3 r4
 clear_value (hr1:r1=_) (hr2:r2=_) (hr3:r3=_) (hr4:r4=_)
 have e1:r1=emp s:=hr1
 have e2:r2=hd s:=hr2
 have hr:=Hy s
 have e4:r4=!cf s:=by
  rw [hr4,hr3,e1,e2];unfold cf
  by_cases h1:hd s<48
  ·rw [decide_eq_true h1,decide_eq_false (show ¬ hd s≥48 by omega)];cases emp s <;> rfl
  ·rw [decide_eq_false h1,decide_eq_true (show hd s≥48 by omega)]
   by_cases h2:hd s≤57
   ·rw [decide_eq_true h2,decide_eq_false (show ¬ hd s>57 by omega)];cases emp s <;> rfl
   ·rw [decide_eq_false h2,decide_eq_true (show hd s>57 by omega)];cases emp s <;> rfl
 have hz:r1=false→1≤s.size:=fun h=>fc (by rw [←e1];exact h)
 refine ⟨⟨fun _=>trivial,fun h=>⟨⟨Int.le_refl _,by have:=hz h;omega⟩,fun _=>trivial,fun _=>⟨⟨Int.le_refl _,by have:=hz h;omega⟩,trivial⟩⟩⟩,fun _=>⟨fun h=>?_,fun h=>?_⟩⟩
 ·have hb:cf s=false:=by rw [e4] at h;simpa using h
  unfold dgV dgR;rw [hb];rfl
 ·have hb:cf s=true:=by rw [e4] at h;simpa using h
  have hb':=hb
  unfold cf at hb'
  simp only [Bool.and_eq_true,Bool.not_eq_true',decide_eq_true_eq] at hb'
  have h1:r1=false:=by rw [e1];exact hb'.1
  have:=hz h1
  have ew:IntKind.i64.wrap (IntKind.u8.wrap (r2 - 48))=hd s - 48:=by
   rw [e2]
   have:IntKind.u8.wrap (hd s - 48)=hd s - 48:=by
    simp only [IntKind.wrap,IntKind.bits,IntKind.signed]
    simp
    omega
   rw [this]
   exact pR (by omega) (by omega)
  rw [ew]
  refine ⟨⟨Int.le_refl _,by omega⟩,⟨by decide,by omega,Int.le_refl _⟩,?_⟩
  unfold dgV dgR;rw [hb];rfl
def jr:FuncId×Ctr:=(118,ae KE qRd pK CR)
theorem oK:CtrOK Tryz.prog KE 118 (ae KE qRd pK CR):=by
 refine aE (C:=ay [] Tryz.f118) (au (CtrsOK.nil) _) mixed (fn:=Tryz.f118) Tryz.func118 (by kernel_rfl) (by kernel_rfl) (by kernel_rfl) (by kernel_rfl) (by kernel_rfl) (by kernel_rfl) (Λ:=fun _ _=>none) ?_ ?_
 ·exact fun _ _ _ _ _ _ _ _ h=>by cases h
 ·rintro ⟨s,⟨⟩⟩ hw hn
  exact CH s
theorem AF (s:ByteArray) :(evPat (ay [jr] Tryz.f175) (fun _=>none) Tryz.f175 qRd pK (s,())).sat fun z_=>z_ =(CS (s,())).2:=by
 refine cast (by kernel_rfl) (?_:let r1:Bool:=!(dgR s).toList ==(ByteArray.mk #[]).toList;let r2:Int:=(↑((dgR s).1.getD (Int.toNat (0:Int)) (0:UInt8)).toNat:Int);let r3:Bool:=decide (r2≥(48:Int));let r4:Bool:=bif r1 then bif r3 then decide (r2≤(57:Int)) else false else false;(((r1=true→((0:Int)≤(0:Int)∧(0:Int) <(↑(dgR s).size:Int))∧(r3=true→((0:Int)≤(0:Int)∧(0:Int) <(↑(dgR s).size:Int))∧True)∧(r3=false→True))∧(r1=false→True))∧(true=true→(r4=true→True)∧(r4=false→True)))∧(true=true→(bif r4 then IntKind.i64.wrap (IntKind.i64.wrap ((10:Int)*dgV s)+dgV (dgR s)) else dgV s,bif r4 then dgR (dgR s) else dgR s,()) =(nmV s,nmR s,())))
 intro r1 r2 r3 r4
 clear_value (hr1:r1=_) (hr2:r2=_) (hr3:r3=_) (hr4:r4=_)
 have e1:r1=!emp (dgR s):=hr1
 have e2:r2=hd (dgR s):=hr2
 have hz:r1=true→1≤(dgR s).size:=fun h=>fc (by rw [e1] at h;simpa using h)
 have e4:r4=cf (dgR s):=by
  rw [hr4,hr3,e1,e2];unfold cf
  cases emp (dgR s) <;> cases decide (hd (dgR s)≥48) <;> rfl
 have hv :∀ z:ByteArray,0≤dgV z∧dgV z≤9:=fun z=>by
  unfold dgV
  split
  ·rename_i h
   unfold cf at h
   simp only [Bool.and_eq_true,Bool.not_eq_true',decide_eq_true_eq] at h
   omega
  ·omega
 have a:=hv s
 have b:=hv (dgR s)
 have ew:IntKind.i64.wrap (IntKind.i64.wrap (10*dgV s)+dgV (dgR s))=10*dgV s+dgV (dgR s):=by
  rw [show IntKind.i64.wrap (10*dgV s)=10*dgV s from pR (by omega) (by omega)]
  exact pR (by omega) (by omega)
 refine ⟨⟨⟨fun h=>⟨⟨Int.le_refl _,by have:=hz h;omega⟩,fun _=>⟨⟨Int.le_refl _,by have:=hz h;omega⟩,trivial⟩,fun _=>trivial⟩,fun _=>trivial⟩,fun _=>⟨fun _=>trivial,fun _=>trivial⟩⟩,fun _=>?_⟩
 rw [ew,e4]
 unfold nmV nmR
 cases cf (dgR s) <;> rfl
def uL:FuncId×Ctr:=(175,ae KE qRd pK CS)
theorem B5:CtrOK Tryz.prog KE 175 (ae KE qRd pK CS):=by
 refine aE (C:=ay [jr] Tryz.f175) (au (.consU oK rfl .nil) _) mixed (fn:=Tryz.f175) Tryz.func175 (by kernel_rfl) (by kernel_rfl) (by kernel_rfl) (by kernel_rfl) (by kernel_rfl) (by kernel_rfl) (Λ:=fun _ _=>none) ?_ ?_
 ·exact fun _ _ _ _ _ _ _ _ h=>by cases h
 ·rintro ⟨s,⟨⟩⟩ hw hn
  exact AF s
theorem AG (t:Int) (s:ByteArray) :(evPat (ay [lL] Tryz.f117) (fun _=>none) Tryz.f117 qTk D8 (t,s,())).sat fun z_=>z_ =(CU (t,s,())).2:=by
 refine cast (by kernel_rfl) (?_:let r1:Bool:=bif t ==(2:Int) then tkB (tkR (tkR s (98:Int)) (108:Int)) (111:Int) else false;let r2:ByteArray:=bif t ==(2:Int) then tkR (tkR (tkR s (98:Int)) (108:Int)) (111:Int) else tkR (tkR s (98:Int)) (108:Int);let r3:Bool:=tkB r2 (46:Int);(tkB s (98:Int)=true→((2:Int),tkR s (98:Int),()) =(soV t s,soR t s,()))∧(tkB s (98:Int)=false→(tkB (tkR s (98:Int)) (108:Int)=true→((3:Int),tkR (tkR s (98:Int)) (108:Int),()) =(soV t s,soR t s,()))∧(tkB (tkR s (98:Int)) (108:Int)=false→(r1=true→((1:Int),r2,()) =(soV t s,soR t s,()))∧(r1=false→((t ==(2:Int))=true→((0:Int),r2,()) =(soV t s,soR t s,()))∧((t ==(2:Int))=false→(r3=true→((0:Int),tkR r2 (46:Int),()) =(soV t s,soR t s,()))∧(r3=false→((1:Int),tkR r2 (46:Int),()) =(soV t s,soR t s,())))))))
 intro r1 r2 r3
 clear_value (hr1:r1=_) (hr2:r2=_) (hr3:r3=_)
 unfold soV soR
 cases hb:tkB s 98 with
 | true=>exact ⟨fun _=>(by rw [aQ hb];rfl),fun h=>(by cases h)⟩
 | false=>
  rw [bG hb] at hr1 hr2 ⊢
  refine ⟨fun h=>(by cases h),fun _=>?_⟩
  cases hl:tkB s 108 with
  | true=>exact ⟨fun _=>(by rw [aQ hl];rfl),fun h=>(by cases h)⟩
  | false=>
   rw [bG hl] at hr1 hr2 ⊢
   refine ⟨fun h=>(by cases h),fun _=>?_⟩
   cases ht:t==2 with
   | false=>
    rw [ht] at hr1 hr2
    have e1:r1=false:=hr1
    have e2:r2=s:=hr2
    rw [e1,hr3,e2]
    refine ⟨fun h=>(by cases h),fun _=>⟨fun h=>(by cases h),fun _=>⟨fun h=>?_,fun h=>?_⟩⟩⟩
    ·rw [h];rfl
    ·rw [h];rfl
   | true=>
    rw [ht] at hr1 hr2
    have e1:r1=tkB s 111:=hr1
    have e2:r2=tkR s 111:=hr2
    rw [e1,e2]
    refine ⟨fun h=>?_,fun h=>⟨fun _=>?_,fun h=>(by cases h)⟩⟩
    ·rw [h,aQ h];rfl
    ·rw [h,bG h];rfl
def uM:FuncId×Ctr:=(117,ae KE qTk D8 CU)
theorem B6:CtrOK Tryz.prog KE 117 (ae KE qTk D8 CU):=by
 refine aE (C:=ay [lL] Tryz.f117) (au (.consU rO rfl .nil) _) mixed (fn:=Tryz.f117) Tryz.func117 (by kernel_rfl) (by kernel_rfl) (by kernel_rfl) (by kernel_rfl) (by kernel_rfl) (by kernel_rfl) (Λ:=fun _ _=>none) ?_ ?_
 ·exact fun _ _ _ _ _ _ _ _ h=>by cases h
 ·rintro ⟨t,s,⟨⟩⟩ hw hn
  exact AG t s
end Go.Proofs.YtffdpnmioidloaaGreatDoor
namespace Go.Proofs.YtffdpnmioidloaaGreatDoor
open Go Go.Mir
attribute [local irreducible] Go.Mir.DT.sat Go.Mir.evPat Go.Mir.RT.sat Go.Mir.evFn
abbrev Qo:List (Nat×PB):= [(0,.cells [.h .str]),(1,.dat (.nm .Delivery))]
abbrev qWk:Pat:=⟨[(0,.c (.ptr 0 0)),(1,.c (.ptr 1 0))],Qo,2⟩
abbrev LK:Pat:=⟨[],Qo,2⟩
def mxI (x:Int):Int:=if (0:Int)>x then 0 else x
def hwV (s:ByteArray):Int:=IntKind.u8.wrap (mxI (ixW lets (hd s)))
def wk1 (s:ByteArray):ByteArray:=tkR s 47
def x8 (s:ByteArray):Bool:=tkB s 47&&!emp (wk1 s)
def wk2 (s:ByteArray):ByteArray:=tl (wk1 s)
def wk3 (s:ByteArray):ByteArray:=dgR (wk2 s)
def wk4 (s:ByteArray):ByteArray:=tkR (wk3 s) 40
def wk5 (s:ByteArray):ByteArray:=nmR (wk4 s)
def wk6 (s:ByteArray):ByteArray:=if tkB (wk5 s) 44 then nmR (tl (wk5 s)) else wk5 s
def wk7 (s:ByteArray):ByteArray:=tkR (wk6 s) 115
def Ml (d:Delivery) (s:ByteArray):Delivery:={ d with How:=hwV (wk1 s),Victim:=dgV (wk2 s) }
def PJ (d:Delivery) (s:ByteArray):Delivery:={ Ml d s with Fielder:=nmV (wk4 s),Second:=if tkB (wk5 s) 44 then nmV (tl (wk5 s)) else d.Second,Sub:=tkB (wk6 s) 115 }
def wkD (d:Delivery) (s:ByteArray):Delivery:=if !x8 s then d else if !tkB (wk3 s) 40 then Ml d s else PJ d s
def wkR (s:ByteArray):ByteArray:=if !x8 s then wk1 s else if !tkB (wk3 s) 40 then wk3 s else tkR (wk7 s) 41
def CV:Den (tyP qWk)→List Prop×Den (tyP LK):=fun x=>([],(wkR x.1,wkD x.2.1 x.1,()))
abbrev mS:Pat:=dI [.str]
abbrev Cl:Pat:=dI [.nm .Delivery,I]
def paT (s:ByteArray):Int:=if tkB s 119 then 2 else if tkB s 110 then 3 else 1
def pa1 (s:ByteArray):ByteArray:=if tkB s 119 then tl s else tkR s 110
def pa2 (s:ByteArray):ByteArray:=soR (paT s) (pa1 s)
def pa3 (s:ByteArray):ByteArray:=dgR (pa2 s)
def pa4 (s:ByteArray):ByteArray:=if tkB (pa3 s) 70 then tl (pa3 s) else tkR (pa3 s) 83
def pa5 (s:ByteArray):ByteArray:=if tkB (pa4 s) 45 then dgR (tl (pa4 s)) else pa4 s
def pa6 (s:ByteArray):ByteArray:=tkR (pa5 s) 120
def paD (s:ByteArray):Delivery:={ Typ:=paT s,Source:=soV (paT s) (pa1 s),Runs:=dgV (pa2 s),Short:=if tkB (pa4 s) 45 then dgV (tl (pa4 s)) else 0,Boundary:=if tkB (pa3 s) 70 then 4 else if tkB (pa3 s) 83 then 6 else 0,Crossed:=tkB (pa5 s) 120,How:=0,Victim:=0,Fielder:=0,Second:=0,Sub:=false,Sector:=0 }
def paW (s:ByteArray):Delivery:=wkD (paD s) (pa6 s)
def pa7 (s:ByteArray):ByteArray:=wkR (pa6 s)
def kc (s:ByteArray):Delivery:={ paW s with Sector:=if tkB (pa7 s) 64 then dgV (tl (pa7 s)) else (paW s).Sector }
def jv (s:ByteArray):Bool:=ba (kc s) != 0||!((prS (kc s)).toList==s.toList)
def tu (s:ByteArray):Delivery:=if jv s then Delivery.zero else kc s
def l8 (s:ByteArray):Int:=if jv s then 4 else 0
def oU:Den (tyP mS)→List Prop×Den (tyP Cl):=fun x=>([],(tu x.1,l8 x.1,()))
theorem AH (s:ByteArray) (d:Delivery) :(evPat (ay [lL,jr,uL,rA] Tryz.f119) (fun _=>none) Tryz.f119 qWk LK (s,d,())).sat fun z_=>z_ =(CV (s,d,())).2:=by
 refine cast (by kernel_rfl) (?_:let r1:ByteArray:=bif !tkB s (47:Int) then tkR s (47:Int) else tkR s (47:Int);let r2:Int:=(↑r1.size:Int);let r3:Bool:=bif !tkB s (47:Int) then true else (tkR s (47:Int)).toList ==(ByteArray.mk #[]).toList;let r4:ByteArray:=r1.extract (Int.toNat (1:Int)) r2.toNat;let r5:ByteArray:=dgR r4;let r6:Int:=dgV r4;let r7:ByteArray:=tkR r5 (40:Int);let r8:Bool:=!tkB r5 (40:Int);let r9:ByteArray:=nmR r7;let r10:Int:=nmV r7;let r11:Bool:=tkB r9 (44:Int);let r12:ByteArray:=tkR r9 (44:Int);let r13:Int:=ixW (ByteArray.mk #[78,66,67,76,83,72,82,84,79,77,81]) (↑(r1.1.getD (Int.toNat (0:Int)) (0:UInt8)).toNat:Int);let r14:ByteArray:=bif r11 then nmR r12 else r12;let r15:Int:=IntKind.u8.wrap (if (0:Int)>r13 then (0:Int) else r13);(r3=true→(r1,d,()) =(wkR s,wkD d s,()))∧(r3=false→((0:Int)≤(0:Int)∧(0:Int)<r2)∧((0:Int)≤(1:Int)∧(1:Int)≤r2∧r2≤r2)∧(r8=true→(r7,Delivery.mk d.1 d.2 d.3 d.4 d.5 d.6 r15 r6 d.9 d.10 d.11 d.12,()) =(wkR s,wkD d s,()))∧(r8=false→(tkR (tkR r14 (115:Int)) (41:Int),Delivery.mk (bif r11 then d.1 else d.1) (bif r11 then d.2 else d.2) (bif r11 then d.3 else d.3) (bif r11 then d.4 else d.4) (bif r11 then d.5 else d.5) (bif r11 then d.6 else d.6) (bif r11 then r15 else r15) (bif r11 then r6 else r6) (bif r11 then r10 else r10) (bif r11 then nmV r12 else d.10) (tkB r14 (115:Int)) (bif r11 then d.12 else d.12),()) =(wkR s,wkD d s,()))))
 intro r1 r2 r3 r4 r5 r6 r7 r8 r9 r10 r11 r12 r13 r14 r15
 clear_value (hr1:r1=_) (hr2:r2=_) (hr3:r3=_) (hr4:r4=_) (hr5:r5=_) (hr6:r6=_) (hr7:r7=_) (hr8:r8=_) (hr9:r9=_) (hr10:r10=_) (hr11:r11=_) (hr12:r12=_) (hr13:r13=_) (hr14:r14=_) (hr15:r15=_)
 have e1:r1=wk1 s:=by rw [hr1];cases tkB s 47 <;> rfl
 have e2:r2 =((wk1 s).size:Int):=by rw [hr2,e1]
 have e3:r3=!x8 s:=by
  rw [hr3];unfold x8
  show (bif !tkB s 47 then true else emp (wk1 s))=_
  cases tkB s 47 <;> cases emp (wk1 s) <;> rfl
 have e4:r4=wk2 s:=by rw [hr4,e2,e1];rfl
 have e5:r5=wk3 s:=by rw [hr5,e4];rfl
 have e6:r6=dgV (wk2 s):=by rw [hr6,e4]
 have e7:r7=wk4 s:=by rw [hr7,e5];rfl
 have e8:r8=!tkB (wk3 s) 40:=by rw [hr8,e5]
 have e9:r9=wk5 s:=by rw [hr9,e7];rfl
 have e10:r10=nmV (wk4 s):=by rw [hr10,e7]
 have e11:r11=tkB (wk5 s) 44:=by rw [hr11,e9]
 have e12:r12=tkR (wk5 s) 44:=by rw [hr12,e9]
 have e15:r15=hwV (wk1 s):=by rw [hr15,hr13,e1];rfl
 have e14:r14=wk6 s:=by
  rw [hr14,e11,e12];unfold wk6
  cases h:tkB (wk5 s) 44 with
  | true=>rw [aQ h];rfl
  | false=>rw [bG h];rfl
 have hz:r3=false→1≤(wk1 s).size:=fun h=>by
  rw [e3] at h
  unfold x8 at h
  cases ha:tkB s 47 with
  | false=>rw [ha] at h;cases h
  | true=>rw [ha] at h;exact fc (by simpa using h)
 refine ⟨fun h=>?_,fun h=>⟨⟨Int.le_refl _,by have:=hz h;omega⟩,⟨by decide,by have:=hz h;omega,Int.le_refl _⟩,fun a=>?_,fun a=>?_⟩⟩
 ·rw [e3] at h
  unfold wkR wkD
  rw [h,e1];rfl
 ·rw [e3] at h
  rw [e8] at a
  have h40:tkB (wk3 s) 40=false:=by simpa using a
  unfold wkR wkD
  rw [h,a,e7,e15,e6]
  unfold wk4
  rw [bG h40];rfl
 ·rw [e3] at h
  rw [e8] at a
  have h40:tkB (wk3 s) 40=true:=by simpa using a
  unfold wkR wkD
  rw [h,a,e14,e15,e6,e10,e11,e12]
  have e13 :(bif tkB (wk5 s) 44 then nmV (tkR (wk5 s) 44) else d.Second)=if tkB (wk5 s) 44 then nmV (tl (wk5 s)) else d.Second:=by
   cases h:tkB (wk5 s) 44 with
   | true=>rw [aQ h];rfl
   | false=>rfl
  rw [e13]
  simp only [Bool.cond_self]
  rfl
def uN:FuncId×Ctr:=(119,ae KE qWk LK CV)
theorem B7:CtrOK Tryz.prog KE 119 (ae KE qWk LK CV):=by
 refine aE (C:=ay [lL,jr,uL,rA] Tryz.f119) (au (.consU rO rfl (.consU oK rfl (.consU B5 rfl (.consU zR rfl .nil)))) _) mixed (fn:=Tryz.f119) Tryz.func119 (by kernel_rfl) (by kernel_rfl) (by kernel_rfl) (by kernel_rfl) (by kernel_rfl) (by kernel_rfl) (Λ:=fun _ _=>none) ?_ ?_
 ·exact fun _ _ _ _ _ _ _ _ h=>by cases h
 ·rintro ⟨s,d,⟨⟩⟩ hw hn
  exact AH s d
theorem F0 (s:ByteArray) :(evPat (ay [lL,uM,jr,uN,DJ] Tryz.f67) (fun _=>none) Tryz.f67 mS Cl (s,())).sat fun z_=>z_ =(oU (s,())).2:=by
 refine cast (by kernel_rfl) (?_:let r1:Int:=bif tkB s (119:Int) then (2:Int) else bif tkB (tkR s (119:Int)) (110:Int) then (3:Int) else (1:Int);let r2:Int:=bif tkB s (119:Int) then (0:Int) else bif tkB (tkR s (119:Int)) (110:Int) then (0:Int) else (0:Int);let r3:ByteArray:=bif tkB s (119:Int) then tkR s (119:Int) else bif tkB (tkR s (119:Int)) (110:Int) then tkR (tkR s (119:Int)) (110:Int) else tkR (tkR s (119:Int)) (110:Int);let r4:ByteArray:=soR r1 r3;let r5:Int:=soV r1 r3;let r6:ByteArray:=dgR r4;let r7:Int:=dgV r4;let r8:Bool:=tkB r6 (70:Int);let r9:ByteArray:=tkR r6 (70:Int);let r10:Bool:=tkB r9 (83:Int);let r11:ByteArray:=tkR r9 (83:Int);let r12:Int:=bif r8 then (4:Int) else bif r10 then (6:Int) else r2;let r13:Int:=bif r8 then r1 else bif r10 then r1 else r1;let r14:Int:=bif r8 then r2 else bif r10 then r2 else r2;let r15:Int:=bif r8 then r5 else bif r10 then r5 else r5;let r16:Int:=bif r8 then r7 else bif r10 then r7 else r7;let r17:ByteArray:=bif r8 then r9 else bif r10 then r11 else r11;let r18:Bool:=tkB r17 (45:Int);let r19:ByteArray:=tkR r17 (45:Int);let r20:Int:=bif r18 then r14 else r14;let r21:ByteArray:=bif r18 then dgR r19 else r19;let r22:ByteArray:=tkR r21 (120:Int);let r23:ByteArray:=wkR r22;let r24:Bool:=tkB r23 (64:Int);let r25:Delivery:=wkD (Delivery.mk (bif r18 then r13 else r13) (bif r18 then r15 else r15) (bif r18 then r16 else r16) (bif r18 then dgV r19 else r14) (bif r18 then r12 else r12) (tkB r21 (120:Int)) r20 r20 r20 r20 false r20) r22;let r26:Delivery:=Delivery.mk (bif r24 then r25.1 else r25.1) (bif r24 then r25.2 else r25.2) (bif r24 then r25.3 else r25.3) (bif r24 then r25.4 else r25.4) (bif r24 then r25.5 else r25.5) (bif r24 then r25.6 else r25.6) (bif r24 then r25.7 else r25.7) (bif r24 then r25.8 else r25.8) (bif r24 then r25.9 else r25.9) (bif r24 then r25.10 else r25.10) (bif r24 then r25.11 else r25.11) (bif r24 then dgV (tkR r23 (64:Int)) else r25.12);let r27:Bool:=bif ba r26 !=(0:Int) then true else !(prS r26).toList==s.toList;(r27=true→(Delivery.mk (0:Int) (0:Int) (0:Int) (0:Int) (0:Int) false (0:Int) (0:Int) (0:Int) (0:Int) false (0:Int),(4:Int),()) =(tu s,l8 s,()))∧(r27=false→(r26,(0:Int),()) =(tu s,l8 s,())))
 intro r1 r2 r3 r4 r5 r6 r7 r8 r9 r10 r11 r12 r13 r14 r15 r16 r17 r18 r19 r20 r21 r22 r23 r24 r25 r26 r27
 clear_value (hr1:r1=_) (hr2:r2=_) (hr3:r3=_) (hr4:r4=_) (hr5:r5=_) (hr6:r6=_) (hr7:r7=_) (hr8:r8=_) (hr9:r9=_) (hr10:r10=_) (hr11:r11=_) (hr12:r12=_) (hr13:r13=_) (hr14:r14=_) (hr15:r15=_) (hr16:r16=_) (hr17:r17=_) (hr18:r18=_) (hr19:r19=_) (hr20:r20=_) (hr21:r21=_) (hr22:r22=_) (hr23:r23=_) (hr24:r24=_) (hr25:r25=_) (hr26:r26=_) (hr27:r27=_)
 have n119:tkB s 119=false→tkR s 119=s:=fun h=>bG h
 have e1:r1=paT s:=by
  rw [hr1];unfold paT
  cases h:tkB s 119 with
  | true=>rfl
  | false=>rw [n119 h];cases tkB s 110 <;> rfl
 have e2:r2=0:=by rw [hr2];simp only [Bool.cond_self]
 have e3:r3=pa1 s:=by
  rw [hr3];unfold pa1
  cases h:tkB s 119 with
  | true=>rw [aQ h];rfl
  | false=>rw [n119 h];cases tkB s 110 <;> rfl
 have e4:r4=pa2 s:=by rw [hr4,e1,e3];rfl
 have e5:r5=soV (paT s) (pa1 s):=by rw [hr5,e1,e3]
 have e6:r6=pa3 s:=by rw [hr6,e4];rfl
 have e7:r7=dgV (pa2 s):=by rw [hr7,e4]
 have e8:r8=tkB (pa3 s) 70:=by rw [hr8,e6]
 have e9:tkB (pa3 s) 70=false→r9=pa3 s:=fun h=>by rw [hr9,e6];exact bG h
 have e12:r12=if tkB (pa3 s) 70 then 4 else if tkB (pa3 s) 83 then 6 else 0:=by
  rw [hr12,e8,hr10,e2]
  cases h:tkB (pa3 s) 70 with
  | true=>rfl
  | false=>rw [e9 h];cases tkB (pa3 s) 83 <;> rfl
 have e13:r13=paT s:=by rw [hr13,e1];simp only [Bool.cond_self]
 have e14:r14=0:=by rw [hr14,e2];simp only [Bool.cond_self]
 have e15:r15=soV (paT s) (pa1 s):=by rw [hr15,e5];simp only [Bool.cond_self]
 have e16:r16=dgV (pa2 s):=by rw [hr16,e7];simp only [Bool.cond_self]
 have e17:r17=pa4 s:=by
  rw [hr17,e8,hr11];unfold pa4
  cases h:tkB (pa3 s) 70 with
  | true=>rw [hr9,e6,aQ h];rfl
  | false=>rw [e9 h];cases r10 <;> rfl
 have e18:r18=tkB (pa4 s) 45:=by rw [hr18,e17]
 have e19:tkB (pa4 s) 45=true→r19=tl (pa4 s):=fun h=>by rw [hr19,e17];exact aQ h
 have e20:r20=0:=by rw [hr20,e14];simp only [Bool.cond_self]
 have e21:r21=pa5 s:=by
  rw [hr21,e18];unfold pa5
  cases h:tkB (pa4 s) 45 with
  | true=>rw [e19 h];rfl
  | false=>rw [hr19,e17];exact bG h
 have e22:r22=pa6 s:=by rw [hr22,e21];rfl
 have e23:r23=pa7 s:=by rw [hr23,e22];rfl
 have e25:r25=paW s:=by
  rw [hr25,e22,e13,e15,e16,e14,e12,e20,e21,e18]
  have h :(bif tkB (pa4 s) 45 then dgV r19 else 0)=if tkB (pa4 s) 45 then dgV (tl (pa4 s)) else 0:=by
   cases h:tkB (pa4 s) 45 with
   | true=>rw [e19 h];rfl
   | false=>rfl
  rw [h];simp only [Bool.cond_self];rfl
 have e26:r26=kc s:=by
  rw [hr26,hr24,e23,e25]
  have h :(bif tkB (pa7 s) 64 then dgV (tkR (pa7 s) 64) else (paW s).Sector)=if tkB (pa7 s) 64 then dgV (tl (pa7 s)) else (paW s).Sector:=by
   cases h:tkB (pa7 s) 64 with
   | true=>rw [aQ h];rfl
   | false=>rfl
  unfold kc
  rw [←h];simp only [Bool.cond_self]
 have e27:r27=jv s:=by
  rw [hr27,e26];unfold jv
  cases ba (kc s) != 0 <;> rfl
 refine ⟨fun h=>?_,fun h=>?_⟩
 ·rw [e27] at h;unfold tu l8;rw [h];rfl
 ·rw [e27] at h;unfold tu l8;rw [h,e26];rfl
def KV:FuncId×Ctr:=(67,ae KE mS Cl oU)
theorem IX:CtrOK Tryz.prog KE 67 (ae KE mS Cl oU):=by
 refine aE (C:=ay [lL,uM,jr,uN,DJ] Tryz.f67) (au (.consU rO rfl (.consU B6 rfl (.consU oK rfl (.consU B7 rfl (.consU IY rfl .nil))))) _) mixed (fn:=Tryz.f67) Tryz.func67 (by kernel_rfl) (by kernel_rfl) (by kernel_rfl) (by kernel_rfl) (by kernel_rfl) (by kernel_rfl) (Λ:=fun _ _=>none) ?_ ?_
 ·exact fun _ _ _ _ _ _ _ _ h=>by cases h
 ·rintro ⟨s,⟨⟩⟩ hw hn
  exact F0 s
end Go.Proofs.YtffdpnmioidloaaGreatDoor
namespace Go.Proofs.YtffdpnmioidloaaGreatDoor
open Go Go.Mir
attribute [local irreducible] Go.Mir.DT.sat Go.Mir.evPat Go.Mir.RT.sat Go.Mir.evFn
abbrev qHs:Pat:=dI [.str,U8]
abbrev LC:Pat:=dI [.bool]
def O2:Den (tyP qHs)→List Prop×Den (tyP LC):=fun x=>([],(tkB x.1 x.2.1,()))
abbrev LD:Pat:=dI [I,.str]
def JE:Den (tyP mS)→List Prop×Den (tyP LD):=fun x=>([],(nmV x.1,nmR x.1,()))
abbrev qNb:Pat:=⟨[(0,.h .str),(4,.h I),(5,.h I)],[],0⟩
abbrev xNb:List (Lf×Pat):= [(.ext 0,⟨[(0,.h .str),(4,.h I),(5,.h I)],[],0⟩)]
abbrev TNb:Type:=ByteArray×Int×Int×Unit
def atB (s:ByteArray) (i:Int):Int:=((s.data.getD i.toNat 0).toNat:Int)
def atD (s:ByteArray) (i:Int):Bool:=decide (i <(s.size:Int))&&(decide (atB s i≥48)&&decide (atB s i≤57))
def nbV (s:ByteArray) (n i:Int):Int:=if i==0 then (if atD s 0 then (if atD s 1 then 10 *(10*n +(atB s 0 - 48)) +(atB s 1 - 48) else 10*n +(atB s 0 - 48)) else n) else if i==1 then (if atD s 1 then 10*n +(atB s 1 - 48) else n) else n
def nbI (s:ByteArray) (i:Int):Int:=if i==0 then (if atD s 0 then (if atD s 1 then 2 else 1) else 0) else if i==1 then (if atD s 1 then 2 else 1) else i
def ux (x:TNb):Prop:=(x.2.2.1=0∧x.2.1=0)∨(x.2.2.1=1∧0≤x.2.1∧x.2.1≤9)∨(x.2.2.1=2∧0≤x.2.1∧x.2.1≤99)
def Iw (x:TNb):Nat:=(2 - x.2.2.1).toNat
def pN (x:TNb):ByteArray×Int×Int×Unit:=(x.1,nbV x.1 x.2.1 x.2.2.1,nbI x.1 x.2.2.1,())
theorem Di (s:ByteArray):emp s=!decide ((s.size:Int)>0):=by
 cases h:emp s with
 | false=>have:=fc h;rw [decide_eq_true (show (s.size:Int)>0 by omega)];rfl
 | true=>
  have h2:=bytes_eq_iff.1 h
  have:s.data.toList.length=0:=by rw [h2];rfl
  have:s.size=0:=by simpa using this
  rw [decide_eq_false (show ¬(s.size:Int)>0 by omega)];rfl
theorem Nf {n:Int} (h0:0≤n) (h1:n<256):IntKind.u8.wrap n=n:=by
 simp only [IntKind.wrap,IntKind.bits,IntKind.signed]
 simp
 omega
theorem qp (s:ByteArray) :(tl s).data.toList=s.data.toList.drop 1:=by
 unfold tl
 rw [ByteArray.data_extract,Array.toList_extract]
 show (s.data.toList.drop 1).take (s.size - 1)=_
 rw [List.take_of_length_le (by simp)]
theorem Dx (s:ByteArray):hd s =((s.data.toList.headD 0).toNat:Int):=by
 unfold hd
 rw [Array.getD_eq_getD_getElem?,←Array.getElem?_toList]
 cases s.data.toList <;> rfl
theorem Eu (s:ByteArray) :(tl s).size=s.size - 1:=by unfold tl;rw [ByteArray.size_extract];omega
theorem My (s:ByteArray):hd (tl s)=atB s 1:=by
 rw [Dx,qp]
 unfold atB
 rw [Array.getD_eq_getD_getElem?,←Array.getElem?_toList]
 show _ =(((s.data.toList[1]?).getD 0).toNat:Int)
 cases s.data.toList with
 | nil=>rfl
 | cons x l=>cases l <;> rfl
theorem PU (s:ByteArray):atD s 0=cf s:=by
 unfold atD cf;rw [Di]
 show (decide ((0:Int)<s.size)&&_) =(!!decide ((s.size:Int)>0)&&_)
 rw [Bool.not_not];rfl
theorem PV (s:ByteArray):atD s 1=cf (tl s):=by
 unfold atD cf;rw [Di,My,Eu]
 have:decide ((1:Int)<s.size)=!!decide (((s.size - 1:Nat):Int)>0):=by
  rw [Bool.not_not];apply decide_eq_decide.2;omega
 rw [this]
theorem Gy (s:ByteArray) (i:Int):0≤atB s i∧atB s i≤255:=by
 unfold atB
 have:=(s.data.getD i.toNat 0).toNat_lt
 omega
theorem JA (s:ByteArray) (c:Int) :(evPat (ay [] Tryz.f177) (fun _=>none) Tryz.f177 qHs LC (s,c,())).sat fun z_=>z_ =(O2 (s,c,())).2:=by
 refine cast (by kernel_rfl) (?_:let r1:Bool:=decide ((↑s.size:Int) >(0:Int));((r1=true→((0:Int)≤(0:Int)∧(0:Int) <(↑s.size:Int))∧True)∧(r1=false→True))∧(true=true→(bif r1 then (↑(s.1.getD (Int.toNat (0:Int)) (0:UInt8)).toNat:Int)==c else false,()) =(tkB s c,())))
 intro r1
 clear_value (hr1:r1=_)
 have e1:r1=!emp s:=by rw [Di,Bool.not_not];exact hr1
 refine ⟨⟨fun h=>⟨⟨Int.le_refl _,?_⟩,trivial⟩,fun _=>trivial⟩,fun _=>?_⟩
 ·rw [hr1] at h;simpa using h
 ·rw [e1]
  show (bif !emp s then hd s==c else false,()) =(!emp s&&hd s==c,())
  cases emp s <;> rfl
def rE:FuncId×Ctr:=(177,ae KE qHs LC O2)
theorem xy:CtrOK Tryz.prog KE 177 (ae KE qHs LC O2):=by
 refine aE (C:=ay [] Tryz.f177) (au (CtrsOK.nil) _) mixed (fn:=Tryz.f177) Tryz.func177 (by kernel_rfl) (by kernel_rfl) (by kernel_rfl) (by kernel_rfl) (by kernel_rfl) (by kernel_rfl) (Λ:=fun _ _=>none) ?_ ?_
 ·exact fun _ _ _ _ _ _ _ _ h=>by cases h
 ·rintro ⟨s,c,⟨⟩⟩ hw hn
  exact JA s c
noncomputable def lpNb:Lp:=(⟨0,ay [] Tryz.f178,(fun _=>none),(bt Tryz.f178 0),qNb,xNb⟩:Lp)
theorem Pj (s:ByteArray) (n:Int) (i:Int) (hi:ux (s,n,i,())) :(Go.Mir.stepG lpNb pN (fun y:Den (tyP lpNb.q)=>ux y∧Iw y<Iw (s,n,i,())) (s,n,i,())∧Go.Mir.stepE lpNb pN (s,n,i,())=pN (s,n,i,())):=by
 refine cast (by kernel_rfl) (?_:let r1:Int:=(↑(s.1.getD i.toNat (0:UInt8)).toNat:Int);let r2:Bool:=decide (i <(↑s.size:Int));let r3:Bool:=decide (i <(2:Int));let r4:Bool:=decide (r1≥(48:Int));let r5:Bool:=bif r2 then bif r3 then bif r4 then decide (r1≤(57:Int)) else false else false else false;let r6:ByteArray×Int×Int×PUnit:=bif r5 then pN (s,IntKind.i64.wrap (IntKind.i64.wrap ((10:Int)*n)+IntKind.i64.wrap (IntKind.u8.wrap (r1 - (48:Int)))),IntKind.i64.wrap (i +(1:Int)),()) else (s,n,i,());(((r2=true→(r3=true→((0:Int)≤i∧i <(↑s.size:Int))∧(r4=true→((0:Int)≤i∧i <(↑s.size:Int))∧True)∧(r4=false→True))∧(r3=false→True))∧(r2=false→True))∧(true=true→(r5=true→((0:Int)≤i∧i <(↑s.size:Int))∧ux (s,IntKind.i64.wrap (IntKind.i64.wrap ((10:Int)*n)+IntKind.i64.wrap (IntKind.u8.wrap (r1 - (48:Int)))),IntKind.i64.wrap (i +(1:Int)),())∧Iw (s,IntKind.i64.wrap (IntKind.i64.wrap ((10:Int)*n)+IntKind.i64.wrap (IntKind.u8.wrap (r1 - (48:Int)))),IntKind.i64.wrap (i +(1:Int)),())<Iw (s,n,i,()))∧(r5=false→True)))∧(bif true&&true&&true&&true then r6 else bif true then r6 else bif r2 then bif r3 then bif r4 then dflt (Ty.str.prod (I.prod (I.prod Ty.unit))) else dflt (Ty.str.prod (I.prod (I.prod Ty.unit))) else dflt (Ty.str.prod (I.prod (I.prod Ty.unit))) else dflt (Ty.str.prod (I.prod (I.prod Ty.unit))))=pN (s,n,i,()))
 intro r1 r2 r3 r4 r5 r6
 clear_value (hr1:r1=_) (hr2:r2=_) (hr3:r3=_) (hr4:r4=_) (hr5:r5=_) (hr6:r6=_)
 have e5:r5 =(atD s i&&r3):=by
  rw [hr5,hr4,hr2,hr1];unfold atD atB
  cases decide (i <(s.size:Int)) <;> cases r3 <;> cases decide (((s.data.getD i.toNat 0).toNat:Int)≥48) <;> cases decide (((s.data.getD i.toNat 0).toNat:Int)≤57) <;> rfl
 have hi0:0≤i:=by rcases hi with ⟨h,_⟩ |⟨h,_⟩ |⟨h,_⟩ <;>(simp only at h;omega)
 have hz:r2=true→0≤i∧i <(s.size:Int):=fun h=>⟨hi0,by rw [hr2] at h;simpa using h⟩
 have hw:r5=true→IntKind.i64.wrap (IntKind.i64.wrap ((10:Int)*n)+IntKind.i64.wrap (IntKind.u8.wrap (r1 - (48:Int))))=10*n +(atB s i - 48)∧IntKind.i64.wrap (i+1)=i+1∧i<2∧r2=true∧atD s i=true∧48≤atB s i∧atB s i≤57:=fun h=>by
  rw [e5] at h
  simp only [Bool.and_eq_true] at h
  have h2:=h.1
  unfold atD at h2
  simp only [Bool.and_eq_true,decide_eq_true_eq] at h2
  have h3:i<2:=by have:=h.2;rw [hr3] at this;simpa using this
  have hn:0≤n∧n≤9:=by rcases hi with ⟨a,b⟩ |⟨a,b,c⟩ |⟨a,b,c⟩ <;> simp only at a b <;>(try simp only at c) <;> omega
  have e1:r1=atB s i:=hr1
  have w1:IntKind.u8.wrap (atB s i - 48)=atB s i - 48:=Nf (by omega) (by omega)
  have w2:IntKind.i64.wrap (atB s i - 48)=atB s i - 48:=pR (by omega) (by omega)
  have w3:IntKind.i64.wrap (10*n)=10*n:=pR (by omega) (by omega)
  rw [e1,w1,w2,w3]
  exact ⟨pR (by omega) (by omega),pR (by omega) (by omega),h3,by rw [hr2];simpa using h2.1,h.1,h2.2.1,h2.2.2⟩
 refine ⟨⟨⟨fun h=>⟨fun _=>⟨hz h,fun _=>⟨hz h,trivial⟩,fun _=>trivial⟩,fun _=>trivial⟩,fun _=>trivial⟩,fun _=>⟨fun h=>?_,fun _=>trivial⟩⟩,?_⟩
 ·obtain ⟨a,b,c,d,e,f,g⟩:=hw h
  rw [a,b]
  refine ⟨hz d,?_,?_⟩
  ·show (i+1=0∧_)∨(i+1=1∧_)∨(i+1=2∧_)
   rcases hi with ⟨x,z⟩ |⟨x,z,w⟩ |⟨x,z,w⟩
   ·have x:i=0:=x
    have z:n=0:=z
    exact .inr (.inl ⟨by omega,by show 0≤10*n +(atB s i - 48);omega,by show 10*n +(atB s i - 48)≤9;omega⟩)
   ·have x:i=1:=x
    have z:0≤n:=z
    have w:n≤9:=w
    exact .inr (.inr ⟨by omega,by show 0≤10*n +(atB s i - 48);omega,by show 10*n +(atB s i - 48)≤99;omega⟩)
   ·have x:i=2:=x
    omega
  ·show (2 - (i+1)).toNat <(2 - i).toNat
   omega
 ·show r6=_
  rw [hr6]
  cases h:r5 with
  | true=>
   obtain ⟨a,b,c,d,e,f,g⟩:=hw h
   rw [a,b]
   show (s,nbV s _ (i+1),nbI s (i+1),()) =(s,nbV s n i,nbI s i,())
   rcases hi with ⟨x,z⟩ |⟨x,z,w⟩ |⟨x,z,w⟩
   ·have x:i=0:=x
    subst x
    unfold nbV nbI
    rw [e];rfl
   ·have x:i=1:=x
    subst x
    unfold nbV nbI
    rw [e];rfl
   ·have x:i=2:=x
    omega
  | false=>
   show (s,n,i,()) =(s,nbV s n i,nbI s i,())
   rw [h] at e5
   rcases hi with ⟨x,z⟩ |⟨x,z,w⟩ |⟨x,z,w⟩
   ·have x:i=0:=x
    subst x
    have e3:r3=true:=hr3
    rw [e3,Bool.and_true] at e5
    unfold nbV nbI
    rw [←e5];rfl
   ·have x:i=1:=x
    subst x
    have e3:r3=true:=hr3
    rw [e3,Bool.and_true] at e5
    unfold nbV nbI
    rw [←e5];rfl
   ·have x:i=2:=x
    subst x
    rfl
noncomputable def M7:LoopSum:=aD lpNb pN ux
noncomputable def MO:Nat:=rid (bt Tryz.f178 0)
theorem Oj:LoopOKp Tryz.prog 0 Tryz.f178.ntmps (bt Tryz.f178 0) (aD lpNb pN ux):=
 bq lpNb (au (CtrsOK.nil) _) mixed (fun b hb S hS=>by cases hS) pN ux Iw (fun |⟨s,n,i,⟨⟩⟩,hi=>Pj s n i hi)
theorem AJ (s:ByteArray) :(evPat (ay [] Tryz.f178) (find [(MO,M7)]) Tryz.f178 mS LD (s,())).sat fun z_=>z_ =(JE (s,())).2:=by
 refine cast (by kernel_rfl) (?_ :((jZ fun x=>none)∧((0:Int) =(0:Int)∧(0:Int) =(0:Int)∨(0:Int) =(1:Int)∧(0:Int)≤(0:Int)∧(0:Int)≤(9:Int)∨(0:Int) =(2:Int)∧(0:Int)≤(0:Int)∧(0:Int)≤(99:Int)))∧((0:Int)≤nbI s (0:Int)∧nbI s (0:Int)≤(↑s.size:Int)∧(↑s.size:Int)≤(↑s.size:Int))∧(nbV s (0:Int) (0:Int),s.extract (nbI s (0:Int)).toNat (↑s.size:Int).toNat,()) =(nmV s,nmR s,()))
 refine ⟨⟨rfl,.inl ⟨rfl,rfl⟩⟩,?_,?_⟩
 ·have h0:=PU s
  have h1:=PV s
  unfold nbI
  rw [h0,h1]
  cases a:cf s with
  | false=>exact ⟨Int.le_refl _,by show (0:Int)≤s.size;omega,Int.le_refl _⟩
  | true=>
   have z:=fc (s:=s) (by unfold cf at a;simp at a;exact a.1)
   cases b:cf (tl s) with
   | false=>exact ⟨(by decide :(0:Int)≤1),by show (1:Int)≤s.size;omega,Int.le_refl _⟩
   | true=>
    have z2:=fc (s:=tl s) (by unfold cf at b;simp at b;exact b.1)
    rw [Eu] at z2
    exact ⟨(by decide :(0:Int)≤2),by show (2:Int)≤s.size;omega,Int.le_refl _⟩
 ·have h0:=PU s
  have h1:=PV s
  have g1:hd (tl s)=atB s 1:=My s
  have g0:hd s=atB s 0:=rfl
  unfold nbI nbV
  rw [h0,h1]
  cases a:cf s with
  | false=>
   have e:dgR s=s:=by unfold dgR;rw [a];rfl
   have e2:dgV s=0:=by unfold dgV;rw [a];rfl
   unfold nmV nmR
   rw [e,a,e2]
   show (_,s.extract 0 s.size,())=_
   have:s.extract 0 s.size=s:=by simp
   rw [this];rfl
  | true=>
   have e:dgR s=tl s:=by unfold dgR;rw [a];rfl
   have e2:dgV s=hd s - 48:=by unfold dgV;rw [a];rfl
   unfold nmV nmR
   rw [e,e2]
   cases b:cf (tl s) with
   | false=>
    show ((10*0 +(atB s 0 - 48):Int),tl s,()) =(hd s - 48,tl s,())
    rw [g0];simp
   | true=>
    have e3:dgR (tl s)=tl (tl s):=by unfold dgR;rw [b];rfl
    have e4:dgV (tl s)=hd (tl s) - 48:=by unfold dgV;rw [b];rfl
    rw [e3,e4,g0,g1]
    have:tl (tl s)=s.extract 2 s.size:=bW (by
     rw [qp,qp,ByteArray.data_extract,Array.toList_extract]
     show (s.data.toList.drop 1).drop 1 =(s.data.toList.drop 2).take (s.size - 2)
     rw [List.drop_drop,List.take_of_length_le (by simp)])
    rw [this]
    show (10 *(10*0 +(atB s 0 - 48)) +(atB s 1 - 48),s.extract 2 s.size,()) =(10 *(atB s 0 - 48) +(atB s 1 - 48),s.extract 2 s.size,())
    rw [Int.mul_zero,Int.zero_add]
def lM:FuncId×Ctr:=(178,ae KE mS LD JE)
theorem rP:CtrOK Tryz.prog KE 178 (ae KE mS LD JE):=by
 refine aE (C:=ay [] Tryz.f178) (au (CtrsOK.nil) _) mixed (fn:=Tryz.f178) Tryz.func178 (by kernel_rfl) (by kernel_rfl) (by kernel_rfl) (by kernel_rfl) (by kernel_rfl) (by kernel_rfl) (Λ:=fun x=>find [(MO,M7)]) ?_ ?_
 ·rintro ⟨s,⟨⟩⟩ hw hn
  exact LoopsOKp.at (by kernel_rfl) (.cons (by kernel_rfl) (Oj) .nil)
 ·rintro ⟨s,⟨⟩⟩ hw hn
  exact AJ s
end Go.Proofs.YtffdpnmioidloaaGreatDoor
namespace Go.Proofs.YtffdpnmioidloaaGreatDoor
open Go Go.Mir
attribute [local irreducible] Go.Mir.DT.sat Go.Mir.evPat Go.Mir.RT.sat Go.Mir.evFn
abbrev Qm:List (Nat×PB):= [(0,.dat (.nm .Delivery)),(1,.dat (.nm .Delivery))]
abbrev qOu:Pat:=⟨[(1,.h .str),(2,.c (.ptr 0 0)),(4,.c (.ptr 1 0)),(7,.h I)],Qm,2⟩
abbrev xOu:List (Lf×Pat):= [(.ext 0,⟨[(1,.h .str),(2,.c (.ptr 0 0)),(4,.c (.ptr 1 0))],Qm,2⟩)]
abbrev TOu:Type:=ByteArray×Int×Delivery×Delivery×Unit
def hoF (s:ByteArray):Nat→Int→Int
 | 0,h=>h
 | k+1,h=>hoF s k (if tkB s (atB lets (10 - k)) then 10 - k else h)
def hoD (s:ByteArray) (k:Nat) (d:Delivery):Delivery:={ d with How:=hoF s k d.How }
def uy (x:TOu):Prop:=0≤x.2.1∧x.2.1≤11
def Iy (x:TOu):Nat:=(11 - x.2.1).toNat
def pO (x:TOu):ByteArray×Delivery×Delivery×Unit:=(x.1,hoD x.1 (11 - x.2.1).toNat x.2.2.1,x.2.2.2.1,())
abbrev qDS:Pat:=dI [.nm .Delivery,.str]
def ou1 (s:ByteArray):ByteArray:=nmR (tl s)
def ou2 (s:ByteArray):ByteArray:=nmR (tl (ou1 s))
def ou3 (s:ByteArray):ByteArray:=if tkB (ou2 s) 44 then nmR (tl (ou2 s)) else ou2 s
def ou4 (s:ByteArray):ByteArray:=tkR (ou3 s) 115
def Lr (d:Delivery) (s:ByteArray):Delivery:={ hoD s 11 d with Victim:=nmV (tl s) }
def OL (d:Delivery) (s:ByteArray):Delivery:={ Lr d s with Fielder:=nmV (tl (ou1 s)),Second:=if tkB (ou2 s) 44 then nmV (tl (ou2 s)) else d.Second,Sub:=tkB (ou3 s) 115||d.Sub }
def ouD (d:Delivery) (s:ByteArray):Delivery:=if emp s then hoD s 11 d else if tkB (ou1 s) 40 then OL d s else Lr d s
def ouR (s:ByteArray):ByteArray:=if emp s then s else if tkB (ou1 s) 40 then tkR (ou4 s) 41 else ou1 s
def JG:Den (tyP qDS)→List Prop×Den (tyP qDS):=fun x=>([],(ouD x.1 x.2.1,ouR x.2.1,()))
abbrev LA:Pat:=dI [.nm .Delivery]
def gs0 (s:ByteArray):Int:=if tkB s 119 then 0 else 1
def gsV (s:ByteArray):Int:=if tkB (pa1 s) 46 then 0 else if tkB (pa1 s) 98 then 2 else if tkB (pa1 s) 108 then 3 else if tkB (pa1 s) 111 then 1 else gs0 s
def gs2 (s:ByteArray):ByteArray:=if tkB (pa1 s) 46 then tl (pa1 s) else if tkB (pa1 s) 98 then tl (pa1 s) else if tkB (pa1 s) 108 then tl (pa1 s) else tkR (pa1 s) 111
def gs3 (s:ByteArray):ByteArray:=nmR (gs2 s)
def gs4 (s:ByteArray):ByteArray:=if tkB (gs3 s) 70 then tl (gs3 s) else tkR (gs3 s) 83
def gs5 (s:ByteArray):ByteArray:=if tkB (gs4 s) 45 then nmR (tl (gs4 s)) else gs4 s
def gs6 (s:ByteArray):ByteArray:=tkR (gs5 s) 120
def gsD (s:ByteArray):Delivery:={ Typ:=paT s,Source:=gsV s,Runs:=nmV (gs2 s),Short:=if tkB (gs4 s) 45 then nmV (tl (gs4 s)) else 0,Boundary:=if tkB (gs3 s) 70 then 4 else if tkB (gs3 s) 83 then 6 else 0,Crossed:=tkB (gs5 s) 120,How:=0,Victim:=0,Fielder:=0,Second:=0,Sub:=false,Sector:=0 }
def gsW (s:ByteArray):Delivery:=if tkB (gs6 s) 47 then ouD (gsD s) (tl (gs6 s)) else gsD s
def gs7 (s:ByteArray):ByteArray:=if tkB (gs6 s) 47 then ouR (tl (gs6 s)) else gs6 s
def jS (s:ByteArray):Delivery:={ gsW s with Sector:=if tkB (gs7 s) 64 then nmV (tl (gs7 s)) else (gsW s).Sector }
def CO:Den (tyP mS)→List Prop×Den (tyP LA):=fun x=>([],(jS x.1,()))
def kS (s:ByteArray):Bool:=ba (jS s) != 0||!((prS (jS s)).toList==s.toList)
def Hx (s:ByteArray):Delivery:=if kS s then Delivery.zero else jS s
def Hw (s:ByteArray):Int:=if kS s then 4 else 0
theorem sK {s:ByteArray} {c:Int} (h:tkB s c=true) :(0:Int)≤1∧(1:Int)≤(s.size:Int)∧(s.size:Int)≤(s.size:Int):=by
 have:emp s=false:=by unfold tkB at h;simp at h;exact h.1
 have:=fc this
 exact ⟨by decide,by omega,Int.le_refl _⟩
noncomputable def lpOu:Lp:=(⟨0,ay [rE] Tryz.f179,(fun _=>none),(bt Tryz.f179 0),qOu,xOu⟩:Lp)
theorem Pk (s:ByteArray) (i:Int) (d:Delivery) (z:Delivery) (hi:uy (s,i,d,z,())) :(Go.Mir.stepG lpOu pO (fun y:Den (tyP lpOu.q)=>uy y∧Iy y<Iy (s,i,d,z,())) (s,i,d,z,())∧Go.Mir.stepE lpOu pO (s,i,d,z,())=pO (s,i,d,z,())):=by
 refine cast (by kernel_rfl) (?_:let r1:Bool:=decide (i <(11:Int));let r2:Bool:=tkB s (↑(#[(78:UInt8),(66:UInt8),(67:UInt8),(76:UInt8),(83:UInt8),(72:UInt8),(82:UInt8),(84:UInt8),(79:UInt8),(77:UInt8),(81:UInt8)].getD i.toNat (0:UInt8)).toNat:Int);let r3:ByteArray×Delivery×Delivery×Unit:=pO (s,IntKind.i64.wrap (i +(1:Int)),Delivery.mk (bif r2 then d.1 else d.1) (bif r2 then d.2 else d.2) (bif r2 then d.3 else d.3) (bif r2 then d.4 else d.4) (bif r2 then d.5 else d.5) (bif r2 then d.6 else d.6) (bif r2 then IntKind.u8.wrap i else d.7) (bif r2 then d.8 else d.8) (bif r2 then d.9 else d.9) (bif r2 then d.10 else d.10) (bif r2 then d.11 else d.11) (bif r2 then d.12 else d.12),z,());((r1=true→(((0:Int)≤i∧i <(↑(ByteArray.mk #[78,66,67,76,83,72,82,84,79,77,81]).size:Int))∧(r2=true→True)∧(r2=false→True))∧(true=true→uy (s,IntKind.i64.wrap (i +(1:Int)),Delivery.mk (bif r2 then d.1 else d.1) (bif r2 then d.2 else d.2) (bif r2 then d.3 else d.3) (bif r2 then d.4 else d.4) (bif r2 then d.5 else d.5) (bif r2 then d.6 else d.6) (bif r2 then IntKind.u8.wrap i else d.7) (bif r2 then d.8 else d.8) (bif r2 then d.9 else d.9) (bif r2 then d.10 else d.10) (bif r2 then d.11 else d.11) (bif r2 then d.12 else d.12),z,())∧Iy (s,IntKind.i64.wrap (i +(1:Int)),Delivery.mk (bif r2 then d.1 else d.1) (bif r2 then d.2 else d.2) (bif r2 then d.3 else d.3) (bif r2 then d.4 else d.4) (bif r2 then d.5 else d.5) (bif r2 then d.6 else d.6) (bif r2 then IntKind.u8.wrap i else d.7) (bif r2 then d.8 else d.8) (bif r2 then d.9 else d.9) (bif r2 then d.10 else d.10) (bif r2 then d.11 else d.11) (bif r2 then d.12 else d.12),z,())<Iy (s,i,d,z,())))∧(r1=false→True))∧(bif r1 then bif true&&true then r3 else bif true then r3 else bif r2 then dflt (Ty.str.prod ((Ty.nm Nm.Delivery).prod ((Ty.nm Nm.Delivery).prod Ty.unit))) else dflt (Ty.str.prod ((Ty.nm Nm.Delivery).prod ((Ty.nm Nm.Delivery).prod Ty.unit))) else (s,d,z,()))=pO (s,i,d,z,()))
 intro r1 r2 r3
 clear_value (hr1:r1=_) (hr2:r2=_) (hr3:r3=_)
 obtain ⟨h0,h1⟩:=hi
 have h0:0≤i:=h0
 have h1:i≤11:=h1
 have ew:IntKind.i64.wrap (i+1)=i+1:=pR (by omega) (by omega)
 have eb:IntKind.u8.wrap i=i:=Nf (by omega) (by omega)
 have e2:r2=tkB s (atB lets i):=hr2
 have hl :(lets.size:Int)=11:=rfl
 simp only [Bool.cond_self,ew,eb] at hr3 ⊢
 refine ⟨⟨fun h=>?_,fun _=>trivial⟩,?_⟩
 ·have h2:i<11:=by rw [hr1] at h;simpa using h
  refine ⟨⟨⟨h0,by show i <(lets.size:Int);omega⟩,fun _=>trivial,fun _=>trivial⟩,fun _=>⟨⟨by show 0≤i+1;omega,by show i+1≤11;omega⟩,?_⟩⟩
  show (11 - (i+1)).toNat <(11 - i).toNat
  omega
 ·cases h:r1 with
  | true=>
   have h2:i<11:=by rw [hr1] at h;simpa using h
   show r3=_
   rw [hr3]
   obtain ⟨k,hk⟩ :∃ k:Nat,(11 - i).toNat=k+1:=⟨(10 - i).toNat,by omega⟩
   have hk2 :(11 - (i+1)).toNat=k:=by omega
   have hk3 :(10:Int) - k=i:=by omega
   show (s,hoD s (11 - (i+1)).toNat _,z,()) =(s,hoD s (11 - i).toNat d,z,())
   rw [hk,hk2]
   unfold hoD
   have:hoF s (k+1) d.How=hoF s k (bif r2 then i else d.How):=by
    show hoF s k (if tkB s (atB lets (10 - (k:Int))) then 10 - (k:Int) else d.How)=_
    rw [hk3,e2];cases tkB s (atB lets i) <;> rfl
   rw [this]
  | false=>
   have h2 :¬ i<11:=by rw [hr1] at h;simpa using h
   have :(11 - i).toNat=0:=by omega
   show (s,d,z,()) =(s,hoD s (11 - i).toNat d,z,())
   rw [this];rfl
noncomputable def M8:LoopSum:=aD lpOu pO uy
noncomputable def MP:Nat:=rid (bt Tryz.f179 0)
theorem Ok:LoopOKp Tryz.prog 0 Tryz.f179.ntmps (bt Tryz.f179 0) (aD lpOu pO uy):=
 bq lpOu (au (.consU xy rfl .nil) _) mixed (fun b hb S hS=>by cases hS) pO uy Iy (fun |⟨s,i,d,z,⟨⟩⟩,hi=>Pk s i d z hi)
theorem JB (d:Delivery) (s:ByteArray) :(evPat (ay [rE,lM] Tryz.f179) (find [(MP,M8)]) Tryz.f179 qDS qDS (d,s,())).sat fun z_=>z_ =(JG (d,s,())).2:=by
 refine cast (by kernel_rfl) (?_:let r1:ByteArray:=s.extract (Int.toNat (1:Int)) (↑s.size:Int).toNat;let r2:ByteArray:=nmR r1;let r3:Int:=nmV r1;let r4:Bool:=s.toList ==(ByteArray.mk #[]).toList;let r5:Int:=(↑r2.size:Int);let r6:Bool:=tkB r2 (40:Int);let r7:Int:=hoF s ((11:Int) - (0:Int)).toNat d.7;let r8:ByteArray:=r2.extract (Int.toNat (1:Int)) r5.toNat;let r9:ByteArray:=nmR r8;let r10:Int:=nmV r8;let r11:Int:=(↑r9.size:Int);let r12:Bool:=tkB r9 (44:Int);let r13:Int:=bif r12 then d.1 else d.1;let r14:Int:=bif r12 then d.2 else d.2;let r15:Int:=bif r12 then d.3 else d.3;let r16:Int:=bif r12 then d.4 else d.4;let r17:Int:=bif r12 then d.5 else d.5;let r18:Bool:=bif r12 then d.6 else d.6;let r19:Int:=bif r12 then d.12 else d.12;let r20:Int:=bif r12 then r3 else r3;let r21:Int:=bif r12 then r7 else r7;let r22:ByteArray:=r9.extract (Int.toNat (1:Int)) r11.toNat;let r23:Int:=bif r12 then r10 else r10;let r24:Int:=bif r12 then nmV r22 else d.10;let r25:ByteArray:=bif r12 then nmR r22 else r9;let r26:Int:=(↑r25.size:Int);let r27:Bool:=tkB r25 (115:Int);let r28:Bool:=bif r27 then true else bif r12 then d.11 else d.11;let r29:Int:=bif r27 then r13 else r13;let r30:Int:=bif r27 then r14 else r14;let r31:Int:=bif r27 then r15 else r15;let r32:Int:=bif r27 then r16 else r16;let r33:Int:=bif r27 then r17 else r17;let r34:Bool:=bif r27 then r18 else r18;let r35:Int:=bif r27 then r19 else r19;let r36:Int:=bif r27 then r20 else r20;let r37:Int:=bif r27 then r21 else r21;let r38:Int:=bif r27 then r23 else r23;let r39:Int:=bif r27 then r24 else r24;let r40:ByteArray:=bif r27 then r25.extract (Int.toNat (1:Int)) r26.toNat else r25;let r41:Int:=(↑r40.size:Int);let r42:Bool:=tkB r40 (41:Int);((jZ fun x=>none)∧(0:Int)≤(0:Int)∧(0:Int)≤(11:Int))∧(r4=true→(Delivery.mk d.1 d.2 d.3 d.4 d.5 d.6 r7 d.8 d.9 d.10 d.11 d.12,s,()) =(ouD d s,ouR s,()))∧(r4=false→((0:Int)≤(1:Int)∧(1:Int)≤(↑s.size:Int)∧(↑s.size:Int)≤(↑s.size:Int))∧((r6=true→((0:Int)≤(1:Int)∧(1:Int)≤r5∧r5≤r5)∧((r12=true→((0:Int)≤(1:Int)∧(1:Int)≤r11∧r11≤r11)∧True)∧(r12=false→True))∧(true=true→((r27=true→((0:Int)≤(1:Int)∧(1:Int)≤r26∧r26≤r26)∧True)∧(r27=false→True))∧(true=true→(r42=true→((0:Int)≤(1:Int)∧(1:Int)≤r41∧r41≤r41)∧True)∧(r42=false→True))))∧(r6=false→True))∧((bif r6 then true&&true else true)=true→(Delivery.mk (bif r6 then bif r42 then r29 else r29 else d.1) (bif r6 then bif r42 then r30 else r30 else d.2) (bif r6 then bif r42 then r31 else r31 else d.3) (bif r6 then bif r42 then r32 else r32 else d.4) (bif r6 then bif r42 then r33 else r33 else d.5) (bif r6 then bif r42 then r34 else r34 else d.6) (bif r6 then bif r42 then r37 else r37 else r7) (bif r6 then bif r42 then r36 else r36 else r3) (bif r6 then bif r42 then r38 else r38 else d.9) (bif r6 then bif r42 then r39 else r39 else d.10) (bif r6 then bif r42 then r28 else r28 else d.11) (bif r6 then bif r42 then r35 else r35 else d.12),bif r6 then bif r42 then r40.extract (Int.toNat (1:Int)) r41.toNat else r40 else r2,()) =(ouD d s,ouR s,()))))
 intro r1 r2 r3 r4 r5 r6 r7 r8 r9 r10 r11 r12 r13 r14 r15 r16 r17 r18 r19 r20 r21 r22 r23 r24 r25 r26 r27 r28 r29 r30 r31 r32 r33 r34 r35 r36 r37 r38 r39 r40 r41 r42
 clear_value (hr1:r1=_) (hr2:r2=_) (hr3:r3=_) (hr4:r4=_) (hr5:r5=_) (hr6:r6=_) (hr7:r7=_) (hr8:r8=_) (hr9:r9=_) (hr10:r10=_) (hr11:r11=_) (hr12:r12=_) (hr13:r13=_) (hr14:r14=_) (hr15:r15=_) (hr16:r16=_) (hr17:r17=_) (hr18:r18=_) (hr19:r19=_) (hr20:r20=_) (hr21:r21=_) (hr22:r22=_) (hr23:r23=_) (hr24:r24=_) (hr25:r25=_) (hr26:r26=_) (hr27:r27=_) (hr28:r28=_) (hr29:r29=_) (hr30:r30=_) (hr31:r31=_) (hr32:r32=_) (hr33:r33=_) (hr34:r34=_) (hr35:r35=_) (hr36:r36=_) (hr37:r37=_) (hr38:r38=_) (hr39:r39=_) (hr40:r40=_) (hr41:r41=_) (hr42:r42=_)
 simp only [Bool.cond_self] at *
 have e1:r1=tl s:=hr1
 have e2:r2=ou1 s:=by rw [hr2,e1];rfl
 have e3:r3=nmV (tl s):=by rw [hr3,e1]
 have e4:r4=emp s:=hr4
 have e6:r6=tkB (ou1 s) 40:=by rw [hr6,e2]
 have e7:r7=hoF s 11 d.How:=hr7
 have e8:r8=tl (ou1 s):=by rw [hr8,hr5,e2];rfl
 have e9:r9=ou2 s:=by rw [hr9,e8];rfl
 have e10:r10=nmV (tl (ou1 s)):=by rw [hr10,e8]
 have e12:r12=tkB (ou2 s) 44:=by rw [hr12,e9]
 have e22:r22=tl (ou2 s):=by rw [hr22,hr11,e9];rfl
 have e24:r24=if tkB (ou2 s) 44 then nmV (tl (ou2 s)) else d.Second:=by rw [hr24,e12,e22];cases tkB (ou2 s) 44 <;> rfl
 have e25:r25=ou3 s:=by rw [hr25,e12,e22,e9];unfold ou3;cases tkB (ou2 s) 44 <;> rfl
 have e27:r27=tkB (ou3 s) 115:=by rw [hr27,e25]
 have e28:r28 =(tkB (ou3 s) 115||d.Sub):=by rw [hr28,e27];cases tkB (ou3 s) 115 <;> rfl
 have e40:r40=ou4 s:=by
  rw [hr40,e27,hr26,e25];unfold ou4
  cases h:tkB (ou3 s) 115 with
  | true=>rw [aQ h];rfl
  | false=>rw [bG h];rfl
 have e42:r42=tkB (ou4 s) 41:=by rw [hr42,e40]
 refine ⟨⟨rfl,by decide,by decide⟩,fun h=>?_,fun h=>⟨?_,?_,fun _=>?_⟩⟩
 ·rw [e4] at h
  unfold ouD ouR;rw [h,e7];rfl
 ·rw [e4] at h;have:=fc h;exact ⟨by decide,by omega,Int.le_refl _⟩
 ·refine ⟨fun a=>⟨?_,⟨fun b=>⟨?_,trivial⟩,fun _=>trivial⟩,fun _=>⟨⟨fun b=>⟨?_,trivial⟩,fun _=>trivial⟩,fun _=>⟨fun b=>⟨?_,trivial⟩,fun _=>trivial⟩⟩⟩,fun _=>trivial⟩
  ·rw [hr5];exact sK (hr6▸a)
  ·rw [hr11];exact sK (hr12▸b)
  ·rw [hr26];exact sK (hr27▸b)
  ·rw [hr41];exact sK (hr42▸b)
 ·rw [e4] at h
  have er :(bif r42 then r40.extract (Int.toNat 1) r41.toNat else r40)=tkR (ou4 s) 41:=by
   rw [e42,hr41,e40]
   cases h:tkB (ou4 s) 41 with
   | true=>rw [aQ h];rfl
   | false=>rw [bG h];rfl
  rw [er,e6]
  unfold ouD ouR
  rw [h]
  cases hb:tkB (ou1 s) 40 with
  | true=>rw [e28,hr29,hr30,hr31,hr32,hr33,hr34,hr35,hr36,hr37,hr38,hr39,hr13,hr14,hr15,hr16,hr17,hr18,hr19,hr20,hr21,hr23,e24,e3,e7,e10];rfl
  | false=>rw [e2,e3,e7];rfl
def HV:FuncId×Ctr:=(179,ae KE qDS qDS JG)
theorem Lq:CtrOK Tryz.prog KE 179 (ae KE qDS qDS JG):=by
 refine aE (C:=ay [rE,lM] Tryz.f179) (au (.consU xy rfl (.consU rP rfl .nil)) _) mixed (fn:=Tryz.f179) Tryz.func179 (by kernel_rfl) (by kernel_rfl) (by kernel_rfl) (by kernel_rfl) (by kernel_rfl) (by kernel_rfl) (Λ:=fun x=>find [(MP,M8)]) ?_ ?_
 ·rintro ⟨d,s,⟨⟩⟩ hw hn
  exact LoopsOKp.at (by kernel_rfl) (.cons (by kernel_rfl) (Ok) .nil)
 ·rintro ⟨d,s,⟨⟩⟩ hw hn
  exact JB d s
theorem CM (s:ByteArray) :(evPat (ay [rE,lM,HV] Tryz.f122) (fun _=>none) Tryz.f122 mS LA (s,())).sat fun z_=>z_ =(CO (s,())).2:=by
 refine cast (by kernel_rfl) (?_:let r1:ByteArray:=s.extract (Int.toNat (1:Int)) (↑s.size:Int).toNat;let r2:Int:=bif tkB s (119:Int) then (2:Int) else bif tkB s (110:Int) then (3:Int) else (1:Int);let r3:Int:=bif tkB s (119:Int) then (0:Int) else bif tkB s (110:Int) then (0:Int) else (0:Int);let r4:ByteArray:=bif tkB s (119:Int) then r1 else bif tkB s (110:Int) then r1 else s;let r5:Int:=(↑r4.size:Int);let r6:Bool:=tkB r4 (46:Int);let r7:Bool:=tkB r4 (98:Int);let r8:Bool:=tkB r4 (108:Int);let r9:Bool:=tkB r4 (111:Int);let r10:ByteArray:=r4.extract (Int.toNat (1:Int)) r5.toNat;let r11:Int:=bif r6 then (0:Int) else bif r7 then (2:Int) else bif r8 then (3:Int) else bif r9 then (1:Int) else bif tkB s (119:Int) then (0:Int) else bif tkB s (110:Int) then (1:Int) else (1:Int);let r12:Int:=bif r6 then r2 else bif r7 then r2 else bif r8 then r2 else bif r9 then r2 else r2;let r13:Int:=bif r6 then r3 else bif r7 then r3 else bif r8 then r3 else bif r9 then r3 else r3;let r14:ByteArray:=bif r6 then r10 else bif r7 then r10 else bif r8 then r10 else bif r9 then r10 else r4;let r15:ByteArray:=nmR r14;let r16:Int:=nmV r14;let r17:Int:=(↑r15.size:Int);let r18:Bool:=tkB r15 (70:Int);let r19:Bool:=tkB r15 (83:Int);let r20:ByteArray:=r15.extract (Int.toNat (1:Int)) r17.toNat;let r21:Int:=bif r18 then (4:Int) else bif r19 then (6:Int) else r13;let r22:Int:=bif r18 then r11 else bif r19 then r11 else r11;let r23:Int:=bif r18 then r12 else bif r19 then r12 else r12;let r24:Int:=bif r18 then r13 else bif r19 then r13 else r13;let r25:Int:=bif r18 then r16 else bif r19 then r16 else r16;let r26:ByteArray:=bif r18 then r20 else bif r19 then r20 else r15;let r27:Int:=(↑r26.size:Int);let r28:Bool:=tkB r26 (45:Int);let r29:Int:=bif r28 then r21 else r21;let r30:Int:=bif r28 then r22 else r22;let r31:ByteArray:=r26.extract (Int.toNat (1:Int)) r27.toNat;let r32:Int:=bif r28 then r23 else r23;let r33:Int:=bif r28 then r24 else r24;let r34:Int:=bif r28 then r25 else r25;let r35:Int:=bif r28 then nmV r31 else r24;let r36:ByteArray:=bif r28 then nmR r31 else r26;let r37:Int:=(↑r36.size:Int);let r38:Bool:=tkB r36 (120:Int);let r39:Int:=bif r38 then r29 else r29;let r40:Int:=bif r38 then r30 else r30;let r41:Int:=bif r38 then r32 else r32;let r42:Int:=bif r38 then r33 else r33;let r43:Int:=bif r38 then r34 else r34;let r44:Int:=bif r38 then r35 else r35;let r45:ByteArray:=bif r38 then r36.extract (Int.toNat (1:Int)) r37.toNat else r36;let r46:Int:=(↑r45.size:Int);let r47:Bool:=tkB r45 (47:Int);let r48:ByteArray:=r45.extract (Int.toNat (1:Int)) r46.toNat;let r49:ByteArray:=bif r47 then ouR r48 else r45;let r50:Int:=(↑r49.size:Int);let r51:Bool:=tkB r49 (64:Int);let r52:Delivery:=ouD (Delivery.mk r41 r40 r43 r44 r39 r38 r42 r42 r42 r42 false r42) r48;let r53:Bool:=bif r47 then r52.11 else false;let r54:Bool:=bif r47 then r52.6 else r38;let r55:Int:=bif r47 then r52.5 else r39;let r56:Int:=bif r47 then r52.2 else r40;let r57:Int:=bif r47 then r52.1 else r41;let r58:Int:=bif r47 then r52.7 else r42;let r59:Int:=bif r47 then r52.8 else r42;let r60:Int:=bif r47 then r52.9 else r42;let r61:Int:=bif r47 then r52.10 else r42;let r62:Int:=bif r47 then r52.3 else r43;let r63:Int:=bif r47 then r52.4 else r44;((tkB s (119:Int)=true→((0:Int)≤(1:Int)∧(1:Int)≤(↑s.size:Int)∧(↑s.size:Int)≤(↑s.size:Int))∧True)∧(tkB s (119:Int)=false→(tkB s (110:Int)=true→((0:Int)≤(1:Int)∧(1:Int)≤(↑s.size:Int)∧(↑s.size:Int)≤(↑s.size:Int))∧True)∧(tkB s (110:Int)=false→True)))∧(true=true→((r6=true→((0:Int)≤(1:Int)∧(1:Int)≤r5∧r5≤r5)∧True)∧(r6=false→(r7=true→((0:Int)≤(1:Int)∧(1:Int)≤r5∧r5≤r5)∧True)∧(r7=false→(r8=true→((0:Int)≤(1:Int)∧(1:Int)≤r5∧r5≤r5)∧True)∧(r8=false→(r9=true→((0:Int)≤(1:Int)∧(1:Int)≤r5∧r5≤r5)∧True)∧(r9=false→True)))))∧(true=true→((r18=true→((0:Int)≤(1:Int)∧(1:Int)≤r17∧r17≤r17)∧True)∧(r18=false→(r19=true→((0:Int)≤(1:Int)∧(1:Int)≤r17∧r17≤r17)∧True)∧(r19=false→True)))∧(true=true→((r28=true→((0:Int)≤(1:Int)∧(1:Int)≤r27∧r27≤r27)∧True)∧(r28=false→True))∧(true=true→((r38=true→((0:Int)≤(1:Int)∧(1:Int)≤r37∧r37≤r37)∧True)∧(r38=false→True))∧(true=true→((r47=true→((0:Int)≤(1:Int)∧(1:Int)≤r46∧r46≤r46)∧True)∧(r47=false→True))∧(true=true→((r51=true→((0:Int)≤(1:Int)∧(1:Int)≤r50∧r50≤r50)∧True)∧(r51=false→True))∧(true=true→(Delivery.mk (bif r51 then r57 else r57) (bif r51 then r56 else r56) (bif r51 then r62 else r62) (bif r51 then r63 else r63) (bif r51 then r55 else r55) (bif r51 then r54 else r54) (bif r51 then r58 else r58) (bif r51 then r59 else r59) (bif r51 then r60 else r60) (bif r51 then r61 else r61) (bif r51 then r53 else r53) (bif r51 then nmV (r49.extract (Int.toNat (1:Int)) r50.toNat) else bif r47 then r52.12 else r42),()) =(jS s,())))))))))
 intro r1 r2 r3 r4 r5 r6 r7 r8 r9 r10 r11 r12 r13 r14 r15 r16 r17 r18 r19 r20 r21 r22 r23 r24 r25 r26 r27 r28 r29 r30 r31 r32 r33 r34 r35 r36 r37 r38 r39 r40 r41 r42 r43 r44 r45 r46 r47 r48 r49 r50 r51 r52 r53 r54 r55 r56 r57 r58 r59 r60 r61 r62 r63
 clear_value (hr1:r1=_) (hr2:r2=_) (hr3:r3=_) (hr4:r4=_) (hr5:r5=_) (hr6:r6=_) (hr7:r7=_) (hr8:r8=_) (hr9:r9=_) (hr10:r10=_) (hr11:r11=_) (hr12:r12=_) (hr13:r13=_) (hr14:r14=_) (hr15:r15=_) (hr16:r16=_) (hr17:r17=_) (hr18:r18=_) (hr19:r19=_) (hr20:r20=_) (hr21:r21=_) (hr22:r22=_) (hr23:r23=_) (hr24:r24=_) (hr25:r25=_) (hr26:r26=_) (hr27:r27=_) (hr28:r28=_) (hr29:r29=_) (hr30:r30=_) (hr31:r31=_) (hr32:r32=_) (hr33:r33=_) (hr34:r34=_) (hr35:r35=_) (hr36:r36=_) (hr37:r37=_) (hr38:r38=_) (hr39:r39=_) (hr40:r40=_) (hr41:r41=_) (hr42:r42=_) (hr43:r43=_) (hr44:r44=_) (hr45:r45=_) (hr46:r46=_) (hr47:r47=_) (hr48:r48=_) (hr49:r49=_) (hr50:r50=_) (hr51:r51=_) (hr52:r52=_) (hr53:r53=_) (hr54:r54=_) (hr55:r55=_) (hr56:r56=_) (hr57:r57=_) (hr58:r58=_) (hr59:r59=_) (hr60:r60=_) (hr61:r61=_) (hr62:r62=_) (hr63:r63=_)
 have e1:r1=tl s:=hr1
 have e2:r2=paT s:=by rw [hr2];unfold paT;cases tkB s 119 <;> cases tkB s 110 <;> rfl
 have e3:r3=0:=by rw [hr3];simp only [Bool.cond_self]
 have e4:r4=pa1 s:=by
  rw [hr4,e1];unfold pa1
  cases tkB s 119 with
  | true=>rfl
  | false=>
   cases h:tkB s 110 with
   | true=>rw [aQ h];rfl
   | false=>rw [bG h];rfl
 have e6:r6=tkB (pa1 s) 46:=by rw [hr6,e4]
 have e7:r7=tkB (pa1 s) 98:=by rw [hr7,e4]
 have e8:r8=tkB (pa1 s) 108:=by rw [hr8,e4]
 have e9:r9=tkB (pa1 s) 111:=by rw [hr9,e4]
 have e10:r10=tl (pa1 s):=by rw [hr10,hr5,e4];rfl
 have e11:r11=gsV s:=by
  rw [hr11,e6,e7,e8,e9];unfold gsV gs0
  cases tkB (pa1 s) 46 <;> cases tkB (pa1 s) 98 <;> cases tkB (pa1 s) 108 <;> cases tkB (pa1 s) 111 <;> cases tkB s 119 <;> cases tkB s 110 <;> rfl
 have e12:r12=paT s:=by rw [hr12,e2];simp only [Bool.cond_self]
 have e13:r13=0:=by rw [hr13,e3];simp only [Bool.cond_self]
 have e14:r14=gs2 s:=by
  rw [hr14,e6,e7,e8,e9,e10,e4];unfold gs2
  cases tkB (pa1 s) 46 <;> cases tkB (pa1 s) 98 <;> cases tkB (pa1 s) 108 <;> try rfl
  cases h:tkB (pa1 s) 111 with
  | true=>rw [aQ h];rfl
  | false=>rw [bG h];rfl
 have e15:r15=gs3 s:=by rw [hr15,e14];rfl
 have e16:r16=nmV (gs2 s):=by rw [hr16,e14]
 have e18:r18=tkB (gs3 s) 70:=by rw [hr18,e15]
 have e19:r19=tkB (gs3 s) 83:=by rw [hr19,e15]
 have e20:r20=tl (gs3 s):=by rw [hr20,hr17,e15];rfl
 have e21:r21 =(gsD s).Boundary:=by
  rw [hr21,e18,e19,e13]
  show _=if tkB (gs3 s) 70 then (4:Int) else if tkB (gs3 s) 83 then 6 else 0
  cases tkB (gs3 s) 70 <;> cases tkB (gs3 s) 83 <;> rfl
 have e22:r22=gsV s:=by rw [hr22,e11];simp only [Bool.cond_self]
 have e23:r23=paT s:=by rw [hr23,e12];simp only [Bool.cond_self]
 have e24:r24=0:=by rw [hr24,e13];simp only [Bool.cond_self]
 have e25:r25=nmV (gs2 s):=by rw [hr25,e16];simp only [Bool.cond_self]
 have e26:r26=gs4 s:=by
  rw [hr26,e18,e19,e20,e15];unfold gs4
  cases tkB (gs3 s) 70 with
  | true=>rfl
  | false=>
   cases h:tkB (gs3 s) 83 with
   | true=>rw [aQ h];rfl
   | false=>rw [bG h];rfl
 have e28:r28=tkB (gs4 s) 45:=by rw [hr28,e26]
 have e29:r29 =(gsD s).Boundary:=by rw [hr29,e21];simp only [Bool.cond_self]
 have e30:r30=gsV s:=by rw [hr30,e22];simp only [Bool.cond_self]
 have e31:r31=tl (gs4 s):=by rw [hr31,hr27,e26];rfl
 have e32:r32=paT s:=by rw [hr32,e23];simp only [Bool.cond_self]
 have e33:r33=0:=by rw [hr33,e24];simp only [Bool.cond_self]
 have e34:r34=nmV (gs2 s):=by rw [hr34,e25];simp only [Bool.cond_self]
 have e35:r35 =(gsD s).Short:=by
  rw [hr35,e28,e31,e24]
  show _=if tkB (gs4 s) 45 then nmV (tl (gs4 s)) else 0
  cases tkB (gs4 s) 45 <;> rfl
 have e36:r36=gs5 s:=by rw [hr36,e28,e31,e26];unfold gs5;cases tkB (gs4 s) 45 <;> rfl
 have e38:r38=tkB (gs5 s) 120:=by rw [hr38,e36]
 have e39:r39 =(gsD s).Boundary:=by rw [hr39,e29];simp only [Bool.cond_self]
 have e40:r40=gsV s:=by rw [hr40,e30];simp only [Bool.cond_self]
 have e41:r41=paT s:=by rw [hr41,e32];simp only [Bool.cond_self]
 have e42:r42=0:=by rw [hr42,e33];simp only [Bool.cond_self]
 have e43:r43=nmV (gs2 s):=by rw [hr43,e34];simp only [Bool.cond_self]
 have e44:r44 =(gsD s).Short:=by rw [hr44,e35];simp only [Bool.cond_self]
 have e45:r45=gs6 s:=by
  rw [hr45,e38,hr37,e36];unfold gs6
  cases h:tkB (gs5 s) 120 with
  | true=>rw [aQ h];rfl
  | false=>rw [bG h];rfl
 have e47:r47=tkB (gs6 s) 47:=by rw [hr47,e45]
 have e48:r48=tl (gs6 s):=by rw [hr48,hr46,e45];rfl
 have e49:r49=gs7 s:=by rw [hr49,e47,e48,e45];unfold gs7;cases tkB (gs6 s) 47 <;> rfl
 have e51:r51=tkB (gs7 s) 64:=by rw [hr51,e49]
 have e52:r52=ouD (gsD s) (tl (gs6 s)):=by rw [hr52,e48,e41,e40,e43,e44,e39,e38,e42];rfl
 have e53:r53 =(gsW s).Sub:=by rw [hr53,e47,e52];unfold gsW;cases tkB (gs6 s) 47 <;> rfl
 have e54:r54 =(gsW s).Crossed:=by rw [hr54,e47,e52,e38];unfold gsW;cases tkB (gs6 s) 47 <;> rfl
 have e55:r55 =(gsW s).Boundary:=by rw [hr55,e47,e52,e39];unfold gsW;cases tkB (gs6 s) 47 <;> rfl
 have e56:r56 =(gsW s).Source:=by rw [hr56,e47,e52,e40];unfold gsW;cases tkB (gs6 s) 47 <;> rfl
 have e57:r57 =(gsW s).Typ:=by rw [hr57,e47,e52,e41];unfold gsW;cases tkB (gs6 s) 47 <;> rfl
 have e58:r58 =(gsW s).How:=by rw [hr58,e47,e52,e42];unfold gsW;cases tkB (gs6 s) 47 <;> rfl
 have e59:r59 =(gsW s).Victim:=by rw [hr59,e47,e52,e42];unfold gsW;cases tkB (gs6 s) 47 <;> rfl
 have e60:r60 =(gsW s).Fielder:=by rw [hr60,e47,e52,e42];unfold gsW;cases tkB (gs6 s) 47 <;> rfl
 have e61:r61 =(gsW s).Second:=by rw [hr61,e47,e52,e42];unfold gsW;cases tkB (gs6 s) 47 <;> rfl
 have e62:r62 =(gsW s).Runs:=by rw [hr62,e47,e52,e43];unfold gsW;cases tkB (gs6 s) 47 <;> rfl
 have e63:r63 =(gsW s).Short:=by rw [hr63,e47,e52,e44];unfold gsW;cases tkB (gs6 s) 47 <;> rfl
 have hz :∀ {b:Bool} {x:ByteArray} {c:Int},b=tkB x c→b=true→(0:Int)≤1∧(1:Int)≤(x.size:Int)∧(x.size:Int)≤(x.size:Int):=fun e h=>sK (e▸h)
 refine ⟨⟨fun h=>⟨sK h,trivial⟩,fun _=>⟨fun h=>⟨sK h,trivial⟩,fun _=>trivial⟩⟩,fun _=>⟨⟨fun h=>⟨by rw [hr5];exact hz hr6 h,trivial⟩,fun _=>⟨fun h=>⟨by rw [hr5];exact hz hr7 h,trivial⟩,fun _=>⟨fun h=>⟨by rw [hr5];exact hz hr8 h,trivial⟩,fun _=>⟨fun h=>⟨by rw [hr5];exact hz hr9 h,trivial⟩,fun _=>trivial⟩⟩⟩⟩,fun _=>⟨⟨fun h=>⟨by rw [hr17];exact hz hr18 h,trivial⟩,fun _=>⟨fun h=>⟨by rw [hr17];exact hz hr19 h,trivial⟩,fun _=>trivial⟩⟩,fun _=>⟨⟨fun h=>⟨by rw [hr27];exact hz hr28 h,trivial⟩,fun _=>trivial⟩,fun _=>⟨⟨fun h=>⟨by rw [hr37];exact hz hr38 h,trivial⟩,fun _=>trivial⟩,fun _=>⟨⟨fun h=>⟨by rw [hr46];exact hz hr47 h,trivial⟩,fun _=>trivial⟩,fun _=>⟨⟨fun h=>⟨by rw [hr50];exact hz hr51 h,trivial⟩,fun _=>trivial⟩,fun _=>?_⟩⟩⟩⟩⟩⟩⟩
 have es :(bif r51 then nmV (r49.extract (Int.toNat 1) r50.toNat) else bif r47 then r52.Sector else r42) =(jS s).Sector:=by
  rw [e51,hr50,e49,e47,e52,e42]
  unfold jS gsW
  cases tkB (gs7 s) 64 <;> cases tkB (gs6 s) 47 <;> rfl
 rw [es,e53,e54,e55,e56,e57,e58,e59,e60,e61,e62,e63]
 simp only [Bool.cond_self];rfl
def ze:FuncId×Ctr:=(122,ae KE mS LA CO)
theorem FJ:CtrOK Tryz.prog KE 122 (ae KE mS LA CO):=by
 refine aE (C:=ay [rE,lM,HV] Tryz.f122) (au (.consU xy rfl (.consU rP rfl (.consU Lq rfl .nil))) _) mixed (fn:=Tryz.f122) Tryz.func122 (by kernel_rfl) (by kernel_rfl) (by kernel_rfl) (by kernel_rfl) (by kernel_rfl) (by kernel_rfl) (Λ:=fun _ _=>none) ?_ ?_
 ·exact fun _ _ _ _ _ _ _ _ h=>by cases h
 ·rintro ⟨s,⟨⟩⟩ hw hn
  exact CM s
end Go.Proofs.YtffdpnmioidloaaGreatDoor
namespace Go.Proofs.YtffdpnmioidloaaGreatDoor
open Go Go.Mir
attribute [local irreducible] Go.Mir.DT.sat Go.Mir.evPat Go.Mir.RT.sat Go.Mir.evFn
def ofL (l:List UInt8):ByteArray:=⟨l.toArray⟩
def hL (l:List UInt8):Int:=match l with | []=> -1|x::_=>(x.toNat:Int)
theorem rL (l:List UInt8) :(ofL l).data.toList=l:=rfl
theorem fO (a b:List UInt8):ofL a++ofL b=ofL (a++b):=bW (by rw [ByteArray.data_append,Array.toList_append];rfl)
theorem IP (l:List UInt8) :(ofL l).size=l.length:=by show l.toArray.size=_;simp
theorem wB (l:List UInt8):emp (ofL l)=l.isEmpty:=by
 rw [Di,IP]
 cases l with
 | nil=>rfl
 | cons x l=>rw [decide_eq_true (show (((x::l).length:Nat):Int)>0 by simp)];rfl
theorem Dy (x:UInt8) (l:List UInt8):hd (ofL (x::l)) =(x.toNat:Int):=by rw [Dx,rL];rfl
theorem bQ (x:UInt8) (l:List UInt8):tl (ofL (x::l))=ofL l:=bW (by rw [qp,rL,rL];rfl)
theorem fu (l:List UInt8) {c:Int} (hc:0≤c):tkB (ofL l) c =(hL l==c):=by
 unfold tkB;rw [wB]
 cases l with
 | nil=>show false =(-1==c);symm;simp;omega
 | cons x l=>rw [Dy];rfl
theorem Ms (l:List UInt8):cf (ofL l) =(decide (48≤hL l)&&decide (hL l≤57)):=by
 unfold cf;rw [wB]
 cases l with
 | nil=>rfl
 | cons x l=>rw [Dy];rfl
def nd (t:List UInt8):Prop:=hL t<48∨hL t>57
theorem IE {t:List UInt8} (h:nd t):cf (ofL t)=false:=by
 rw [Ms];unfold nd at h
 rcases h with h|h
 ·rw [decide_eq_false (show ¬ 48≤hL t by omega)];rfl
 ·rw [decide_eq_false (show ¬ hL t≤57 by omega)];exact Bool.and_false _
def dC (n:Nat):UInt8:=UInt8.ofNat (48+n)
theorem wv {n:Nat} (h:n<10) :(dC n).toNat=48+n:=by
 unfold dC;rw [UInt8.toNat_ofNat'];omega
def dL (n:Int):List UInt8:=if n<10 then [dC n.toNat] else [dC (n.toNat / 10),dC (n.toNat % 10)]
theorem GW {n:Nat} (h:n<10) (t:List UInt8):cf (ofL (dC n::t))=true:=by
 rw [Ms];show (decide (48≤((dC n).toNat:Int))&&decide (((dC n).toNat:Int)≤57))=true
 rw [wv h,decide_eq_true (show (48:Int)≤((48+n:Nat):Int) by omega),decide_eq_true (show ((48+n:Nat):Int)≤57 by omega)];rfl
theorem Kx {n:Nat} (h:n<10) (t:List UInt8):dgV (ofL (dC n::t))=n:=by
 unfold dgV;rw [GW h,if_pos rfl,Dy,wv h];omega
theorem Kw {n:Nat} (h:n<10) (t:List UInt8):dgR (ofL (dC n::t))=ofL t:=by
 unfold dgR;rw [GW h,if_pos rfl,bQ]
theorem G0 {t:List UInt8} (h:nd t):dgV (ofL t)=0∧dgR (ofL t)=ofL t:=by
 unfold dgV dgR;rw [IE h];exact ⟨rfl,rfl⟩
theorem QC {t:List UInt8} (h:nd t):nmV (ofL t)=0∧nmR (ofL t)=ofL t:=by
 unfold nmV nmR;rw [(G0 h).2,IE h];exact ⟨(G0 h).1,rfl⟩
theorem qG {n:Int} (h0:0≤n) (h1:n≤9) (t:List UInt8):dgV (ofL (dL n++t))=n∧dgR (ofL (dL n++t))=ofL t:=by
 unfold dL;rw [if_pos (by omega)]
 exact ⟨by rw [List.singleton_append,Kx (by omega)];omega,Kw (by omega) t⟩
theorem k9 {n:Int} (h:cX n) {t:List UInt8} (ht:nd t):nmV (ofL (dL n++t))=n∧nmR (ofL (dL n++t))=ofL t:=by
 obtain ⟨h0,h1⟩:=h
 unfold dL nmV nmR
 split
 ·rename_i h2
  rw [List.singleton_append,Kw (by omega),Kx (by omega),IE ht]
  exact ⟨by show ((n.toNat:Nat):Int)=n;omega,rfl⟩
 ·show (if cf (dgR (ofL (dC (n.toNat / 10)::dC (n.toNat % 10)::t))) then _ else _)=n∧_
  rw [List.cons_append,List.singleton_append,Kw (by omega),Kx (by omega),GW (by omega),if_pos rfl,if_pos rfl,Kx (by omega),Kw (by omega)]
  exact ⟨by omega,rfl⟩
theorem P9 {n:Int} (h:cX n) (t:List UInt8):48≤hL (dL n++t)∧hL (dL n++t)≤57:=by
 obtain ⟨h0,h1⟩:=h
 unfold dL
 split
 ·show 48≤((dC n.toNat).toNat:Int)∧((dC n.toNat).toNat:Int)≤57
  rw [wv (by omega)];omega
 ·show 48≤((dC (n.toNat / 10)).toNat:Int)∧((dC (n.toNat / 10)).toNat:Int)≤57
  rw [wv (by omega)];omega
theorem BA {n:Int} (h:cX n):bC n=ofL (dL n):=by
 have key :((List.range 100).all fun k=>(bC (k:Int)).data.toList==dL (k:Int))=true:=by kernel_rfl
 have:=List.all_eq_true.1 key n.toNat (List.mem_range.2 (by have:=h.1;have:=h.2;omega))
 rw [show ((n.toNat:Nat):Int)=n from by have:=h.1;omega] at this
 exact bW (eq_of_beq this)
theorem wz {n:Int} (h0:0≤n) (h1:n≤9):iA n=ofL (dL n):=by
 rw [ng h0 h1];exact BA ⟨h0,by omega⟩
def hwC (h:Int):UInt8:=lets.data.getD h.toNat 0
theorem NV {h:Int} (h0:0≤h) (h1:h≤10):wZ h=ofL [hwC h]:=by
 have key :((List.range 11).all fun k=>(wZ (k:Int)).data.toList==[hwC (k:Int)])=true:=by kernel_rfl
 have:=List.all_eq_true.1 key h.toNat (List.mem_range.2 (by omega))
 rw [show ((h.toNat:Nat):Int)=h from by omega] at this
 exact bW (eq_of_beq this)
theorem N0 {h:Int} (h0:0≤h) (h1:h≤10) (t:List UInt8):hwV (ofL (hwC h::t))=h:=by
 unfold hwV;rw [Dy]
 have key :((List.range 11).all fun k=>IntKind.u8.wrap (mxI (ixW lets ((hwC (k:Int)).toNat:Int))) ==(k:Int))=true:=by kernel_rfl
 have:=List.all_eq_true.1 key h.toNat (List.mem_range.2 (by omega))
 rw [show ((h.toNat:Nat):Int)=h from by omega] at this
 exact eq_of_beq this
def hoX (x:Int):Nat→Int→Int
 | 0,h=>h
 | k+1,h=>hoX x k (if x==atB lets (10 - k) then 10 - k else h)
theorem HB (x:UInt8) (t:List UInt8) :∀ (k:Nat) (h:Int),hoF (ofL (x::t)) k h=hoX (x.toNat:Int) k h
 | 0,_=>rfl
 | k+1,h=>by
  show hoF _ k (if tkB _ (atB lets (10 - k)) then _ else _)=hoX _ k _
  rw [fu _ (Gy _ _).1,HB x t k];rfl
theorem NU {h:Int} (h0:0≤h) (h1:h≤10) (t:List UInt8):hoF (ofL (hwC h::t)) 11 0=h:=by
 rw [HB]
 have key :((List.range 11).all fun k=>hoX ((hwC (k:Int)).toNat:Int) 11 0 ==(k:Int))=true:=by kernel_rfl
 have:=List.all_eq_true.1 key h.toNat (List.mem_range.2 (by omega))
 rw [show ((h.toNat:Nat):Int)=h from by omega] at this
 exact eq_of_beq this
def okD (d:Delivery):Prop:=ba d=0∧0≤d.Source∧0≤d.How
theorem OB {d:Delivery} (h:okD d):d.Boundary=0∨d.Boundary=4∨d.Boundary=6:=by
 have h:=h.1
 unfold ba at h
 split at h
 ·cases h
 ·split at h
  ·cases h
  ·rename_i h1 h2
   simp [inW] at h2
   omega
def iz (d:Delivery) (t:List UInt8):List UInt8:=if d.Sub then 115::41::t else 41::t
def jL (d:Delivery) (t:List UInt8):List UInt8:=if d.Second != 0 then 44 ::(dL d.Second++iz d t) else iz d t
def dM (d:Delivery) (t:List UInt8):List UInt8:=if gN d then 40 ::(dL d.Fielder++jL d t) else t
def wkN (d:Delivery):Bool:=d.How==0&&(d.Victim==0&&!gN d)
def wkL (d:Delivery) (t:List UInt8):List UInt8:=if wkN d then t else 47::hwC d.How ::(dL d.Victim++dM d t)
theorem PK {d:Delivery} (h:okD d) (t:List UInt8):lz d++ofL t=ofL (wkL d t):=by
 obtain ⟨⟨_,_⟩,_,hw,⟨f0,f1⟩,s0,s1⟩:=dp h.1
 obtain ⟨_,_,⟨v0,v1⟩,_⟩:=cK h.1
 have e1:wZ d.How=ofL [hwC d.How]:=NV h.2.2 hw
 have e2:iA d.Victim=ofL (dL d.Victim):=wz v0 (by omega)
 have e3:bC d.Fielder=ofL (dL d.Fielder):=BA ⟨f0,by omega⟩
 have e4:bC d.Second=ofL (dL d.Second):=BA ⟨s0,by omega⟩
 have c1:ByteArray.mk #[47]=ofL [47]:=rfl
 have c2:ByteArray.mk #[40]=ofL [40]:=rfl
 have c3:ByteArray.mk #[44]=ofL [44]:=rfl
 have c4:ByteArray.mk #[115]=ofL [115]:=rfl
 have c5:ByteArray.mk #[41]=ofL [41]:=rfl
 have c6:ByteArray.mk #[]=ofL []:=rfl
 have e:lz d=if wkN d then ⟨#[]⟩ else if gN d then sS d ++⟨#[41]⟩ else qa d:=rfl
 have el:wkL d t=if wkN d then t else 47::hwC d.How ::(dL d.Victim++dM d t):=rfl
 have ew:qa d=ofL (47::hwC d.How::dL d.Victim):=by unfold qa;rw [c1,e1,e2];simp only [fO];rfl
 rw [e,el]
 cases wkN d with
 | true=>rw [if_pos rfl,if_pos rfl,c6,fO];rfl
 | false=>
  rw [if_neg Bool.false_ne_true,if_neg Bool.false_ne_true]
  have el:dM d t=if gN d then 40 ::(dL d.Fielder++jL d t) else t:=rfl
  rw [el]
  cases gN d with
  | false=>rw [if_neg Bool.false_ne_true,if_neg Bool.false_ne_true,ew,fO];rfl
  | true=>
   rw [if_pos rfl,if_pos rfl]
   unfold sS sR x9 jL iz
   rw [ew,e3,e4,c2,c3,c4,c5]
   cases d.Second != 0 <;> cases d.Sub <;> simp [fO]
def hdT (t:List UInt8):Prop:=hL t = -1∨hL t=64
theorem IM {a b:Int} (h:a≠b) :(a==b)=false:=by simp [h]
theorem Mm {d e:Delivery} (h:okD d) {t:List UInt8} (ht:hdT t) (z:e.How=0∧e.Victim=0∧e.Fielder=0∧e.Second=0∧e.Sub=false) :
  wkR (ofL (wkL d t))=ofL t∧wkD e (ofL (wkL d t))={ e with How:=d.How,Victim:=d.Victim,Fielder:=d.Fielder,Second:=d.Second,Sub:=d.Sub }:=by
 obtain ⟨⟨_,_⟩,_,hw,⟨f0,f1⟩,s0,s1⟩:=dp h.1
 obtain ⟨_,_,⟨v0,v1⟩,_⟩:=cK h.1
 obtain ⟨z1,z2,z3,z4,z5⟩:=z
 have htk :∀ c:Int,0≤c→c≠64→tkB (ofL t) c=false:=fun c h0 h1=>by
  rw [fu _ h0];exact IM (by rcases ht with h|h <;> omega)
 cases hn:wkN d with
 | true=>
  have hl:wkL d t=t:=by unfold wkL;rw [hn];rfl
  unfold wkN gN at hn
  simp at hn
  obtain ⟨a1,a2,a3,a4,a5⟩:=hn
  rw [hl]
  have hg:x8 (ofL t)=false:=by unfold x8;rw [htk 47 (by decide) (by decide)];rfl
  unfold wkR wkD wk1
  rw [hg,bG (htk 47 (by decide) (by decide)),a1,a2,a3,a4,a5]
  refine ⟨rfl,?_⟩
  obtain ⟨_,_,_,_,_,_,_,_,_,_,_,_⟩:=e
  simp only at z1 z2 z3 z4 z5
  subst z1 z2 z3 z4 z5
  rfl
 | false=>
  have hl:wkL d t=47::hwC d.How ::(dL d.Victim++dM d t):=by unfold wkL;rw [hn];rfl
  rw [hl]
  have b0:tkB (ofL (47::hwC d.How ::(dL d.Victim++dM d t))) 47=true:=by rw [fu _ (by decide)];rfl
  have w1:wk1 (ofL (47::hwC d.How ::(dL d.Victim++dM d t)))=ofL (hwC d.How ::(dL d.Victim++dM d t)):=by unfold wk1;rw [aQ b0,bQ]
  have hg:x8 (ofL (47::hwC d.How ::(dL d.Victim++dM d t)))=true:=by unfold x8;rw [b0,w1,wB];rfl
  have w2:wk2 (ofL (47::hwC d.How ::(dL d.Victim++dM d t)))=ofL (dL d.Victim++dM d t):=by unfold wk2;rw [w1,bQ]
  have w3:wk3 (ofL (47::hwC d.How ::(dL d.Victim++dM d t)))=ofL (dM d t):=by unfold wk3;rw [w2,(qG v0 (by omega) _).2]
  have w2v:dgV (ofL (dL d.Victim++dM d t))=d.Victim:=(qG v0 (by omega) _).1
  have wh:hwV (ofL (hwC d.How ::(dL d.Victim++dM d t)))=d.How:=N0 h.2.2 hw _
  generalize hs:ofL (47::hwC d.How ::(dL d.Victim++dM d t))=s at *
  have d1:Ml e s={ e with How:=d.How,Victim:=d.Victim }:=by unfold Ml;rw [w1,w2,w2v,wh]
  cases ha:gN d with
  | false=>
   have hl:dM d t=t:=by unfold dM;rw [ha];rfl
   rw [hl] at w3
   have b3:tkB (wk3 s) 40=false:=by rw [w3];exact htk 40 (by decide) (by decide)
   unfold gN at ha
   simp at ha
   obtain ⟨a3,a4,a5⟩:=ha
   unfold wkR wkD
   rw [hg,b3,w3,d1,a3,a4,a5]
   refine ⟨rfl,?_⟩
   obtain ⟨_,_,_,_,_,_,_,_,_,_,_,_⟩:=e
   simp only at z1 z2 z3 z4 z5
   subst z1 z2 z3 z4 z5
   rfl
  | true=>
   have hl:dM d t=40 ::(dL d.Fielder++jL d t):=by unfold dM;rw [ha];rfl
   rw [hl] at w3
   have b3:tkB (wk3 s) 40=true:=by rw [w3,fu _ (by decide)];rfl
   have w4:wk4 s=ofL (dL d.Fielder++jL d t):=by unfold wk4;rw [aQ b3,w3,bQ]
   have h3:hL (iz d t)=115∨hL (iz d t)=41:=by unfold iz;cases d.Sub;exact .inr rfl;exact .inl rfl
   have h2:nd (jL d t):=by
    unfold jL nd
    split
    ·exact .inl (show (44:Int)<48 by decide)
    ·rcases h3 with h|h <;> rw [h] <;> decide
   obtain ⟨n1,n2⟩:=k9 ⟨f0,by omega⟩ h2
   have w5:wk5 s=ofL (jL d t):=by unfold wk5;rw [w4,n2]
   have w4v:nmV (wk4 s)=d.Fielder:=by rw [w4,n1]
   have w56:wk6 s=ofL (iz d t)∧(if tkB (wk5 s) 44 then nmV (tl (wk5 s)) else e.Second)=d.Second:=by
    unfold wk6;rw [w5]
    cases hc:d.Second != 0 with
    | true=>
     have hl:jL d t=44 ::(dL d.Second++iz d t):=by unfold jL;rw [hc];rfl
     obtain ⟨n1,n2⟩:=k9 (t:=iz d t) ⟨s0,by omega⟩ (by unfold nd;rcases h3 with h|h <;> rw [h] <;> decide)
     have b:tkB (ofL (44 ::(dL d.Second++iz d t))) 44=true:=by rw [fu _ (by decide)];rfl
     rw [hl,b,if_pos rfl,if_pos rfl,bQ,n1,n2];exact ⟨rfl,rfl⟩
    | false=>
     have hl:jL d t=iz d t:=by unfold jL;rw [hc];rfl
     have b:tkB (ofL (iz d t)) 44=false:=by rw [fu _ (by decide)];rcases h3 with h|h <;> rw [h] <;> rfl
     simp at hc
     rw [hl,b,z4,hc];exact ⟨rfl,rfl⟩
   obtain ⟨w6,ws⟩:=w56
   have w7:tkB (wk6 s) 115=d.Sub∧wk7 s=ofL (41::t):=by
    unfold wk7;rw [w6];unfold iz
    cases d.Sub with
    | true=>
     have b:tkB (ofL (115::41::t)) 115=true:=by rw [fu _ (by decide)];rfl
     exact ⟨b,by rw [if_pos rfl,aQ b,bQ]⟩
    | false=>
     have b:tkB (ofL (41::t)) 115=false:=by rw [fu _ (by decide)];rfl
     exact ⟨b,by rw [if_neg (by decide),bG b]⟩
   have w8:tkR (wk7 s) 41=ofL t:=by
    have b:tkB (ofL (41::t)) 41=true:=by rw [fu _ (by decide)];rfl
    rw [w7.2,aQ b,bQ]
   have d2:PJ e s={ e with How:=d.How,Victim:=d.Victim,Fielder:=d.Fielder,Second:=d.Second,Sub:=d.Sub }:=by
    unfold PJ;rw [d1,w4v,ws,w7.1]
   unfold wkR wkD
   rw [hg,b3,w8,d2]
   exact ⟨rfl,rfl⟩
end Go.Proofs.YtffdpnmioidloaaGreatDoor
