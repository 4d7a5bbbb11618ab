/- Texts of the mirror and contracts, put together. -/
import Derived.Test.YtffdpnmioidloaaGreatDoorPL6
import Derived.LoopN
import Derived.Laws.Externs
import Derived.Lib.Bytealg
namespace Go.Mir
open Go.RowKit
theorem zP (v:V):v.isOne=v.one:=by cases v <;> rfl
theorem uG :∀ l:List V,BK l=l.all V.one
 | []=>rfl
 | v::l=>by
  show (Bool.rec (motive:=fun _=>Bool) false (BK l) v.isOne:Bool)=_
  rw [zP,uG l,List.all_cons]
  cases v.one <;> rfl
theorem ay {a b:Nat} (h:Nat.beq a b=true):a=b:=Nat.eq_of_beq_eq_true h
theorem BM {a b:Nat} (h:a≤b):Nat.ble a b=true:=by rw [Nat.ble_eq];exact h
theorem bh {a b:Nat} (h:Nat.ble a b=true):a≤b:=Nat.le_of_ble_eq_true h
theorem Pi {l:List V} (h:gj l=true):l.length≤4096∧∀ v∈l,v.one=true:=by
 unfold gj at h
 rw [uG] at h
 cases hb:l.all V.one with
 | false=>rw [hb] at h;cases h
 | true=>
  rw [hb] at h
  have h:Nat.ble l.length K5=true:=h
  exact ⟨bh h,fun v hv=>List.all_eq_true.1 hb v hv⟩
theorem nv (t:CT) (i:Nat):cf t i =(tR i).get t:=rfl
theorem qa (t:CT) (i:Nat) (x:C):dS t i x =(tR i).put x t:=rfl
theorem jD (t:HP) (i:Nat):bd t i =(yU i).get t:=rfl
theorem nt (t:HP) (i:Nat) (x:Bk):dy t i x =(yU i).put x t:=rfl
theorem nY {h:Nat} (hl:h<262144):yU h=wX h:=by
 unfold yU
 have:Nat.ble (Nat.succ h) 262144=true:=BM hl
 rw [this]
theorem Dw {h:Nat} (hl :¬ h<262144):yU h =⟨fun _=> .none,fun _ s=>s⟩:=by
 unfold yU
 cases hb:Nat.ble (Nat.succ h) 262144 with
 | true=>exact absurd (bh hb) hl
 | false=>rfl
theorem uQ (t:CT) (i:Nat) (x:C):cf (dS t i x) i=x:=by rw [nv,qa,E8]
theorem DC {i j:Nat} (hi:i<4096) (hj:j<4096) (h:i≠j) (t:CT) (x:C):cf (dS t i x) j=cf t j:=by rw [nv,qa,Kg hi hj h,nv]
theorem oV {hp:HP} {h:Nat} (hl :¬ h<262144):bd hp h = .none:=by rw [jD,Dw hl]
theorem re {hp:HP} {h:Nat} (hl:h<262144) (b:Bk):bd (dy hp h b) h=b:=by rw [jD,nt,nY hl,E9]
theorem BO {hp:HP} {h j:Nat} (hl:h<262144) (hj:h≠j) (b:Bk):bd (dy hp h b) j=bd hp j:=by
 by_cases hjl:j<262144
 ·rw [jD,nt,nY hl,nY hjl,Kh hl hjl hj,jD,nY hjl]
 ·rw [oV hjl,oV hjl]
structure CsR (t:CT) (n:Nat) (cs:List V):Prop where
 len:cs.length=n
 le:n≤4096
 get :∀ i,i<n→cs[i]?=some (cf t i).toV
 one :∀ v∈cs,v.one=true
theorem Bx (t:CT) :∀ n i,(tJ t n i).length=n
 | 0,_=>rfl
 | n+1,i=>by simp only [tJ,List.length_cons,Bx t n]
theorem Bw (t:CT) :∀ n i j,j<n→(tJ t n i)[j]?=some (cf t (i+j)).toV
 | n+1,i,0,_=>by simp only [tJ,List.getElem?_cons_zero];rfl
 | n+1,i,j+1,h=>by
  simp only [tJ,List.getElem?_cons_succ]
  rw [Bw t n (i+1) j (by omega),show i+1+j=i +(j+1) by omega]
theorem CsR.toL {t:CT} {n:Nat} {cs:List V} (h:CsR t n cs):toL t n=cs:=by
 apply List.ext_getElem?
 intro j
 unfold Mir.toL
 rcases Nat.lt_or_ge j n with hj|hj
 ·rw [Bw t n 0 j hj,Nat.zero_add,h.get j hj]
 ·rw [List.getElem?_eq_none (by rw [Bx];exact hj),List.getElem?_eq_none (by rw [h.len];exact hj)]
theorem CsR.nil (t:CT):CsR t 0 []:=⟨rfl,by omega,fun i h=>by omega,fun v hv=>by cases hv⟩
theorem CsR.put {t:CT} {n:Nat} {cs:List V} (h:CsR t n cs) {i:Nat} (hi:i<n) {x:C} (hv:x.toV.one=true):CsR (dS t i x) n (cs.set i x.toV):=by
 have hle:=h.le
 refine ⟨by rw [List.length_set,h.len],hle,fun j hj=>?_,fun x hx=>?_⟩
 ·rw [List.getElem?_set]
  by_cases e:i=j
  ·subst e
   rw [if_pos rfl,if_pos (by rw [h.len];exact hi),uQ]
  ·rw [if_neg e,h.get j hj,DC (by omega) (by omega) e]
 ·rcases List.mem_or_eq_of_mem_set hx with h1|h1
  ·exact h.one x h1
  ·rw [h1];exact hv
theorem CsR.push {t:CT} {n:Nat} {cs:List V} (h:CsR t n cs) (hn:n<4096) {x:C} (hv:x.toV.one=true):CsR (dS t n x) (n+1) (cs++[x.toV]):=by
 have hl:=h.len
 refine ⟨by simp [h.len],by omega,fun j hj=>?_,fun x hx=>?_⟩
 ·by_cases e:n=j
  ·subst e
   rw [uQ,List.getElem?_append_right (by omega),hl,Nat.sub_self]
   rfl
  ·rw [List.getElem?_append_left (by omega),h.get j (by omega),DC hn (by omega) e]
 ·rcases List.mem_append.1 hx with h1|h1
  ·exact h.one x h1
  ·rw [List.mem_singleton.1 h1];exact hv
theorem y5 (v:V) :(Fk v).toV=v:=by cases v <;> rfl
theorem AC :∀ (l:List V) (i:Nat) (t:CT) (n:Nat) (cs:List V),CsR t n cs→n=i→n+l.length≤4096→(∀ v∈l,v.one=true)→CsR (Pc l i t) (n+l.length) (cs++l)
 | [],i,t,n,cs,h,_,_,_=>by simpa [Pc] using h
 | v::l,i,t,n,cs,h,e,hle,hl=>by
  subst e
  simp only [List.length_cons] at hle
  have h1:=h.push (by omega) (x:=Fk v) (by rw [y5];exact hl v List.mem_cons_self)
  rw [y5] at h1
  have:=AC l (n+1) (dS t n (Fk v)) (n+1) (cs++[v]) h1 rfl (by omega) (fun x hx=>hl x (List.mem_cons_of_mem _ hx))
  rw [List.append_assoc,show n+1+l.length=n +(v::l).length by simp;omega] at this
  exact this
theorem CsR.ofL {l:List V} (h:gj l=true):CsR (ofL l) l.length l:=by
 obtain ⟨h1,h2⟩:=Pi h
 have:=AC l 0 ct0 0 [] (.nil _) rfl (by omega) h2
 simpa [Mir.ofL] using this
theorem Fu (dst:CT) (d:Nat) (src:CT) (s n:Nat):oZ dst d src s (n+1)=dS (oZ dst d src s n) (d+n) (cf src (s+n)):=rfl
def AP (cs:List V) (d:Nat) (xs:List V):List V:=cs.take d++xs++cs.drop (d+xs.length)
theorem sQ {cs:List V} {d:Nat} {xs:List V} (hd:d≤cs.length) (j:Nat) :(AP cs d xs)[j]?=if d≤j∧j<d+xs.length then xs[j - d]? else cs[j]?:=by
 unfold AP
 rcases Nat.lt_or_ge j d with h|h
 ·rw [if_neg (by omega),List.append_assoc,List.getElem?_append_left (by rw [List.length_take];omega),List.getElem?_take_of_lt h]
 ·rcases Nat.lt_or_ge j (d+xs.length) with h2|h2
  ·rw [if_pos ⟨h,h2⟩,List.append_assoc,List.getElem?_append_right (by rw [List.length_take];omega),List.length_take,Nat.min_eq_left hd,List.getElem?_append_left (by omega)]
  ·rw [if_neg (by omega),List.getElem?_append_right (by rw [List.length_append,List.length_take];omega),List.length_append,List.length_take,Nat.min_eq_left hd,List.getElem?_drop]
   congr 1
   omega
theorem CsR.cpy {dst src:CT} {n m:Nat} {cs xs:List V} (hd:CsR dst n cs) (hs:CsR src m xs) {d s:Nat} (h1:d≤n) :∀ k,s+k≤m→d+k≤4096→∃ r,r=AP cs d ((xs.drop s).take k)∧CsR (oZ dst d src s k) (max n (d+k)) r
 | 0,_,_=>by
  refine ⟨_,rfl,?_⟩
  have:AP cs d ((xs.drop s).take 0)=cs:=by simp [AP]
  rw [this,Nat.max_eq_left (by omega)]
  exact hd
 | k+1,h2,h3=>by
  obtain ⟨r,hr,hk⟩:=CsR.cpy (dst:=dst) (src:=src) (n:=n) (m:=m) (cs:=cs) (xs:=xs) (d:=d) (s:=s) hd hs h1 k (by omega) (by omega)
  refine ⟨_,rfl,?_⟩
  rw [Fu]
  have hsl:=hs.len
  have hdl:=hd.len
  have hc:=hs.get (s+k) (by omega)
  have hone :(cf src (s+k)).toV.one=true:=hs.one _ (List.mem_of_getElem? hc)
  have hlk :((xs.drop s).take k).length=k:=by rw [List.length_take,List.length_drop,hs.len];omega
  have hlk1 :((xs.drop s).take (k+1)).length=k+1:=by rw [List.length_take,List.length_drop,hs.len];omega
  have hl:r.length=max n (d+k):=hk.len
  have key:AP cs d ((xs.drop s).take (k+1))=if d+k<r.length then r.set (d+k) (cf src (s+k)).toV else r++[(cf src (s+k)).toV]:=by
   have hj :∀ j,r[j]?=if d≤j∧j<d+k then ((xs.drop s).take k)[j - d]? else cs[j]?:=fun j=>by rw [hr,sQ (by rw [hd.len];exact h1),hlk]
   have hnew :((xs.drop s).take (k+1))[k]?=some (cf src (s+k)).toV:=by rw [List.getElem?_take_of_lt (by omega),List.getElem?_drop];exact hc
   have hold :∀ i,i<k→((xs.drop s).take (k+1))[i]? =((xs.drop s).take k)[i]?:=fun i hi=>by rw [List.getElem?_take_of_lt (by omega),List.getElem?_take_of_lt hi]
   split
   ·rename_i hlt
    apply List.ext_getElem?
    intro j
    rw [sQ (by rw [hd.len];exact h1),hlk1,List.getElem?_set]
    by_cases e:d+k=j
    ·subst e
     rw [if_pos (by omega),if_pos rfl,if_pos hlt,show d+k - d=k by omega]
     exact hnew
    ·rw [if_neg e,hj]
     by_cases e2:d≤j∧j<d+k
     ·rw [if_pos (by omega),if_pos e2,hold _ (by omega)]
     ·rw [if_neg (by omega),if_neg e2]
   ·rename_i hge
    have hrl:r.length=d+k:=by omega
    apply List.ext_getElem?
    intro j
    rw [sQ (by rw [hd.len];exact h1),hlk1]
    rcases Nat.lt_or_ge j (d+k) with h|h
    ·rw [List.getElem?_append_left (by omega),hj]
     by_cases e2:d≤j
     ·rw [if_pos (by omega),if_pos ⟨e2,h⟩,hold _ (by omega)]
     ·rw [if_neg (by omega),if_neg (by omega)]
    ·rw [List.getElem?_append_right (by omega),hrl]
     by_cases e:j=d+k
     ·subst e
      rw [if_pos (by omega),show d+k - d=k by omega,hnew,Nat.sub_self]
      rfl
     ·rw [if_neg (by omega),List.getElem?_eq_none (by rw [hd.len];omega),List.getElem?_eq_none (by simp;omega)]
  rw [key]
  split
  ·rename_i hlt
   rw [show max n (d +(k+1))=max n (d+k) by omega]
   exact hk.put (by rw [←hl];exact hlt) hone
  ·rename_i hge
   have e:max n (d+k)=d+k:=by omega
   rw [e] at hk
   rw [show max n (d +(k+1))=d+k+1 by omega]
   exact hk.push (by omega) hone
theorem CsR.sub {src:CT} {m:Nat} {xs:List V} (hs:CsR src m xs) {s k:Nat} (h:s+k≤m):CsR (oZ ct0 0 src s k) k ((xs.drop s).take k):=by
 have hle:=hs.le
 obtain ⟨r,hr,h1⟩:=CsR.cpy (.nil ct0) hs (d:=0) (Nat.le_refl 0) k h (by omega)
 have e:r =(xs.drop s).take k:=by rw [hr];simp [AP]
 rw [e,Nat.zero_add,Nat.max_eq_right (Nat.zero_le k)] at h1
 exact h1
theorem CsR.splice {dst src:CT} {n m:Nat} {cs xs:List V} (hd:CsR dst n cs) (hs:CsR src m xs) {d k:Nat} (h1:d+k≤n) (h2:k=m):CsR (oZ dst d src 0 k) n (splice cs d xs):=by
 have hle:=hd.le
 obtain ⟨r,hr,h3⟩:=CsR.cpy hd hs (d:=d) (s:=0) (by omega) k (by omega) (by omega)
 have e:r=Mir.splice cs d xs:=by
  rw [hr,List.drop_zero,List.take_of_length_le (by rw [hs.len];omega)]
  rfl
 rw [e,Nat.max_eq_left h1] at h3
 exact h3
theorem CsR.app {dst src:CT} {n m:Nat} {cs xs:List V} (hd:CsR dst n cs) (hs:CsR src m xs) {s k:Nat} (h:s+k≤m) (h4:n+k≤4096):CsR (oZ dst n src s k) (n+k) (cs ++(xs.drop s).take k):=by
 obtain ⟨r,hr,h3⟩:=CsR.cpy hd hs (d:=n) (s:=s) (Nat.le_refl n) k h h4
 have e:r=cs ++(xs.drop s).take k:=by
  rw [hr]
  unfold AP
  have h5:=hd.len
  have:cs.drop (n +((xs.drop s).take k).length)=[]:=List.drop_eq_nil_of_le (by omega)
  rw [List.take_of_length_le (by omega),this,List.append_nil]
 rw [e,Nat.max_eq_right (by omega)] at h3
 exact h3
theorem th {cs:List V} {i:Nat} {v:V} (h:i<cs.length):cs.set i v=splice cs i [v]:=by
 unfold splice
 rw [List.set_eq_take_append_cons_drop,if_pos h]
 simp
def W.wf:W→Prop
 | .c _=>True
 | .agg t n=>∃ cs,CsR t n cs
def U.wf:U→Prop
 | .agg t n=>∃ cs,CsR t n cs
 | .tup l=>∀ w∈l,w.wf
 | _=>True
def Bk.wf:Bk→Prop
 | .cells t n=>∃ cs,CsR t n cs
 | .grow _ _ t n=>∃ cs,CsR t n cs
 | _=>True
def hpW (hp:HP):Prop:=∀ h,(bd hp h).wf
theorem fY {hp:HP} {h:Nat} (hl:h<262144) {b:Bk} {B:Blk} (hb:b.toB=some B):hpH (dy hp h b)=ak (hpH hp) [(h,B)]:=by
 funext k
 unfold hpH ak
 simp only [find]
 by_cases e:h=k
 ·subst e
  rw [re hl,Nat.beq_refl,hb]
  rfl
 ·rw [BO hl e]
  have:Nat.beq h k=false:=by
   cases hb:Nat.beq h k with
   | false=>rfl
   | true=>exact absurd (ay hb) e
  rw [this]
  rfl
theorem fZ {hp:HP} (h:hpW hp) {k:Nat} (hl:k<262144) {b:Bk} (hb:b.wf):hpW (dy hp k b):=fun j=>by
 by_cases e:k=j
 ·subst e;rw [re hl];exact hb
 ·rw [BO hl e];exact h j
theorem xO (h:Nat):bd hp0 h = .none:=by
 by_cases hl:h<262144
 ·rw [jD,nY hl];exact GM _ _
 ·exact oV hl
theorem HL:hpW hp0:=fun h=>by rw [xO];trivial
theorem Mg:hpH hp0=fun _=>none:=by funext h;unfold hpH;rw [xO];rfl
theorem BN {hp:HP} {h:Nat} (hb:bd hp h≠ .none):h<262144:=by
 by_cases hl:h<262144
 ·exact hl
 ·exact absurd (oV hl) hb
def VLe (v w:V):Prop:=∀ (E:Env) (x:Value),aa E v x→aa E w x
theorem VLe.refl (v:V):VLe v v:=fun _ _ h=>h
theorem VLe.of_eq {v w:V} (h:v=w):VLe v w:=h▸VLe.refl v
theorem VLe.trans {u v w:V} (h:VLe u v) (k:VLe v w):VLe u w:=fun E x q=>k E x (h E x q)
theorem VLe.any (v:V):VLe v .any:=fun _ _ _=>by simp [aa]
theorem HX (b:Bool):VLe (.bool b) (.kb b):=fun E x h=>by simpa [aa] using h
theorem NG (cs:List V) :(Bool.rec (motive:=fun _=>U) (.oth .any) (.agg (ofL cs) cs.length) (gj cs):U).wf:=by
 cases h:gj cs with
 | false=>trivial
 | true=>exact ⟨cs,CsR.ofL h⟩
theorem L0 (cs:List V) :(Bool.rec (motive:=fun _=>W) (.c (.oth .any)) (.agg (ofL cs) cs.length) (gj cs):W).wf:=by
 cases h:gj cs with
 | false=>trivial
 | true=>exact ⟨cs,CsR.ofL h⟩
theorem lh (v:V) :(ko v).wf:=by
 cases v <;> first|exact trivial|exact NG _|skip
 rename_i vs
 intro w hw
 obtain ⟨v,_,rfl⟩:=List.mem_map.1 hw
 cases v <;> first|exact trivial|exact L0 _
theorem NF (cs:List V):VLe (.agg cs) (Bool.rec (motive:=fun _=>U) (.oth .any) (.agg (ofL cs) cs.length) (gj cs):U).toV:=by
 cases h:gj cs with
 | false=>exact VLe.any _
 | true=>
  show VLe _ (V.agg (toL (ofL cs) cs.length))
  rw [(CsR.ofL h).toL]
  exact VLe.refl _
theorem LZ (cs:List V):VLe (.agg cs) (Bool.rec (motive:=fun _=>W) (.c (.oth .any)) (.agg (ofL cs) cs.length) (gj cs):W).toV:=by
 cases h:gj cs with
 | false=>exact VLe.any _
 | true=>
  show VLe _ (V.agg (toL (ofL cs) cs.length))
  rw [(CsR.ofL h).toL]
  exact VLe.refl _
theorem oR {E:Env} {α:Type} (f g:α→V) (h :∀ v,VLe (f v) (g v)) :∀ (vs:List α) (l:List Value),ab E (vs.map f) l→ab E (vs.map g) l
 | [],l,hl=>hl
 | v::vs,[],hl=>by simp [ab] at hl
 | v::vs,x::l,hl=>by
  simp only [List.map_cons,ab] at hl ⊢
  exact ⟨h v E x hl.1,oR f g h vs l hl.2⟩
theorem lg (v:V):VLe v (ko v).toV:=by
 cases v <;> first|exact VLe.refl _|exact HX _|exact NF _|skip
 rename_i vs
 intro E x hx
 simp only [ko,U.toV,aa] at hx ⊢
 obtain ⟨l,rfl,hl⟩:=hx
 refine ⟨l,rfl,?_⟩
 rw [List.map_map]
 have hl:ab E (vs.map fun v=>v) l.toList:=by simpa using hl
 refine oR _ _ (fun v=>?_) vs l.toList hl
 cases v <;> first|exact VLe.refl _|exact HX _|exact LZ _
section views
variable {G:Rv→Prop} {sl:Rv} (h0:G sl)
include h0
theorem nD {u:U} {f:IntKind→Int→Rv} (h :∀ k n,u = .int k n→G (f k n)):G (BA u f sl):=by cases u <;> first|exact h0|exact h _ _ rfl
theorem Me {u:U} {f:Bool→Rv} (h :∀ b,u = .kb b→G (f b)):G (uKb u f sl):=by cases u <;> first|exact h0|exact h _ rfl
theorem pq {u:U} {f:Nat→Nat→Rv} {g:Nat→Nat→Nat→Rv} (h :∀ a o,u = .ptr a o→G (f a o)) (h' :∀ a v o,u = .gp a v o→G (g a v o)):G (Ds u f g sl):=by
 cases u <;> first|exact h0|exact h _ _ rfl|exact h' _ _ _ rfl
theorem Hy {u:U} {k:Nat→Nat→Nat→Nat→Nat→Rv} (h :∀ a v e o l,u = .gsl a v e o l→G (k a v e o l)):G (Qs u k sl):=by cases u <;> first|exact h0|exact h _ _ _ _ _ rfl
theorem DN {u:U} {a b:Rv} {k:Nat→Nat→Nat→Nat→Nat→Rv} (h:u = .oth .nilsl→G a) (h':u = .oth .esl→G b) (h2 :∀ a v e o l,u = .gsl a v e o l→G (k a v e o l)):G (uSl u a b k sl):=by
 cases u with
 | oth v=>cases v <;> first|exact h0|exact h rfl|exact h' rfl
 | gsl=>exact h2 _ _ _ _ _ rfl
 | _=>exact h0
theorem QV {u:U} {k:FuncId→List V→Rv} (h :∀ f cs,u = .oth (.fn f cs)→G (k f cs)):G (uFn u k sl):=by
 cases u with
 | oth v=>cases v <;> first|exact h0|exact h _ _ rfl
 | _=>exact h0
theorem ca {b:Bool} {r:Rv} (h:b=true→G r):G (ckR b r sl):=by
 cases b with
 | true=>exact h rfl
 | false=>exact h0
theorem Hz {v:V} {r:Rv} (h:v.one=true→G r):G (LX v r sl):=by
 unfold LX
 rw [zP]
 cases hv:v.one with
 | true=>exact h hv
 | false=>exact h0
theorem Sp {u:U} {k:C→Rv} (h :∀ c,c.toV=u.toV→c.toV.one=true→G (k c)):G (uC u k sl):=by
 cases u with
 | oth v=>exact Hz h0 fun hv=>h _ rfl hv
 | agg=>exact h0
 | tup=>exact h0
 | _=>exact h _ rfl rfl
theorem Ce {u:U} {k:CT→Nat→Rv} (h :∀ t n,u = .agg t n→G (k t n)):G (LW u k sl):=by cases u <;> first|exact h0|exact h _ _ rfl
theorem Oi {u:U} {k:List W→Rv} (h :∀ l,u = .tup l→G (k l)):G (R3 u k sl):=by cases u <;> first|exact h0|exact h _ rfl
theorem Hx {u:U} {k:C→Rv} {k2:CT→Nat→Rv} (h :∀ c,c.toV=u.toV→c.toV.one=true→G (k c)) (h' :∀ t n,u = .agg t n→G (k2 t n)):G (uCA u k k2 sl):=by
 cases u with
 | oth v=>exact Hz h0 fun hv=>h _ rfl hv
 | agg=>exact h' _ _ rfl
 | tup=>exact h0
 | _=>exact h _ rfl rfl
theorem Hw {b:Bk} {k:CT→Nat→Rv} (h :∀ t n,b = .cells t n→G (k t n)):G (bkC b k sl):=by cases b <;> first|exact h0|exact h _ _ rfl
theorem qh {b:Bk} {k:Nat→Nat→CT→Nat→Rv} (h :∀ v e t n,b = .grow v e t n→G (k v e t n)):G (bkG b k sl):=by cases b <;> first|exact h0|exact h _ _ _ _ rfl
theorem DM {n:Int} {k:Nat→Rv} (h :∀ m:Nat,n = .ofNat m→G (k m)):G (Jh n k sl):=by
 cases n with
 | ofNat m=>exact h m rfl
 | negSucc m=>exact h0
theorem Mc {a b:Int} {f:Nat→Nat→Rv} (h :∀ x y:Nat,a = .ofNat x→b = .ofNat y→G (f x y)):G (Pb a b f sl):=by
 cases a <;> cases b <;> first|exact h0|exact h _ _ rfl rfl
end views
theorem cG {n:Nat} {k:Nat→Rv}:bQ n k=k n:=by cases n <;> rfl
theorem O7 (k:IntKind) :(mxK k:Int)=k.max:=by cases k <;> decide
theorem L1 {k:IntKind} {n:Int} (h1:0≤n) (h2:n≤k.max):k.wrap n=n:=by
 cases k <;> simp only [IntKind.wrap,IntKind.bits,IntKind.signed,IntKind.max] at h2 ⊢ <;> simp at h2 ⊢ <;> omega
theorem oc {k:IntKind} {n:Nat} {m:Int} (h:m =(n:Int)):xF k n (k.wrap m)=k.wrap m:=by
 unfold xF
 cases hb:Nat.ble n (mxK k) with
 | false=>rfl
 | true=>
  have:=bh hb
  rw [h,L1 (by omega) (by rw [←O7];omega)]
  rfl
theorem Kj (k:IntKind) (a b:Int):fj k a b=k.wrap (a+b):=by
 cases a <;> cases b <;> first|rfl|exact oc rfl
theorem LM (k:IntKind) (a b:Int):Qm k a b=k.wrap (a - b):=by
 cases a <;> cases b <;> first|rfl|skip
 rename_i x y
 show Bool.rec (motive:=fun _=>Int) _ _ (Nat.ble y x)=_
 cases hb:Nat.ble y x with
 | false=>rfl
 | true=>
  have:=bh hb
  exact oc (by show (x:Int) - (y:Int) =((x - y:Nat):Int);omega)
theorem K8 (k:IntKind) (a b:Int):O6 k a b=k.wrap (a*b):=by
 cases a <;> cases b <;> first|rfl|exact oc rfl
theorem N2 (k:IntKind) (a:Int):cvS k a=k.wrap a:=by
 cases a <;> first|rfl|exact oc rfl
theorem B5 (a b:Int):eqS a b =(a==b):=by
 cases a <;> cases b <;> first|rfl|skip
 rename_i x y
 show Nat.beq x y =((x:Int) ==(y:Int))
 cases hb:Nat.beq x y with
 | true=>rw [ay hb];simp
 | false=>
  have :¬ x=y:=fun e=>by subst e;rw [Nat.beq_refl] at hb;cases hb
  symm
  rw [beq_eq_false_iff_ne]
  intro e
  exact this (by omega)
theorem H7 (a b:Int):leS a b=decide (a≤b):=by
 cases a <;> cases b <;> first|rfl|skip
 rename_i x y
 show Nat.ble x y=decide ((x:Int)≤(y:Int))
 cases hb:Nat.ble x y with
 | true=>have:=bh hb;symm;rw [decide_eq_true_eq];omega
 | false=>
  have :¬ x≤y:=fun e=>by rw [BM e] at hb;cases hb
  symm;rw [decide_eq_false_iff_not];omega
theorem Ie (a b:Int):ltS a b=decide (a<b):=by
 cases a <;> cases b <;> first|rfl|skip
 rename_i x y
 show Nat.ble (Nat.succ x) y=decide ((x:Int) <(y:Int))
 cases hb:Nat.ble (Nat.succ x) y with
 | true=>have:=bh hb;symm;rw [decide_eq_true_eq];omega
 | false=>
  have :¬ Nat.succ x≤y:=fun e=>by rw [BM e] at hb;cases hb
  symm;rw [decide_eq_false_iff_not];omega
theorem DY {k k':IntKind} (h:Oo k k'=true):k=k':=by
 cases k <;> cases k' <;> first|rfl|cases h
theorem Ep (b:Bool):FZ b=!b:=by cases b <;> rfl
end Go.Mir
namespace Go.Mir
open Go.RowKit
variable {tb:Tbl} {N K:Nat} {e:En}
structure ValOK (tb:Tbl) (N:Nat) (ev:Operand→V) (op:Op) (hp:HP) (nx:Nat) (u:U) (hp':HP):Prop where
 ex :∃ ps v dh,aB ⟨tb,fun _=>none,1,N⟩ nx (hpH hp) ev op=some (ps,v,dh)∧(∀ p∈ps,p.holds)∧VLe v u.toV∧hpH hp'=ak (hpH hp) dh
 wf:u.wf
 hw:hpW hp'
structure CalOK (ev:Operand→V) (op:Op) (g:FuncId) (args:List U):Prop where
 ex :∃ c f caps,op = .call c∧c.callee = .value f∧ev f = .fn g caps∧bZ caps=true∧∀ E l,ab E (c.args.toList.map ev++caps) l→ab E (args.map U.toV) l
 wf :∀ u∈args,u.wf
def bf (tb:Tbl) (N K:Nat) (e:En) (op:Op):Stp→Prop
 | .slow=>True
 | .val f=>∀ (a b c d:U) (tm:TM) (hp:HP) (nx:Nat) (G:Rv→Prop) (k:U→Rv) (sl:Rv),(∀ i,(dB K e i a b c d tm).wf)→hpW hp→G sl→
   (∀ u,ValOK tb N (fun x=>(rdS K e x a b c d tm).toV) op hp nx u hp→G (k u))→G (f a b c d tm hp nx k sl)
 | .mem f=>∀ (a b c d:U) (tm:TM) (hp:HP) (nx:Nat) (G:Rv→Prop) (k:U→HP→Rv) (sl:Rv),(∀ i,(dB K e i a b c d tm).wf)→hpW hp→G sl→
   (∀ u hp',ValOK tb N (fun x=>(rdS K e x a b c d tm).toV) op hp nx u hp'→G (k u hp'))→G (f a b c d tm hp nx k sl)
 | .cal f=>∀ (a b c d:U) (tm:TM) (G:Rv→Prop) (k:FuncId→List U→Rv) (sl:Rv),(∀ i,(dB K e i a b c d tm).wf)→G sl→
   (∀ g args,CalOK (fun x=>(rdS K e x a b c d tm).toV) op g args→G (k g args))→G (f a b c d tm k sl)
theorem eJ :∀ p∈([]:List Ob),p.holds:=fun p hp=>by cases hp
theorem oE {p:Ob} (h:p.holds) :∀ q∈ [p],q.holds:=by intro q hq;rw [List.mem_singleton.1 hq];exact h
theorem vok {ev:Operand→V} {op:Op} {hp:HP} {nx:Nat} {u:U} {ps:List Ob} {v:V} (W:hpW hp) (h:aB ⟨tb,fun _=>none,1,N⟩ nx (hpH hp) ev op=some (ps,v,[])) (hps :∀ p∈ps,p.holds) (hv:VLe v u.toV) (hw:u.wf):ValOK tb N ev op hp nx u hp:=
 ⟨⟨ps,v,[],h,hps,hv,rfl⟩,hw,W⟩
theorem jS {a b c d:U} {tm:TM} (h :∀ i,(dB K e i a b c d tm).wf) (x:Operand) :(rdS K e x a b c d tm).wf:=by
 cases x with
 | tmp i=>exact h i
 | const v=>exact lh (cv v)
 | _=>trivial
theorem tvp {u:U} {a o:Nat} (h:u = .ptr a o):u.toV = .ptr a o:=by rw [h];rfl
theorem tvg {u:U} {a v o:Nat} (h:u = .gp a v o):u.toV = .gp a v o:=by rw [h];rfl
theorem tvs {u:U} {a v e o l:Nat} (h:u = .gsl a v e o l):u.toV = .gsl a v e o l:=by rw [h];rfl
theorem tvi {u:U} {k:IntKind} {n:Int} (h:u = .int k n):u.toV = .int k n:=by rw [h];rfl
theorem tvb {u:U} {b:Bool} (h:u = .kb b):u.toV = .kb b:=by rw [h];rfl
theorem tvo {u:U} {v:V} (h:u = .oth v):u.toV=v:=by rw [h];rfl
theorem tva {u:U} {t:CT} {n:Nat} {cs:List V} (hc:CsR t n cs) (h:u = .agg t n):u.toV = .agg cs:=by rw [h];show V.agg (toL t n)=_;rw [hc.toL]
theorem tvt {u:U} {l:List W} (h:u = .tup l):u.toV = .tup (l.map W.toV):=by rw [h];rfl
theorem HG {S:Stp→Prop} {i:Nat} {k:Gt→Stp} (h :∀ g,g=dB K e i→S (k g)):S (HF K e i k):=by
 unfold HF
 unfold dB at h
 cases h0:Nat.beq e.e0 (Nat.succ i)
 case true=>exact h _ (by rw [h0])
 rw [h0] at h
 cases h1:Nat.beq e.e1 (Nat.succ i)
 case true=>exact h _ (by rw [h1])
 rw [h1] at h
 cases h2:Nat.beq e.e2 (Nat.succ i)
 case true=>exact h _ (by rw [h2])
 rw [h2] at h
 cases h3:Nat.beq e.e3 (Nat.succ i)
 case true=>exact h _ (by rw [h3])
 rw [h3] at h
 cases h4:isK K i
 case true=>exact h _ (by rw [h4];rfl)
 exact h _ (by rw [h4])
theorem aO {S:Stp→Prop} {x:Operand} {k:Gt→Stp} (h :∀ g,g=rdS K e x→S (k g)):S (dD K e x k):=by
 cases x with
 | tmp i=>exact HG (S:=S) (fun g hg=>h g hg)
 | const v=>
  show S (U.rec (motive:=fun _=>Stp) _ _ _ _ _ _ _ _ (ko (cv v)))
  have h :∀ g,g =(fun _ _ _ _ _=>ko (cv v))→S (k g):=h
  cases hu:ko (cv v) <;>(rw [hu] at h;exact h _ rfl)
 | global i=>exact h _ rfl
 | func f=>exact h _ rfl
theorem AJ {S:Stp→Prop} :∀ {l:List Operand} {k:List Gt→Stp},(∀ gs,gs=l.map (rdS K e)→S (k gs))→S (Mn K e l k)
 | [],k,h=>h _ rfl
 | x::l,k,h=>aO (S:=S) fun g hg=>AJ (S:=S) (l:=l) fun gs hgs=>h _ (by rw [hg,hgs];rfl)
def Pq (K:Nat) (e:En) (pi:Nat→PI):List (Nat×Operand)→List PG→Prop
 | [],[]=>True
 | q::l,.at o s g::gs=>pi q.1 = .at o s∧g=rdS K e q.2∧Pq K e pi l gs
 | _,_=>False
theorem pR {S:Stp→Prop} (h0:S .slow) {pi:Nat→PI} :∀ {l:List (Nat×Operand)} {k:List PG→Stp},(∀ gs,Pq K e pi l gs→S (k gs))→S (yf K e pi l k)
 | [],k,h=>h _ trivial
 | q::l,k,h=>by
  show S (PI.rec (motive:=fun _=>Stp) .slow (fun o s=>dD K e q.2 fun g=>yf K e pi l fun gs=>k (.at o s g::gs)) (pi q.1))
  cases hp:pi q.1 with
  | no=>exact h0
  | «at» o s=>exact aO (S:=S) fun g hg=>pR (S:=S) h0 (l:=l) fun gs hgs=>h _ ⟨hp,hg,hgs⟩
theorem pw {hp:HP} (W:hpW hp) {h:Nat} {t:CT} {n:Nat} (hg:bd hp h = .cells t n) :∃ cs,CsR t n cs∧hpH hp h=some (.cells cs)∧h<262144:=by
 have hw:=W h
 rw [hg] at hw
 obtain ⟨cs,hc⟩:=hw
 exact ⟨cs,hc,by unfold hpH;rw [hg];show some (Blk.cells (toL t n))=_;rw [hc.toL],BN (by rw [hg];exact fun h=>by cases h)⟩
theorem gh {hp:HP} (W:hpW hp) {h v ez:Nat} {t:CT} {n:Nat} (hg:bd hp h = .grow v ez t n) :∃ cs,CsR t n cs∧hpH hp h=some (.grow v ez cs)∧h<262144:=by
 have hw:=W h
 rw [hg] at hw
 obtain ⟨cs,hc⟩:=hw
 exact ⟨cs,hc,by unfold hpH;rw [hg];show some (Blk.grow v ez (toL t n))=_;rw [hc.toL],BN (by rw [hg];exact fun h=>by cases h)⟩
theorem yO {t:TypeId} (h:tyI tb t = .one) :∃ td,tb t=some td∧td.kind.agg=false∧td.size=1:=by
 unfold tyI at h
 split at h
 ·rename_i td ht
  refine ⟨td,ht,?_⟩
  split at h
  ·cases h
  ·rename_i ha
   split at h
   ·rename_i hs;exact ⟨by simpa using ha,hs⟩
   ·cases h
 ·cases h
theorem yN {t:TypeId} {n:Nat} (h:tyI tb t = .agg n) :∃ td,tb t=some td∧td.kind.agg=true∧td.size=n:=by
 unfold tyI at h
 split at h
 ·rename_i td ht
  refine ⟨td,ht,?_⟩
  split at h
  ·rename_i ha;cases h;exact ⟨ha,rfl⟩
  ·split at h <;> cases h
 ·cases h
theorem BV (c:C) :(cU c).toV=c.toV:=by cases c <;> rfl
theorem G5 (c:C) :(cU c).wf:=by cases c <;> trivial
def Qx (tb:Tbl) (t:TypeId) (f:LdF):Prop:=∃ td,tb t=some td∧∀ (G:Rv→Prop) (ct:CT) (n:Nat) (cs:List V) (o:Nat) (k:U→Rv) (sl:Rv),CsR ct n cs→G sl→(∀ u v,ld td cs o = .val [] v []→v=u.toV→u.wf→G (k u))→G (f ct n o k sl)
theorem Ct {S:Stp→Prop} (h0:S .slow) {t:TypeId} {k:LdF→Stp} (h :∀ f,Qx tb t f→S (k f)):S (ldS (tyI tb t) k):=by
 cases hi:tyI tb t with
 | no=>exact h0
 | one=>
  obtain ⟨td,ht,ha,hs⟩:=yO hi
  refine h Ah ⟨td,ht,fun G ct n cs o k sl hc h0 hk=>ca h0 fun hb=>?_⟩
  have hlt:o<n:=bh hb
  refine hk _ (cf ct o).toV ?_ (BV _).symm (G5 _)
  unfold ld
  rw [ha,hc.get o hlt]
  rfl
 | agg m=>
  obtain ⟨td,ht,ha,hs⟩:=yN hi
  refine h (Ag m) ⟨td,ht,fun G ct n cs o k sl hc h0 hk=>ca h0 fun hb=>?_⟩
  have hle:o+m≤n:=bh hb
  have hld:ld td cs o = .val [] (.agg ((cs.drop o).take m)) []:=by
   unfold ld
   rw [ha,hs,if_pos rfl,if_pos (by rw [hc.len];exact hle)]
  cases hm:Nat.beq m n with
  | false=>
   have:=hc.sub hle
   exact hk _ _ hld (by show _=V.agg (toL _ _);rw [this.toL]) ⟨_,this⟩
  | true=>
   have e1:=ay hm
   have e0:o=0:=by omega
   subst e0
   subst e1
   refine hk _ _ hld ?_ ⟨_,hc⟩
   show _=V.agg (toL ct m)
   rw [hc.toL,List.drop_zero,List.take_of_length_le (by rw [hc.len];exact Nat.le_refl _)]
theorem yP {v:V} (h:v.one=true):cellsOf v=some [v]:=by cases v <;> first|rfl|cases h
def R9 (tb:Tbl) (t:TypeId) (f:StF):Prop:=∃ td,tb t=some td∧∀ (G:Rv→Prop) (x:U) (ct:CT) (n:Nat) (cs:List V) (o:Nat) (k:CT→Rv) (sl:Rv),x.wf→CsR ct n cs→G sl→
 (∀ xs ct',cellsOf x.toV=some xs→xs.length=td.size→xs.all V.one=true→o+td.size≤cs.length→CsR ct' n (splice cs o xs)→G (k ct'))→G (f x ct n o k sl)
theorem PN {S:Stp→Prop} (h0:S .slow) {t:TypeId} {k:StF→Stp} (h :∀ f,R9 tb t f→S (k f)):S (stS (tyI tb t) k):=by
 cases hi:tyI tb t with
 | no=>exact h0
 | one=>
  obtain ⟨td,ht,ha,hs⟩:=yO hi
  refine h MY ⟨td,ht,fun G x ct n cs o k sl hx hc h0 hk=>ca h0 fun hb=>Sp h0 fun c hcv h1=>?_⟩
  have hlt:o<n:=bh hb
  rw [hcv] at h1
  refine hk [x.toV] _ (yP h1) (by rw [hs];rfl) (by simp [h1]) (by rw [hs,hc.len];exact hlt) ?_
  rw [←th (by rw [hc.len];exact hlt),←hcv]
  exact hc.put hlt (by rw [hcv];exact h1)
 | agg m=>
  obtain ⟨td,ht,ha,hs⟩:=yN hi
  refine h (MX m) ⟨td,ht,fun G x ct n cs o k sl hx hc h0 hk=>Ce h0 fun xt m' hxe=>ca h0 fun hb=>ca h0 fun hle=>?_⟩
  have e1:m=m':=ay hb
  subst e1
  subst hxe
  obtain ⟨xs,hxs⟩:=hx
  have hle:o+m≤n:=bh hle
  have hall:xs.all V.one=true:=List.all_eq_true.2 hxs.one
  have hcl:cellsOf (U.agg xt m).toV=some xs:=by show some (toL xt m)=_;rw [hxs.toL]
  cases hm:Nat.beq m n with
  | false=>exact hk xs _ hcl (by rw [hs,hxs.len]) hall (by rw [hs,hc.len];exact hle) (hc.splice hxs hle rfl)
  | true=>
   have e1:=ay hm
   subst e1
   have e0:o=0:=by omega
   subst e0
   refine hk xs _ hcl (by rw [hs,hxs.len]) hall (by rw [hs,hc.len];exact hle) ?_
   have:splice cs 0 xs=xs:=by
    unfold splice
    rw [List.take_zero,List.nil_append,List.drop_eq_nil_of_le (by rw [hc.len,hxs.len];omega),List.append_nil]
   rw [this]
   exact hxs
theorem G2 {t:TypeId} {x:Operand}:bf tb N K e (.load t x) (L5 t x K e tb):=by
 refine Ct (S:=bf tb N K e (.load t x)) trivial fun f hf=>aO (S:=bf tb N K e (.load t x)) fun gx hgx=>?_
 subst hgx
 intro a b c d tm hp nx G k sl Wg W h0 h
 obtain ⟨td,ht,hf⟩:=hf
 refine pq h0 (fun q o hx=>Hw h0 fun ct n hg=>?_) (fun q v o hx=>qh h0 fun v' ez ct n hg=>ca h0 fun hb=>?_)
 ·obtain ⟨cs,hc,hH,_⟩:=pw W hg
  refine hf G ct n cs o k sl hc h0 fun u v hl hv hw=>h u (vok W (ps:= []) (v:=v) ?_ eJ (VLe.of_eq hv) hw)
  simp only [aB,b8,bO,ht,tvp hx,fm,kC,hH,hl]
 ·obtain ⟨cs,hc,hH,_⟩:=gh W hg
  have e1:=ay hb
  subst e1
  refine hf G ct n cs o k sl hc h0 fun u v' hl hv hw=>h u (vok W (ps:= []) (v:=v') ?_ eJ (VLe.of_eq hv) hw)
  simp only [aB,b8,bO,ht,tvg hx,fm,hH,hl,if_true]
theorem Fm {t:TypeId} {x y:Operand}:bf tb N K e (.store t x y) (G4 t x y K e tb):=by
 refine PN (S:=bf tb N K e (.store t x y)) trivial fun f hf=>aO (S:=bf tb N K e (.store t x y)) fun gx hgx=>aO (S:=bf tb N K e (.store t x y)) fun gy hgy=>?_
 subst hgx
 subst hgy
 intro a b c d tm hp nx G k sl Wg W h0 h
 obtain ⟨td,ht,hf⟩:=hf
 refine pq h0 (fun q o hx=>Hw h0 fun ct n hg=>?_) (fun q v o hx=>qh h0 fun v' ez ct n hg=>ca h0 fun hb=>?_)
 ·obtain ⟨cs,hc,hH,hl⟩:=pw W hg
  refine hf G _ ct n cs o _ sl (jS Wg y) hc h0 fun xs ct' hcl hlen hall hle hct=>h _ _ ⟨⟨[],.tup [],[(q,.cells (splice cs o xs))],?_,eJ,VLe.refl _,?_⟩,fun w hw=>(by cases hw),fZ W hl ⟨_,hct⟩⟩
  ·simp only [aB,b8,ht,tvp hx,fq,di,ob,hcl,hlen,hall,hH,if_true,and_self,hle]
  ·rw [fY hl (B:= .cells (splice cs o xs))]
   show some (Blk.cells (toL ct' n))=_
   rw [hct.toL]
 ·obtain ⟨cs,hc,hH,hl⟩:=gh W hg
  have e1:=ay hb
  subst e1
  refine hf G _ ct n cs o _ sl (jS Wg y) hc h0 fun xs ct' hcl hlen hall hle hct=>h _ _ ⟨⟨[],.tup [],[(q,.grow v ez (splice cs o xs))],?_,eJ,VLe.refl _,?_⟩,fun w hw=>(by cases hw),fZ W hl ⟨_,hct⟩⟩
  ·simp only [aB,b8,ht,tvg hx,fq,di,hcl,hlen,hall,hH,if_true,and_self,hle,true_and]
  ·rw [fY hl (B:= .grow v ez (splice cs o xs))]
   show some (Blk.grow v ez (toL ct' n))=_
   rw [hct.toL]
theorem cMove_ok {x:Operand}:bf tb N K e (.move x) (DA x K e tb)∧bf tb N K e (.assign x) (DA x K e tb):=by
 constructor
 ·refine aO (S:=bf tb N K e (.move x)) fun gx hgx=>?_
  subst hgx
  intro a b c d tm hp nx G k sl Wg W h0 h
  exact h _ (vok W (ps:= []) (v:=(rdS K e x a b c d tm).toV) (by simp only [aB,b8,bO]) eJ (VLe.refl _) (jS Wg x))
 ·refine aO (S:=bf tb N K e (.assign x)) fun gx hgx=>?_
  subst hgx
  intro a b c d tm hp nx G k sl Wg W h0 h
  exact h _ (vok W (ps:= []) (v:=(rdS K e x a b c d tm).toV) (by simp only [aB,b8,bO]) eJ (VLe.refl _) (jS Wg x))
theorem G3 {p x y:Operand}:bf tb N K e (.pick p x y) (L6 p x y K e tb):=by
 refine aO (S:=bf tb N K e (.pick p x y)) fun gp hgp=>aO (S:=bf tb N K e (.pick p x y)) fun gx hgx=>aO (S:=bf tb N K e (.pick p x y)) fun gy hgy=>?_
 subst hgp;subst hgx;subst hgy
 intro a b c d tm hp nx G k sl Wg W h0 h
 refine Me h0 fun q hq=>?_
 cases q with
 | true=>exact h _ (vok W (ps:= []) (v:=(rdS K e x a b c d tm).toV) (by simp only [aB,b8,bO,tvb hq,pn]) eJ (VLe.refl _) (jS Wg x))
 | false=>exact h _ (vok W (ps:= []) (v:=(rdS K e y a b c d tm).toV) (by simp only [aB,b8,bO,tvb hq,pn]) eJ (VLe.refl _) (jS Wg y))
theorem BG {t:TypeId} {z:CT} {n:Nat} (h:wP tb t = .at z n) :∃ td,tb t=some td∧CsR z n td.zero:=by
 unfold wP at h
 split at h
 ·rename_i td ht
  cases ho:gj td.zero with
  | false=>rw [ho] at h;cases h
  | true=>
   rw [ho] at h
   cases h
   exact ⟨td,ht,CsR.ofL ho⟩
 ·cases h
theorem rW {G:Rv→Prop} {m:Nat} {hp:HP} {b:Bk} {u:U} {k:U→HP→Rv} {sl:Rv} (h0:G sl) (h:m<262144→G (k u (dy hp m b))):G (FX m hp b u k sl):=ca h0 fun hb=>h (bh hb)
theorem Fi {t:TypeId}:bf tb N K e (.alloc t) (BS t K e tb):=by
 unfold BS
 cases hz:wP tb t with
 | no=>trivial
 | «at» z n=>
  obtain ⟨td,ht,hc⟩:=BG hz
  intro a b c d tm hp nx G k sl Wg W h0 h
  show G (bQ nx _)
  rw [cG]
  refine rW h0 fun hm=>h _ _ ⟨⟨[],.ptr nx 0,[(nx,.cells td.zero)],by simp only [aB,b8,bO,ht,qJ],eJ,VLe.refl _,fY hm ?_⟩,trivial,fZ W hm ⟨_,hc⟩⟩
  show some (Blk.cells (toL z n))=_
  rw [hc.toL]
theorem Kp {t:TypeId} {x:Operand}:bf tb N K e (.box t x) (QE t x K e tb):=by
 refine aO (S:=bf tb N K e (.box t x)) fun gx hgx=>?_
 subst hgx
 intro a b c d tm hp nx G k sl Wg W h0 h
 show G (bQ nx _)
 rw [cG]
 have hw:=jS Wg x
 refine Hx h0 (fun c1 hc1 h1=>rW h0 fun hm=>?_) fun t' n hx=>rW h0 fun hm=>?_
 ·have hc:CsR (dS ct0 0 c1) 1 ([]++[c1.toV]):=(CsR.nil ct0).push (by omega) h1
  rw [List.nil_append,hc1] at hc
  rw [hc1] at h1
  refine h _ _ ⟨⟨[],.ptr nx 0,[(nx,.cells [(rdS K e x a b c d tm).toV])],by simp only [aB,b8,bO,yP h1],eJ,VLe.refl _,fY hm ?_⟩,trivial,fZ W hm ⟨_,hc⟩⟩
  show some (Blk.cells (toL _ 1))=_
  rw [hc.toL]
 ·rw [hx] at hw
  obtain ⟨cs,hc⟩:=hw
  refine h _ _ ⟨⟨[],.ptr nx 0,[(nx,.cells cs)],by simp only [aB,b8,bO,tva hc hx,cellsOf],eJ,VLe.refl _,fY hm ?_⟩,trivial,fZ W hm ⟨_,hc⟩⟩
  show some (Blk.cells (toL t' n))=_
  rw [hc.toL]
theorem KH {t:TypeId} {f d:Nat} (h:KG tb t f=some d) :∃ td fs ft tf,tb t=some td∧td.kind = .struct fs∧fs[f]?=some (d,ft)∧tb ft=some tf∧¬ tf.size=0:=by
 unfold KG at h
 split at h
 case h_2=>cases h
 rename_i td ht
 split at h
 case h_2=>cases h
 rename_i fs hk
 split at h
 case h_2=>cases h
 rename_i o ft hf
 split at h
 case h_2=>cases h
 rename_i tf htf
 split at h
 ·cases h
 ·rename_i hs
  cases h
  exact ⟨td,fs,ft,tf,ht,hk,hf,htf,hs⟩
theorem NT {t:TypeId} {x:Operand} {f:Nat}:bf tb N K e (.fieldAddr t x f) (cFA t x f K e tb):=by
 unfold cFA
 cases hd:KG tb t f with
 | none=>trivial
 | some o1=>
  obtain ⟨td,fs,ft,tf,ht,hk,hf,htf,hs⟩:=KH hd
  refine aO (S:=bf tb N K e (.fieldAddr t x f)) fun gx hgx=>?_
  subst hgx
  intro a b c d tm hp nx G k sl Wg W h0 h
  refine pq h0 (fun q o hx=>?_) (fun q v o hx=>?_)
  ·exact h _ (vok W (ps:= []) (v:= .ptr q (o+o1)) (by simp only [aB,b8,bO,ht,tvp hx,jH,qL,hk,hf,htf,hs,if_false]) eJ (VLe.refl _) trivial)
  ·exact h _ (vok W (ps:= []) (v:= .gp q v (o+o1)) (by simp only [aB,b8,bO,ht,tvg hx,jH,hk,hf,htf,hs,if_false]) eJ (VLe.refl _) trivial)
theorem NU {t:TypeId} {x:Operand} {f:Nat}:bf tb N K e (.field t x f) (cFV t x f K e tb):=by
 unfold cFV
 cases hv:Og tb t f with
 | no=>trivial
 | «at» o i=>
  unfold Og at hv
  split at hv
  case h_2=>cases hv
  rename_i td ht
  split at hv
  case h_2=>cases hv
  rename_i fs hk
  split at hv
  case h_2=>cases hv
  rename_i o' ft hf
  cases hv
  refine Ct (S:=bf tb N K e (.field t x f)) trivial fun f1 hf1=>aO (S:=bf tb N K e (.field t x f)) fun gx hgx=>?_
  subst hgx
  intro a b c d tm hp nx G k sl Wg W h0 h
  obtain ⟨tf,htf,hf1⟩:=hf1
  have hw:=jS Wg x
  refine Ce h0 fun ct n hx=>?_
  have hx0:=hx
  rw [hx] at hw
  obtain ⟨cs,hc⟩:=hw
  refine hf1 G ct n cs _ k sl hc h0 fun u v hl hv hw=>h u (vok W (ps:= []) (v:=v) ?_ eJ (VLe.of_eq hv) hw)
  simp only [aB,b8,bO,ht,tva hc hx0,gZ,hk,hf,htf,hl]
theorem NV {t:TypeId} {x i:Operand}:bf tb N K e (.indexAddr t x i) (cIA t x i K e tb):=by
 unfold cIA
 cases hx:KQ tb t with
 | no=>trivial
 | sl esz=>
  unfold KQ at hx
  split at hx
  case h_2=>cases hx
  rename_i td ht
  split at hx
  case h_2=>split at hx <;> cases hx
  case h_3=>cases hx
  rename_i et hk
  split at hx
  case h_2=>cases hx
  rename_i te hte
  cases hx
  refine aO (S:=bf tb N K e (.indexAddr t x i)) fun gx hgx=>aO (S:=bf tb N K e (.indexAddr t x i)) fun gi hgi=>?_
  subst hgx;subst hgi
  intro a b c d tm hp nx G k sl Wg W h0 h
  refine nD h0 fun ik n hi=>DM h0 fun m hn=>Hy h0 fun q v e' o l hu=>ca h0 fun hb=>qh h0 fun v' e2 ct n2 hg=>ca h0 fun h1=>ca h0 fun h2=>ca h0 fun h3=>?_
  subst hn
  obtain ⟨cs,hc,hH,_⟩:=gh W hg
  have hlt:m<l:=bh hb
  have e1:=ay h1
  have e3:=ay h2
  have e4:=ay h3
  subst e1
  subst e3
  subst e4
  exact h _ (vok W (ps:= [.rng (.ofNat m) l]) (v:= .gp q v ((o+m)*te.size)) (by simp only [aB,b8,bO,ht,tvs hu,tvi hi,dI,hk,hte,hH,and_self,if_true];rfl) (oE ⟨by show (0:Int)≤(m:Int);omega,by show (m:Int)<l;omega⟩) (VLe.refl _) trivial)
 | ar l esz=>
  unfold KQ at hx
  split at hx
  case h_2=>cases hx
  rename_i td ht
  split at hx
  case h_1=>split at hx <;> cases hx
  case h_3=>cases hx
  rename_i l' et hk
  split at hx
  case h_2=>cases hx
  rename_i te hte
  cases hx
  refine aO (S:=bf tb N K e (.indexAddr t x i)) fun gx hgx=>aO (S:=bf tb N K e (.indexAddr t x i)) fun gi hgi=>?_
  subst hgx;subst hgi
  intro a b c d tm hp nx G k sl Wg W h0 h
  refine nD h0 fun ik n hi=>DM h0 fun m hn=>ca h0 fun hb=>pq h0 (fun q o hu=>?_) (fun q v o hu=>?_)
  ·have hlt:m<l:=bh hb
   subst hn
   exact h _ (vok W (ps:= [.rng (.ofNat m) l]) (v:= .ptr q (o+m*te.size)) (by simp only [aB,b8,bO,ht,tvp hu,tvi hi,dI,n7,hk,hte];rfl) (oE ⟨by show (0:Int)≤(m:Int);omega,by show (m:Int)<l;omega⟩) (VLe.refl _) trivial)
  ·have hlt:m<l:=bh hb
   subst hn
   exact h _ (vok W (ps:= [.rng (.ofNat m) l]) (v:= .gp q v (o+m*te.size)) (by simp only [aB,b8,bO,ht,tvg hu,tvi hi,dI,hk,hte];rfl) (oE ⟨by show (0:Int)≤(m:Int);omega,by show (m:Int)<l;omega⟩) (VLe.refl _) trivial)
theorem Kr {t:TypeId} {x i:Operand}:bf tb N K e (.index t x i) (NW t x i K e tb):=by
 unfold NW
 cases hx:Ov tb t with
 | no=>trivial
 | «at» l esz ti=>
  unfold Ov at hx
  split at hx
  case h_2=>cases hx
  rename_i td ht
  split at hx
  case h_2=>cases hx
  rename_i l' et hk
  split at hx
  case h_2=>cases hx
  rename_i te hte
  cases hx
  refine Ct (S:=bf tb N K e (.index t x i)) trivial fun f1 hf1=>aO (S:=bf tb N K e (.index t x i)) fun gx hgx=>aO (S:=bf tb N K e (.index t x i)) fun gi hgi=>?_
  subst hgx;subst hgi
  intro a b c d tm hp nx G k sl Wg W h0 h
  obtain ⟨tf,htf,hf1⟩:=hf1
  rw [hte] at htf
  cases htf
  have hw:=jS Wg x
  refine nD h0 fun ik n hi=>DM h0 fun m hn=>ca h0 fun hb=>Ce h0 fun ct n1 hx=>?_
  subst hn
  have hx0:=hx
  rw [hx] at hw
  obtain ⟨cs,hc⟩:=hw
  have hlt:m<l:=bh hb
  refine hf1 G ct n1 cs _ k sl hc h0 fun u v hl hv hw=>h u (vok W (ps:= [.rng (.ofNat m) l]) (v:=v) ?_ (oE ⟨by show (0:Int)≤(m:Int);omega,by show (m:Int)<l;omega⟩) (VLe.of_eq hv) hw)
  have hl:ld te cs ((Int.ofNat m).toNat*te.size) = .val [] v []:=hl
  simp only [aB,b8,bO,ht,tva hc hx0,tvi hi,lL,hk,hte,hl]
theorem Ko {op:BinOp} {t t2:TypeId} {x y:Operand}:bf tb N K e (.binOp op t x y t2) (NS op t x y t2 K e tb):=by
 unfold NS
 cases hty:Qq tb t with
 | false=>trivial
 | true=>
  obtain ⟨td,ht⟩ :∃ td,tb t=some td:=by
   unfold Qq at hty
   split at hty
   ·exact ⟨_,by assumption⟩
   ·cases hty
  have main :∀ f:E7,(∀ (ik:IntKind) (p q:Int) (G:Rv→Prop) (k:U→Rv) (sl:Rv),G sl→(∀ u ps v,fD td op (.int ik p) (.int ik q) = .val ps v []→(∀ p∈ps,p.holds)→VLe v u.toV→u.wf→G (k u))→G (f ik p q k sl))→
    bf tb N K e (.binOp op t x y t2) (dD K e x fun gx=>dD K e y fun gy=> .val fun a b c d tm _ _=>Kk f (gx a b c d tm) (gy a b c d tm)):=fun f hf=>by
   refine aO (S:=bf tb N K e (.binOp op t x y t2)) fun gx hgx=>aO (S:=bf tb N K e (.binOp op t x y t2)) fun gy hgy=>?_
   subst hgx;subst hgy
   intro a b c d tm hp nx G k sl Wg W h0 h
   refine nD h0 fun ik p hx=>nD h0 fun ik' q hy=>ca h0 fun hk=>?_
   have e1:=DY hk
   subst e1
   refine hf ik p q G k sl h0 fun u ps v hr hps hv hw=>h u (vok W (ps:=ps) (v:=v) ?_ hps hv hw)
   simp only [aB,b8,bO,ht,tvi hx,tvi hy,hr]
  have bo :∀ (f:E7) (r s:IntKind→Int→Int→Bool),(∀ ik p q k sl,f ik p q k sl=k (.kb (r ik p q)))→(∀ ik p q,r ik p q=s ik p q)→(∀ ik p q,fD td op (.int ik p) (.int ik q) = .val [] (.bool (s ik p q)) [])→
    bf tb N K e (.binOp op t x y t2) (dD K e x fun gx=>dD K e y fun gy=> .val fun a b c d tm _ _=>Kk f (gx a b c d tm) (gy a b c d tm)):=fun f r s h1 h2 h3=>main f fun ik p q G k sl h0 h=>by
   rw [h1]
   exact h _ [] _ (h3 ik p q) eJ (by rw [h2];exact HX _) trivial
  have nu :∀ (f:E7) (r s:IntKind→Int→Int→Int),(∀ ik p q k sl,f ik p q k sl=k (.int ik (r ik p q)))→(∀ ik p q,r ik p q=s ik p q)→(∀ ik p q,fD td op (.int ik p) (.int ik q) = .val [] (.int ik (s ik p q)) [])→
    bf tb N K e (.binOp op t x y t2) (dD K e x fun gx=>dD K e y fun gy=> .val fun a b c d tm _ _=>Kk f (gx a b c d tm) (gy a b c d tm)):=fun f r s h1 h2 h3=>main f fun ik p q G k sl h0 h=>by
   rw [h1]
   exact h _ [] _ (h3 ik p q) eJ (by rw [h2];exact VLe.refl _) trivial
  cases op with
  | add=>exact nu QP (fun ik p q=>fj ik p q) (fun ik p q=>ik.wrap (p+q)) (fun _ _ _ _ _=>rfl) Kj (fun ik p q=>by simp only [fD,if_true])
  | sub=>exact nu QT (fun ik p q=>Qm ik p q) (fun ik p q=>ik.wrap (p - q)) (fun _ _ _ _ _=>rfl) LM (fun ik p q=>by simp only [fD,if_true])
  | mul=>exact nu QQ (fun ik p q=>O6 ik p q) (fun ik p q=>ik.wrap (p*q)) (fun _ _ _ _ _=>rfl) K8 (fun ik p q=>by simp only [fD,if_true])
  | quo=>
   refine main QR fun ik p q G k sl h0 h=>Mc h0 fun m n ha hb=>ca h0 fun h1=>?_
   have h1:1≤n:=bh h1
   subst ha;subst hb
   refine h _ [.ne0 (.ofNat n)] (.int ik (ik.wrap ((Int.ofNat m).tdiv (.ofNat n)))) (by simp only [fD,if_true]) (oE (by show ¬(n:Int)=0;omega)) ?_ trivial
   have:xF ik (Nat.div m n) (ik.wrap ((Int.ofNat m).tdiv (.ofNat n)))=ik.wrap ((Int.ofNat m).tdiv (.ofNat n)):=oc (by rfl)
   show VLe _ (V.int ik (xF ik (Nat.div m n) _))
   rw [this]
   exact VLe.refl _
  | rem=>
   refine main QS fun ik p q G k sl h0 h=>Mc h0 fun m n ha hb=>ca h0 fun h1=>?_
   have h1:1≤n:=bh h1
   subst ha;subst hb
   exact h _ [.ne0 (.ofNat n)] (.int ik ((Int.ofNat m).tmod (.ofNat n))) (by simp only [fD,if_true]) (oE (by show ¬(n:Int)=0;omega)) (VLe.refl _) trivial
  | and=>trivial
  | or=>trivial
  | xor=>trivial
  | shl=>trivial
  | shr=>trivial
  | andNot=>trivial
  | eql=>exact bo fEq (fun _ p q=>eqS p q) (fun _ p q=>p==q) (fun _ _ _ _ _=>rfl) (fun _=>B5) (fun ik p q=>by simp only [fD,if_true])
  | neq=>exact bo fNe (fun _ p q=>FZ (eqS p q)) (fun _ p q=>p != q) (fun _ _ _ _ _=>rfl) (fun _ p q=>by rw [Ep,B5];rfl) (fun ik p q=>by simp only [fD,if_true])
  | lss=>exact bo fLt (fun _ p q=>ltS p q) (fun _ p q=>decide (p<q)) (fun _ _ _ _ _=>rfl) (fun _=>Ie) (fun ik p q=>by simp only [fD,if_true])
  | leq=>exact bo fLe (fun _ p q=>leS p q) (fun _ p q=>decide (p≤q)) (fun _ _ _ _ _=>rfl) (fun _=>H7) (fun ik p q=>by simp only [fD,if_true])
  | gtr=>exact bo fGt (fun _ p q=>ltS q p) (fun _ p q=>decide (p>q)) (fun _ _ _ _ _=>rfl) (fun _ p q=>Ie q p) (fun ik p q=>by simp only [fD,if_true])
  | geq=>exact bo fGe (fun _ p q=>leS q p) (fun _ p q=>decide (p≥q)) (fun _ _ _ _ _=>rfl) (fun _ p q=>H7 q p) (fun ik p q=>by simp only [fD,if_true])
theorem NZ {op:UnOp} {t:TypeId} {x:Operand}:bf tb N K e (.unOp op t x) (cUn op t x K e tb):=by
 cases op with
 | not=>
  refine aO (S:=bf tb N K e (.unOp .not t x)) fun gx hgx=>?_
  subst hgx
  intro a b c d tm hp nx G k sl Wg W h0 h
  refine Me h0 fun q hx=>h _ (vok W (ps:= []) (v:= .kb (!q)) (by simp only [aB,b8,bO,Hn,tvb hx]) eJ (by rw [←Ep];exact VLe.refl _) trivial)
 | _=>trivial
theorem G1 {s t:TypeId} {x:Operand}:bf tb N K e (.convert s t x) (G0 s t x K e tb):=by
 unfold G0
 cases hk:cvI tb s t with
 | none=>trivial
 | some ik=>
  unfold cvI at hk
  split at hk
  case h_2=>cases hk
  rename_i ts td hs hd
  split at hk
  case h_2=>cases hk
  rename_i k1 k2 hks hkd
  cases hk
  refine aO (S:=bf tb N K e (.convert s t x)) fun gx hgx=>?_
  subst hgx
  intro a b c d tm hp nx G k sl Wg W h0 h
  refine nD h0 fun ik' n hx=>h _ (vok W (ps:= []) (v:= .int ik (ik.wrap n)) (by simp only [aB,b8,bO,hs,hd,qK,xy,hks,hkd,tvi hx]) eJ (by rw [←N2];exact VLe.refl _) trivial)
theorem rl (ev:Operand→U) :∀ l:List Operand,DB l ev=l.map fun x=>(ev x).toV
 | []=>rfl
 | x::l=>by show (ev x).toV::DB l ev=_;rw [rl ev l];rfl
theorem NY {fn:Fn} {first caps:Array Operand}:bf tb N K e (.makeFunc fn first caps) (cMF fn first caps K e tb):=by
 unfold cMF
 cases fn with
 | func f=>
  show bf tb N K e _ (Bool.rec (motive:=fun _=>Stp) .slow _ (Nat.beq first.size 0))
  cases hb:Nat.beq first.size 0 with
  | false=>trivial
  | true=>
   have hs:=ay hb
   intro a b c d tm hp nx G k sl Wg W h0 h
   refine ca h0 fun hpl=>?_
   rw [rl] at hpl
   have hf0:first.toList=[]:=by simpa using hs
   exact h _ (vok W (ps:= []) (v:= .fn f (caps.toList.map fun x=>(rdS K e x a b c d tm).toV)) (by simp only [aB,b8,bO,hf0,List.map_nil];rw [CL hpl]) eJ (by rw [rl];exact VLe.refl _) trivial)
 | _=>trivial
theorem Qu (w:W) :(wU w).toV=w.toV:=by
 cases w with
 | c x=>exact BV x
 | agg t n=>rfl
theorem R4 {w:W} (h:w.wf) :(wU w).wf:=by
 cases w with
 | c x=>exact G5 x
 | agg t n=>exact h
theorem Md {G:Rv→Prop} {sl:Rv} (h0:G sl) {k:U→Rv} :∀ (i:Nat) (l:List W),(∀ w,l[i]?=some w→G (k (wU w)))→G (Ri i l k sl)
 | 0,[],_=>h0
 | 0,w::_,h=>h w rfl
 | i+1,[],_=>h0
 | i+1,w::l,h=>Md h0 i l h
theorem Kq {x:Operand} {i:Nat}:bf tb N K e (.extract x i) (QG x i K e tb):=by
 refine aO (S:=bf tb N K e (.extract x i)) fun gx hgx=>?_
 subst hgx
 intro a b c d tm hp nx G k sl Wg W h0 h
 have hw:=jS Wg x
 refine Oi h0 fun l hx=>Md h0 i l fun w hl=>?_
 have hx0:=hx
 rw [hx] at hw
 exact h _ (vok W (ps:= []) (v:=w.toV) (by simp only [aB,b8,bO,mw,tvt hx0,List.getElem?_map,hl,Option.map_some]) eJ (VLe.of_eq (Qu w).symm) (R4 (hw w (List.mem_of_getElem? hl))))
theorem Kt {x:Operand}:bf tb N K e (.nilCheck x) (QH x K e tb):=by
 refine aO (S:=bf tb N K e (.nilCheck x)) fun gx hgx=>?_
 subst hgx
 intro a b c d tm hp nx G k sl Wg W h0 h
 refine pq h0 (fun q o hx=>?_) (fun q v o hx=>?_)
 ·exact h _ (vok W (ps:= []) (v:= .ptr q o) (by simp only [aB,b8,bO,zu,tvp hx]) eJ (VLe.refl _) trivial)
 ·exact h _ (vok W (ps:= []) (v:= .gp q v o) (by simp only [aB,b8,bO,zu,tvg hx]) eJ (VLe.refl _) trivial)
theorem rV {G:Rv→Prop} {sl:Rv} (h0:G sl) {a b c d:U} {tm:TM} (Wg :∀ i,(dB K e i a b c d tm).wf) {pi:Nat→PI} {f:Nat→Option (Nat×Nat)} (hf :∀ i o s,pi i = .at o s→f i=some (o,s)) {n:Nat} :∀ {l:List (Nat×Operand)} {gs:List PG},Pq K e pi l gs→∀ {t:CT} {cs:List V} {k:CT→Rv},CsR t n cs→
  (∀ t' cs',CsR t' n cs'→hZ f cs (l.map fun p=>(p.1,(rdS K e p.2 a b c d tm).toV))=some cs'→G (k t'))→G (Ht a b c d tm n gs t k sl)
 | [],[],_,t,cs,k,hc,h=>h t cs hc rfl
 | q::l,.at o s g::gs,hp,t,cs,k,hc,h=>by
  obtain ⟨hp1,hp2,hp3⟩:=hp
  subst hp2
  have hfi:=hf _ _ _ hp1
  have hw:=jS Wg q.2
  refine ca h0 fun hle=>?_
  have hle:o+s≤n:=bh hle
  refine Hx h0 (fun x hx h1=>ca h0 fun hs=>?_) fun xt m hx=>ca h0 fun hs=>?_
  ·have e1:s=1:=ay hs
   subst e1
   rw [hx] at h1
   refine rV h0 Wg hf hp3 (hc.put (i:=o) (x:=x) (by omega) (by rw [hx];exact h1)) fun t' cs' hc' hfl=>h t' cs' hc' ?_
   simp only [List.map_cons,hZ,hfi,yP h1,List.length_singleton,if_true,hc.len,hle]
   rw [←th (by rw [hc.len];omega),←hx]
   exact hfl
  ·have e1:s=m:=ay hs
   subst e1
   have hx0:=hx
   rw [hx] at hw
   obtain ⟨xs,hxs⟩:=hw
   refine rV h0 Wg hf hp3 (hc.splice hxs hle rfl) fun t' cs' hc' hfl=>h t' cs' hc' ?_
   simp only [List.map_cons,hZ,hfi,tva hxs hx0,cellsOf,hxs.len,if_true,hc.len,hle]
   exact hfl
 | [],.at _ _ _::_,h,_,_,_,_,_=>h.elim
 | _::_,[],h,_,_,_,_,_=>h.elim
theorem Fj {t:TypeId} {parts:Array (Nat×Operand)}:bf tb N K e (.build t parts) (BT t parts K e tb):=by
 unfold BT
 cases hb:w4 tb t with
 | false=>trivial
 | true=>
  cases hz:wP tb t with
  | no=>trivial
  | «at» z n=>
   obtain ⟨td,ht,hc⟩:=BG hz
   refine pR (S:=bf tb N K e (.build t parts)) trivial fun gs hgs=>?_
   intro a b c d tm hp nx G k sl Wg W h0 h
   unfold w4 at hb
   rw [ht] at hb
   simp only at hb
   split at hb
   ·rename_i fs hk
    refine rV h0 Wg (f:=fun i=>(fs[i]?).map fun q=>(q.1,((tb q.2).map TD.size).getD 0)) (fun i o s hi=>?_) hgs hc fun t' cs' hc' hfl=>?_
    ·unfold Jf at hi
     rw [ht] at hi
     simp only [hk] at hi
     split at hi
     ·rename_i o' ft hft
      split at hi
      ·rename_i tf htf
       cases hi
       simp [hft,htf]
      ·cases hi
     ·cases hi
    ·exact h _ (vok W (ps:= []) (v:= .agg cs') (by simp only [aB,b8,bO,ht,mu,hk,hb,if_true,hfl]) eJ (by show VLe _ (V.agg (toL t' n));rw [hc'.toL];exact VLe.refl _) ⟨_,hc'⟩)
   ·rename_i l et hk
    obtain ⟨te,hte⟩:=Option.isSome_iff_exists.1 hb
    refine rV h0 Wg (f:=fun i=>some (i*te.size,te.size)) (fun i o s hi=>?_) hgs hc fun t' cs' hc' hfl=>?_
    ·unfold Jf at hi
     rw [ht] at hi
     simp only [hk,hte] at hi
     cases hi
     rfl
    ·exact h _ (vok W (ps:= []) (v:= .agg cs') (by simp only [aB,b8,bO,ht,mu,hk,hte,hfl]) eJ (by show VLe _ (V.agg (toL t' n));rw [hc'.toL];exact VLe.refl _) ⟨_,hc'⟩)
   ·cases hb
theorem QO {td te:TD} {et:TypeId} (hk:td.kind = .slice et) (hte:tb et=some te) (hty:te.ty=none) (H:aw) (m n:Nat) (parts:List (Nat×V)):dq tb td H m n parts=if n≤1000∧te.size≤1000∧te.zero.length=te.size then
     match hZ (fun i=>some (i*te.size,te.size)) (mX te.zero n) parts with
     | some cs=> .val [] (.gsl m m te.size 0 n) [(m,.grow m te.size cs)]
     | none=> .bad
    else .bad:=by
 have h1 :∀ H,cV tb td H m n parts = .bad:=fun H=>by simp only [cV,hk,hte,hty]
 have h2:eu tb td H m n parts = .bad:=by
  unfold eu
  rw [h1]
  simp only
  unfold lK
  rw [h1]
  cases N5 tb td <;> rfl
 unfold dq
 rw [h2]
 simp only [hk,hte]
 rfl
theorem Kn {t:TypeId} {n:Nat} {parts:Array (Nat×Operand)}:bf tb N K e (.buildSlice t n parts) (NR t n parts K e tb):=by
 unfold NR
 cases hb:NP tb t n with
 | no=>trivial
 | «at» esz z len=>
  unfold NP at hb
  split at hb
  case h_2=>cases hb
  rename_i td ht
  split at hb
  case h_2=>cases hb
  rename_i et hk
  split at hb
  case h_2=>cases hb
  rename_i te hte
  split at hb
  case isFalse=>cases hb
  rename_i hcond
  obtain ⟨h1,h2,h3,h4,h5⟩:=hcond
  cases hb
  have hty:te.ty=none:=by cases hq:te.ty with|none=>rfl|some _=>rw [hq] at h1;cases h1
  have hc:=CsR.ofL h5
  rw [A7,h4] at hc
  refine pR (S:=bf tb N K e (.buildSlice t n parts)) trivial fun gs hgs=>?_
  intro a b c d tm hp nx G k sl Wg W h0 h
  refine rV h0 Wg (f:=fun i=>some (i*te.size,te.size)) (fun i o s hi=>(by cases hi;rfl)) hgs hc fun t' cs' hc' hfl=>?_
  show G (bQ nx _)
  rw [cG]
  refine rW h0 fun hm=>h _ _ ⟨⟨[],.gsl nx nx te.size 0 n,[(nx,.grow nx te.size cs')],by simp only [aB,b8,bO,ht,QO hk hte hty,h2,h3,h4,and_self,if_true,hfl],eJ,VLe.refl _,fY hm ?_⟩,trivial,fZ W hm ⟨_,hc'⟩⟩
  show some (Blk.grow nx te.size (toL t' _))=_
  rw [hc'.toL]
theorem Mb {G:Rv→Prop} {sl:Rv} (h0:G sl) {x:Option Operand} {dn:Nat} {ev:Operand→U} {k:Nat→Rv} (h :∀ m:Nat,bnd (dn:Int) (x.map fun x=>(ev x).toV)=some (m:Int)→G (k m)):G (NN x dn ev k sl):=by
 cases x with
 | none=>exact h dn rfl
 | some x=>
  refine nD h0 fun ik n hx=>DM h0 fun m hn=>h m ?_
  subst hn
  simp only [Option.map_some,tvi hx,bnd]
  rfl
theorem Fl {t:TypeId} {x:Operand} {lo hi mx:Option Operand}:bf tb N K e (.slice t x lo hi mx) (BU t x lo hi mx K e tb):=by
 unfold BU
 cases mx with
 | some _=>trivial
 | none=>
  cases hs:PK tb t with
  | none=>trivial
  | some esz=>
   unfold PK at hs
   split at hs
   case h_2=>cases hs
   rename_i td ht
   refine aO (S:=bf tb N K e (.slice t x lo hi none)) fun gx hgx=>?_
   subst hgx
   intro a b c d tm hp nx G k sl Wg W h0 h
   refine Hy h0 fun q v e' o l hu=>qh h0 fun v' e2 ct n2 hg=>ca h0 fun h1=>ca h0 fun h2=>ca h0 fun h3=>Mb h0 fun i hi=>Mb h0 fun j hj=>ca h0 fun h4=>ca h0 fun h5=>?_
   obtain ⟨cs,hc,hH,_⟩:=gh W hg
   have e1:=ay h1
   have e3:=ay h2
   have e4:=ay h3
   have h4:j≤l:=bh h4
   have h5:i<j:=bh h5
   subst e1
   subst e3
   subst e4
   have hcond :(Nat.beq i 0||Nat.blt i j)=true:=by
    rw [Bool.or_eq_true]
    exact .inr (by rw [Nat.blt_eq];exact h5)
   refine h _ (vok W (ps:= [.sub i j l]) (v:= .gsl q v esz (o+i) (j - i)) ?_ (oE ⟨by omega,by omega,by omega⟩) (VLe.refl _) trivial)
   have hi:bnd 0 (lo.map fun x=>(rdS K e x a b c d tm).toV)=some (i:Int):=hi
   simp only [aB,b8,bO,ht,tvs hu,fo,Option.map_none,hs,hi,hj,hH,and_self,if_true,Int.toNat_natCast,hcond,cond_true]
theorem F6 {S:Stp→Prop} (h0:S .slow) {l:List Operand} {k:Operand→Stp} (h :∀ x,l=[x]→S (k x)):S (CF l k):=by
 match l with
 | []=>exact h0
 | [x]=>exact h x rfl
 | _::_::_=>exact h0
theorem GA {S:Stp→Prop} (h0:S .slow) {l:List Operand} {k:Operand→Operand→Stp} (h :∀ x y,l=[x,y]→S (k x y)):S (J6 l k):=by
 match l with
 | []=>exact h0
 | [x]=>exact h0
 | [x,y]=>exact h x y rfl
 | _::_::_::_=>exact h0
theorem Ks {q:Call} (hq:q.callee = .builtin .len):bf tb N K e (.call q) (NX q K e tb):=by
 unfold NX
 cases hs:HS tb q with
 | false=>trivial
 | true=>
  unfold HS at hs
  split at hs
  case h_2=>cases hs
  rename_i t hat
  split at hs
  case h_2=>cases hs
  rename_i td ht
  obtain ⟨et,hk⟩ :∃ et,td.kind = .slice et:=by
   unfold HR at hs
   split at hs
   ·exact ⟨_,by assumption⟩
   ·cases hs
  refine F6 (S:=bf tb N K e (.call q)) trivial fun x hx=>aO (S:=bf tb N K e (.call q)) fun gx hgx=>?_
  subst hgx
  intro a b c d tm hp nx G k sl Wg W h0 h
  refine DN h0 (fun hu=>?_) (fun hu=>?_) fun r v e' o l hu=>qh h0 fun v' e2 ct n2 hg=>ca h0 fun h1=>ca h0 fun h2=>ca h0 fun h3=>?_
  ·exact h _ (vok W (ps:= []) (v:= .int .i64 0) (by simp only [aB,b8,bO,hq,hat,hx,ht,tvo hu,jn,u4,hk]) eJ (VLe.refl _) trivial)
  ·exact h _ (vok W (ps:= []) (v:= .int .i64 0) (by simp only [aB,b8,bO,hq,hat,hx,ht,tvo hu,jn,u4,hk]) eJ (VLe.refl _) trivial)
  ·obtain ⟨cs,hc,hH,_⟩:=gh W hg
   have e1:=ay h1
   have e3:=ay h2
   have h3:l≤au:=bh h3
   subst e1
   subst e3
   exact h _ (vok W (ps:= []) (v:= .int .i64 l) (by simp only [aB,b8,bO,hq,hat,hx,ht,tvs hu,jn,hk,hH,h3,and_self,if_true]) eJ (VLe.refl _) trivial)
theorem So {G:Rv→Prop} {sl:Rv} (h0:G sl) {hp:HP} (W:hpW hp) {esz:Nat} {u:U} {k:Nat→CT→Nat→Rv} (h :∀ cnt t xo n cs,CsR t n cs→xo+cnt*esz≤n→jo (hpH hp) esz u.toV=some (cnt,(cs.drop xo).take (cnt*esz))→G (k cnt t xo)):G (gcG hp esz u k sl):=by
 refine DN h0 (fun hu=>?_) (fun hu=>?_) fun r v e' o l hu=>qh h0 fun v' e2 ct n2 hg=>ca h0 fun h1=>ca h0 fun h2=>ca h0 fun h3=>ca h0 fun h4=>?_
 ·exact h 0 ct0 0 0 [] (.nil _) (by omega) (by simp [tvo hu,jo])
 ·exact h 0 ct0 0 0 [] (.nil _) (by omega) (by simp [tvo hu,jo])
 ·obtain ⟨cs,hc,hH,_⟩:=gh W hg
  have e1:=ay h1
  have e3:=ay h2
  have e4:=ay h3
  have h4 :(o+l)*esz≤n2:=bh h4
  refine h l ct (o*esz) n2 cs hc (by rw [←Nat.add_mul];exact h4) ?_
  simp only [tvs hu,jo,hH,e1,e3,e4,and_self,if_true]
theorem Km {q:Call} (hq:q.callee = .builtin .append):bf tb N K e (.call q) (NQ q K e tb):=by
 unfold NQ
 cases ha:NJ tb q with
 | no=>trivial
 | «at» esz bytes=>
  unfold NJ at ha
  split at ha
  case h_2=>cases ha
  rename_i t t2 hat
  split at ha
  case h_2=>cases ha
  rename_i td td2 ht ht2
  split at ha
  case h_2=>cases ha
  rename_i et hk
  split at ha
  case h_2=>cases ha
  rename_i te hte
  split at ha
  case isFalse=>cases ha
  rename_i hcond
  obtain ⟨hel,hty,hb1,hb2,hz⟩:=hcond
  cases ha
  refine GA (S:=bf tb N K e (.call q)) trivial fun s x hsx=>aO (S:=bf tb N K e (.call q)) fun gs hgs=>aO (S:=bf tb N K e (.call q)) fun gx hgx=>?_
  subst hgs;subst hgx
  intro a b c d tm hp nx G k sl Wg W h0 h
  refine So h0 W fun cnt xt xo xn xs hxc hxo hgc=>?_
  show G (bQ nx _)
  rw [cG]
  have hall :((xs.drop xo).take (cnt*te.size)).all V.one=true:=List.all_eq_true.2 fun v hv=>hxc.one v (List.mem_of_mem_drop (List.mem_of_mem_take hv))
  have main:aB ⟨tb,fun _=>none,1,N⟩ nx (hpH hp) (fun x=>(rdS K e x a b c d tm).toV) (.call q)=match dT tb td (hpH hp) nx (rdS K e s a b c d tm).toV (rdS K e x a b c d tm).toV with | .val ps v dh=>some (ps,v,dh)|_=>none:=by
   simp only [aB,b8,bO,hq,hat,hsx,ht,ht2,NK,hel,Bool.true_or,if_true]
   rfl
  have hev :∀ r,(match cnt with
       | 0=>(match (rdS K e s a b c d tm).toV with
        | .nilsl=> .val [] .nilsl []
        | .esl=> .val [] .esl []
        | .gsl h ver esz off len=>match hpH hp h with
         | some (.grow ver' esz' _)=>if ver=ver'∧esz=esz' then .val [] (.gsl h ver esz off len) [] else .bad
         | _=> .bad
        | _=> .bad)
       | k+1=>match (rdS K e s a b c d tm).toV with
        | .nilsl=> .val [.leN ((k+1)*te.bytes) 70368744177664] (.gsl nx nx te.size 0 (k+1)) [(nx,.grow nx te.size ((xs.drop xo).take (cnt*te.size)))]
        | .esl=> .val [.leN ((k+1)*te.bytes) 70368744177664] (.gsl nx nx te.size 0 (k+1)) [(nx,.grow nx te.size ((xs.drop xo).take (cnt*te.size)))]
        | .gsl h ver esz off len=>match hpH hp h with
         | some (.grow ver' esz' cs)=>if ver=ver'∧esz=te.size∧esz'=te.size∧off=0∧len*te.size=cs.length then
           .val [.leN ((len +(k+1))*te.bytes) 70368744177664] (.gsl h nx te.size 0 (len +(k+1))) [(h,.grow nx te.size (cs ++((xs.drop xo).take (cnt*te.size))))] else .bad
         | _=> .bad
        | _=> .bad:Res)=r→dT tb td (hpH hp) nx (rdS K e s a b c d tm).toV (rdS K e x a b c d tm).toV=r:=fun r hr=>by
   have hor:isG (rdS K e s a b c d tm).toV=true∨isG (rdS K e x a b c d tm).toV=true∨te.ty.isNone=true:= .inr (.inr hty)
   simp only [dT,hk,hte]
   rw [if_pos hor,if_pos ⟨hb1,hb2,hz⟩,hgc]
   simp only [hall,if_true]
   exact hr
  cases cnt with
  | zero=>
   have hw:=jS Wg s
   refine DN h0 (fun hu=>?_) (fun hu=>?_) fun r v e' o l hu=>qh h0 fun v' e2 ct n2 hg=>ca h0 fun h1=>ca h0 fun h2=>?_
   ·exact h _ _ (vok W (ps:= []) (v:= .nilsl) (by rw [main,hev _ (by simp only [tvo hu];rfl)]) eJ (by rw [hu];exact VLe.refl _) hw)
   ·exact h _ _ (vok W (ps:= []) (v:= .esl) (by rw [main,hev _ (by simp only [tvo hu];rfl)]) eJ (by rw [hu];exact VLe.refl _) hw)
   ·obtain ⟨cs,hc,hH,_⟩:=gh W hg
    have e1:=ay h1
    have e3:=ay h2
    subst e1
    subst e3
    exact h _ _ (vok W (ps:= []) (v:= .gsl r v e' o l) (by rw [main,hev (.val [] (.gsl r v e' o l) []) (by simp only [tvs hu,hH,and_self,if_true])]) eJ (by rw [hu];exact VLe.refl _) hw)
  | succ cnt=>
   have hnew :(rdS K e s a b c d tm).toV = .nilsl∨(rdS K e s a b c d tm).toV = .esl→G (GQ te.size te.bytes hp nx (Nat.succ cnt) xt xo k sl):=fun hs=>by
    refine ca h0 fun h1=>ca h0 fun h2=>rW h0 fun hm=>?_
    have h1 :(cnt+1)*te.bytes≤70368744177664:=bh h1
    have hc:=hxc.sub hxo
    refine h _ _ ⟨⟨[.leN ((cnt+1)*te.bytes) 70368744177664],.gsl nx nx te.size 0 (cnt+1),[(nx,.grow nx te.size ((xs.drop xo).take ((cnt+1)*te.size)))],?_,oE h1,VLe.refl _,fY hm ?_⟩,trivial,fZ W hm ⟨_,hc⟩⟩
    ·rw [main]
     rcases hs with hs|hs
     ·rw [hev _ (by simp only [hs];rfl)]
     ·rw [hev _ (by simp only [hs];rfl)]
    ·show some (Blk.grow nx te.size (toL (oZ ct0 0 xt xo ((cnt+1)*te.size)) ((cnt+1)*te.size)))=_
     rw [hc.toL]
   refine DN h0 (fun hu=>hnew (.inl (by rw [hu];rfl))) (fun hu=>hnew (.inr (by rw [hu];rfl))) fun r v e' o l hu=>qh h0 fun v' e2 ct n2 hg=>ca h0 fun h1=>ca h0 fun h2=>ca h0 fun h3=>ca h0 fun h4=>ca h0 fun h5=>ca h0 fun h6=>ca h0 fun h7=>?_
   obtain ⟨cs,hc,hH,hm⟩:=gh W hg
   have e1:=ay h1
   have e3:=ay h2
   have e4:=ay h3
   have e5:=ay h4
   have e6:l*te.size=n2:=ay h5
   have h6 :(l +(cnt+1))*te.bytes≤70368744177664:=bh h6
   have h7:n2 +(cnt+1)*te.size≤4096:=bh h7
   subst e1
   subst e3
   subst e5
   have e4:e2=te.size:=e4
   have hl:=hc.len
   have hap:=hc.app hxc hxo h7
   refine h _ _ ⟨⟨[.leN ((l +(cnt+1))*te.bytes) 70368744177664],.gsl r nx te.size 0 (l +(cnt+1)),[(r,.grow nx te.size (cs ++(xs.drop xo).take ((cnt+1)*te.size)))],?_,oE h6,VLe.refl _,fY hm ?_⟩,trivial,fZ W hm ⟨_,hap⟩⟩
   ·rw [main,hev _ (by simp only [tvs hu,hH,e4,e6,hl,and_self,if_true];rfl)]
   ·show some (Blk.grow nx te.size (toL (oZ ct n2 xt xo ((cnt+1)*te.size)) (n2 +(cnt+1)*te.size)))=_
    rw [hap.toL]
theorem yY (a b c d:U) (tm:TM) (cs:List V) :∀ l:List Operand,GR (l.map (rdS K e)) a b c d tm cs =(l.map fun x=>rdS K e x a b c d tm)++cs.map ko
 | []=>rfl
 | x::l=>by
  show rdS K e x a b c d tm::GR (l.map (rdS K e)) a b c d tm cs=_
  rw [yY a b c d tm cs l]
  rfl
theorem GZ {q:Call}:bf tb N K e (.call q) (GY q K e tb):=by
 unfold GY
 cases hq:q.callee with
 | value f=>
  refine aO (S:=bf tb N K e (.call q)) fun gf hgf=>AJ (S:=bf tb N K e (.call q)) fun gs hgs=>?_
  subst hgf;subst hgs
  intro a b c d tm G k sl Wg h0 h
  refine QV h0 fun g cs hf=>ca h0 fun hpl=>?_
  rw [yY]
  refine h g _ ⟨⟨q,f,cs,rfl,hq,by show (rdS K e f a b c d tm).toV=_;rw [hf];rfl,hpl,fun E l hl=>?_⟩,fun u hu=>?_⟩
  ·rw [List.map_append,List.map_map,List.map_map]
   have :∀ (xs:List V) (l:List Value),ab E (xs++cs) l→ab E (xs++cs.map (U.toV ∘ ko)) l:=by
    intro xs
    induction xs with
    | nil=>intro l hl;exact oR (fun v=>v) _ lg cs l (by simpa using hl)
    | cons x xs ih=>
     intro l hl
     cases l with
     | nil=>simp [ab] at hl
     | cons y l=>simp only [List.cons_append,ab] at hl ⊢;exact ⟨hl.1,ih l hl.2⟩
   exact this _ l hl
  ·rcases List.mem_append.1 hu with h1|h1
   ·obtain ⟨x,_,rfl⟩:=List.mem_map.1 h1
    exact jS Wg x
   ·obtain ⟨v,_,rfl⟩:=List.mem_map.1 h1
    exact lh v
 | builtin b=>
  show bf tb N K e (.call q) (QF b q K e tb)
  cases b with
  | append=>exact Km hq
  | len=>exact Ks hq
  | _=>exact trivial
 | _=>exact trivial
theorem N1 (op:Op):bf tb N K e op (cmp K e tb op):=by
 cases op with
 | move x=>exact cMove_ok.1
 | assign x=>exact cMove_ok.2
 | pick=>exact G3
 | alloc=>exact Fi
 | box=>exact Kp
 | build=>exact Fj
 | buildSlice=>exact Kn
 | load=>exact G2
 | store=>exact Fm
 | nilCheck=>exact Kt
 | binOp=>exact Ko
 | unOp=>exact NZ
 | convert=>exact G1
 | makeFunc=>exact NY
 | slice=>exact Fl
 | fieldAddr=>exact NT
 | field=>exact NU
 | indexAddr=>exact NV
 | index=>exact Kr
 | extract=>exact Kq
 | call=>exact GZ
 | _=>exact trivial
end Go.Mir
namespace Go.Mir
open Go.RowKit
variable {P:Program} {tb:Tbl} {N K:Nat}
structure TmW (K:Nat) (e:En) (a b c d:U) (tm:TM):Prop where
 win :∀ i,(dB K e i a b c d tm).wf
 tm :∀ i,isK K i=true→((cE i).get tm).wf
structure TmR (K:Nat) (e:En) (a b c d:U) (tm:TM) (E:Env) (act:Act):Prop where
 win :∀ i,aa E (dB K e i a b c d tm).toV (act.tmps.getD i undef)
 tm :∀ i,isK K i=true→aa E ((cE i).get tm).toV (act.tmps.getD i undef)
structure RV (B:Base) (E0:Env) (n0 N K:Nat) (e:En) (a b c d:U) (tm:TM) (hp:HP) (nx:Nat) (E:Env) (act:Act):Prop where
 rel:HRel B E
 ext:Ext E0 E
 h:E.H=hpH hp
 u :∀ n,E.U n→E0.U n∨(n0≤n∧n<nx)
 le:n0≤nx
 tm:TmR K e a b c d tm E act
 size:act.tmps.size=N
 defers:act.defers=[]
abbrev WT (K:Nat) (tm:TM):Prop:=TmW K en0 u0 u0 u0 u0 tm
abbrev RX (B:Base) (E0:Env) (n0 N K:Nat) (tm:TM) (hp:HP) (nx:Nat) (E:Env) (act:Act):Prop:=RV B E0 n0 N K en0 u0 u0 u0 u0 tm hp nx E act
theorem sf {K i:Nat} (h:isK K i=true):i<512:=by
 unfold isK at h
 cases hb:Nat.ble (Nat.succ i) 512 with
 | true=>exact bh hb
 | false=>rw [hb] at h;cases h
theorem ij (i:Nat) (tm:TM):dB K en0 i u0 u0 u0 u0 tm=bif isK K i then (cE i).get tm else u0:=by
 unfold dB
 have:Nat.beq en0.e0 (Nat.succ i)=false:=rfl
 cases hk:isK K i <;> rfl
theorem kF {p:U→Prop} {e:En} {i dd:Nat} {u a b c d:U} {tm tm':TM} (h0:p u0) (hu:i=dd→p u) (hw:i≠dd→p (dB K e i a b c d tm)) (ht:i≠dd→isK K i=true→p ((cE i).get tm')):p (dB K ⟨Nat.succ dd,e.e0,e.e1,e.e2⟩ i u a b c tm'):=by
 by_cases e1:i=dd
 ·have:dB K ⟨Nat.succ dd,e.e0,e.e1,e.e2⟩ i u a b c tm'=u:=by
   unfold dB
   have:Nat.beq (Nat.succ dd) (Nat.succ i)=true:=by rw [e1];exact Nat.beq_refl _
   simp only [this]
  rw [this]
  exact hu e1
 ·have hw:=hw e1
  have ht:=ht e1
  unfold dB at hw ⊢
  have hb:Nat.beq (Nat.succ dd) (Nat.succ i)=false:=by
   cases hb:Nat.beq (Nat.succ dd) (Nat.succ i) with
   | false=>rfl
   | true=>exact absurd (Nat.succ.inj (ay hb)).symm e1
  simp only [hb]
  cases h1:Nat.beq e.e0 (Nat.succ i)
  case true=>rw [h1] at hw;exact hw
  rw [h1] at hw
  cases h2:Nat.beq e.e1 (Nat.succ i)
  case true=>rw [h2] at hw;exact hw
  rw [h2] at hw
  cases h3:Nat.beq e.e2 (Nat.succ i)
  case true=>rw [h3] at hw;exact hw
  cases h4:isK K i
  case true=>exact ht h4
  exact h0
theorem wL:u0.wf:=trivial
theorem nX {E:Env} {v:Value}:aa E u0.toV v:=by simp [u0,U.toV,aa]
theorem jA {K i j:Nat} (hi:isK K i=true) (hj:isK K j=true) (h:i≠j) (u:U) (tm:TM) :(cE j).get ((cE i).put u tm) =(cE j).get tm:=Dv (sf hi) (sf hj) h u tm
theorem jq {a:Act} {dd:Nat} (h:dd<a.tmps.size) (v:Value) :(a.put (some dd) v).tmps.getD dd undef=v:=by
 simp [Act.put,Array.getD_eq_getD_getElem?,h]
theorem eY {a:Act} {dd i:Nat} (h:i≠dd) (v:Value) :(a.put (some dd) v).tmps.getD i undef=a.tmps.getD i undef:=by
 simp [Act.put,Array.getD_eq_getD_getElem?,Array.getElem?_setIfInBounds_ne (Ne.symm h)]
theorem J2 {e:En} {dd:Nat} {u a b c d:U} {tm:TM} (h:TmW K e a b c d tm) (hu:u.wf):TmW K ⟨Nat.succ dd,e.e0,e.e1,e.e2⟩ u a b c tm:=
 ⟨fun i=>kF (p:=U.wf) (d:=d) (tm:=tm) wL (fun _=>hu) (fun _=>h.win i) (fun _ hk=>h.tm i hk),h.tm⟩
theorem J3 {e:En} {dd:Nat} (hd:isK K dd=true) {u a b c d:U} {tm:TM} (h:TmW K e a b c d tm) (hu:u.wf):TmW K ⟨Nat.succ dd,e.e0,e.e1,e.e2⟩ u a b c ((cE dd).put u tm):=by
 refine ⟨fun i=>kF (p:=U.wf) (d:=d) (tm:=tm) wL (fun _=>hu) (fun _=>h.win i) (fun hne hk=>?_),fun i hk=>?_⟩
 ·rw [jA hd hk (Ne.symm hne)];exact h.tm i hk
 ·by_cases e1:dd=i
  ·subst e1;rw [gO];exact hu
  ·rw [jA hd hk e1];exact h.tm i hk
theorem yK {e:En} {a b c d:U} {tm:TM} {E E':Env} {act:Act} (X:Ext E E') (h:TmR K e a b c d tm E act):TmR K e a b c d tm E' act:=
 ⟨fun i=>aK X _ _ (h.win i),fun i hk=>aK X _ _ (h.tm i hk)⟩
theorem J1 {e:En} {a b c d:U} {tm:TM} {E:Env} {act:Act} {v:Value} (h:TmR K e a b c d tm E act):TmR K e a b c d tm E (act.put none v):=h
theorem JZ {e:En} {dd:Nat} (hk0:isK K dd=false) {u a b c d:U} {tm:TM} {E:Env} {act:Act} (hd:dd<act.tmps.size) {v:Value} (h:TmR K e a b c d tm E act) (hu:aa E u.toV v):TmR K ⟨Nat.succ dd,e.e0,e.e1,e.e2⟩ u a b c tm E (act.put (some dd) v):=by
 refine ⟨fun i=>kF (p:=fun u=>aa E u.toV ((act.put (some dd) v).tmps.getD i undef)) (d:=d) (tm:=tm) nX (fun e1=>?_) (fun hne=>?_) (fun hne hk=>?_),fun i hk=>?_⟩
 ·rw [e1,jq hd];exact hu
 ·rw [eY hne];exact h.win i
 ·rw [eY hne];exact h.tm i hk
 ·have hne:i≠dd:=fun e1=>by rw [e1,hk0] at hk;cases hk
  rw [eY hne];exact h.tm i hk
theorem J0 {e:En} {dd:Nat} (hk0:isK K dd=true) {u a b c d:U} {tm:TM} {E:Env} {act:Act} (hd:dd<act.tmps.size) {v:Value} (h:TmR K e a b c d tm E act) (hu:aa E u.toV v):TmR K ⟨Nat.succ dd,e.e0,e.e1,e.e2⟩ u a b c ((cE dd).put u tm) E (act.put (some dd) v):=by
 refine ⟨fun i=>kF (p:=fun u=>aa E u.toV ((act.put (some dd) v).tmps.getD i undef)) (d:=d) (tm:=tm) nX (fun e1=>?_) (fun hne=>?_) (fun hne hk=>?_),fun i hk=>?_⟩
 ·rw [e1,jq hd];exact hu
 ·rw [eY hne];exact h.win i
 ·rw [eY hne,jA hk0 hk (Ne.symm hne)];exact h.tm i hk
 ·by_cases e1:dd=i
  ·subst e1;rw [gO,jq hd];exact hu
  ·rw [eY (Ne.symm e1),jA hk0 hk e1];exact h.tm i hk
theorem CY {e:En} {a b c d:U} {tm:TM} {E:Env} {act:Act} (h:TmR K e a b c d tm E act) (x:Operand):aa E (rdS K e x a b c d tm).toV (act.eval x):=by
 cases x with
 | tmp i=>exact h.win i
 | const v=>exact lg _ _ _ (gg v)
 | func f=>simp only [rdS,U.toV,aa,Act.eval];exact ⟨#[],rfl,by simp [ab]⟩
 | global i=>exact nX
theorem TmW.out {e:En} {a b c d:U} {tm:TM} (h:TmW K e a b c d tm):WT K tm:=by
 refine ⟨fun i=>?_,h.tm⟩
 rw [ij]
 cases hk:isK K i with
 | true=>exact h.tm i hk
 | false=>exact wL
theorem TmR.out {e:En} {a b c d:U} {tm:TM} {E:Env} {act:Act} (h:TmR K e a b c d tm E act):TmR K en0 u0 u0 u0 u0 tm E act:=by
 refine ⟨fun i=>?_,h.tm⟩
 rw [ij]
 cases hk:isK K i with
 | true=>exact h.tm i hk
 | false=>exact nX
theorem RV.out {B:Base} {E0:Env} {n0:Nat} {e:En} {a b c d:U} {tm:TM} {hp:HP} {nx:Nat} {E:Env} {act:Act} (h:RV B E0 n0 N K e a b c d tm hp nx E act):RX B E0 n0 N K tm hp nx E act:=
 ⟨h.rel,h.ext,h.h,h.u,h.le,h.tm.out,h.size,h.defers⟩
def wR (P:Program) (g:FuncId) (args:List U) (u:U):Prop:=∀ (E:Env) (av:List Value),ab E (args.map U.toV) av→∃ v',aa E u.toV v'∧
 ∀ (o:Oper) (c:Call) (f:Operand) (l:Array Value) (a:Act) (next:Act→World→Prop) (Q:Exit→Act→World→Prop),o.op = .call c→c.callee = .value f→a.eval f = .func (.func g) #[] l→av=c.args.toList.map a.eval++l.toList→
  next (a.put o.dst v') E.w→o.wp P a E.w next Q
structure FnV (P:Program) (g:FuncId) (args:List U) (hp:HP) (nx:Nat) (u:U) (hp':HP) (nx':Nat):Prop where
 fn :∃ fn,P.funcs[g]?=some fn∧fn.body.isSome=true∧(fn.name == "runtime.NumGoroutine")=false
 le:nx≤nx'
 wf:u.wf
 hw:hpW hp'
 calls :∀ (B:Base) (E:Env) (av:List Value),HRel B E→E.H=hpH hp→ab E (args.map U.toV) av→(∀ n,nx≤n→n<nx'→¬ E.U n)→
  Calls P g av.toArray E.w fun e w'=>∃ E' v',e = .returned v'∧Came B E (hpH hp') nx nx' u.toV v' w' E'
structure CallVOK (P:Program) (call:eM):Prop where
 ok :∀ g args hp nx u hp' nx',(∀ x∈args,x.wf)→hpW hp→call g args hp nx = .ok u hp' nx'→FnV P g args hp nx u hp' nx'
 ex :∀ g args hp nx u hp' nx',(∀ x∈args,x.wf)→call g args hp nx = .ex u hp' nx'→hp'=hp∧nx'=nx∧u.wf∧wR P g args u
theorem LU (v:V):VLe v (jy v):=fun _ _ h=>la h
theorem BE {E:Env} :∀ {cs:List V} {l:List Value},ab E cs l→ab E (cs.map jy) l
 | [],[],_=>by simp [ab]
 | [],_::_,h=>by simp [ab] at h
 | _::_,[],h=>by simp [ab] at h
 | _::_,_::_,h=>by simp only [List.map_cons,ab] at h ⊢;exact ⟨la h.1,BE h.2⟩
theorem yW (cs:List V):VLe (.agg cs) (.agg (cs.map jy)):=fun _ _ h=>by
 simp only [aa] at h ⊢
 obtain ⟨l,h1,h2⟩:=h
 exact ⟨l,h1,BE h2⟩
theorem Co (v:V):VLe v (kbV v):=by
 cases v with
 | agg cs=>exact yW cs
 | tup vs=>
  intro E x h
  simp only [kbV,aa] at h ⊢
  obtain ⟨l,h1,h2⟩:=h
  refine ⟨l,h1,?_⟩
  revert h2
  generalize l.toList=us
  induction vs generalizing us with
  | nil=>exact id
  | cons v vs ih=>
   cases us with
   | nil=>intro h;simp [ab] at h
   | cons u us=>
    intro h
    simp only [List.map_cons,ab] at h ⊢
    refine ⟨?_,ih us h.2⟩
    have h:=h.1
    cases v <;> first|exact yW _ _ _ h|exact la h
 | _=>exact LU _
abbrev Wp:=(Exit→Act→World→Prop)→Act→World→Prop
structure EndsV (N K:Nat) (e:En) (a b c d:U) (tm:TM) (hp:HP) (nx:Nat) (l:Lf) (tm':TM) (hp':HP) (nx':Nat) (W:Wp):Prop where
 l:l = .nrm
 le:nx≤nx'
 wt:WT K tm'
 hw:hpW hp'
 wp :∀ (B:Base) (E0:Env) (n0:Nat) (Q:Exit→Act→World→Prop) (E:Env) (act:Act),(∀ n,n0≤n→n<nx'→¬ E0.U n)→(∀ E act,RX B E0 n0 N K tm' hp' nx' E act→Q .normal act E.w)→RV B E0 n0 N K e a b c d tm hp nx E act→W Q act E.w
def p0 (N K:Nat) (call:eM) (X:Cds) (e:En) (W:Wp):Prop:=∀ (a b c d:U) (tm:TM) (hp:HP) (nx:Nat) (l:Lf) (tm':TM) (hp':HP) (nx':Nat),TmW K e a b c d tm→hpW hp→X.run a b c d call tm hp nx = .go l tm' hp' nx'→EndsV N K e a b c d tm hp nx l tm' hp' nx' W
structure PostV (N K:Nat) (e:En) (a b c d:U) (tm:TM) (dst:Option Nat) (u:U) (hp1:HP) (nx1:Nat) (l:Lf) (tm':TM) (hp':HP) (nx':Nat) (W:Wp):Prop where
 l:l = .nrm
 le:nx1≤nx'
 wt:WT K tm'
 hw:hpW hp'
 wp :∀ (B:Base) (E0:Env) (n0:Nat) (Q:Exit→Act→World→Prop) (E:Env) (act:Act) (hp:HP) (nx:Nat) (E':Env) (v':Value),(∀ n,n0≤n→n<nx'→¬ E0.U n)→(∀ E act,RX B E0 n0 N K tm' hp' nx' E act→Q .normal act E.w)→RV B E0 n0 N K e a b c d tm hp nx E act→
  nx≤nx1→HRel B E'→Ext E E'→E'.H=hpH hp1→(∀ n,E'.U n→E.U n∨(nx≤n∧n<nx1))→aa E' u.toV v'→W Q (act.put dst v') E'.w
theorem mK {call:eM} {nxt:Cds} {e:En} {dst:Option Nat} {W:Wp} (hn:p0 N K call nxt (enS e dst) W) (hd:dstIn N dst=true) {a b c d:U} {tm:TM} {u:U} {hp1:HP} {nx1:Nat} {l:Lf} {tm':TM} {hp':HP} {nx':Nat} (Wt:TmW K e a b c d tm) (hu:u.wf) (Wh:hpW hp1)
  (h:jQ (dkS K dst) nxt u a b c d call tm hp1 nx1 = .go l tm' hp' nx'):PostV N K e a b c d tm dst u hp1 nx1 l tm' hp' nx' W:=by
 have mk :∀ {B:Base} {E0:Env} {n0:Nat} {E:Env} {act:Act} {hp:HP} {nx:Nat} {E':Env} {v':Value} {e2:En} {a2 b2 c2 d2:U} {tm2:TM},RV B E0 n0 N K e a b c d tm hp nx E act→nx≤nx1→HRel B E'→Ext E E'→E'.H=hpH hp1→(∀ n,E'.U n→E.U n∨(nx≤n∧n<nx1))→
   TmR K e2 a2 b2 c2 d2 tm2 E' (act.put dst v')→RV B E0 n0 N K e2 a2 b2 c2 d2 tm2 hp1 nx1 E' (act.put dst v'):=fun {B E0 n0 E act hp nx E' v' e2 a2 b2 c2 d2 tm2} hR hle hE hX hH hU hT=>by
  have hle0:=hR.le
  refine ⟨hE,hR.ext.trans hX,hH,fun n hn=>?_,Nat.le_trans hle0 hle,hT,by rw [ma];exact hR.size,by rw [iB];exact hR.defers⟩
  rcases hU n hn with h|h
  ·rcases hR.u n h with h|h
   ·exact .inl h
   ·exact .inr ⟨h.1,by have:=h.2;omega⟩
  ·exact .inr ⟨by omega,h.2⟩
 cases dst with
 | none=>
  have:=hn a b c d tm hp1 nx1 l tm' hp' nx' Wt Wh h
  exact ⟨this.l,this.le,this.wt,this.hw,fun B E0 n0 Q E act hp nx E' v' hfr hQ hR hle hE hX hH hU hv=>this.wp B E0 n0 Q E' _ hfr hQ (mk hR hle hE hX hH hU (J1 (yK hX hR.tm)))⟩
 | some dd=>
  have hdn:dd<N:=by have h:Nat.blt dd N=true:=hd;rw [Nat.blt_eq] at h;exact h
  cases hk:isK K dd with
  | false=>
   have h1:Cds.run nxt u a b c call tm hp1 nx1 = .go l tm' hp' nx':=by
    have:dkS K (some dd) = .drop:=by show Bool.rec (motive:=fun _=>DK) _ _ (isK K dd)=_;rw [hk]
    rw [this] at h
    exact h
   have:=hn u a b c tm hp1 nx1 l tm' hp' nx' (J2 Wt hu) Wh h1
   exact ⟨this.l,this.le,this.wt,this.hw,fun B E0 n0 Q E act hp nx E' v' hfr hQ hR hle hE hX hH hU hv=>this.wp B E0 n0 Q E' _ hfr hQ (mk hR hle hE hX hH hU (JZ hk (by rw [hR.size];exact hdn) (yK hX hR.tm) hv))⟩
  | true=>
   have h1:Cds.run nxt u a b c call ((cE dd).put u tm) hp1 nx1 = .go l tm' hp' nx':=by
    have:dkS K (some dd) = .keep (cE dd).put:=by show Bool.rec (motive:=fun _=>DK) _ _ (isK K dd)=_;rw [hk]
    rw [this] at h
    exact h
   have:=hn u a b c ((cE dd).put u tm) hp1 nx1 l tm' hp' nx' (J3 hk Wt hu) Wh h1
   exact ⟨this.l,this.le,this.wt,this.hw,fun B E0 n0 Q E act hp nx E' v' hfr hQ hR hle hE hX hH hU hv=>this.wp B E0 n0 Q E' _ hfr hQ (mk hR hle hE hX hH hU (J0 hk (by rw [hR.size];exact hdn) (yK hX hR.tm) hv))⟩
theorem kW :∀ {dh:List (Nat×Blk)} {hp hp':HP},hpW hp→tj dh hp=some hp'→hpH hp'=ak (hpH hp) dh∧hpW hp'
 | [],hp,hp',W,h=>by cases h;exact ⟨rfl,W⟩
 |(q,b)::r,hp,hp',W,h=>by
  unfold tj at h
  split at h
  case h_2=>cases h
  rename_i hp1 h1
  obtain ⟨e1,W1⟩:=kW W h1
  cases hq:Nat.ble (Nat.succ q) K4 with
  | false=>rw [hq] at h;cases h
  | true=>
   have hq:q<262144:=bh hq
   have key :∀ (b':Bk) (b:Blk),b'.toB=some b→b'.wf→hpH (dy hp1 q b')=ak (hpH hp) ((q,b)::r)∧hpW (dy hp1 q b'):=fun b' b hb hw=>by
    refine ⟨?_,fZ W1 hq hw⟩
    rw [fY hq hb,e1]
    funext k
    simp only [ak,find]
    cases Nat.beq q k <;> rfl
   rw [‹Nat.ble (Nat.succ q) K4=true›] at h
   simp only [cond_true] at h
   split at h
   ·rename_i cs
    cases ho:gj cs with
    | false=>rw [ho] at h;cases h
    | true=>
     rw [ho] at h
     cases h
     have hc:=CsR.ofL ho
     exact key _ _ (by show some (Blk.cells (toL _ _))=_;rw [hc.toL]) ⟨_,hc⟩
   ·rename_i v e cs
    cases ho:gj cs with
    | false=>rw [ho] at h;cases h
    | true=>
     rw [ho] at h
     cases h
     have hc:=CsR.ofL ho
     exact key _ _ (by show some (Blk.grow _ _ (toL _ _))=_;rw [hc.toL]) ⟨_,hc⟩
   ·cases h
    exact key _ _ rfl trivial
   ·cases h
   ·cases h
section
variable {call:eM} {all:List Oper}
abbrev opW (P:Program) (o:Oper) (W:Wp):Wp:=fun Q act w=>o.wp P act w (fun act w=>W Q act w) Q
theorem tM (hT:bc P tb) {o:Oper} {e:En} {a b c d:U} {tm:TM} {hp:HP} {nx:Nat} {u:U} {hp1:HP} {l:Lf} {tm':TM} {hp':HP} {nx':Nat} {W:Wp} (hv:ValOK tb N (fun x=>(rdS K e x a b c d tm).toV) o.op hp nx u hp1)
  (hq:PostV N K e a b c d tm o.dst u hp1 (Nat.succ nx) l tm' hp' nx' W):EndsV N K e a b c d tm hp nx l tm' hp' nx' (opW P o W):=by
 obtain ⟨ps,v,dh,h1,h2,h3,h4⟩:=hv.ex
 have hle:=hq.le
 refine ⟨hq.l,by omega,hq.wt,hq.hw,fun B E0 n0 Q E act hfr hQ hR=>?_⟩
 have hle0:=hR.le
 have hH:=hR.h
 rw [←hH] at h1
 refine dH (C:=⟨tb,fun _=>none,1,N⟩) hR.rel hT (Nat.le_refl _) (fun _ _ h=>by cases h) (fun n k1 k2 hu=>?_) (CY hR.tm) h1 h2 (fun v' E' G hv'=>?_)
 ·have k2:n<nx+1:=k2
  rcases hR.u n hu with h|h
  ·exact hfr n (by omega) (by omega) h
  ·have:=h.2;omega
 ·exact hq.wp B E0 n0 Q E act _ nx E' v' hfr hQ hR (Nat.le_succ nx) G.rel G.ext (by rw [G.h,hH,h4]) (fun n hn=>by
   rcases G.u n hn with h|h
   ·exact .inl h
   ·exact .inr h) (h3 E' v' hv')
theorem Gq (hT:bc P tb) {o:Oper} {e:En} {nxt:Cds} {W:Wp} (hn:p0 N K call nxt (enS e o.dst) W) (hd:dstIn N o.dst=true):p0 N K call ⟨oO tb N K e o.op (dkS K o.dst) nxt⟩ e (opW P o W):=by
 intro a b c d tm hp nx l tm' hp' nx' Wt Wh h
 have h:bQ nx (fun nx=>match rB tb N nx (hpH hp) (fun x=>(rdS K e x a b c d tm).toV) o.op with
 | some (ps,v,dh)=>match Ml ps with
  | true=>match tj dh hp with
   | some hp=>jQ (dkS K o.dst) nxt (ko (kbV v)) a b c d call tm hp (Nat.succ nx)
   | none=> .no [104]
  | false=> .no [100]
 | none=> .no [101]) = .go l tm' hp' nx':=by
  simp only [oO,MW,cG] at h ⊢
  exact h
 rw [cG] at h
 split at h
 case h_2=>cases h
 rename_i ps v dh hev
 split at h
 case h_2=>cases h
 rename_i hobs
 split at h
 case h_2=>cases h
 rename_i hp1 hs
 obtain ⟨e1,W1⟩:=kW Wh hs
 have hps :∀ p∈ps,p.holds:=fun p hp=>by
  cases ps with
  | nil=>cases hp
  | cons q qs=>
   have :(q::qs).all Ob.chk=true:=hobs
   exact Ob.chk_holds (List.all_eq_true.1 this p hp)
 exact tM hT ⟨⟨ps,v,dh,pg _ _ _ _ _ _ hev,hps,(Co v).trans (lg _),e1⟩,lh _,W1⟩ (mK hn hd Wt (lh _) W1 h)
theorem JS (hT:bc P tb) (hcall:CallVOK P call) {o:Oper} {e:En} {nxt:Cds} {W:Wp} (hn:p0 N K call nxt (enS e o.dst) W) (hd:dstIn N o.dst=true):p0 N K call (yH tb N K e o.op (dkS K o.dst) nxt (cmp K e tb o.op)) e (opW P o W):=by
 have hst:=N1 (tb:=tb) (N:=N) (K:=K) (e:=e) o.op
 have hsl:=Gq (P:=P) (call:=call) (e:=e) hT hn hd
 generalize cmp K e tb o.op=s at hst
 cases s with
 | slow=>exact hsl
 | val f=>
  intro a b c d tm hp nx l tm' hp' nx' Wt Wh h
  have h:f a b c d tm hp nx (fun u=>jQ (dkS K o.dst) nxt u a b c d call tm hp (Nat.succ nx)) (oO tb N K e o.op (dkS K o.dst) nxt a b c d call tm hp nx) = .go l tm' hp' nx':=by
   unfold yH at h
   cases hdk:dkS K o.dst <;>(rw [hdk] at h;exact h)
  revert h
  refine hst a b c d tm hp nx (fun r=>r = .go l tm' hp' nx'→EndsV N K e a b c d tm hp nx l tm' hp' nx' (opW P o W)) _ _ Wt.win Wh (hsl a b c d tm hp nx l tm' hp' nx' Wt Wh) (fun u hv h=>?_)
  exact tM hT hv (mK hn hd Wt hv.wf hv.hw h)
 | mem f=>
  intro a b c d tm hp nx l tm' hp' nx' Wt Wh h
  revert h
  refine hst a b c d tm hp nx (fun r=>r = .go l tm' hp' nx'→EndsV N K e a b c d tm hp nx l tm' hp' nx' (opW P o W)) _ _ Wt.win Wh (hsl a b c d tm hp nx l tm' hp' nx' Wt Wh) (fun u hp1 hv h=>?_)
  exact tM hT hv (mK hn hd Wt hv.wf hv.hw h)
 | cal f=>
  intro a b c d tm hp nx l tm' hp' nx' Wt Wh h
  revert h
  refine hst a b c d tm (fun r=>r = .go l tm' hp' nx'→EndsV N K e a b c d tm hp nx l tm' hp' nx' (opW P o W)) _ _ Wt.win (hsl a b c d tm hp nx l tm' hp' nx' Wt Wh) (fun g args hv h=>?_)
  obtain ⟨q,f,caps,ho,hf,hg,hpl,hargs⟩:=hv.ex
  have av :∀ {E:Env} {act:Act},TmR K e a b c d tm E act→∃ l:Array Value,act.eval f = .func (.func g) #[] l∧ab E (args.map U.toV) (q.args.toList.map act.eval++l.toList):=fun {E act} hR=>by
   have hfv:=CY hR f
   rw [hg] at hfv
   simp only [aa] at hfv
   obtain ⟨l,hfe,hl⟩:=hfv
   rw [Jg hpl hl] at hfe
   exact ⟨l,hfe,hargs E _ (bg (fh _ _ (CY hR) _) hl)⟩
  cases hc:call g args hp nx with
  | no w=>rw [hc] at h;cases h
  | ok u hp1 nx1=>
   rw [hc] at h
   have F:=hcall.ok g args hp nx u hp1 nx1 hv.wf Wh hc
   have hp2:=mK hn hd Wt F.wf F.hw (show jQ (dkS K o.dst) nxt u a b c d call tm hp1 nx1 = .go l tm' hp' nx' from h)
   have hle1:=F.le
   have hle2:=hp2.le
   refine ⟨hp2.l,by omega,hp2.wt,hp2.hw,fun B E0 n0 Q E act hfr hQ hR=>?_⟩
   obtain ⟨l,hfe,hav⟩:=av hR.tm
   have hle0:=hR.le
   refine Ku ho hf hfe F.fn (F.calls B E _ hR.rel hR.h hav (fun n h3 h4 hu=>?_)) (fun e w' hh=>?_)
   ·rcases hR.u n hu with h|h
    ·exact hfr n (by omega) (by omega) h
    ·have:=h.2;omega
   ·obtain ⟨E',v',rfl,C⟩:=hh
    refine ⟨v',rfl,?_⟩
    have:=hp2.wp B E0 n0 Q E act hp nx E' v' hfr hQ hR (by omega) C.rel C.ext C.h (fun n hn=>by
     rcases C.u n hn with h|h
     ·exact .inl h
     ·exact .inr ⟨h.1,by have:=h.2;omega⟩) C.v
    rw [C.w] at this
    exact this
  | ex u hp1 nx1=>
   rw [hc] at h
   obtain ⟨rfl,rfl,hu,hx⟩:=hcall.ex g args hp nx u hp1 nx1 hv.wf hc
   have hp2:=mK hn hd Wt hu Wh (show jQ (dkS K o.dst) nxt u a b c d call tm hp1 nx1 = .go l tm' hp' nx' from h)
   have hle2:=hp2.le
   refine ⟨hp2.l,by omega,hp2.wt,hp2.hw,fun B E0 n0 Q E act hfr hQ hR=>?_⟩
   obtain ⟨l,hfe,hav⟩:=av hR.tm
   obtain ⟨v',hv',hcan⟩:=hx E _ hav
   exact hcan o q f l act _ Q ho hf hfe rfl (hp2.wp B E0 n0 Q E act hp1 nx1 E v' hfr hQ hR (Nat.le_refl _) hR.rel (Ext.refl E) hR.h (fun n hn=> .inl hn) hv')
theorem HD {e:En} {i:Nat} {k:Gt→Cds}:HC K e i k=k (dB K e i):=by
 unfold HC dB
 cases Nat.beq e.e0 (Nat.succ i)
 case true=>rfl
 cases Nat.beq e.e1 (Nat.succ i)
 case true=>rfl
 cases Nat.beq e.e2 (Nat.succ i)
 case true=>rfl
 cases Nat.beq e.e3 (Nat.succ i)
 case true=>rfl
 cases isK K i
 case true=>rfl
 rfl
theorem QW {e:En} {a b c d:U} {tm:TM} {E:Env} {act:Act} (hR:TmR K e a b c d tm E act) {o:Oper} {q:Nat×Bool} (hg:o.guard=some q) {dj:Nat} (hj:Hv all q.1=some dj) {r:Bool} (h :(match (dB K e dj a b c d tm).toV with | .kb b=>some (b==q.2) | .tup []=>some false|_=>none:Option Bool)=some r):Region.wanted o (yielded all.toArray act.tmps)=r:=by
 refine lS (E:=E) (T:=fun s=>(dB K e s a b c d tm).toV) hR.win ?_
 unfold Hv at hj
 obtain ⟨j,want⟩:=q
 rw [hg]
 simp only at hj ⊢
 cases hx:all[j]? with
 | none=>rw [hx] at hj;cases hj
 | some oj=>
  rw [hx] at hj
  simp only at hj ⊢
  rw [hj]
  exact h
theorem Ja (hT:bc P tb) (hcall:CallVOK P call) {o:Oper} {rest:List Oper} {e:En} {nxt:Cds} (hn:p0 N K call nxt (enS e o.dst) (fun Q act w=>wpList P all.toArray Q rest act w)) (hd:dstIn N o.dst=true):p0 N K call (Pn tb N K all e o (dkS K o.dst) nxt) e (fun Q act w=>wpList P all.toArray Q (o::rest) act w):=by
 have hst:=JS (P:=P) (e:=e) hT hcall hn hd
 unfold Pn
 cases hg:o.guard with
 | none=>
  intro a b c d tm hp nx l tm' hp' nx' Wt Wh h
  have:=hst a b c d tm hp nx l tm' hp' nx' Wt Wh h
  refine ⟨this.l,this.le,this.wt,this.hw,fun B E0 n0 Q E act hfr hQ hR=>?_⟩
  unfold wpList
  have hw:Region.wanted o (yielded all.toArray act.tmps)=true:=by unfold Region.wanted;rw [hg]
  rw [hw]
  simp only [if_true]
  exact .inl (this.wp B E0 n0 Q E act hfr hQ hR)
 | some q=>
  intro a b c d tm hp nx l tm' hp' nx' Wt Wh h
  have h:Cds.run (Option.rec (motive:=fun _=>Cds) QD (fun dj=>gdC K e dj q.2 (dkS K o.dst) nxt (yH tb N K e o.op (dkS K o.dst) nxt (cmp K e tb o.op))) (Hv all q.1)) a b c d call tm hp nx = .go l tm' hp' nx':=h
  cases hj:Hv all q.1 with
  | none=>
   rw [hj] at h
   cases h
  | some dj=>
   rw [hj] at h
   have run :(∀ {E:Env} {act:Act},TmR K e a b c d tm E act→Region.wanted o (yielded all.toArray act.tmps)=true)→Cds.run (yH tb N K e o.op (dkS K o.dst) nxt (cmp K e tb o.op)) a b c d call tm hp nx = .go l tm' hp' nx'→EndsV N K e a b c d tm hp nx l tm' hp' nx' (fun Q act w=>wpList P all.toArray Q (o::rest) act w):=fun hw h=>by
    have:=hst a b c d tm hp nx l tm' hp' nx' Wt Wh h
    refine ⟨this.l,this.le,this.wt,this.hw,fun B E0 n0 Q E act hfr hQ hR=>?_⟩
    unfold wpList
    rw [hw hR.tm]
    simp only [if_true]
    exact .inl (this.wp B E0 n0 Q E act hfr hQ hR)
   have skip :(∀ {E:Env} {act:Act},TmR K e a b c d tm E act→Region.wanted o (yielded all.toArray act.tmps)=false)→jQ (dkS K o.dst) nxt (.tup []) a b c d call tm hp nx = .go l tm' hp' nx'→EndsV N K e a b c d tm hp nx l tm' hp' nx' (fun Q act w=>wpList P all.toArray Q (o::rest) act w):=fun hw h=>by
    have:=mK hn hd Wt (show (U.tup []).wf from fun w hw=>by cases hw) Wh h
    refine ⟨this.l,this.le,this.wt,this.hw,fun B E0 n0 Q E act hfr hQ hR=>?_⟩
    unfold wpList
    rw [hw hR.tm]
    simp only [Bool.false_eq_true,if_false]
    exact this.wp B E0 n0 Q E act hp nx E undef hfr hQ hR (Nat.le_refl _) hR.rel (Ext.refl E) hR.h (fun n hn=> .inl hn) (by simp [U.toV,aa,undef,ab])
   have h:Cds.run (gdC K e dj q.2 (dkS K o.dst) nxt (yH tb N K e o.op (dkS K o.dst) nxt (cmp K e tb o.op))) a b c d call tm hp nx = .go l tm' hp' nx':=h
   unfold gdC at h
   rw [HD] at h
   have gw :∀ r:Bool,(match (dB K e dj a b c d tm).toV with | .kb b=>some (b==q.2) | .tup []=>some false|_=>none:Option Bool)=some r→∀ {E:Env} {act:Act},TmR K e a b c d tm E act→Region.wanted o (yielded all.toArray act.tmps)=r:=fun r h {E act} hR=>QW hR hg hj h
   cases hq:q.2 with
   | true=>
    rw [hq] at h gw
    have h:RW (dB K e dj a b c d tm) (Cds.run (yH tb N K e o.op (dkS K o.dst) nxt (cmp K e tb o.op)) a b c d call tm hp nx) (jQ (dkS K o.dst) nxt (.tup []) a b c d call tm hp nx) (.no [105]) = .go l tm' hp' nx':=h
    cases hu:dB K e dj a b c d tm with
    | kb p=>
     rw [hu] at h gw
     cases p with
     | true=>exact run (gw true rfl) h
     | false=>exact skip (gw false rfl) h
    | tup ws=>
     rw [hu] at h gw
     cases ws with
     | nil=>exact skip (gw false rfl) h
     | cons _ _=>cases h
    | _=>rw [hu] at h;cases h
   | false=>
    rw [hq] at h gw
    have h:RU (dB K e dj a b c d tm) (Cds.run (yH tb N K e o.op (dkS K o.dst) nxt (cmp K e tb o.op)) a b c d call tm hp nx) (jQ (dkS K o.dst) nxt (.tup []) a b c d call tm hp nx) (.no [105]) = .go l tm' hp' nx':=h
    cases hu:dB K e dj a b c d tm with
    | kb p=>
     rw [hu] at h gw
     cases p with
     | true=>exact skip (gw false rfl) h
     | false=>exact run (gw true rfl) h
    | tup ws=>
     rw [hu] at h gw
     cases ws with
     | nil=>exact skip (gw false rfl) h
     | cons _ _=>cases h
    | _=>rw [hu] at h;cases h
theorem AM (hT:bc P tb) (hcall:CallVOK P call) :∀ (rest:List Oper) (e:En),(∀ o∈rest,dstIn N o.dst=true)→p0 N K call (Rq tb N K all rest e) e (fun Q act w=>wpList P all.toArray Q rest act w)
 | [],e,_=>by
  intro a b c d tm hp nx l tm' hp' nx' Wt Wh h
  have h:Rv.go .nrm tm hp nx = .go l tm' hp' nx':=h
  cases h
  exact ⟨rfl,Nat.le_refl _,Wt.out,Wh,fun B E0 n0 Q E act hfr hQ hR=>wpList_nil (hQ E act hR.out)⟩
 | o::rest,e,hd=>Ja hT hcall (AM hT hcall rest (enS e o.dst) (fun o ho=>hd o (List.mem_cons_of_mem _ ho))) (hd o List.mem_cons_self)
end
end Go.Mir
namespace Go.Mir
open Go.RowKit
variable {P:Program} {tb:Tbl} {N K:Nat}
theorem nC :∀ (l:List Nat) (k:List Nat→Rv),iR l k=k l
 | [],_=>rfl
 | n::r,k=>by simp only [iR,cG,nC r]
noncomputable def tmL (K:Nat) (tm:TM):Nat→List (Nat×V)
 | 0=> []
 | n+1=>bif isK K n then (n,((cE n).get tm).toV)::tmL K tm n else tmL K tm n
theorem rT (tm:TM) (s:Nat) :∀ n,find (tmL K tm n) s=if s<n∧isK K s=true then some ((cE s).get tm).toV else none
 | 0=>by rw [if_neg (by omega)];rfl
 | n+1=>by
  simp only [tmL]
  cases hk:isK K n with
  | false=>
   rw [cond_false,rT tm s n]
   by_cases h:s<n∧isK K s=true
   ·rw [if_pos h,if_pos ⟨by omega,h.2⟩]
   ·rw [if_neg h,if_neg (fun e=>by
     by_cases e1:s=n
     ·rw [e1,hk] at e;cases e.2
     ·exact h ⟨by omega,e.2⟩)]
  | true=>
   simp only [cond_true,find]
   cases hb:Nat.beq n s with
   | true=>
    have e1:=ay hb
    subst e1
    rw [cond_true,if_pos ⟨by omega,hk⟩]
   | false=>
    have hne:n≠s:=fun e=>by subst e;rw [Nat.beq_refl] at hb;cases hb
    rw [cond_false,rT tm s n]
    by_cases h:s<n∧isK K s=true
    ·rw [if_pos h,if_pos ⟨by omega,h.2⟩]
    ·rw [if_neg h,if_neg (fun e=>h ⟨by omega,e.2⟩)]
def FL (K:Nat) (tm:TM) (L:List (Nat×V)):Prop:=∀ s,find L s=if isK K s=true then some ((cE s).get tm).toV else none
theorem wT (tm:TM):FL K tm (tmL K tm 512):=fun s=>by
 rw [rT]
 by_cases h:isK K s=true
 ·rw [if_pos ⟨sf h,h⟩,if_pos h]
 ·rw [if_neg (fun e=>h e.2),if_neg h]
theorem FL.look {tm:TM} {L:List (Nat×V)} (h:FL K tm L) (s:Nat):cC L s=vN K tm s:=by
 unfold cC vN
 rw [h s,ij]
 by_cases hk:isK K s=true
 ·rw [if_pos hk,hk];rfl
 ·have:isK K s=false:=by simpa using hk
  rw [if_neg hk,this]
  rfl
theorem ki (tm:TM) (i:Nat) (u:U):tH tm i u =(cE i).put u tm:=rfl
theorem FL.put {tm:TM} {L:List (Nat×V)} (h:FL K tm L) {d:Option Nat} (hd:zj N K d=true) {u:U} {v:V} (hv:u.toV=v):FL K (l9 d u tm) (cg d v++L):=by
 cases d with
 | none=>exact h
 | some dd=>
  have hk:isK K dd=true:=by
   unfold zj at hd
   rw [Bool.and_eq_true] at hd
   exact hd.2
  intro s
  simp only [cg,List.singleton_append,find,l9,ki]
  cases hb:Nat.beq dd s with
  | true=>
   have e1:=ay hb
   subst e1
   rw [cond_true,if_pos hk,gO,hv]
  | false=>
   have hne:dd≠s:=fun e=>by subst e;rw [Nat.beq_refl] at hb;cases hb
   rw [cond_false,h s]
   by_cases hs:isK K s=true
   ·rw [if_pos hs,if_pos hs,jA hk hs hne]
   ·rw [if_neg hs,if_neg hs]
def KW (K:Nat) (tm:TM):Prop:=∀ i,isK K i=true→((cE i).get tm).wf
theorem KW.put {tm:TM} (h:KW K tm) {d:Option Nat} (hd:zj N K d=true) {u:U} (hu:u.wf):KW K (l9 d u tm):=by
 cases d with
 | none=>exact h
 | some dd=>
  have hk:isK K dd=true:=by
   unfold zj at hd
   rw [Bool.and_eq_true] at hd
   exact hd.2
  intro i hi
  show ((cE i).get (tH tm dd u)).wf
  rw [ki]
  by_cases e1:dd=i
  ·subst e1;rw [gO];exact hu
  ·rw [jA hk hi e1];exact h i hi
theorem KW.wt {tm:TM} (h:KW K tm):WT K tm:=by
 refine ⟨fun i=>?_,h⟩
 rw [ij]
 cases hk:isK K i with
 | true=>exact h i hk
 | false=>exact wL
theorem Ky {d:Option Nat} (h:zj N K d=true):dstIn N d=true:=by
 cases d with
 | none=>rfl
 | some dd=>
  unfold zj at h
  rw [Bool.and_eq_true] at h
  exact h.1
theorem jJ {all:List Oper} {L:List (Nat×V)} {tm:TM} (h :∀ s,cC L s=vN K tm s) (o:Oper):fv all L o=Ch K all tm o:=by
 unfold fv Ch
 cases o.guard with
 | none=>rfl
 | some q=>
  simp only
  cases all[q.1]? with
  | none=>rfl
  | some oj=>
   simp only
   cases oj.dst with
   | none=>rfl
   | some dj=>simp only;rw [h];rfl
theorem Ig {rs:List Nat} {L:List (Nat×V)} {tm:TM} (h :∀ s,cC L s=vN K tm s):ba rs L=fc K rs tm:=by
 funext x
 cases x <;> simp only [ba,fc]
 rw [h]
theorem J9 {v:V} {w:W} (h:wEx v=some w):w.toV=v∧w.wf:=by
 cases v with
 | agg cs=>
  have h :(Bool.rec (motive:=fun _=>Option W) none (some (.agg (ofL cs) cs.length)) (gj cs):Option W)=some w:=h
  cases ho:gj cs with
  | false=>rw [ho] at h;cases h
  | true=>
   rw [ho] at h
   cases h
   have hc:=CsR.ofL ho
   exact ⟨by show V.agg (toL _ _)=_;rw [hc.toL],⟨_,hc⟩⟩
 | tup vs=>cases h
 | _=>cases h;exact ⟨rfl,trivial⟩
theorem wN :∀ {vs:List V} {l:List W},Ka vs=some l→l.map W.toV=vs∧∀ w∈l,w.wf
 | [],l,h=>by cases h;exact ⟨rfl,fun w hw=>by cases hw⟩
 | v::vs,l,h=>by
  simp only [Ka] at h
  split at h
  case h_2=>cases h
  rename_i w hw
  split at h
  case h_2=>cases h
  rename_i l' hl
  cases h
  obtain ⟨h1,h2⟩:=J9 hw
  obtain ⟨h3,h4⟩:=wN hl
  refine ⟨by rw [List.map_cons,h1,h3],fun x hx=>?_⟩
  rcases List.mem_cons.1 hx with rfl|hx
  ·exact h2
  ·exact h4 x hx
theorem tK {v:V} {u:U} (h:uEx v=some u):u.toV=jy v∧u.wf:=by
 cases v with
 | agg cs=>
  have h :(Bool.rec (motive:=fun _=>Option U) none (some (.agg (ofL cs) cs.length)) (gj cs):Option U)=some u:=h
  cases ho:gj cs with
  | false=>rw [ho] at h;cases h
  | true=>
   rw [ho] at h
   cases h
   have hc:=CsR.ofL ho
   exact ⟨by show V.agg (toL _ _)=_;rw [hc.toL];rfl,⟨_,hc⟩⟩
 | tup vs=>
  have h :(match Ka vs with|some l=>some (U.tup l)|none=>none:Option U)=some u:=h
  split at h
  case h_2=>cases h
  rename_i l hl
  cases h
  obtain ⟨h1,h2⟩:=wN hl
  exact ⟨by show V.tup (l.map W.toV)=_;rw [h1];rfl,h2⟩
 | _=>cases h;exact ⟨rfl,trivial⟩
theorem Fb {hp:HP} {h:Nat} (hl :¬ h<262144) (b:Bk):dy hp h b=hp:=by rw [nt,Dw hl]
theorem sV {hp:HP} (j:Nat) :∀ (R:List Nat) (t:HP),bd (sU hp R t) j=if j∈R then bd hp j else bd t j
 | [],t=>by simp [sU]
 | h::R,t=>by
  simp only [sU]
  rw [sV j R]
  by_cases e:j∈R
  ·simp [e]
  ·rw [if_neg e]
   by_cases e2:j=h
   ·subst e2
    rw [if_pos List.mem_cons_self]
    by_cases hl:j<262144
    ·rw [re hl]
    ·rw [oV hl,oV hl]
   ·rw [if_neg (by simp [e,e2])]
    by_cases hl:h<262144
    ·rw [BO hl (Ne.symm e2)]
    ·rw [Fb hl]
theorem Lm {hp:HP} (R:List Nat):hpH (sU hp R hp0)=restr (hpH hp) R:=by
 funext j
 unfold hpH restr
 rw [sV,xO]
 cases hm:memN R j with
 | true=>rw [if_pos (memN_iff.1 hm)];rfl
 | false=>rw [if_neg (fun e=>by rw [memN_iff.2 e] at hm;cases hm)];rfl
theorem Ln {hp:HP} (W:hpW hp) (R:List Nat):hpW (sU hp R hp0):=fun j=>by
 rw [sV,xO]
 split
 ·exact W j
 ·trivial
theorem vR {hp':HP} (W':hpW hp') :∀ {keys:List Nat} {hp hp2:HP} {dh:List (Nat×Blk)},hpW hp→FU hp' keys hp=some (hp2,dh)→hpH hp2=ak (hpH hp) dh∧hpW hp2∧∀ h b,find dh h=some b→hpH hp' h=some b
 | [],hp,hp2,dh,W,h=>by cases h;exact ⟨rfl,W,fun h b hb=>by cases hb⟩
 | q::r,hp,hp2,dh,W,h=>by
  unfold FU at h
  split at h
  case h_2=>cases h
  rename_i b hb
  split at h
  case h_2=>cases h
  rename_i hp1 dh1 h1
  cases h
  obtain ⟨e1,W1,e2⟩:=vR W' W h1
  have hq:q<262144:=BN (fun e=>by rw [e] at hb;cases hb)
  refine ⟨?_,fZ W1 hq (W' q),fun j b' hj=>?_⟩
  ·rw [fY hq hb,e1]
   funext k
   simp only [ak,find]
   cases Nat.beq q k <;> rfl
  ·simp only [find] at hj
   cases hx:Nat.beq q j with
   | true=>
    rw [hx,cond_true] at hj
    cases hj
    rw [←ay hx]
    exact hb
   | false=>rw [hx] at hj;exact e2 j b' hj
theorem vQ {hp':HP} :∀ {keys:List Nat} {hp hp2:HP} {dh:List (Nat×Blk)},FU hp' keys hp=some (hp2,dh)→dh.map (·.1)=keys
 | [],hp,hp2,dh,h=>by cases h;rfl
 | q::r,hp,hp2,dh,h=>by
  unfold FU at h
  split at h
  case h_2=>cases h
  split at h
  case h_2=>cases h
  rename_i h1
  cases h
  rw [List.map_cons,vQ h1]
theorem Om (c:C) (r:List Nat):Ol c r=c.toV.hs++r:=by cases c <;> rfl
theorem Ck (t:CT) :∀ n i,hsT t n i=hss (tJ t n i)
 | 0,_=>rfl
 | n+1,i=>by
  show Ol (cf t i) (hsT t n (i+1))=_
  rw [Om,Ck t n (i+1)]
  rfl
theorem qN {b:Bk} {B:Blk} (h:b.toB=some B):xP b=B.hs:=by
 cases b with
 | none=>cases h
 | cells t n=>cases h;exact Ck t n 0
 | grow v e t n=>cases h;exact Ck t n 0
 | mp es=>cases h;rfl
theorem FP {b:Bk} (h:b.toB=none):xP b=[]:=by cases b <;> first|rfl|cases h
theorem wu (hp:HP) :∀ n new acc,pT hp n new acc=ng (hpH hp) n new acc
 | 0,_,_=>rfl
 | n+1,new,acc=>by
  simp only [pT,ng]
  have :(fun h=>xP (bd hp h))=fun h=>(match hpH hp h with|some b=>b.hs|none=> []:List Nat):=by
   funext h
   unfold hpH
   cases hb :(bd hp h).toB with
   | none=>exact FP hb
   | some B=>exact qN hb
  rw [this]
  generalize new.filter (fun h=>!memN acc h)=add
  cases add with
  | nil=>rfl
  | cons a l=>exact wu hp n _ _
theorem FI (hp:HP) (R:List Nat) (m K:Nat) (v:V) (dh:List (Nat×Blk)):xJ hp R m K v dh=gK (hpH hp) R m K v dh:=by
 unfold xJ gK
 have :(fun h=>bif Q8 (bd hp h) then mU R m K (xP (bd hp h)) else false)=fun h=>(match hpH hp h with|some b=>mU R m K b.hs|none=>false:Bool):=by
  funext h
  unfold hpH
  cases hb:bd hp h with
  | none=>rfl
  | cells t n=>show mU R m K (xP (.cells t n))=_;rw [qN (B:= .cells (toL t n)) rfl];rfl
  | grow v e t n=>show mU R m K (xP (.grow v e t n))=_;rw [qN (B:= .grow v e (toL t n)) rfl];rfl
  | mp es=>show mU R m K (xP (.mp es))=_;rw [qN (B:= .mp es) rfl];rfl
 rw [this]
 rfl
theorem N7 {a b:Int} (h:eqS a b=true):a=b:=by
 rw [B5] at h
 simpa using h
theorem jC {p q:Bool} (h :(Bool.rec (motive:=fun _=>Bool) false q p:Bool)=true):p=true∧q=true:=by
 cases p <;> cases q <;> first|exact ⟨rfl,rfl⟩|cases h
theorem N6 {c d:C} (h:eqC c d=true):c.toV=d.toV:=by
 cases c <;> cases d <;> first|cases h|skip
 ·obtain ⟨h1,h2⟩:=jC h
  rw [DY h1,N7 h2]
 ·rename_i b b'
  cases b <;> cases b' <;> first|rfl|cases h
 ·obtain ⟨h1,h2⟩:=jC h
  rw [ay h1,ay h2]
 ·obtain ⟨h1,h2⟩:=jC h
  obtain ⟨h2,h3⟩:=jC h2
  rw [ay h1,ay h2,ay h3]
 ·obtain ⟨h1,h2⟩:=jC h
  obtain ⟨h2,h3⟩:=jC h2
  obtain ⟨h3,h4⟩:=jC h3
  obtain ⟨h4,h5⟩:=jC h4
  rw [ay h1,ay h2,ay h3,ay h4,ay h5]
 ·exact V.eqb_eq _ _ h
theorem B6 {t t':CT} :∀ n i,eqT t t' n i=true→tJ t n i=tJ t' n i
 | 0,_,_=>rfl
 | n+1,i,h=>by
  obtain ⟨hc,h⟩:=jC (show (Bool.rec (motive:=fun _=>Bool) false (eqT t t' n (i+1)) (eqC (cf t i) (cf t' i)):Bool)=true from h)
  simp only [tJ]
  rw [N6 hc,B6 n (i+1) h]
theorem KC {b d:Bk} (h:FD b d=true):b.toB=d.toB:=by
 cases b <;> cases d <;> first|cases h|skip
 ·rfl
 ·obtain ⟨h1,h2⟩:=jC h
  have e:=ay h1
  subst e
  show some (Blk.cells (toL _ _))=some (Blk.cells (toL _ _))
  unfold toL
  rw [B6 _ _ h2]
 ·obtain ⟨h1,k1⟩:=jC h
  obtain ⟨h2,k2⟩:=jC k1
  obtain ⟨h3,h4⟩:=jC k2
  have e1:=ay h1
  have e2:=ay h2
  have e3:=ay h3
  subst e1
  subst e2
  subst e3
  show some (Blk.grow _ _ (toL _ _))=some (Blk.grow _ _ (toL _ _))
  unfold toL
  rw [B6 _ _ h4]
 ·show some (Blk.mp _)=some (Blk.mp _)
  rw [DH _ _ h]
theorem xm {call:eM} (hcall:CallVOK P call) {g:FuncId} {args:List U} {hp:HP} (W:hpW hp) (Wa :∀ x∈args,x.wf) {R:List Nat} {m:Nat} {k:U→HP→List (Nat×Blk)→Nat→Rv} {l:Lf} {tm':TM} {hp':HP} {nx':Nat} (h:B0 call g args hp R m k = .go l tm' hp' nx') :
  ∃ u hp2 dh nx,k u hp2 dh nx = .go l tm' hp' nx'∧u.wf∧hpW hp2∧hpH hp2=ak (hpH hp) dh∧(∃ fn,P.funcs[g]?=some fn∧fn.body.isSome=true∧(fn.name == "runtime.NumGoroutine")=false)∧m≤nx∧
   ∀ (B:Base) (E:Env) (av:List Value),HRel B E→E.H=restr (hpH hp) R→ab E (args.map U.toV) av→(∀ n,m≤n→n<nx→¬ E.U n)→
    Calls P g av.toArray E.w fun e w'=>∃ E' v',e = .returned v'∧GoodK B E m (nx+1 - m) dh w' E'∧aa E' u.toV v':=by
 unfold B0 at h
 split at h
 case h_2=>cases h
 case h_3=>cases h
 rename_i u hp1 nx1 hc
 simp only [nC] at h
 generalize hkeys :(pT hp1 64 (u.toV.hs++R.filter fun h=>!FD (bd hp h) (bd hp1 h)) []).filter (fun h=>!(memN R h&&!memN (R.filter fun h=>!FD (bd hp h) (bd hp1 h)) h))=keys at h
 cases hall :(R.filter fun h=>!FD (bd hp h) (bd hp1 h)).all (fun h=>memN keys h) with
 | false=>rw [hall] at h;cases h
 | true=>
  rw [hall] at h
  simp only [cond_true] at h
  split at h
  case h_2=>cases h
  rename_i hp2 dh hm
  have F:=hcall.ok g args _ m u hp1 nx1 Wa (Ln W R) hc
  obtain ⟨e1,W2,e2⟩:=vR F.hw W hm
  refine ⟨u,hp2,dh,nx1,h,F.wf,W2,e1,F.fn,F.le,fun B E av hE hH hav hfr=>?_⟩
  refine (F.calls B E av hE (by rw [hH,Lm]) hav hfr).mono fun e w' hh=>?_
  obtain ⟨E',v',rfl,C⟩:=hh
  obtain ⟨R1,X1⟩:=C.rel.weak (ak E.H dh) (fun j k' hk=>by
   refine ⟨k',?_,.inl rfl⟩
   rw [C.h]
   unfold ak at hk
   cases hf:find dh j with
   | some b=>rw [hf] at hk;simp only [Option.some.injEq] at hk;subst hk;exact e2 j b hf
   | none=>
    rw [hf] at hk
    simp only at hk
    rw [hH] at hk
    unfold restr at hk
    cases hm1:memN R j with
    | false=>rw [hm1] at hk;cases hk
    | true=>
     rw [hm1] at hk
     simp only [cond_true] at hk
     cases he:FD (bd hp j) (bd hp1 j) with
     | false=>
      have h5:=List.all_eq_true.1 hall j (List.mem_filter.2 ⟨memN_iff.1 hm1,by rw [he];rfl⟩)
      rw [←vQ hm] at h5
      exact absurd hf (xE h5)
     | true=>
      have h5:hpH hp j=hpH hp1 j:=KC he
      rw [←h5];exact hk)
  exact ⟨_,v',rfl,⟨R1,C.ext.trans X1,C.w,rfl,fun n hn=>by
   rcases C.u n hn with h|h
   ·exact .inl h
   ·exact .inr ⟨h.1,by have:=h.2;omega⟩⟩,aK X1 _ _ C.v⟩
theorem pc {ms:List Nat} {i:Nat} {r:Rec} :∀ {ss:List Rec} {j:Nat},Hj ms i r j ss=true→∀ k s,ss[k]?=some s→F7 ms i (j+k)=true∨Hi r s=true
 | [],j,_,k,s,h=>by simp at h
 | s0::ss,j,h,k,s,hs=>by
  simp only [Hj,Bool.and_eq_true,Bool.or_eq_true] at h
  cases k with
  | zero=>simp only [List.getElem?_cons_zero,Option.some.injEq] at hs;subst hs;exact h.1
  | succ k=>
   have:=pc h.2 k s (by simpa using hs)
   rwa [show j+1+k=j +(k+1) by omega] at this
theorem pb {ms:List Nat} {recs:List Rec} :∀ {rs:List Rec} {i:Nat},FB ms recs i rs=true→∀ k r,rs[k]?=some r→r.dh=[]∨Hj ms (i+k) r 0 recs=true
 | [],i,_,k,r,h=>by simp at h
 | r0::rs,i,h,k,r,hr=>by
  simp only [FB,Bool.and_eq_true] at h
  cases k with
  | zero=>
   simp only [List.getElem?_cons_zero,Option.some.injEq] at hr
   subst hr
   cases hd:r0.dh with
   | nil=>exact .inl rfl
   | cons q l=>have h1:=h.1;rw [hd] at h1;exact .inr h1
  | succ k=>
   have:=pb h.2 k r (by simpa using hr)
   rwa [show i+1+k=i +(k+1) by omega] at this
theorem tA {ms:List Nat} {all:List Oper} {i:Nat} {o:Oper} :∀ {os:List Oper} {j:Nat},EP ms all i o j os=true→∀ k o',os[k]?=some o'→((ms[j+k]?).getD 0).testBit i=true∨EO all o o'=true
 | [],j,_,k,s,h=>by simp at h
 | s0::ss,j,h,k,s,hs=>by
  simp only [EP,Bool.and_eq_true,Bool.or_eq_true] at h
  cases k with
  | zero=>simp only [List.getElem?_cons_zero,Option.some.injEq] at hs;subst hs;exact h.1
  | succ k=>
   have:=tA h.2 k s (by simpa using hs)
   rwa [show j+1+k=j +(k+1) by omega] at this
theorem tz {ms:List Nat} {all:List Oper} :∀ {os:List Oper} {i:Nat},EM ms all i os=true→∀ k l o o',os[k]?=some o→os[k+1+l]?=some o'→((ms[i +(k+1+l)]?).getD 0).testBit (i+k)=true∨EO all o o'=true
 | [],i,_,k,l,o,o',h,_=>by simp at h
 | o0::os,i,h,k,l,o,o',ho,ho'=>by
  simp only [EM,Bool.and_eq_true] at h
  cases k with
  | zero=>
   simp only [List.getElem?_cons_zero,Option.some.injEq] at ho
   subst ho
   have:=tA h.1 l o' (by rw [show 0+1+l=l+1 by omega] at ho';simpa using ho')
   rwa [show i+1+l=i +(0+1+l) by omega] at this
  | succ k=>
   have:=tz h.2 k l o o' (by simpa using ho) (by rw [show k+1+1+l =(k+1+l)+1 by omega] at ho';simpa using ho')
   rwa [show i+1 +(k+1+l)=i +(k+1+1+l) by omega,show i+1+k=i +(k+1) by omega] at this
theorem wk {ms:List Nat} {i:Nat} {r:Rec} :∀ {ss:List Rec} {j:Nat},(∀ k s,ss[k]?=some s→((ms[j+k]?).getD 0).testBit i=true∨comm r s=true)→pQ ms i r j ss=true
 | [],j,_=>rfl
 | s0::ss,j,h=>by
  simp only [pQ,Bool.and_eq_true,Bool.or_eq_true]
  refine ⟨h 0 s0 (by simp),wk fun k s hs=>?_⟩
  have:=h (k+1) s (by simpa using hs)
  rwa [show j +(k+1)=j+1+k by omega] at this
theorem uS {ms:List Nat} :∀ {rs:List Rec} {i:Nat},(∀ k l r s,rs[k]?=some r→rs[k+1+l]?=some s→((ms[i +(k+1+l)]?).getD 0).testBit (i+k)=true∨comm r s=true)→dX ms i rs=true
 | [],i,_=>rfl
 | r0::rs,i,h=>by
  simp only [dX,Bool.and_eq_true]
  refine ⟨wk fun k s hs=>?_,uS fun k l r s hr hs=>?_⟩
  ·have:=h 0 k r0 s (by simp) (by rw [show 0+1+k=k+1 by omega];simpa using hs)
   rwa [show i +(0+1+k)=i+1+k by omega] at this
  ·have:=h (k+1) l r s (by simpa using hr) (by rw [show k+1+1+l =(k+1+l)+1 by omega];simpa using hs)
   rwa [show i +(k+1+1+l)=i+1 +(k+1+l) by omega,show i +(k+1)=i+1+k by omega] at this
theorem N0 {all:List Oper} {recs:List Rec} (hlen:recs.length=all.length) (hrec :∀ (i:Nat) (o:Oper) (r:Rec),all[i]?=some o→recs[i]?=some r→r.dst=o.dst∧r.rs=aj all o) (hs:EN all=true) (hd:FB (bL all []) recs 0 recs=true):cF 0 all=true∧dX (bL all []) 0 recs=true:=by
 unfold EN at hs
 rw [Bool.and_eq_true] at hs
 refine ⟨hs.1,uS fun k l r s hr hs'=>?_⟩
 have hkl:k+1+l<recs.length:=(List.getElem?_eq_some_iff.1 hs').1
 obtain ⟨o,ho⟩ :∃ o,all[k]?=some o:=⟨all[k]'(by omega),List.getElem?_eq_getElem (by omega)⟩
 obtain ⟨o',ho'⟩ :∃ o',all[k+1+l]?=some o':=⟨all[k+1+l]'(by omega),List.getElem?_eq_getElem (by omega)⟩
 have e1:=hrec _ _ _ ho hr
 have e2:=hrec _ _ _ ho' hs'
 rcases tz hs.2 k l o o' ho ho' with h|h
 ·exact .inl h
 rw [Nat.zero_add,Nat.zero_add]
 have hne:Nat.beq k (k+1+l)=false:=by
  cases hb:Nat.beq k (k+1+l) with
  | false=>rfl
  | true=>have:=ay hb;omega
 have hne':Nat.beq (k+1+l) k=false:=by
  cases hb:Nat.beq (k+1+l) k with
  | false=>rfl
  | true=>have:=ay hb;omega
 have hlt:Nat.blt k (k+1+l)=true:=by rw [Nat.blt_eq];omega
 have hlt':Nat.blt (k+1+l) k=false:=by
  cases hb:Nat.blt (k+1+l) k with
  | false=>rfl
  | true=>rw [Nat.blt_eq] at hb;omega
 have o1:F7 (bL all []) k (k+1+l) =(((bL all [])[k+1+l]?).getD 0).testBit k:=by
  unfold F7;rw [hne,hlt];rfl
 have o2:F7 (bL all []) (k+1+l) k =(((bL all [])[k+1+l]?).getD 0).testBit k:=by
  unfold F7;rw [hne',hlt'];rfl
 cases hbit :(((bL all [])[k+1+l]?).getD 0).testBit k with
 | true=>exact .inl rfl
 | false=>
  refine .inr ?_
  have d1:r.dh=[]∨Hi r s=true:=by
   rcases pb hd k r hr with h1|h1
   ·exact .inl h1
   ·rcases pc h1 (k+1+l) s hs' with h2|h2
    ·rw [Nat.zero_add,Nat.zero_add,o1,hbit] at h2;cases h2
    ·exact .inr h2
  have d2:s.dh=[]∨Hi s r=true:=by
   rcases pb hd (k+1+l) s hs' with h1|h1
   ·exact .inl h1
   ·rcases pc h1 k r hr with h2|h2
    ·rw [Nat.zero_add,Nat.zero_add,o2,hbit] at h2;cases h2
    ·exact .inr h2
  unfold EO at h
  unfold comm
  rw [e1.1,e1.2,e2.1,e2.2]
  simp only [Bool.and_eq_true] at h ⊢
  refine ⟨h,?_⟩
  unfold Hi at d1 d2
  simp only [Bool.and_eq_true] at d1 d2
  refine ⟨⟨?_,?_⟩,?_⟩
  ·rcases d1 with h1|h1
   ·rw [h1];rfl
   ·exact h1.1
  ·rcases d1 with h1|h1
   ·rw [h1];rfl
   ·exact h1.2
  ·rcases d2 with h1|h1
   ·rw [h1];rfl
   ·exact h1.2
theorem uI {ms:List Nat} {i h0:Nat} {okB:Blk→Bool} :∀ {ss:List Rec} {j:Nat},GP ms i h0 okB j ss=true→∀ k s b,ss[k]?=some s→find s.dh h0=some b→j+k≠i→
  (j+k<i→((ms[i]?).getD 0).testBit (j+k)=true)∧(i<j+k→((ms[j+k]?).getD 0).testBit i=true∨okB b=true)
 | [],j,_,k,s,b,h,_,_=>by simp at h
 | s0::ss,j,h,k,s,b,hs,hb,hne=>by
  simp only [GP,Bool.and_eq_true] at h
  cases k with
  | zero=>
   simp only [List.getElem?_cons_zero,Option.some.injEq] at hs
   subst hs
   have h1:=h.1
   rw [hb] at h1
   simp only [Bool.or_eq_true,Nat.add_zero] at h1 hne ⊢
   rcases h1 with h1|h1
   ·exact absurd (ay h1).symm hne
   ·refine ⟨fun hlt=>?_,fun hgt=>?_⟩
    ·rw [show Nat.blt j i=true by rw [Nat.blt_eq];exact hlt] at h1
     exact h1
    ·rw [show Nat.blt j i=false by cases hx:Nat.blt j i with|false=>rfl|true=>rw [Nat.blt_eq] at hx;omega] at h1
     simpa using h1
  | succ k=>
   have:=uI h.2 k s b (by simpa using hs) hb (by omega)
   rwa [show j+1+k=j +(k+1) by omega] at this
theorem uH {ms:List Nat} {recs:List Rec} :∀ {asz:List Alt} {i:Nat},wY ms recs i asz=true→∀ k h0 okB,asz[k]?=some (some (h0,okB))→GP ms (i+k) h0 okB 0 recs=true
 | [],i,_,k,h0,okB,h=>by simp at h
 | a0::asz,i,h,k,h0,okB,ha=>by
  cases k with
  | zero=>
   simp only [List.getElem?_cons_zero,Option.some.injEq] at ha
   subst ha
   simp only [wY,Bool.and_eq_true] at h
   exact h.1
  | succ k=>
   have h2:wY ms recs (i+1) asz=true:=by
    cases a0 with
    | none=>exact h
    | some q=>obtain ⟨a,b⟩:=q;simp only [wY,Bool.and_eq_true] at h;exact h.2
   have:=uH h2 k h0 okB (by simpa using ha)
   rwa [show i+1+k=i +(k+1) by omega] at this
theorem NI {ms:List Nat} {recs:List Rec} {asz:List Alt} (h:wY ms recs 0 asz=true):AltOK (fun n=>(asz[n]?).getD none) ms recs:=fun i h0 okB ha j s b hs hb hne=>by
 have ha:asz[i]?=some (some (h0,okB)):=by
  have ha :(asz[i]?).getD none=some (h0,okB):=ha
  cases hx:asz[i]? with
  | none=>rw [hx] at ha;cases ha
  | some a=>rw [hx] at ha;simp only [Option.getD_some] at ha;rw [ha]
 have:=uI (uH h i h0 okB ha) j s b hs hb (by omega)
 simpa using this
theorem Ib {tb:Tbl} {ev:Operand→V} {op:Op} {h0:Nat} {tk te:TD} {k:V} {ok:Bool} (h:lkD tb ev op=some (h0,tk,te,k,ok)) :∃ t x ky q,op = .lookup t x ky ok∧jt tb t=some q∧ev x = .mpv h0∧q.1=tk∧q.2=te∧ev ky=k:=by
 unfold lkD at h
 split at h
 case h_2=>cases h
 rename_i t x ky ok'
 split at h
 case h_2=>cases h
 rename_i q hq
 split at h
 case h_2=>cases h
 rename_i h' hx
 cases h
 exact ⟨t,x,ky,q,rfl,hq,hx,rfl,rfl,rfl⟩
theorem mY {tk te:TD} {H:aw} {x k:V} {ok:Bool} {ps:List Ob} {v:V} {dh:List (Nat×Blk)} (h:cn tk te H x k ok = .val ps v dh):ps=[]∧dh=[]:=by
 unfold cn at h
 split at h
 case h_2=>cases h
 split at h
 ·cases h;exact ⟨rfl,rfl⟩
 ·split at h
  ·cases h;exact ⟨rfl,rfl⟩
  ·cases h
 ·cases h
theorem zt {tk te:TD} {H:aw} {h0:Nat} {k:V} {ok:Bool} {b:Blk} (h:H h0=some b):cn tk te H (.mpv h0) k ok=cn tk te (fun _=>some b) (.mpv h0) k ok:=by
 simp only [cn,K6,h]
section
variable {call:eM} {all:List Oper}
theorem u3 (hT:bc P tb) (hcall:CallVOK P call) {st:St} :∀ (rest:List Oper) (tm:TM) (hp:HP) (nx:Nat) (rr:List (Rec×Alt)) (ra:List (Rec×Alt)) (recs:List Rec) (d:Dl) (l:Lf) (tm':TM) (hp':HP) (nx':Nat),lp tb N K call all rest tm hp nx rr = .go l tm' hp' nx'→rr.reverse=ra→ra.map (·.1)=recs→
  KW K tm→hpW hp→FL K tm (d.tm++st.tm)→ak st.H d.hp=hpH hp→∀ i,recs.length+rest.length=all.length→(∀ (j:Nat) (o:Oper),rest[j]?=some o→all[recs.length+j]?=some o)→(∀ (j:Nat) (o:Oper) (r:Rec),all[j]?=some o→recs[j]?=some r→r.dst=o.dst∧r.rs=aj all o)→
  l = .nrm∧KW K tm'∧hpW hp'∧∃ (ks:List (Nat×Cfg)) (als:List Alt) (df:Dl) (rf:List Rec),ks.length=rest.length∧Chain nx ks nx'∧(∀ q∈ks,CfgOK P q.2∧q.2.N=N)∧
   (∀ (Cf:Nat→Cfg) (lo:Nat→Nat) (al:Nat→Alt),(∀ j q,ks[j]?=some q→Cf (i+j)=q.2∧lo (i+j)=q.1)→(∀ j x,als[j]?=some x→al (i+j)=x)→RunV Cf lo al all st i rest d recs df rf)∧
   cF 0 all=true∧dX (bL all []) 0 rf=true∧AltOK (fun n=>((ra.map (·.2)++als)[n]?).getD none) (bL all []) rf∧FL K tm' (df.tm++st.tm)∧ak st.H df.hp=hpH hp'
 | [],tm,hp,nx,rr,ra,recs,d,l,tm',hp',nx',h,hrr,hra,Wt,Wh,h2,h3,i,hln,_,hrc=>by
  simp only [lp,hrr,hra] at h
  cases hc:EN all&&(FB (bL all []) recs 0 recs&&wY (bL all []) recs 0 (ra.map (·.2))) with
  | false=>rw [hc] at h;cases h
  | true=>
   rw [hc] at h
   simp only [cond_true,Rv.go.injEq] at h
   obtain ⟨rfl,rfl,rfl,rfl⟩:=h
   simp only [Bool.and_eq_true] at hc
   have hal:=NI hc.2.2
   have hc:=N0 (by simpa using hln) hrc hc.1 hc.2.1
   exact ⟨rfl,Wt,Wh,[],[],d,recs,rfl,rfl,fun q hq=>by simp at hq,fun _ _ _ _ _=> .nil,hc.1,hc.2,by simpa using hal,h2,h3⟩
 | o::rest,tm,hp,nx,rr,ra,recs,d,l,tm',hp',nx',h,hrr,hra,Wt,Wh,h2,h3,i,hln,hall,hrc=>by
  simp only [lp] at h
  cases hd0:zj N K o.dst with
  | false=>rw [hd0] at h;cases h
  | true=>
   rw [hd0] at h
   simp only [cond_true] at h
   have hd:=Ky hd0
   have h1:=h2.look
   have glue :∀ (C0:Cfg) (alt:Alt) (r:Rec) (u:U) (hp1:HP) (nx1:Nat),CfgOK P C0→C0.N=N→nx+C0.K≤nx1→DoesV C0 alt all (d.tm++st.tm) (ak st.H d.hp) nx o r→
     u.toV=r.v→r.dst=o.dst→u.wf→hpW hp1→hpH hp1=ak (hpH hp) r.dh→lp tb N K call all rest (l9 o.dst u tm) hp1 nx1 ((r,alt)::rr) = .go l tm' hp' nx'→
     l = .nrm∧KW K tm'∧hpW hp'∧∃ (ks:List (Nat×Cfg)) (als:List Alt) (df:Dl) (rf:List Rec),ks.length =(o::rest).length∧Chain nx ks nx'∧(∀ q∈ks,CfgOK P q.2∧q.2.N=N)∧
      (∀ (Cf:Nat→Cfg) (lo:Nat→Nat) (al:Nat→Alt),(∀ j q,ks[j]?=some q→Cf (i+j)=q.2∧lo (i+j)=q.1)→(∀ j x,als[j]?=some x→al (i+j)=x)→RunV Cf lo al all st i (o::rest) d recs df rf)∧
      cF 0 all=true∧dX (bL all []) 0 rf=true∧AltOK (fun n=>((ra.map (·.2)++als)[n]?).getD none) (bL all []) rf∧FL K tm' (df.tm++st.tm)∧ak st.H df.hp=hpH hp':=fun C0 alt r u hp1 nx1 hC hCN hle hdo hu hrd huw W1 hhp hrest=>by
    have hf':FL K (l9 o.dst u tm) (cg r.dst r.v++d.tm++st.tm):=by
     rw [List.append_assoc,hrd]
     exact h2.put hd0 hu
    obtain ⟨q1,q2,q3,ks,als,df,rf,k1,k2,k3,k4,k5a,k5b,k5c,k5⟩:=u3 hT hcall (st:=st) rest (l9 o.dst u tm) hp1 nx1 ((r,alt)::rr) (ra++[(r,alt)]) (recs++[r]) ⟨cg r.dst r.v++d.tm,r.dh++d.hp⟩ l tm' hp' nx' hrest (by rw [List.reverse_cons,hrr]) (by rw [List.map_append,hra];rfl) (Wt.put hd0 huw) W1 hf' (by rw [bE,h3,hhp]) (i+1) (by simp at hln ⊢;omega) (fun j o' hj=>by
     have:=hall (j+1) o' (by simpa using hj)
     rw [List.length_append,List.length_singleton,show recs.length+1+j=recs.length +(j+1) by omega]
     exact this) (fun j o' r' ho' hr'=>by
     rcases Nat.lt_or_ge j recs.length with hj|hj
     ·rw [List.getElem?_append_left hj] at hr'
      exact hrc j o' r' ho' hr'
     ·rw [List.getElem?_append_right hj] at hr'
      have hj0:j - recs.length=0:=by
       cases hx:j - recs.length with
       | zero=>rfl
       | succ n=>rw [hx] at hr';simp at hr'
      rw [hj0] at hr'
      simp only [List.getElem?_cons_zero,Option.some.injEq] at hr'
      subst hr'
      have:=hall 0 o (by simp)
      rw [Nat.add_zero,show recs.length=j by omega] at this
      rw [this] at ho'
      cases ho'
      obtain ⟨_,q1,q2⟩:=hdo.dstIn
      exact ⟨q1,q2⟩)
    refine ⟨q1,q2,q3,(nx,C0)::ks,alt::als,df,rf,by simp [k1],⟨rfl,nx1,hle,k2⟩,fun q hq=>?_,fun Cf lo al hCf hal=>?_,k5a,k5b,by simpa using k5c,k5⟩
    ·rcases List.mem_cons.1 hq with rfl|hq
     ·exact ⟨hC,hCN⟩
     ·exact k3 q hq
    ·have h0:=hCf 0 (nx,C0) (by simp)
     have h0a:=hal 0 alt (by simp)
     refine .cons (r:=r) ?_ (k4 Cf lo al (fun j q hq=>?_) fun j x hx=>?_)
     ·rw [show i=i+0 from rfl,h0.1,h0.2,h0a];exact hdo
     ·have:=hCf (j+1) q (by simpa using hq)
      rw [show i+1+j=i +(j+1) by omega]
      exact this
     ·have:=hal (j+1) x (by simpa using hx)
      rw [show i+1+j=i +(j+1) by omega]
      exact this
   have hmask :∀ rs,ba rs (d.tm++st.tm)=fc K rs tm:=fun rs=>Ig h1
   have hC1:CfgOK P ⟨tb,fun _=>none,1,N⟩:=⟨hT,Nat.le_refl _,fun _ _ h=>by cases h⟩
   split at h
   ·
    rename_i hg
    rw [cG] at h
    exact glue ⟨tb,fun _=>none,1,N⟩ none ⟨o.dst,.tup [],[],[],aj all o⟩ (.tup []) hp (nx+1) hC1 rfl (Nat.le_refl _) (.old (.skip hd (by rw [jJ h1];exact hg))) rfl rfl (fun w hw=>by cases hw) Wh rfl h
   ·rename_i hg
    simp only [nC,wu,FI] at h
    split at h
    ·
     rename_i h0 tk te ky ok hlk
     obtain ⟨t,x,kx,q,ho,hq,hx,rfl,rfl,rfl⟩:=Ib hlk
     split at h
     case h_2=>cases h
     rename_i ps v dh he
     split at h
     case h_2=>cases h
     rename_i u hu
     rw [cG] at h
     obtain ⟨rfl,rfl⟩:=mY he
     obtain ⟨hu1,hu2⟩:=tK hu
     have ev1 :∀ H2:aw,aB ⟨tb,fun _=>none,1,N⟩ nx H2 (fc K (aj all o) tm) o.op=match cn q.1 q.2 H2 (.mpv h0) (fc K (aj all o) tm kx) ok with | .val ps v dh=>some (ps,v,dh)|_=>none:=fun H2=>by
      simp only [aB,ho,b8,bO,hq,hx]
      rfl
     refine glue ⟨tb,fun _=>none,1,N⟩ (some (h0,Pj q.1 q.2 h0 (fc K (aj all o) tm kx) ok v)) ⟨o.dst,jy v,[],[],aj all o⟩ u hp (nx+1) hC1 rfl (Nat.le_refl _) (.dir (v:=v) (ps:= []) hd (by rw [jJ h1];exact hg) (by rw [hmask,h3,ev1,he]) (fun H2 _ hag=>?_) (fun p hp=>by cases hp) (by cases v <;> simp [jy])) hu1 rfl hu2 Wh rfl h
     rw [hmask,h3,ev1,ev1,he]
     rcases hag h0 _ rfl with e |⟨b,e1,e2⟩
     ·rw [h3] at e
      have:cn q.1 q.2 H2 (.mpv h0) (fc K (aj all o) tm kx) ok=cn q.1 q.2 (hpH hp) (.mpv h0) (fc K (aj all o) tm kx) ok:=by simp only [cn,K6,e]
      rw [this,he]
     ·rw [zt e1]
      unfold Pj at e2
      split at e2
      ·rename_i ps' v' dh' he'
       obtain ⟨rfl,rfl⟩:=mY he'
       rw [he',V.eqb_eq _ _ e2]
      ·cases e2
    rename_i hlk
    cases hdir:n5 (fc K (aj all o) tm) o.op
    case true=>
     rw [hdir] at h
     simp only [cond_true] at h
     split at h
     case h_1=>cases h
     rename_i ps v dh he
     cases hps:ps.all Ob.chk with
     | false=>rw [hps] at h;cases h
     | true=>
      rw [hps] at h
      simp only [cond_true] at h
      split at h
      case h_2=>cases h
      rename_i u hp2 hu hs
      rw [cG] at h
      obtain ⟨hu1,hu2⟩:=tK hu
      obtain ⟨hs1,hs2⟩:=kW Wh hs
      have hev:=pg tb N nx _ _ o.op he
      refine glue ⟨tb,fun _=>none,1,N⟩ none ⟨o.dst,jy v,dh,_,aj all o⟩ u hp2 (nx+1) hC1 rfl (Nat.le_refl _) (.dir (v:=v) (ps:=ps) hd (by rw [jJ h1];exact hg) (by rw [hmask,h3];exact hev) (fun H2 hag=>?_) (fun p hp=>Ob.chk_holds (List.all_eq_true.1 hps p hp)) (by cases v <;> simp [jy])) hu1 rfl hu2 hs2 hs1 h
      rw [hmask]
      rw [h3] at hag ⊢
      exact fun _=>zg hdir (fun x hx k hk=>hag k (List.mem_flatMap.2 ⟨x,hx,hk⟩))
    rw [hdir] at h
    simp only [cond_false] at h
    split at h
    ·
     rename_i g args he
     have hwa :∀ x∈args.map ko,x.wf:=fun x hx=>by
      obtain ⟨v,_,rfl⟩:=List.mem_map.1 hx
      exact lh v
     obtain ⟨u,hp2,dh,nx2,h,huw,W2,hhp,hfn,hle,hcalls⟩:=xm hcall Wh hwa h
     cases hfr:gK (hpH hp) (ng (hpH hp) 8 (o.op.operands.toList.flatMap fun x=>(fc K (aj all o) tm x).hs) []) nx (nx2+1 - nx) u.toV dh with
     | false=>rw [hfr] at h;cases h
     | true=>
      rw [hfr] at h
      simp only [cond_true,cG] at h
      obtain ⟨c,f,caps,ho,hf,hg2,hargs,hpl⟩:=Hm tb N nx _ _ o.op he
      let ct:Ctr:=fun args' H' m'=>open Classical in if args'=args∧H'=restr (hpH hp) (ng (hpH hp) 8 (o.op.operands.toList.flatMap fun x=>(fc K (aj all o) tm x).hs) [])∧m'=nx then some ([],u.toV,dh) else none
      let C0:Cfg:=⟨tb,fun g'=>if g'=g then some ct else none,nx2+1 - nx,N⟩
      have hK:1≤nx2+1 - nx:=by omega
      have hC:CfgOK P C0:=⟨hT,hK,fun f' c' hf'=>by
       have hf2 :(if f'=g then some ct else none)=some c':=hf'
       split at hf2
       case isFalse=>cases hf2
       rename_i e
       cases hf2
       subst e
       refine ⟨hfn,fun B E hE args' av hav m hm ps' v' dh' hp2 _=>?_⟩
       simp only [ct] at hp2
       split at hp2
       case isFalse=>cases hp2
       rename_i e
       obtain ⟨rfl,e2,rfl⟩:=e
       cases hp2
       refine hcalls B E av hE e2 ?_ (fun n h1 h2=>hm n h1 (by show n<m +(nx2+1 - m);omega))
       rw [List.map_map]
       exact oR (fun v=>v) _ lg args' av (by simpa using hav)⟩
      have hev:aB C0 nx (restr (hpH hp) (ng (hpH hp) 8 (o.op.operands.toList.flatMap fun x=>(fc K (aj all o) tm x).hs) [])) (fc K (aj all o) tm) o.op=some ([],u.toV,dh):=by
       simp only [aB,ho,b8,bO,hf,hg2,C0,if_true,CK hpl]
       rw [←hargs]
       simp only [xw,ct]
       rw [if_pos ⟨rfl,by rw [ho],rfl⟩]
       rfl
      refine glue C0 none ⟨o.dst,u.toV,dh,_,aj all o⟩ u hp2 (nx2+1) hC rfl (by show nx +(nx2+1 - nx)≤nx2+1;omega) (.old <| .run (v:=u.toV) hd (by rw [jJ h1];exact hg) (by
       simp only [mj]
       rw [hmask,h3]
       rw [hev]
       simp only [C0,hfr,cond_true]
       rfl) (fun p hp=>by cases hp) (.inl rfl)) rfl rfl huw W2 hhp h
    ·cases h
    ·
     rename_i ps v dh he
     cases hfr:ps.all Ob.chk&&gK (hpH hp) (ng (hpH hp) 8 (o.op.operands.toList.flatMap fun x=>(fc K (aj all o) tm x).hs) []) nx 1 v dh with
     | false=>rw [hfr] at h;cases h
     | true=>
      rw [hfr] at h
      simp only [cond_true] at h
      simp only [Bool.and_eq_true] at hfr
      split at h
      case h_2=>cases h
      rename_i u hp2 hu hs
      rw [cG] at h
      obtain ⟨hu1,hu2⟩:=tK hu
      obtain ⟨hs1,hs2⟩:=kW Wh hs
      have hev:=FF tb N nx _ _ o.op he
      refine glue ⟨tb,fun _=>none,1,N⟩ none ⟨o.dst,jy v,dh,_,aj all o⟩ u hp2 (nx+1) hC1 rfl (Nat.le_refl _) (.old <| .run (v:=v) hd (by rw [jJ h1];exact hg) (by
       simp only [mj]
       rw [hmask,h3]
       rw [hev]
       simp only [hfr.2,cond_true]) (fun p hp=>Ob.chk_holds (List.all_eq_true.1 hfr.1 p hp)) (by cases v <;> simp [jy])) hu1 rfl hu2 hs2 hs1 h
   ·cases h
theorem B1 (hT:bc P tb) (hP:P.follows .mixedOrders=true) (hcall:CallVOK P call) {tm:TM} {hp:HP} {nx:Nat} {l:Lf} {tm':TM} {hp':HP} {nx':Nat} (Wt:WT K tm) (Wh:hpW hp) (h:lp tb N K call all all tm hp nx [] = .go l tm' hp' nx') (id:Nat) :
  EndsV N K en0 u0 u0 u0 u0 tm hp nx l tm' hp' nx' (fun Q act w=>(Code.region id all.toArray true).wp P Q act w):=by
 obtain ⟨q1,q2,q3,ks,als,df,rf,k1,k2,k3,k4,k5,k6,k6a,k7,k8⟩:=u3 hT hcall (st:=⟨tmL K tm 512,[],hpH hp,nx⟩) all tm hp nx [] [] [] ⟨[],[]⟩ l tm' hp' nx' h rfl rfl Wt.tm Wh (wT tm) rfl 0 (by simp) (fun j o h=>by simpa using h) (fun j o r _ h=>by simp at h)
 refine ⟨q1,k2.le,q2.wt,q3,fun B E0 n0 Q E act hfr hQ hR=>?_⟩
 have hC0:CfgOK P ⟨tb,fun _=>none,1,N⟩:=⟨hT,Nat.le_refl _,fun _ _ h=>by cases h⟩
 let Cf:Nat→Cfg:=fun j=>match ks[j]? with|some q=>q.2|none=>⟨tb,fun _=>none,1,N⟩
 let lo:Nat→Nat:=fun j=>match ks[j]? with|some q=>q.1|none=>0
 have hCf :∀ j q,ks[j]?=some q→Cf j=q.2∧lo j=q.1:=fun j q hq=>by simp only [Cf,lo,hq];exact ⟨trivial,trivial⟩
 have hget :∀ j,j<all.length→∃ q,ks[j]?=some q:=fun j hj=>⟨ks[j]'(by omega),List.getElem?_eq_getElem (by omega)⟩
 have hle:n0≤nx:=hR.le
 have tmok :∀ {tm:TM} {L:List (Nat×V)} {E:Env} {act:Act},FL K tm L→(∀ i,isK K i=true→aa E ((cE i).get tm).toV (act.tmps.getD i undef))→dF E (find L) act:=fun {tm L E act} hL ht s v hv=>by
  rw [hL s] at hv
  by_cases hk:isK K s=true
  ·rw [if_pos hk] at hv
   cases hv
   exact ht s hk
  ·rw [if_neg hk] at hv
   cases hv
 refine FA (Cf:=Cf) (lo:=lo) (al:=fun n=>(als[n]?).getD none) (N:=N) (fun j=>?_) (fun j=>?_) hP (k4 Cf lo _ (fun j q hq=>by rw [Nat.zero_add];exact hCf j q hq) (fun j x hx=>by rw [Nat.zero_add,hx];rfl)) k5 k6 (by simpa using k6a) hR.rel hR.h (tmok (wT tm) hR.tm.tm) hR.size hR.defers (fun j hj n h1 h2 hu=>?_) (fun i j hij hj=>?_) (fun E' a' r1 x1 h1 u1 t1 s1 d1=>?_) id
 ·show CfgOK P (match ks[j]? with|some q=>q.2|none=>⟨tb,fun _=>none,1,N⟩)
  cases hq:ks[j]? with
  | none=>exact hC0
  | some q=>exact (k3 q (List.mem_of_getElem? hq)).1
 ·show (match ks[j]? with|some q=>q.2|none=>(⟨tb,fun _=>none,1,N⟩:Cfg)).N=N
  cases hq:ks[j]? with
  | none=>rfl
  | some q=>exact (k3 q (List.mem_of_getElem? hq)).2
 ·obtain ⟨q,hq⟩:=hget j hj
  obtain ⟨e1,e2⟩:=hCf j q hq
  rw [e1,e2] at h2
  rw [e2] at h1
  have:=k2.at j q hq
  rcases hR.u n hu with h3|h3
  ·exact hfr n (by omega) (by omega) h3
  ·have:=h3.2;omega
 ·obtain ⟨p,hp⟩:=hget i (by omega)
  obtain ⟨q,hq⟩:=hget j hj
  rw [(hCf i p hp).1,(hCf i p hp).2,(hCf j q hq).2]
  exact k2.lt i j p q hij hp hq
 ·have t2:TmR K en0 u0 u0 u0 u0 tm' E' a':=by
   have h2 :∀ i,isK K i=true→aa E' ((cE i).get tm').toV (a'.tmps.getD i undef):=fun i hi=>t1 i _ (by rw [k7 i,if_pos hi])
   refine ⟨fun i=>?_,h2⟩
   rw [ij]
   cases hk:isK K i with
   | true=>exact h2 i hk
   | false=>exact nX
  refine hQ E' a' ⟨r1,hR.ext.trans x1,by rw [h1];exact k8,fun n hn=>?_,Nat.le_trans hle k2.le,t2,s1,d1⟩
  rcases u1 n hn with h |⟨j,hj,h2,h3⟩
  ·rcases hR.u n h with h|h
   ·exact .inl h
   ·have:=k2.le;exact .inr ⟨h.1,by have:=h.2;omega⟩
  ·obtain ⟨q,hq⟩:=hget j hj
   obtain ⟨e1,e2⟩:=hCf j q hq
   rw [e1,e2] at h3
   rw [e2] at h2
   have:=k2.at j q hq
   exact .inr ⟨by omega,by omega⟩
end
end Go.Mir
namespace Go.Mir
open Go.RowKit
variable {P:Program} {tb:Tbl} {N K:Nat} {call:eM}
structure EndsC (N K:Nat) (tm:TM) (hp:HP) (nx:Nat) (l:Lf) (tm':TM) (hp':HP) (nx':Nat) (W:Wp):Prop where
 le:nx≤nx'
 wt:WT K tm'
 hw:hpW hp'
 wp :∀ (B:Base) (E0:Env) (n0:Nat) (Q:Exit→Act→World→Prop) (E:Env) (act:Act),(∀ n,n0≤n→n<nx'→¬ E0.U n)→(∀ E act,RX B E0 n0 N K tm' hp' nx' E act→Q (dY l) act E.w)→RX B E0 n0 N K tm hp nx E act→W Q act E.w
def BI (N K:Nat) (f:KR) (W:Wp):Prop:=∀ (tm:TM) (hp:HP) (nx:Nat) (l:Lf) (tm':TM) (hp':HP) (nx':Nat),WT K tm→hpW hp→f tm hp nx = .go l tm' hp' nx'→EndsC N K tm hp nx l tm' hp' nx' W
theorem vO {b:Code} {f:KR} (hf:BI N K f (fun Q act w=>b.wp P Q act w)) :∀ n,BI N K (Ic f n) (fun Q act w=>Code.rounds P b Q n act w)
 | 0=>fun tm hp nx l tm' hp' nx' Wt Wh h=>by cases h
 | n+1=>fun tm hp nx l tm' hp' nx' Wt Wh h=>by
  have h:bQ nx (fun nx=>LK (f tm hp nx) (Ic f n)) = .go l tm' hp' nx':=h
  rw [cG] at h
  cases hr:f tm hp nx with
  | no w=>rw [hr] at h;cases h
  | go e1 tm1 hp1 nx1=>
   rw [hr] at h
   have h1:=hf tm hp nx e1 tm1 hp1 nx1 Wt Wh hr
   have hl1:=h1.le
   cases e1 with
   | nrm=>
    have h2:=vO hf n tm1 hp1 nx1 l tm' hp' nx' h1.wt h1.hw h
    have hl2:=h2.le
    refine ⟨by omega,h2.wt,h2.hw,fun B E0 n0 Q E act hfr hQ hR=>?_⟩
    show Code.rounds P b Q (n+1) act E.w
    rw [rounds_succ]
    exact h1.wp B E0 n0 _ E act (fun k h3 h4=>hfr k h3 (by omega)) (fun E act hR1=>h2.wp B E0 n0 Q E act hfr hQ hR1) hR
   | ext id=>
    cases h
    refine ⟨hl1,h1.wt,h1.hw,fun B E0 n0 Q E act hfr hQ hR=>?_⟩
    show Code.rounds P b Q (n+1) act E.w
    rw [rounds_succ]
    exact h1.wp B E0 n0 _ E act hfr (fun E act hR1=>hQ E act hR1) hR
   | ret=>
    cases h
    refine ⟨hl1,h1.wt,h1.hw,fun B E0 n0 Q E act hfr hQ hR=>?_⟩
    show Code.rounds P b Q (n+1) act E.w
    rw [rounds_succ]
    exact h1.wp B E0 n0 _ E act hfr (fun E act hR1=>hQ E act hR1) hR
theorem HE {e:En} {i:Nat} {k:Gt→Cd}:DQ K e i k=k (dB K e i):=by
 unfold DQ dB
 cases Nat.beq e.e0 (Nat.succ i)
 case true=>rfl
 cases Nat.beq e.e1 (Nat.succ i)
 case true=>rfl
 cases Nat.beq e.e2 (Nat.succ i)
 case true=>rfl
 cases Nat.beq e.e3 (Nat.succ i)
 case true=>rfl
 cases isK K i
 case true=>rfl
 rfl
attribute [local irreducible] jj in
theorem fF (hT:bc P tb) (hP:P.follows .mixedOrders=true) (hcall:CallVOK P call) :∀ (c:Code),BI N K ((fC tb N K c).run call) (fun Q act w=>c.wp P Q act w)
 | .skip=>fun tm hp nx l tm' hp' nx' Wt Wh h=>by
  cases h
  exact ⟨Nat.le_refl _,Wt,Wh,fun B E0 n0 Q E act hfr hQ hR=>wp_skip (hQ E act hR)⟩
 | .ret=>fun tm hp nx l tm' hp' nx' Wt Wh h=>by
  cases h
  exact ⟨Nat.le_refl _,Wt,Wh,fun B E0 n0 Q E act hfr hQ hR=>wp_ret (hQ E act hR)⟩
 | .exit id=>fun tm hp nx l tm' hp' nx' Wt Wh h=>by
  cases h
  exact ⟨Nat.le_refl _,Wt,Wh,fun B E0 n0 Q E act hfr hQ hR=>wp_exit (hQ E act hR)⟩
 | .region id ops false=>fun tm hp nx l tm' hp' nx' Wt Wh h=>by
  have h:Cd.run (Py tb N K ops.toList) call tm hp nx = .go l tm' hp' nx':=h
  unfold Py at h
  cases hd:Hh N ops.toList with
  | false=>rw [hd] at h;cases h
  | true=>
   rw [hd] at h
   have h1:=AM (P:=P) (N:=N) (K:=K) (all:=ops.toList) hT hcall ops.toList en0 (fun o ho=>List.all_eq_true.1 hd o ho) u0 u0 u0 u0 tm hp nx l tm' hp' nx' Wt Wh h
   obtain rfl:=h1.l
   refine ⟨h1.le,h1.wt,h1.hw,fun B E0 n0 Q E act hfr hQ hR=>wp_region_list ?_⟩
   have:=h1.wp B E0 n0 Q E act hfr hQ hR
   simpa using this
 | .region id ops true=>fun tm hp nx l tm' hp' nx' Wt Wh h=>by
  have h:lp tb N K call ops.toList ops.toList tm hp nx [] = .go l tm' hp' nx':=h
  have h1:=B1 (P:=P) hT hP hcall Wt Wh h id
  obtain rfl:=h1.l
  refine ⟨h1.le,h1.wt,h1.hw,fun B E0 n0 Q E act hfr hQ hR=>?_⟩
  have:=h1.wp B E0 n0 Q E act hfr hQ hR
  simpa using this
 | .seq x y=>fun tm hp nx l tm' hp' nx' Wt Wh h=>by
  have h:LK (Cd.run (fC tb N K x) call tm hp nx) (Cd.run (fC tb N K y) call) = .go l tm' hp' nx':=h
  cases hr:Cd.run (fC tb N K x) call tm hp nx with
  | no w=>rw [hr] at h;cases h
  | go e1 tm1 hp1 nx1=>
   rw [hr] at h
   have h1:=fF hT hP hcall x tm hp nx e1 tm1 hp1 nx1 Wt Wh hr
   have hl1:=h1.le
   cases e1 with
   | nrm=>
    have h2:=fF hT hP hcall y tm1 hp1 nx1 l tm' hp' nx' h1.wt h1.hw h
    have hl2:=h2.le
    exact ⟨by omega,h2.wt,h2.hw,fun B E0 n0 Q E act hfr hQ hR=>wp_seq (h1.wp B E0 n0 _ E act (fun k h3 h4=>hfr k h3 (by omega)) (fun E act hR1=>h2.wp B E0 n0 Q E act hfr hQ hR1) hR)⟩
   | ext id=>
    cases h
    exact ⟨hl1,h1.wt,h1.hw,fun B E0 n0 Q E act hfr hQ hR=>wp_seq (h1.wp B E0 n0 _ E act hfr (fun E act hR1=>hQ E act hR1) hR)⟩
   | ret=>
    cases h
    exact ⟨hl1,h1.wt,h1.hw,fun B E0 n0 Q E act hfr hQ hR=>wp_seq (h1.wp B E0 n0 _ E act hfr (fun E act hR1=>hQ E act hR1) hR)⟩
 | .cond c x y=>fun tm hp nx l tm' hp' nx' Wt Wh h=>by
  have key :∀ (u:U),(∀ E act,TmR K en0 u0 u0 u0 u0 tm E act→aa E u.toV (act.eval c))→uKb u (fun b=>Bool.rec (motive:=fun _=>Rv) (Cd.run (fC tb N K y) call tm hp nx) (Cd.run (fC tb N K x) call tm hp nx) b) (.no [4]) = .go l tm' hp' nx'→EndsC N K tm hp nx l tm' hp' nx' (fun Q act w=>(Code.cond c x y).wp P Q act w):=fun u hu h=>by
   cases u with
   | kb b=>
    cases b with
    | true=>
     have h1:=fF hT hP hcall x tm hp nx l tm' hp' nx' Wt Wh h
     exact ⟨h1.le,h1.wt,h1.hw,fun B E0 n0 Q E act hfr hQ hR=>wp_cond_true (by have:=hu E act hR.tm;simpa [U.toV,aa] using this) (h1.wp B E0 n0 Q E act hfr hQ hR)⟩
    | false=>
     have h1:=fF hT hP hcall y tm hp nx l tm' hp' nx' Wt Wh h
     exact ⟨h1.le,h1.wt,h1.hw,fun B E0 n0 Q E act hfr hQ hR=>wp_cond_false (by have:=hu E act hR.tm;simpa [U.toV,aa] using this) (h1.wp B E0 n0 Q E act hfr hQ hR)⟩
   | _=>cases h
  cases c with
  | tmp i=>
   have h:Cd.run (DQ K en0 i fun g=>⟨fun call tm hp nx=>uKb (g u0 u0 u0 u0 tm) (fun b=>Bool.rec (motive:=fun _=>Rv) (Cd.run (fC tb N K y) call tm hp nx) (Cd.run (fC tb N K x) call tm hp nx) b) (.no [4])⟩) call tm hp nx = .go l tm' hp' nx':=h
   rw [HE] at h
   exact key (dB K en0 i u0 u0 u0 u0 tm) (fun E act hR=>hR.win i) h
  | const v=>exact key (ko (cv v)) (fun E act hR=>lg _ _ _ (gg v)) h
  | global i=>cases h
  | func f=>cases h
 | .block id b=>fun tm hp nx l tm' hp' nx' Wt Wh h=>by
  have h:GT id (Cd.run (fC tb N K b) call tm hp nx) = .go l tm' hp' nx':=h
  cases hr:Cd.run (fC tb N K b) call tm hp nx with
  | no w=>rw [hr] at h;cases h
  | go e1 tm1 hp1 nx1=>
   rw [hr] at h
   have h1:=fF hT hP hcall b tm hp nx e1 tm1 hp1 nx1 Wt Wh hr
   cases e1 with
   | nrm=>
    cases h
    exact ⟨h1.le,h1.wt,h1.hw,fun B E0 n0 Q E act hfr hQ hR=>wp_block (h1.wp B E0 n0 _ E act hfr (fun E act hR1=>hQ E act hR1) hR)⟩
   | ret=>
    cases h
    exact ⟨h1.le,h1.wt,h1.hw,fun B E0 n0 Q E act hfr hQ hR=>wp_block (h1.wp B E0 n0 _ E act hfr (fun E act hR1=>hQ E act hR1) hR)⟩
   | ext i=>
    have h :(Bool.rec (motive:=fun _=>Rv) (.go (.ext i) tm1 hp1 nx1) (.go .nrm tm1 hp1 nx1) (Nat.beq i id):Rv) = .go l tm' hp' nx':=h
    cases hb:Nat.beq i id with
    | true=>
     rw [hb] at h
     cases h
     refine ⟨h1.le,h1.wt,h1.hw,fun B E0 n0 Q E act hfr hQ hR=>wp_block (h1.wp B E0 n0 _ E act hfr (fun E act hR1=>?_) hR)⟩
     simp only [dY,Exit.inBlock]
     rw [if_pos (ay hb)]
     exact hQ E act hR1
    | false=>
     rw [hb] at h
     cases h
     refine ⟨h1.le,h1.wt,h1.hw,fun B E0 n0 Q E act hfr hQ hR=>wp_block (h1.wp B E0 n0 _ E act hfr (fun E act hR1=>?_) hR)⟩
     simp only [dY,Exit.inBlock]
     rw [if_neg (fun e=>by subst e;rw [Nat.beq_refl] at hb;cases hb)]
     exact hQ E act hR1
 | .loop b=>fun tm hp nx l tm' hp' nx' Wt Wh h=>by
  have h1:=vO (fF hT hP hcall b) jj tm hp nx l tm' hp' nx' Wt Wh h
  exact ⟨h1.le,h1.wt,h1.hw,fun B E0 n0 Q E act hfr hQ hR=>wp_loop_rounds jj (h1.wp B E0 n0 Q E act hfr hQ hR)⟩
 | .rangeFunc _ _ _ _=>fun tm hp nx l tm' hp' nx' Wt Wh h=>by cases h
 | .scope _=>fun tm hp nx l tm' hp' nx' Wt Wh h=>by cases h
 | .label _=>fun tm hp nx l tm' hp' nx' Wt Wh h=>by cases h
 | .goto _=>fun tm hp nx l tm' hp' nx' Wt Wh h=>by cases h
 | .refuse _=>fun tm hp nx l tm' hp' nx' Wt Wh h=>by cases h
theorem uK :∀ {l:List U} {i:Nat} {tm:TM} {s:Nat},i+l.length≤512→s<512→(cE s).get (iQ l i tm)=if i≤s∧s<i+l.length then (l[s - i]?).getD u0 else (cE s).get tm
 | [],i,tm,s,_,_=>by rw [if_neg (by simp)];rfl
 | u::l,i,tm,s,h,hs=>by
  simp only [List.length_cons] at h
  show (cE s).get (iQ l (i+1) (tH tm i u))=_
  rw [uK (by omega) hs]
  by_cases e:s=i
  ·subst e
   rw [if_neg (by omega),if_pos (by simp),ki,gO]
   simp
  ·by_cases e2:i+1≤s∧s<i+1+l.length
   ·rw [if_pos e2,if_pos (by simp;omega)]
    obtain ⟨d,rfl⟩ :∃ d,s=i+1+d:=⟨s - (i+1),by omega⟩
    rw [show i+1+d - (i+1)=d by omega,show i+1+d - i=d+1 by omega]
    simp
   ·rw [if_neg e2,if_neg (by simp;omega),ki,Dv (by omega) hs (Ne.symm e)]
theorem LR (s:Nat) :(cE s).get tm0=u0:=GK _ _
theorem EE {G:Rv→Prop} {sl:Rv} (h0:G sl) {tm:TM} (Wt:WT K tm) {hp:HP} (Wh:hpW hp) {r:ResultVar} {k:U→Rv} (h :∀ u v,ym tb (tmL K tm 512) (hpH hp) r=some v→v=u.toV→u.wf→G (k u)):G (EG tb K r tm hp k sl):=by
 have hl :∀ s,cC (tmL K tm 512) s =(dB K en0 s u0 u0 u0 u0 tm).toV:=(wT tm).look
 cases r with
 | tmp t=>exact h _ _ (by simp only [ym,hl]) rfl (Wt.win t)
 | cell a t=>
  show G (TI.rec (motive:=fun _=>TM→HP→(U→Rv)→Rv→Rv) (fun _ _ _ sl=>sl) (fun tm hp=>ldP Ah (dB K en0 a u0 u0 u0 u0 tm) hp) (fun n tm hp=>ldP (Ag n) (dB K en0 a u0 u0 u0 u0 tm) hp) (tyI tb t) tm hp k sl)
  have main :∀ f:LdF,Qx tb t f→G (ldP f (dB K en0 a u0 u0 u0 u0 tm) hp k sl):=fun f hf=>by
   obtain ⟨td,ht,hf⟩:=hf
   refine pq h0 (fun q o hx=>Hw h0 fun ct n hg=>?_) (fun q v o hx=>h0)
   obtain ⟨cs,hc,hH,_⟩:=pw Wh hg
   refine hf G ct n cs o k sl hc h0 fun u v hl1 hv hw=>h u v ?_ hv hw
   simp only [ym,ht,hl,tvp hx,kC,hH,hl1]
  cases hi:tyI tb t with
  | no=>exact h0
  | one=>
   refine main Ah ?_
   obtain ⟨td,ht,ha,hs⟩:=yO hi
   refine ⟨td,ht,fun G ct n cs o k sl hc h0 hk=>ca h0 fun hb=>?_⟩
   have hlt:o<n:=bh hb
   refine hk _ (cf ct o).toV ?_ (BV _).symm (G5 _)
   unfold ld
   rw [ha,hc.get o hlt]
   rfl
  | agg m=>
   refine main (Ag m) ?_
   obtain ⟨td,ht,ha,hs⟩:=yN hi
   refine ⟨td,ht,fun G ct n cs o k sl hc h0 hk=>ca h0 fun hb=>?_⟩
   have hle:o+m≤n:=bh hb
   have hld:ld td cs o = .val [] (.agg ((cs.drop o).take m)) []:=by
    unfold ld
    rw [ha,hs,if_pos rfl,if_pos (by rw [hc.len];exact hle)]
   cases hm:Nat.beq m n with
   | false=>
    have:=hc.sub hle
    exact hk _ _ hld (by show _=V.agg (toL _ _);rw [this.toL]) ⟨_,this⟩
   | true=>
    have e1:=ay hm
    have e0:o=0:=by omega
    subst e0
    subst e1
    refine hk _ _ hld ?_ ⟨_,hc⟩
    show _=V.agg (toL ct m)
    rw [hc.toL,List.drop_zero,List.take_of_length_le (by rw [hc.len];exact Nat.le_refl _)]
theorem Qt {G:Rv→Prop} {sl:Rv} (h0:G sl) {u:U} (hu:u.wf) {k:W→Rv} (h :∀ w,w.toV=u.toV→w.wf→G (k w)):G (wOf u k sl):=by
 refine Hx h0 (fun c hc _=>h (.c c) hc trivial) (fun t n e=>?_)
 subst e
 exact h (.agg t n) rfl hu
theorem EF {G:Rv→Prop} {sl:Rv} (h0:G sl) {tm:TM} (Wt:WT K tm) {hp:HP} (Wh:hpW hp) :∀ {rs:List ResultVar} {k:List W→Rv},(∀ ws,nS tb (tmL K tm 512) (hpH hp) rs=some (ws.map W.toV)→(∀ w∈ws,w.wf)→G (k ws))→G (Jt tb K rs tm hp k sl)
 | [],k,h=>h [] rfl (fun w hw=>by cases hw)
 | r::rs,k,h=>by
  show G (EG tb K r tm hp (fun u=>wOf u (fun w=>Jt tb K rs tm hp (fun l=>k (w::l)) sl) sl) sl)
  refine EE h0 Wt Wh fun u v hr hv hu=>Qt h0 hu fun w hw hww=>EF h0 Wt Wh fun ws hws hwf=>h (w::ws) ?_ (fun x hx=>?_)
  ·simp only [nS,hr,hws,List.map_cons,hw,hv]
  ·rcases List.mem_cons.1 hx with rfl|hx
   ·exact hww
   ·exact hwf x hx
theorem LG {G:Rv→Prop} {sl:Rv} (h0:G sl) {tm:TM} (Wt:WT K tm) {hp:HP} (Wh:hpW hp) {rs:List ResultVar} {k:U→Rv} (h :∀ u,oI tb (tmL K tm 512) (hpH hp) rs=some u.toV→u.wf→G (k u)):G (Rx tb K rs tm hp k sl):=by
 match rs with
 | []=>exact h (.tup []) rfl (fun w hw=>by cases hw)
 | [r]=>exact EE h0 Wt Wh fun u v hr hv hu=>h u (by simp only [oI,nS,hr,hv]) hu
 | r::r2::rs=>
  refine EF (rs:=r::r2::rs) h0 Wt Wh fun ws hws hwf=>h (.tup ws) ?_ hwf
  have h2:2≤ws.length:=by
   have key :∀ (rs:List ResultVar) (l:List V),nS tb (tmL K tm 512) (hpH hp) rs=some l→l.length=rs.length:=by
    intro rs
    induction rs with
    | nil=>intro l h;simp only [nS,Option.some.injEq] at h;rw [←h];rfl
    | cons r rs ih=>
     intro l h
     simp only [nS] at h
     split at h
     ·split at h
      ·rename_i l' hl'
       cases h
       simp [ih _ hl']
      ·cases h
     ·cases h
   have:=key _ _ hws
   simp at this
   omega
  unfold oI
  rw [hws]
  match ws,h2 with
  | a::b::ws,_=>rfl
theorem zF (hT:bc P tb) (hP:P.follows .mixedOrders=true) (hname :∀ (f:FuncId) (fn:Func),P.funcs[f]?=some fn→(fn.name == "runtime.NumGoroutine")=false) (hcall:CallVOK P call) {f:FuncId} {fn:Func} (hf:P.funcs[f]?=some fn) {args:List U} {hp:HP} {nx:Nat} (Wa :∀ x∈args,x.wf) (Wh:hpW hp) {u:U} {hp':HP} {nx':Nat}
  (h :(xK tb K fn).run call args hp nx = .ok u hp' nx'):FnV P f args hp nx u hp' nx':=by
 unfold xK at h
 cases hc:fn.body with
 | none=>rw [hc] at h;cases h
 | some c=>
  rw [hc] at h
  cases hn:Nat.ble fn.ntmps 512 with
  | false=>rw [hn] at h;cases h
  | true=>
   rw [hn] at h
   cases hl:Nat.ble args.length fn.ntmps with
   | false=>
    have h :(Bool.rec (motive:=fun _=>Rf) (.no [9]) (FC tb K fn.results.toList (bQ nx fun nx=>Cd.run (fC tb fn.ntmps K c) call (iQ args 0 tm0) hp nx)) (Nat.ble args.length fn.ntmps):Rf) = .ok u hp' nx':=h
    rw [hl] at h;cases h
   | true=>
    have h :(Bool.rec (motive:=fun _=>Rf) (.no [9]) (FC tb K fn.results.toList (bQ nx fun nx=>Cd.run (fC tb fn.ntmps K c) call (iQ args 0 tm0) hp nx)) (Nat.ble args.length fn.ntmps):Rf) = .ok u hp' nx':=h
    rw [hl] at h
    have h:FC tb K fn.results.toList (bQ nx fun nx=>Cd.run (fC tb fn.ntmps K c) call (iQ args 0 tm0) hp nx) = .ok u hp' nx':=h
    rw [cG] at h
    have hn:=bh hn
    have hl:=bh hl
    have hget :∀ s,s<512→(cE s).get (iQ args 0 tm0) =(args[s]?).getD u0:=fun s hs=>by
     rw [uK (by omega) hs]
     by_cases e:0≤s∧s<0+args.length
     ·rw [if_pos e,Nat.sub_zero]
     ·rw [if_neg e,LR,List.getElem?_eq_none (by omega)]
      rfl
    have hwf :∀ s:Nat,((args[s]?).getD u0).wf:=fun s=>by
     cases hx:args[s]? with
     | none=>exact wL
     | some x=>exact Wa x (List.mem_of_getElem? hx)
    have Wt:WT K (iQ args 0 tm0):=by
     have h2 :∀ i,isK K i=true→((cE i).get (iQ args 0 tm0)).wf:=fun i hi=>by rw [hget i (sf hi)];exact hwf i
     refine ⟨fun i=>?_,h2⟩
     rw [ij]
     cases hk:isK K i with
     | true=>exact h2 i hk
     | false=>exact wL
    cases hr:Cd.run (fC tb fn.ntmps K c) call (iQ args 0 tm0) hp nx with
    | no w=>rw [hr] at h;cases h
    | go e1 tm1 hp1 nx1=>
     rw [hr] at h
     have h1:=fF (N:=fn.ntmps) (K:=K) hT hP hcall c _ hp nx e1 tm1 hp1 nx1 Wt Wh hr
     have hret :(∀ id,e1≠ .ext id)∧Jv (LH tb K fn.results.toList tm1 hp1 nx1) = .ok u hp' nx':=by
      cases e1 with
      | nrm=>exact ⟨fun id h=>(by cases h),h⟩
      | ret=>exact ⟨fun id h=>(by cases h),h⟩
      | ext id=>cases h
     obtain ⟨hne,h⟩:=hret
     have h2:oI tb (tmL K tm1 512) (hpH hp1) fn.results.toList=some u.toV∧u.wf∧hp'=hp1∧nx'=nx1:=by
      revert h
      unfold LH
      refine LG (G:=fun r=>Jv r = .ok u hp' nx'→_) (fun h=>by cases h) h1.wt h1.hw fun u1 hu1 hw1 h=>?_
      have h:Rf.ok ((cE 0).get (tH tm0 0 u1)) hp1 nx1 = .ok u hp' nx':=h
      rw [ki,gO] at h
      cases h
      exact ⟨hu1,hw1,rfl,rfl⟩
     obtain ⟨hres,huw,rfl,rfl⟩:=h2
     refine ⟨⟨fn,hf,by rw [hc];rfl,hname f fn hf⟩,h1.le,huw,h1.hw,fun B E av hE hH hav hfr=>calls_of_wp hf hc ?_⟩
     have hav_len:=aC hav
     rw [List.length_map] at hav_len
     refine h1.wp B E nx _ E _ hfr (fun E' a hR=>?_) ?_
     ·have hEH:E'.H=hpH hp':=hR.h
      rw [←hEH] at hres
      have htm:dF E' (find (tmL K tm1 512)) a:=fun s v hv=>by
       rw [wT tm1 s] at hv
       by_cases hk:isK K s=true
       ·rw [if_pos hk] at hv;cases hv;exact hR.tm.tm s hk
       ·rw [if_neg hk] at hv;cases hv
      obtain ⟨v',k1,k2⟩:=nT hR.rel hT htm hres
      have fin :∃ v',(results fn a.tmps).run P E'.w = .ok v' E'.w∧∃ E2 v2,(Ending.returned v') = .returned v2∧Came B E (hpH hp') nx nx' u.toV v2 E'.w E2:=
       ⟨v',k1,E',v',rfl,⟨hR.rel,rfl,hEH,hR.ext,hR.u,k2⟩⟩
      cases e1 with
      | ext id=>exact (hne id rfl).elim
      | nrm=>exact ⟨hR.defers,fin⟩
      | ret=>exact ⟨hR.defers,fin⟩
     ·have hrel :∀ i,isK K i=true→aa E ((cE i).get (iQ args 0 tm0)).toV ((av.toArray++Array.replicate (fn.ntmps - av.toArray.size) undef).getD i undef):=fun i hi=>by
       rw [hget i (sf hi)]
       cases hx:args[i]? with
       | none=>exact nX
       | some x=>
        obtain ⟨v',q1,q2⟩:=dx hav i x.toV (by rw [List.getElem?_map,hx];rfl)
        have :(av.toArray++Array.replicate (fn.ntmps - av.toArray.size) undef).getD i undef=v':=by
         rw [Array.getD_eq_getD_getElem?]
         have hl:i<av.toArray.size:=by
          rcases Nat.lt_or_ge i av.length with h3|h3
          ·simpa using h3
          ·rw [List.getElem?_eq_none h3] at q1;cases q1
         rw [Array.getElem?_append_left hl]
         simp [q1]
        rw [this]
        exact q2
      refine ⟨hE,Ext.refl E,hH,fun n hn=> .inl hn,Nat.le_refl _,⟨fun i=>?_,hrel⟩,?_,rfl⟩
      ·rw [ij]
       cases hk:isK K i with
       | true=>exact hrel i hk
       | false=>exact nX
      ·simp only [Array.size_append,Array.size_replicate,List.size_toArray];omega
def XOK (P:Program) (X:wS):Prop:=∀ g x,X g=some x→∀ args u,(∀ a∈args,U.wf a)→x args=some u→u.wf∧wR P g args u
theorem DL {fn:Func} {args:List U} {hp:HP} {nx:Nat} {u:U} {hp':HP} {nx':Nat} (h :(xK tb K fn).run call args hp nx = .ex u hp' nx'):False:=by
 have key :∀ r:Rv,Jv r = .ex u hp' nx'→False:=fun r h=>by cases r <;> cases h
 unfold xK at h
 cases hc:fn.body with
 | none=>rw [hc] at h;cases h
 | some c=>
  rw [hc] at h
  cases hn:Nat.ble fn.ntmps 512 with
  | false=>rw [hn] at h;cases h
  | true=>
   rw [hn] at h
   have h :(Bool.rec (motive:=fun _=>Rf) (.no [9]) (FC tb K fn.results.toList (bQ nx fun nx=>Cd.run (fC tb fn.ntmps K c) call (iQ args 0 tm0) hp nx)) (Nat.ble args.length fn.ntmps):Rf) = .ex u hp' nx':=h
   cases hl:Nat.ble args.length fn.ntmps with
   | false=>rw [hl] at h;cases h
   | true=>
    rw [hl] at h
    have h:FC tb K fn.results.toList (bQ nx fun nx=>Cd.run (fC tb fn.ntmps K c) call (iQ args 0 tm0) hp nx) = .ex u hp' nx':=h
    generalize (bQ nx fun nx=>Cd.run (fC tb fn.ntmps K c) call (iQ args 0 tm0) hp nx)=r at h
    cases r with
    | no w=>cases h
    | go e tm hp1 nx1=>
     cases e with
     | ext id=>cases h
     | nrm=>exact key _ h
     | ret=>exact key _ h
theorem y7 (hT:bc P tb) (hP:P.follows .mixedOrders=true) (hname :∀ (f:FuncId) (fn:Func),P.funcs[f]?=some fn→(fn.name == "runtime.NumGoroutine")=false) {Pf:FuncId→Option Func} (hPf :∀ (f:FuncId) (fn:Func),Pf f=some fn→P.funcs[f]?=some fn) {X:wS} (hX:XOK P X) (KK:FuncId→Nat) :∀ d,CallVOK P (uN tb Pf X KK d)
 | 0=>⟨fun g args hp nx u hp' nx' _ _ h=>(by cases h),fun g args hp nx u hp' nx' _ h=>(by cases h)⟩
 | d+1=>by
  have ih:=y7 hT hP hname hPf hX KK d
  refine ⟨fun g args hp nx u hp' nx' Wa Wh h=>?_,fun g args hp nx u hp' nx' Wa h=>?_⟩
  ·have h:Fc.run (qF tb Pf X KK g) (uN tb Pf X KK d) args hp nx = .ok u hp' nx':=h
   unfold qF at h
   cases hx:X g with
   | some x=>
    rw [hx] at h
    have h:Ho (x args) hp nx = .ok u hp' nx':=h
    cases hxa:x args with
    | none=>rw [hxa] at h;cases h
    | some u1=>rw [hxa] at h;cases h
   | none=>
    rw [hx] at h
    have h:Fc.run (Option.rec (motive:=fun _=>Fc) ⟨fun _ _ _ _=> .no [12]⟩ (xK tb (KK g)) (Pf g)) (uN tb Pf X KK d) args hp nx = .ok u hp' nx':=h
    cases hp1:Pf g with
    | none=>rw [hp1] at h;cases h
    | some fn=>
     rw [hp1] at h
     exact zF hT hP hname ih (hPf _ _ hp1) Wa Wh h
  ·have h:Fc.run (qF tb Pf X KK g) (uN tb Pf X KK d) args hp nx = .ex u hp' nx':=h
   unfold qF at h
   cases hx:X g with
   | some x=>
    rw [hx] at h
    have h:Ho (x args) hp nx = .ex u hp' nx':=h
    cases hxa:x args with
    | none=>rw [hxa] at h;cases h
    | some u1=>
     rw [hxa] at h
     cases h
     obtain ⟨h1,h2⟩:=hX g x hx args u Wa hxa
     exact ⟨rfl,rfl,h1,h2⟩
   | none=>
    rw [hx] at h
    have h:Fc.run (Option.rec (motive:=fun _=>Fc) ⟨fun _ _ _ _=> .no [12]⟩ (xK tb (KK g)) (Pf g)) (uN tb Pf X KK d) args hp nx = .ex u hp' nx':=h
    cases hp1:Pf g with
    | none=>rw [hp1] at h;cases h
    | some fn=>rw [hp1] at h;exact (DL h).elim
noncomputable section
def Q7 (b:Bool) (r:Rf):Bool:=Rf.rec (motive:=fun _=>Bool) (fun u _ _=>U.rec (motive:=fun _=>Bool) (fun _ _=>false) (fun c=>Bool.rec (motive:=fun _=>Bool) (FZ c) c b) (fun _ _=>false) (fun _ _ _=>false) (fun _ _ _ _ _=>false) (fun _=>false) (fun _ _=>false) (fun _=>false) u) (fun _ _ _=>false) (fun _=>false) r
end
theorem BZ (hcall:CallVOK P call) {f:FuncId} {Kc:Nat} {b:Bool} (h:Q7 b (call f [] hp0 0)=true):CtrOK P Kc f (aM Kc .unit fun _=>⟨[],.bool b,[]⟩):=by
 cases hr:call f [] hp0 0 with
 | no w=>rw [hr] at h;cases h
 | ex u hp' nx'=>rw [hr] at h;cases h
 | ok u hp' nx'=>
  rw [hr] at h
  have hu:u = .kb b:=by
   cases u with
   | kb c=>cases b <;> cases c <;> first|rfl|cases h
   | _=>cases h
  subst hu
  have F:=hcall.ok f [] hp0 0 _ hp' nx' (fun x hx=>by cases hx) HL hr
  refine ⟨F.fn,fun B E hE args av hav m hm ps' v0 dh hct hps=>?_⟩
  unfold aM at hct
  simp only at hct
  cases args with
  | cons x xs=>simp [cK] at hct
  | nil=>
   have h0:Nat.ble 0 Kc=true:=by cases Kc <;> rfl
   simp only [cK,List.length_nil,h0,cond_true,Option.some.injEq,Prod.mk.injEq] at hct
   obtain ⟨rfl,rfl,rfl⟩:=hct
   cases av with
   | cons x xs=>simp [ab] at hav
   | nil=>
    let E1:Env:=⟨fun _=>False,fun _=>none,E.S,E.w,fun _=>none⟩
    have hE1:HRel (y3 E.w (fun _=>False) E.S hE.glob0) E1:=by
     refine ⟨fun h b hx=>?_,fun b hb=>hE.stab b hb,fun h k b hx=>?_,fun h h' k k' b hx=>?_,fun h k hx=>?_,Keeps.refl _ _,fun h k b hx=>?_,fun _ h=>h,fun _ h=> .inl h⟩ <;> cases hx
    refine (F.calls _ E1 [] hE1 (by rw [Mg]) (by simp [ab]) (fun n _ _ h=>h)).mono fun e w' hh=>?_
    obtain ⟨E',v',rfl,C⟩:=hh
    have hw:=C.w
    subst hw
    obtain ⟨E2,G,_,_⟩:=GN hE hm (S1:=E.S) (fun b hb=>hb) C.rel (acc:= []) ⟨by simp,fun h r hr=>by simp at hr⟩ (Nat.zero_le _) (.inl fun b hb=>hb)
    refine ⟨E2,v',rfl,by simpa [gE,PRes.flat,V.noF] using G,?_⟩
    have hv:=C.v
    simp only [V.shift,aa]
    simpa [U.toV,aa] using hv
end Go.Mir
namespace Go.Mir
open Go.RowKit
variable {P:Program}
theorem KD {g:FuncId} {fn:Func} {e:Array Value→Sem Value} (hf:P.funcs[g]?=some fn) (hname :(fn.name == "runtime.NumGoroutine")=false) (hb:fn.body.isNone=true) (hn:Extern.findNext fn=none) (he:Extern.find fn=some e) {args:List U} {u:U}
  (h :∀ (E:Env) (av:List Value),ab E (args.map U.toV) av→∃ v',aa E u.toV v'∧(e av.toArray).run P E.w = .ok v' E.w):wR P g args u:=fun E av hav=>by
 obtain ⟨v',hv,hr⟩:=h E av hav
 refine ⟨v',hv,fun o c f l a next Q ho hcf hfe hav2 hnx=>?_⟩
 have hrun :(execOp a.eval o).run P E.w = .ok (.value v') E.w:=by
  have e1 :(c.args.toList.map a.eval++l.toList).toArray=#[]++c.args.map a.eval++l:=by
   apply Array.ext'
   simp
  have :(execOp a.eval o).run P E.w =(callFunc g (#[]++c.args.map a.eval++l)).run P E.w:=by
   simp [execOp,ho,resolve,hcf,Deferred.ofValue,hfe,invoke]
  rw [this,run_callFunc_extern hf hname hb hn he,←e1,←hav2,hr]
  rfl
 unfold Oper.wp
 rw [hrun]
 simp only [Oper.upon]
 exact hnx
theorem Ra :∀ (l:List UInt8) (c:UInt8),Lib.indexByte l c≤l.length
 | [],c=>by unfold Lib.indexByte;simp
 | b::l,c=>by
  have:=Ra l c
  unfold Lib.indexByte
  simp only [List.length_cons]
  split
  ·omega
  ·split <;> omega
theorem D3 :∀ (l:List UInt8) (c i:Nat),c<256→HT l c i=if Lib.indexByte l c.toUInt8 = -1 then -1 else Lib.indexByte l c.toUInt8 +(i:Int)
 | [],c,i,_=>rfl
 | b::l,c,i,hc=>by
  show Bool.rec (motive:=fun _=>Int) (HT l c (i+1)) (.ofNat i) (Nat.beq b.toNat c)=_
  rw [D3 l c (i+1) hc]
  have hge:=Lib.indexByte_ge l c.toUInt8
  have hcn:c.toUInt8.toNat=c:=by simp [Nat.toUInt8];omega
  have step:Lib.indexByte (b::l) c.toUInt8=if b==c.toUInt8 then 0 else if Lib.indexByte l c.toUInt8 == -1 then -1 else Lib.indexByte l c.toUInt8+1:=rfl
  rw [step]
  cases hb:Nat.beq b.toNat c with
  | true=>
   have e:b=c.toUInt8:=UInt8.toNat.inj (by rw [hcn];exact ay hb)
   have e2 :(b==c.toUInt8)=true:=by rw [e];simp
   rw [e2]
   simp
  | false=>
   have e :¬(b==c.toUInt8)=true:=fun h=>by
    have:b=c.toUInt8:=by simpa using h
    rw [this,hcn,Nat.beq_refl] at hb
    cases hb
   have e2 :(b==c.toUInt8)=false:=by simpa using e
   rw [e2]
   simp only [Bool.false_eq_true,if_false]
   by_cases h1:Lib.indexByte l c.toUInt8 = -1
   ·rw [if_pos h1,h1];rfl
   ·rw [if_neg h1]
    have h2 :¬(Lib.indexByte l c.toUInt8 == -1)=true:=by simpa using h1
    rw [if_neg h2,if_neg (by omega)]
    push_cast
    omega
theorem Ou {g:FuncId} {fn:Func} (hf:P.funcs[g]?=some fn) (hname :(fn.name == "runtime.NumGoroutine")=false) (hb:fn.body.isNone=true) (hn:Extern.findNext fn=none) (he:Extern.find fn=some Extern.BytealgIndexByte.indexByte) {args:List U} {u:U} (h:ixB args=some u):u.wf∧wR P g args u:=by
 unfold ixB at h
 split at h
 case h_2=>cases h
 rename_i s c
 cases h
 refine ⟨trivial,KD hf hname hb hn he fun E av hav=>?_⟩
 obtain ⟨a,r,rfl,h1,h2⟩:=bu hav
 obtain ⟨b,r2,rfl,h3,h4⟩:=bu h2
 have h5:r2=[]:=by cases r2 with|nil=>rfl|cons=>simp [ab] at h4
 subst h5
 simp only [U.toV,aa] at h1 h3
 obtain ⟨rfl,hs⟩:=h1
 obtain ⟨rfl,hc⟩:=h3
 have hc2:c<256:=by
  have:=hc.2
  simp [IntKind.max,IntKind.bits,IntKind.signed] at this
  omega
 refine ⟨_,?_,Lib.run_indexByteString s (Int.ofNat c) E.w⟩
 have e:HT s.data.toList c 0=Lib.indexByte s.data.toList c.toUInt8:=by
  rw [D3 _ _ _ hc2]
  split
  ·rename_i h;rw [h]
  ·simp
 show aa E (.int .i64 (HT s.data.toList c 0)) _
 rw [e]
 refine gM ?_
 have hge:=Lib.indexByte_ge s.data.toList c.toUInt8
 have hle:=Ra s.data.toList c.toUInt8
 have hl:s.data.toList.length≤au:=by simpa using hs
 unfold au at hl
 have e1:IntKind.i64.min = -9223372036854775808:=by decide
 have e2:IntKind.i64.max=9223372036854775807:=by decide
 unfold ok
 rw [e1,e2]
 omega
end Go.Mir
