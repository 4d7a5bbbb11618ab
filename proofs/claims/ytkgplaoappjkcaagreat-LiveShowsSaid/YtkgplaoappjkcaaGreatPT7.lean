/- Texts of the mirror and contracts, put together. -/
import Derived.Test.YtkgplaoappjkcaaGreatPT6
import Derived.Test.YtkgplaoappjkcaaGreatPT3
namespace Go.Proofs.YtkgplaoappjkcaaGreat
open Go Go.Mir
abbrev Evl:Type:=List Mir.Event
def go:Match→Evl→Prop
 | _,[]=>True
 | m,e::l=>ba m e=0∧go (bd m e) l
theorem pp :∀ (l:Evl) (m:Match) (i:Int),okG m l i→go m l
 | [],_,_,_=>trivial
 | _::l,_,i,h=>⟨(rL h).2.1,pp l _ (i+1) (rL h).2.2⟩
theorem ra :∀ (l:Evl) (m:Match) (i:Int),go m l→i +(l.length:Int)≤4000→dE m l i =(l.foldl bd m,-1,0)
 | [],_,_,_,_=>rfl
 | e::l,m,i,h,hl=>by
  simp only [List.length_cons] at hl
  unfold dE
  rw [if_neg (by rw [decide_eq_true_eq];omega),if_neg (by rw [h.1];decide),ra l _ _ h.2 (by omega)]
  rfl
theorem oB :∀ (a b:Evl) (m:Match),go m (a++b)↔go m a∧go (a.foldl bd m) b
 | [],_,_=>⟨fun h=>⟨trivial,h⟩,fun h=>h.2⟩
 | e::a,b,m=>by
  simp only [List.cons_append,go,List.foldl_cons,oB a b]
  exact ⟨fun ⟨x,z,w⟩=>⟨⟨x,z⟩,w⟩,fun ⟨⟨x,z⟩,w⟩=>⟨x,z,w⟩⟩
theorem rA {l:Evl} {m:Match} (h:go m l) (n:Nat):go m (l.take n):=by
 have e:l=l.take n++l.drop n:=(List.take_append_drop n l).symm
 rw [e] at h
 exact ((oB _ _ _).1 h).1
theorem uE :∀ (l:Evl) (m:Match),go m l→∀ e∈l,be e=0
 | [],_,_,_,h=>by cases h
 | x::l,m,h,e,he=>by
  rcases List.mem_cons.1 he with rfl|he
  ·exact (nj h.1).2.1
  ·exact uE l _ h.2 e he
theorem pq :∀ (l:Evl) (m:Match),aD m→aD (l.foldl bd m)
 | [],_,h=>h
 | e::l,_,h=>pq l _ (gm e h)
theorem tc :∀ (l:Evl) (f:Fol),go f.match_ l→0≤f.known→f.known +(l.length:Int)≤4000→oX f l =({ f with match_:=l.foldl bd f.match_,known:=f.known +(l.length:Int) },true)
 | [],f,_,_,_=>by simp [oX]
 | e::l,f,h,h0,hl=>by
  simp only [List.length_cons] at hl
  have e1:W (f.known+1)=f.known+1:=bb (by omega) (by omega)
  unfold oX
  rw [if_neg (by rw [h.1];decide),tc l _ h.2 (by show 0≤W (f.known+1);omega) (by show W (f.known+1)+_≤4000;omega)]
  simp only [List.foldl_cons,List.length_cons,e1]
  have e2:f.known+1 +(l.length:Int)=f.known +((l.length+1:Nat):Int):=by omega
  rw [e2]
abbrev fF:Type:=List Evl
abbrev lg (logs:fF) (e:Nat):Evl:=logs.getD e []
def stL (r:Rules) (l:Evl):Match:=l.foldl bd (iB r)
def wq (r:Rules) (l:Evl):Prop:=go (iB r) l∧l.length≤4000
def CC (l:Evl) (m:Message) (to:Nat):Prop:=0≤m.From∧m.From≤(to:Int)∧to≤l.length∧m.To =(to:Int)∧m.Events =(l.take to).drop m.From.toNat
theorem CD {l:Evl} {m:Message} {to:Nat} (h:CC l m to) :(m.Events.length:Int) =(to:Int) - m.From:=by
 obtain ⟨h1,h2,h3,_,h5⟩:=h
 rw [h5,List.length_drop,List.length_take]
 omega
theorem I1 {r:Rules} {l:Evl} {m:Message} {to:Nat} (hl:wq r l) (h:CC l m to) (he:1≤m.Epoch):AZ m:=by
 have hn:=CD h
 obtain ⟨h1,h2,h3,h4,h5⟩:=h
 have h6:=hl.2
 have e1:W (m.To - m.Events.length)=m.From:=by rw [h4];exact (bb (by omega) (by omega)).trans (by omega)
 refine ⟨?_,by show m.Events.length≤140737488355328;omega⟩
 have hg:ud m=false:=by
  unfold ud
  rw [e1,decide_eq_false (by omega),decide_eq_false (by omega),decide_eq_false (by omega),decide_eq_false (by omega)]
  simp
 have ha :(m.Events.all fun e=>be e==0)=true:=by
  rw [List.all_eq_true]
  intro e hm
  have:e∈l:=by rw [h5] at hm;exact List.mem_of_mem_take (List.mem_of_mem_drop hm)
  rw [uE l _ hl.1 e this];rfl
 unfold cI
 rw [hg,ha];rfl
theorem MR {r:Rules} {l:Evl} {f:Fol} {m:Message} {to:Nat} (hl:wq r l) (hs:f.start=iB r) (hu:aP f m=true) (hc:CC l m to)
  (hk:m.Epoch=f.epoch→∃ k:Nat,k≤l.length∧f.known =(k:Int)∧f.match_=stL r (l.take k)) :
  ∃ k:Nat,k≤l.length∧to≤k∧(m.Epoch=f.epoch→f.known≤(k:Int))∧bO f m =({ f with epoch:=m.Epoch,known:=(k:Int),match_:=stL r (l.take k) },true):=by
 have hn:=CD hc
 obtain ⟨h1,h2,h3,h4,h5⟩:=hc
 have h6:=hl.2
 obtain ⟨k0,g1,g2,g3,g4⟩ :∃ k0:Nat,k0≤l.length∧m.From≤(k0:Int)∧(m.Epoch=f.epoch→f.known =(k0:Int))∧d9 f m={ f with epoch:=m.Epoch,known:=(k0:Int),match_:=stL r (l.take k0) }:=by
  unfold aP at hu
  simp only [Bool.or_eq_true,Bool.and_eq_true,beq_iff_eq,decide_eq_true_eq] at hu
  by_cases he:m.Epoch=f.epoch
  ·obtain ⟨k,a,b,c⟩:=hk he
   refine ⟨k,a,?_,fun _=>b,?_⟩
   ·rcases hu with ⟨_,x⟩ |⟨x,_⟩ <;> omega
   ·unfold d9
    rw [if_neg (by simpa using he),←b,←c,he]
  ·refine ⟨0,Nat.zero_le _,?_,fun h=>absurd h he,?_⟩
   ·rcases hu with ⟨x,_⟩ |⟨x,_⟩
    ·exact absurd x he
    ·omega
   ·unfold d9
    rw [if_pos (by simpa using he),hs]
    rfl
 have hN:pS (d9 f m) m=if (m.Events.length:Int) <(k0:Int) - m.From then (m.Events.length:Int) else (k0:Int) - m.From:=by
  have e1:W ((d9 f m).known - m.From) =(k0:Int) - m.From:=by rw [g4];exact bb (by show _≤(k0:Int) - m.From;omega) (by show (k0:Int) - m.From≤_;omega)
  unfold pS tI;rw [e1]
 by_cases hk:k0≤to
 ·have hd:m.Events.drop (pS (d9 f m) m).toNat =(l.take to).drop k0:=by
   rw [hN,if_neg (by omega),h5,List.drop_drop]
   congr 1;omega
  have ht:l.take k0 ++(l.take to).drop k0=l.take to:=by
   have e:l.take k0 =(l.take to).take k0:=by rw [List.take_take];congr 1;omega
   rw [e,List.take_append_drop]
  have hlt:=rA hl.1 to
  rw [←ht] at hlt
  have hL:=((oB _ _ _).1 hlt).2
  have hlen :((l.take to).drop k0).length=to - k0:=by rw [List.length_drop,List.length_take];omega
  refine ⟨to,h3,Nat.le_refl _,fun h=>by have:=g3 h;omega,?_⟩
  unfold bO
  rw [hd,g4,tc _ _ hL (by show (0:Int)≤(k0:Int);omega) (by show (k0:Int)+_≤4000;rw [hlen];omega)]
  have e2 :(k0:Int) +(((l.take to).drop k0).length:Int) =(to:Int):=by rw [hlen];omega
  have e3 :((l.take to).drop k0).foldl bd (stL r (l.take k0))=stL r (l.take to):=by
   unfold stL
   rw [←List.foldl_append,ht]
  simp only [e2,e3]
 ·have hd:m.Events.drop (pS (d9 f m) m).toNat=[]:=by
   rw [hN,if_pos (by omega)]
   exact List.drop_of_length_le (by omega)
  refine ⟨k0,g1,by omega,fun h=>by have:=g3 h;omega,?_⟩
  unfold bO
  rw [hd,g4]
  rfl
def fZ (logs:fF) (m:Message):Prop:=∃ e to:Nat,1≤e∧e<logs.length∧m.Epoch =(e:Int)∧CC (lg logs e) m to
structure FolOK (r:Rules) (logs:fF) (f:Fol):Prop where
 start:f.start=iB r
 cur :∃ e k:Nat,e<logs.length∧f.epoch =(e:Int)∧k≤(lg logs e).length∧f.known =(k:Int)∧f.match_=stL r ((lg logs e).take k)
 kept :∀ m∈f.kept,fZ logs m∧m.Epoch=f.newest
 few:f.kept.length≤64
 new :∃ e n:Nat,e<logs.length∧f.newest =(e:Int)∧f.newestN =(n:Int)∧n≤(lg logs e).length
 le:f.epoch≤f.newest
def jr (r:Rules) (logs:fF):Prop:=∀ e,wq r (lg logs e)
theorem rh {r:Rules} {logs:fF} {m:Message} (hL:jr r logs) (h:fZ logs m):AZ m:=by
 obtain ⟨e,to,h1,h2,h3,h4⟩:=h
 exact I1 (hL e) h4 (by omega)
theorem lK {r:Rules} {logs:fF} {f:Fol} (hr:ax r=0) (hL:jr r logs) (h:FolOK r logs f):cc f:=by
 obtain ⟨e,k,h1,h2,h3,h4,h5⟩:=h.cur
 have h6:=(hL e).2
 refine ⟨⟨by rw [h.start];exact eQ hr,by rw [h5];exact pq _ _ (eQ hr),by omega,by omega⟩,h.few,fun z hz=>rh hL (h.kept z hz).1⟩
theorem Eh {r:Rules} {logs:fF} {f:Fol} {m:Message} (hL:jr r logs) (h:FolOK r logs f) (hm:fZ logs m) (hu:aP f m=true) (hn:m.Epoch=f.newest) :
  (bO f m).2=true∧FolOK r logs (bO f m).1∧(bO f m).1.epoch=m.Epoch∧m.To≤(bO f m).1.known∧(f.epoch=m.Epoch→f.known≤(bO f m).1.known)∧(bO f m).1.kept=f.kept∧(bO f m).1.newest=f.newest∧(bO f m).1.newestN=f.newestN:=by
 obtain ⟨e,to,h1,h2,h3,h4⟩:=hm
 have hk:m.Epoch=f.epoch→∃ k:Nat,k≤(lg logs e).length∧f.known =(k:Int)∧f.match_=stL r ((lg logs e).take k):=fun he=>by
  obtain ⟨e',k,a,b,c,d,g⟩:=h.cur
  have:e'=e:=by omega
  subst this
  exact ⟨k,c,d,g⟩
 obtain ⟨k,a,b,c,d⟩:=MR (hL e) h.start hu h4 hk
 rw [d]
 refine ⟨rfl,⟨h.start,⟨e,k,h2,h3,a,rfl,rfl⟩,h.kept,h.few,h.new,by show m.Epoch≤f.newest;omega⟩,rfl,?_,fun he=>c he.symm,rfl,rfl,rfl⟩
 have:=h4.2.2.2.1
 show m.To≤(k:Int)
 omega
theorem I4 {r:Rules} {logs:fF} {f:Fol} (h:FolOK r logs f) (i:Nat) (hi:i<f.kept.length):FolOK r logs (vG f i):=by
 refine ⟨h.start,h.cur,fun m hm=>?_,?_,h.new,h.le⟩
 ·rcases List.mem_append.1 (show m∈f.kept.take i++f.kept.drop (i+1) from hm) with hm|hm
  ·exact h.kept m (List.mem_of_mem_take hm)
  ·exact h.kept m (List.mem_of_mem_drop hm)
 ·have:=h.few
  show (f.kept.take i++f.kept.drop (i+1)).length≤64
  simp;omega
theorem ub {r:Rules} {logs:fF} (hL:jr r logs) :∀ (n:Nat) (f:Fol),FolOK r logs f→
  FolOK r logs (cP n f true).1∧(cP n f true).2=true∧(cP n f true).1.newest=f.newest∧(cP n f true).1.newestN=f.newestN∧
   (f.epoch=f.newest→(cP n f true).1.epoch=f.newest∧f.known≤(cP n f true).1.known)
 | 0,f,h=>⟨h,rfl,rfl,rfl,fun he=>⟨he,Int.le_refl _⟩⟩
 | n+1,f,h=>by
  unfold cP
  split
  ·exact ⟨h,rfl,rfl,rfl,fun he=>⟨he,Int.le_refl _⟩⟩
  ·rename_i hc
   have hc :¬(eE f f.kept 0<0):=by simpa using hc
   rcases mV f f.kept 0 with hn |⟨i,h4,h5,h6⟩
   ·omega
   ·have e :(eE f f.kept 0).toNat=i:=by omega
    have hm:f.kept.getD i (dflt (Ty.nm Nm.Message))∈f.kept:=eg h4 _
    have hs:dM f=bO (vG f i) (f.kept.getD i (dflt (Ty.nm Nm.Message))):=by unfold dM;rw [e]
    obtain ⟨u1,u2,u3,u4,u5,u6,u7,u8⟩:=Eh hL (I4 h i h4) (h.kept _ hm).1 h6 (h.kept _ hm).2
    rw [hs,u1]
    obtain ⟨d1,d2,d3,d4,d5⟩:=ub hL n _ u2
    have e1 :(vG f i).newest=f.newest:=rfl
    have e2 :(bO (vG f i) (f.kept.getD i (dflt (Ty.nm Nm.Message)))).1.epoch =(bO (vG f i) (f.kept.getD i (dflt (Ty.nm Nm.Message)))).1.newest:=by rw [u3,u7,(h.kept _ hm).2];rfl
    refine ⟨d1,d2,d3.trans u7,d4.trans u8,fun he=>⟨(d5 e2).1.trans u7,?_⟩⟩
    have:=u5 (by show f.epoch=_;rw [(h.kept _ hm).2];exact he)
    exact Int.le_trans this (d5 e2).2
theorem G1 {r:Rules} {logs:fF} {f:Fol} {m:Message} (h:FolOK r logs f) (hm:fZ logs m) (hn :¬ m.Epoch<f.newest) :
  FolOK r logs (bn f m)∧(bn f m).newest=m.Epoch∧m.To≤(bn f m).newestN∧(bn f m).epoch=f.epoch∧(bn f m).known=f.known:=by
 obtain ⟨e,to,h1,h2,h3,h4⟩:=hm
 obtain ⟨_,_,h5,h6,_⟩:=h4
 obtain ⟨e',n,a,b,c,d⟩:=h.new
 have hle:=h.le
 unfold bn
 by_cases hg:m.Epoch>f.newest
 ·rw [if_pos (decide_eq_true hg)]
  refine ⟨⟨h.start,h.cur,fun z hz=>(by cases hz),Nat.zero_le _,⟨e,to,h2,h3,h6,h5⟩,by show f.epoch≤m.Epoch;omega⟩,rfl,Int.le_refl _,rfl,rfl⟩
 ·rw [if_neg (by simpa using hg)]
  have he:e=e':=by omega
  subst he
  have hx:ko f.newestN m.To=if m.To>f.newestN then m.To else f.newestN:=rfl
  refine ⟨⟨h.start,h.cur,h.kept,h.few,?_,h.le⟩,by show f.newest=_;omega,?_,rfl,rfl⟩
  ·by_cases hy:m.To>f.newestN
   ·exact ⟨e,to,a,b,by show ko f.newestN m.To=_;rw [hx,if_pos hy];exact h6,h5⟩
   ·exact ⟨e,n,a,b,by show ko f.newestN m.To=_;rw [hx,if_neg hy];exact c,d⟩
  ·show m.To≤ko f.newestN m.To
   rw [hx];split <;> omega
theorem so {r:Rules} {logs:fF} {f:Fol} {m:Message} (hL:jr r logs) (h:FolOK r logs f) (hm:fZ logs m) :
  FolOK r logs (ac f m).1∧(m.Epoch+1 =(logs.length:Int)→m.To =((lg logs m.Epoch.toNat).length:Int)→
   (¬(ac f m).2=0→¬ jH (ac f m).1=0)∧(jH (ac f m).1=0→(ac f m).1.epoch=m.Epoch∧(ac f m).1.known=m.To)∧(m.From=0→(ac f m).2=0∧jH (ac f m).1=0)):=by
 have hfit:=rh hL hm
 unfold ac
 rw [hfit.1]
 simp only [Bool.not_true,Bool.false_eq_true,if_false]
 obtain ⟨ek,k0,c1,c2,c3,c4,c5⟩:=h.cur
 obtain ⟨en,n0,n1,n2,n3,n4⟩:=h.new
 have hle:=h.le
 obtain ⟨e,to,m1,m2,m3,m4⟩:=id hm
 by_cases hn:m.Epoch<f.newest
 ·rw [if_pos (decide_eq_true hn)]
  refine ⟨h,fun ht _=>?_⟩
  omega
 ·rw [if_neg (by simpa using hn)]
  obtain ⟨g1,g2,g3,g4,g5⟩:=G1 h hm hn
  obtain ⟨en',n0',b1,b2,b3,b4⟩:=g1.new
  have hlag :∀ f':Fol,f'.newest=m.Epoch→f'.newestN =(bn f m).newestN→m.Epoch+1 =(logs.length:Int)→m.To =((lg logs m.Epoch.toNat).length:Int)→jH f'=if f'.epoch != m.Epoch then m.To else ko (W (m.To - f'.known)) 0:=fun f' a1 a2 ht hto=>by
   have :(bn f m).newestN=m.To:=by
    have:en'=m.Epoch.toNat:=by omega
    subst this
    omega
   unfold jH
   rw [a1,a2,this]
  by_cases hu:aP (bn f m) m=true
  ·rw [hu]
   simp only [Bool.not_true,Bool.false_eq_true,if_false]
   obtain ⟨u1,u2,u3,u4,u5,u6,u7,u8⟩:=Eh hL g1 hm hu g2.symm
   unfold oa
   rw [u1]
   obtain ⟨d1,d2,d3,d4,d5⟩:=ub hL (bn f m).kept.length _ u2
   rw [d2]
   simp only [if_true]
   have e2 :(bO (bn f m) m).1.epoch =(bO (bn f m) m).1.newest:=by rw [u3,u7,g2]
   obtain ⟨d6,d7⟩:=d5 e2
   refine ⟨d1,fun ht hto=>?_⟩
   generalize (cP (bn f m).kept.length (bO (bn f m) m).1 true).1=f' at *
   have hep:f'.epoch=m.Epoch:=by rw [d6,u7,g2]
   have hkn:f'.known=m.To:=by
    obtain ⟨x,k,y1,y2,y3,y4,_⟩:=d1.cur
    have:x=m.Epoch.toNat:=by omega
    subst this
    omega
   have hz:=hlag f' (d3.trans (u7.trans g2)) (d4.trans u8) ht hto
   have hz0:jH f'=0:=by
    rw [hz,hep,hkn]
    simp [ko,Int.sub_self]
    decide
   exact ⟨fun a=>absurd trivial a,fun _=>⟨hep,hkn⟩,fun _=>⟨trivial,hz0⟩⟩
  ·have hu:aP (bn f m) m=false:=by simpa using hu
   rw [hu]
   simp only [Bool.not_false,if_true]
   have hnot:m.Epoch+1 =(logs.length:Int)→m.To =((lg logs m.Epoch.toNat).length:Int)→¬ m.From=0∧∀ f':Fol,f'.newest=m.Epoch→f'.newestN =(bn f m).newestN→f'.epoch=f.epoch→f'.known=f.known→¬ jH f'=0:=fun ht hto=>by
    unfold aP at hu
    simp only [Bool.or_eq_false_iff,Bool.and_eq_false_iff,beq_eq_false_iff_ne,ne_eq,decide_eq_false_iff_not] at hu
    rw [g4,g5] at hu
    obtain ⟨ha,hb⟩:=hu
    have hfz :¬ m.From=0:=fun hz=>by
     rcases hb with hb|hb
     ·exact hb hz
     ·rcases ha with ha|ha <;> omega
    refine ⟨hfz,fun f' a1 a2 a3 a4=>?_⟩
    have p1:=m4.1
    have p2:=m4.2.1
    have p3:=m4.2.2.2.1
    rw [hlag f' a1 a2 ht hto,a3,a4]
    split
    ·omega
    ·rename_i hq
     have hq:f.epoch=m.Epoch:=by simpa using hq
     have hk :¬ m.From≤f.known:=by
      rcases ha with ha|ha
      ·exact absurd hq.symm ha
      ·exact ha
     have p4:=(hL e).2
     have p5:=m4.2.2.1
     have e1:W (m.To - f.known)=m.To - f.known:=bb (by omega) (by omega)
     rw [e1]
     unfold ko
     split <;> omega
   by_cases hk :((bn f m).kept.length:Int)≥64
   ·rw [if_pos (decide_eq_true hk)]
    refine ⟨g1,fun ht hto=>?_⟩
    obtain ⟨q1,q2⟩:=hnot ht hto
    have q3:=q2 (bn f m) g2 rfl g4 g5
    exact ⟨fun _=>q3,fun hz=>absurd hz q3,fun hz=>absurd hz q1⟩
   ·rw [if_neg (by simpa using hk)]
    refine ⟨⟨g1.start,g1.cur,fun z hz=>?_,?_,g1.new,g1.le⟩,fun ht hto=>?_⟩
    ·rcases List.mem_append.1 (show z∈(bn f m).kept++[m] from hz) with hz|hz
     ·exact g1.kept z hz
     ·rw [List.mem_singleton.1 hz];exact ⟨hm,g2.symm⟩
    ·show ((bn f m).kept++[m]).length≤64
     rw [List.length_append,List.length_singleton];omega
    ·obtain ⟨q1,q2⟩:=hnot ht hto
     have q3:=q2 (Gy (bn f m) m) g2 rfl g4 g5
     exact ⟨fun _=>q3,fun hz=>absurd hz q3,fun hz=>absurd hz q1⟩
def LD (a b:fF):Prop:=a.length≤b.length∧∀ e,lg a e <+: lg b e
theorem zA {a b:Evl} (h:a <+: b) {n:Nat} (hn:n≤a.length):a.take n=b.take n:=by
 obtain ⟨c,rfl⟩:=h
 rw [List.take_append_of_le_length hn]
theorem yH {a b:fF} (h:LD a b) {m:Message} (hm:fZ a m):fZ b m:=by
 obtain ⟨e,to,h1,h2,h3,g1,g2,g3,g4,g5⟩:=hm
 exact ⟨e,to,h1,Nat.lt_of_lt_of_le h2 h.1,h3,g1,g2,Nat.le_trans g3 (h.2 e).length_le,g4,by rw [g5,zA (h.2 e) g3]⟩
theorem I8 {a b:fF} (h:LD a b) {r:Rules} {f:Fol} (hf:FolOK r a f):FolOK r b f:=by
 obtain ⟨e,k,c1,c2,c3,c4,c5⟩:=hf.cur
 obtain ⟨e',n,d1,d2,d3,d4⟩:=hf.new
 exact ⟨hf.start,⟨e,k,Nat.lt_of_lt_of_le c1 h.1,c2,Nat.le_trans c3 (h.2 e).length_le,c4,by rw [c5,zA (h.2 e) c3]⟩,fun m hm=>⟨yH h (hf.kept m hm).1,(hf.kept m hm).2⟩,hf.few,
  ⟨e',n,Nat.lt_of_lt_of_le d1 h.1,d2,d3,Nat.le_trans d4 (h.2 e').length_le⟩,hf.le⟩
end Go.Proofs.YtkgplaoappjkcaaGreat
namespace Go.Proofs.YtkgplaoappjkcaaGreat
open Go Go.Mir
attribute [local irreducible] Go.Mir.DT.sat Go.Mir.evPat Go.Mir.RT.sat Go.Mir.evFn
abbrev FJ:Ty:= .nm .Innings
abbrev qEq (a:Ty):Pat:=bG [.slice a,.slice a]
def sEq (a:Ty):Den (tyP (qEq a))→List Prop×Den (tyP aw):=fun x=>([x.1=x.2.1],(true,()))
abbrev qEl (a:Ty):Pat:=⟨[(0,.h (.slice a)),(1,.h (.slice a)),(12,.h I),(13,.h I)],[],0⟩
abbrev xEl:List (Lf×Pat):= [(.ret,⟨[(4,.h .bool)],[],0⟩),(.ext 0,⟨[],[],0⟩)]
abbrev TEl (a:Ty):Type:=List (Den a)×List (Den a)×Int×Int×Unit
def dA (a:Ty) (x:TEl a):Prop:=x.2.2.1 =(x.1.length:Int)∧x.1=x.2.1∧0≤x.2.2.2.1∧x.2.2.2.1≤x.2.2.1∧x.1.length≤aI
def gF (a:Ty) (x:TEl a):Nat:=(x.2.2.1 - x.2.2.2.1).toNat
def cm (a:Ty) (_:TEl a):Sum (Bool×Unit) Unit:= .inr ()
abbrev qEf (f:Nat):Pat:=⟨[(0,.h yg),(1,.h yg),(2,.c (.fn f []))],[],0⟩
def Mi (f:Nat):Den (tyP (qEf f))→List Prop×Den (tyP aw):=fun x=>([x.1=x.2.1],(true,()))
abbrev qEg (f:Nat):Pat:=⟨[(1,.h yg),(2,.c (.fn f [])),(15,.h yg),(16,.h I),(17,.h I)],[],0⟩
abbrev xEg:List (Lf×Pat):= [(.ret,⟨[(6,.h .bool)],[],0⟩),(.ext 0,⟨[],[],0⟩)]
abbrev TEg:Type:=List Innings×List Innings×Int×Int×Unit
def ul (x:TEg):Prop:=x.2.2.1 =(x.2.1.length:Int)∧x.1=x.2.1∧0≤x.2.2.2.1∧x.2.2.2.1≤x.2.2.1∧x.2.1.length≤aI
def EE (x:TEg):Nat:=(x.2.2.1 - x.2.2.2.1).toNat
def pA (_:TEg):Sum (Bool×Unit) Unit:= .inr ()
abbrev A11:Ty:= .prod I (.prod I (.prod I (.prod I (.prod I (.prod I (.prod I (.prod I (.prod I (.prod I (.prod I .unit))))))))))
abbrev A15:Ty:= .prod I (.prod I (.prod I (.prod I A11)))
def Ci:Den (tyP qRu)→List Prop×Den (tyP (bG [A11])):=fun x=>([],((x.1.Side,x.1.Innings,x.1.Overs,x.1.Balls,x.1.Quota,x.1.Wide,x.1.NoBall,x.1.NewBall,x.1.FollowOn,x.1.Reviews,x.1.Outside,()),()))
def xb:Den (tyP qIn)→List Prop×Den (tyP (bG [A15])):=fun x=>([],((x.1.Side,x.1.Target,x.1.Overs,x.1.Runs,x.1.Wickets,x.1.Complete,x.1.InOver,x.1.Striker,x.1.Other,x.1.Bowler,x.1.BallAge,x.1.Keeper,x.1.Outside,x.1.Reviews.1,x.1.Reviews.2.1,()),()))
abbrev tM (a:Ty):Pat:=bG [a,a]
def jU (a:Ty):Den (tyP (tM a))→List Prop×Den (tyP aw):=fun x=>([x.1=x.2.1],(true,()))
abbrev qFp:Pat:=⟨[(0,.c (.ptr 0 0))],hpF 2,3⟩
abbrev Ka:Pat:=⟨[(0,.h (.nm .Match))],hpF 2,3⟩
def sF:Den (tyP qFp)→List Prop×Den (tyP Ka):=fun x=>([aD (mkFX x).match_],((mkFX x).match_,(mkFX x).start,(mkFX x).epoch,(mkFX x).known,(mkFX x).match_,(mkFX x).newest,(mkFX x).newestN,(mkFX x).kept,()))
abbrev Kf:Pat:=bG [.nm .Rules,.nm .Match,Evs,I]
def jW (r:Rules) (m:Match) (l:List Mir.Event) (n:Int):Prop:=0≤n∧n≤(l.length:Int)∧(aG r (l.take n.toNat)).2 =(m,-1,0)
def Cj:Den (tyP Kf)→List Prop×Den (tyP aw):=fun x=>([jW x.1 x.2.1 x.2.2.1 x.2.2.2.1],(true,()))
noncomputable def lpLEqPh:Lp:=(⟨0,al [] Tryz.f77,(fun _=>none),(aB Tryz.f77 0),(qEl (.nm .Phase)),xEl⟩:Lp)
theorem FD (xs:List (Phase)) (zs:List (Phase)) (n:Int) (i:Int) (hi :(dA (.nm .Phase)) (xs,zs,n,i,())) :(Go.Mir.stepG lpLEqPh (cm (.nm .Phase)) (fun y:Den (tyP lpLEqPh.q)=>(dA (.nm .Phase)) y∧(gF (.nm .Phase)) y <(gF (.nm .Phase)) (xs,zs,n,i,())) (xs,zs,n,i,())∧Go.Mir.stepE lpLEqPh (cm (.nm .Phase)) (xs,zs,n,i,()) =(cm (.nm .Phase)) (xs,zs,n,i,())):=by
 refine cast (by kernel_rfl) (?_:let r1:Bool:=!((xs.getD i.toNat (dflt (Ty.nm Nm.Phase))).1 ==(zs.getD i.toNat (dflt (Ty.nm Nm.Phase))).1&&((xs.getD i.toNat (dflt (Ty.nm Nm.Phase))).2 ==(zs.getD i.toNat (dflt (Ty.nm Nm.Phase))).2&&((xs.getD i.toNat (dflt (Ty.nm Nm.Phase))).3 ==(zs.getD i.toNat (dflt (Ty.nm Nm.Phase))).3&&true)));((decide (i<n)=true→((0:Int)≤i∧i <(↑xs.length:Int))∧((0:Int)≤i∧i <(↑zs.length:Int))∧(r1=true→True)∧(r1=false→dA (Ty.nm Nm.Phase) (xs,zs,n,IntKind.i64.wrap (i +(1:Int)),())∧gF (Ty.nm Nm.Phase) (xs,zs,n,IntKind.i64.wrap (i +(1:Int)),())<gF (Ty.nm Nm.Phase) (xs,zs,n,i,())))∧(decide (i<n)=false→True))∧(bif decide (i<n) then bif r1 then Sum.inl (false,()) else cm (Ty.nm Nm.Phase) (xs,zs,n,IntKind.i64.wrap (i +(1:Int)),()) else Sum.inr ())=cm (Ty.nm Nm.Phase) (xs,zs,n,i,()))
 intro r1
 clear_value (hr1:r1=_)
 obtain ⟨h1,h2,h3,h4,h5⟩:=hi
 simp only at h1 h2 h3 h4 h5
 subst h2
 have h1:n =(xs.length:Int):=h1
 have hx :(xs.length:Int)≤140737488355328:=by have:xs.length≤140737488355328:=h5;omega
 have h4:i≤n:=h4
 have e1:r1=false:=by rw [hr1];simp
 clear hr1
 subst e1
 by_cases h:i<n
 ·rw [decide_eq_true h,bb (n:=i+1) (by omega) (by omega)]
  exact ⟨⟨fun _=>⟨⟨h3,by omega⟩,⟨h3,by omega⟩,fun _=>trivial,fun _=>⟨⟨h1,rfl,by simp only;omega,by simp only;omega,h5⟩,by simp only [gF];omega⟩⟩,fun z=>Bool.noConfusion z⟩,rfl⟩
 ·rw [decide_eq_false h]
  exact ⟨⟨fun z=>Bool.noConfusion z,fun _=>trivial⟩,rfl⟩
noncomputable def Ar:LoopSum:=aC lpLEqPh (cm (.nm .Phase)) (dA (.nm .Phase))
noncomputable def zR:Nat:=rid (aB Tryz.f77 0)
theorem Ez:LoopOKp Tryz.prog 0 Tryz.f77.ntmps (aB Tryz.f77 0) (aC lpLEqPh (cm (.nm .Phase)) (dA (.nm .Phase))):=
 bi lpLEqPh (aj (CtrsOK.nil) _) mixed (fun b hb S hS=>by cases hS) (cm (.nm .Phase)) (dA (.nm .Phase)) (gF (.nm .Phase)) (fun |⟨xs,zs,n,i,⟨⟩⟩,hi=>FD xs zs n i hi)
theorem Kh (xs:List (Phase)) (zs:List (Phase)) (he:xs=zs) (hx:xs.length≤aI) :(evPat (al [] Tryz.f77) (find [(zR,Ar)]) Tryz.f77 (qEq (.nm .Phase)) aw (xs,zs,())).sat fun z_=>z_ =((sEq (.nm .Phase)) (xs,zs,())).2:=by
 refine cast (by kernel_rfl) (?_:let r1:Bool:=(↑xs.length:Int) !=(↑zs.length:Int);(r1=true→(false,()) =(true,()))∧(r1=false→((cx fun x=>none)∧(↑xs.length:Int) =(↑xs.length:Int)∧xs=zs∧(0:Int)≤(0:Int)∧(0:Int)≤(↑xs.length:Int)∧xs.length≤aI)∧(false=true→(false,()) =(true,()))∧(false=false→(true,()) =(true,()))))
 intro r1
 clear_value (hr1:r1=_)
 have e1:r1=false:=by rw [hr1,he];simp
 exact ⟨fun h=>(by rw [e1] at h;cases h),fun _=>⟨⟨rfl,rfl,he,Int.le_refl _,by omega,hx⟩,fun h=>(by cases h),fun _=>rfl⟩⟩
def KL:FuncId×Ctr:=(77,af KE (qEq (.nm .Phase)) aw (sEq (.nm .Phase)))
theorem L6:CtrOK Tryz.prog KE 77 (af KE (qEq (.nm .Phase)) aw (sEq (.nm .Phase))):=by
 refine ar (C:=al [] Tryz.f77) (aj (CtrsOK.nil) _) mixed (fn:=Tryz.f77) Tryz.func77 (by kernel_rfl) (by kernel_rfl) (by kernel_rfl) (by kernel_rfl) (by kernel_rfl) (by kernel_rfl) (Λ:=fun x=>find [(zR,Ar)]) ?_ ?_
 ·rintro ⟨xs,zs,⟨⟩⟩ hw hn
  exact LoopsOKp.at (by kernel_rfl) (.cons (by kernel_rfl) (Ez) .nil)
 ·rintro ⟨xs,zs,⟨⟩⟩ hw hn
  exact Kh xs zs (hn _ List.mem_cons_self) (ce (bg hw))
noncomputable def lpLEqSt:Lp:=(⟨0,al [] Tryz.f78,(fun _=>none),(aB Tryz.f78 0),(qEl U8),xEl⟩:Lp)
theorem FE (xs:List (Int)) (zs:List (Int)) (n:Int) (i:Int) (hi :(dA U8) (xs,zs,n,i,())) :(Go.Mir.stepG lpLEqSt (cm U8) (fun y:Den (tyP lpLEqSt.q)=>(dA U8) y∧(gF U8) y <(gF U8) (xs,zs,n,i,())) (xs,zs,n,i,())∧Go.Mir.stepE lpLEqSt (cm U8) (xs,zs,n,i,()) =(cm U8) (xs,zs,n,i,())):=by
 refine cast (by kernel_rfl) (?_:let r1:Bool:=xs.getD i.toNat (dflt (Ty.int IntKind.u8)) != zs.getD i.toNat (dflt (Ty.int IntKind.u8));((decide (i<n)=true→((0:Int)≤i∧i <(↑xs.length:Int))∧((0:Int)≤i∧i <(↑zs.length:Int))∧(r1=true→True)∧(r1=false→dA U8 (xs,zs,n,IntKind.i64.wrap (i +(1:Int)),())∧gF U8 (xs,zs,n,IntKind.i64.wrap (i +(1:Int)),())<gF U8 (xs,zs,n,i,())))∧(decide (i<n)=false→True))∧(bif decide (i<n) then bif r1 then Sum.inl (false,()) else cm U8 (xs,zs,n,IntKind.i64.wrap (i +(1:Int)),()) else Sum.inr ())=cm U8 (xs,zs,n,i,()))
 intro r1
 clear_value (hr1:r1=_)
 obtain ⟨h1,h2,h3,h4,h5⟩:=hi
 simp only at h1 h2 h3 h4 h5
 subst h2
 have h1:n =(xs.length:Int):=h1
 have hx :(xs.length:Int)≤140737488355328:=by have:xs.length≤140737488355328:=h5;omega
 have h4:i≤n:=h4
 have e1:r1=false:=by rw [hr1];simp
 clear hr1
 subst e1
 by_cases h:i<n
 ·rw [decide_eq_true h,bb (n:=i+1) (by omega) (by omega)]
  exact ⟨⟨fun _=>⟨⟨h3,by omega⟩,⟨h3,by omega⟩,fun _=>trivial,fun _=>⟨⟨h1,rfl,by simp only;omega,by simp only;omega,h5⟩,by simp only [gF];omega⟩⟩,fun z=>Bool.noConfusion z⟩,rfl⟩
 ·rw [decide_eq_false h]
  exact ⟨⟨fun z=>Bool.noConfusion z,fun _=>trivial⟩,rfl⟩
noncomputable def As:LoopSum:=aC lpLEqSt (cm U8) (dA U8)
noncomputable def zS:Nat:=rid (aB Tryz.f78 0)
theorem EA:LoopOKp Tryz.prog 0 Tryz.f78.ntmps (aB Tryz.f78 0) (aC lpLEqSt (cm U8) (dA U8)):=
 bi lpLEqSt (aj (CtrsOK.nil) _) mixed (fun b hb S hS=>by cases hS) (cm U8) (dA U8) (gF U8) (fun |⟨xs,zs,n,i,⟨⟩⟩,hi=>FE xs zs n i hi)
theorem Ki (xs:List (Int)) (zs:List (Int)) (he:xs=zs) (hx:xs.length≤aI) :(evPat (al [] Tryz.f78) (find [(zS,As)]) Tryz.f78 (qEq U8) aw (xs,zs,())).sat fun z_=>z_ =((sEq U8) (xs,zs,())).2:=by
 refine cast (by kernel_rfl) (?_:let r1:Bool:=(↑xs.length:Int) !=(↑zs.length:Int);(r1=true→(false,()) =(true,()))∧(r1=false→((cx fun x=>none)∧(↑xs.length:Int) =(↑xs.length:Int)∧xs=zs∧(0:Int)≤(0:Int)∧(0:Int)≤(↑xs.length:Int)∧xs.length≤aI)∧(false=true→(false,()) =(true,()))∧(false=false→(true,()) =(true,()))))
 intro r1
 clear_value (hr1:r1=_)
 have e1:r1=false:=by rw [hr1,he];simp
 exact ⟨fun h=>(by rw [e1] at h;cases h),fun _=>⟨⟨rfl,rfl,he,Int.le_refl _,by omega,hx⟩,fun h=>(by cases h),fun _=>rfl⟩⟩
def KM:FuncId×Ctr:=(78,af KE (qEq U8) aw (sEq U8))
theorem L7:CtrOK Tryz.prog KE 78 (af KE (qEq U8) aw (sEq U8)):=by
 refine ar (C:=al [] Tryz.f78) (aj (CtrsOK.nil) _) mixed (fn:=Tryz.f78) Tryz.func78 (by kernel_rfl) (by kernel_rfl) (by kernel_rfl) (by kernel_rfl) (by kernel_rfl) (by kernel_rfl) (Λ:=fun x=>find [(zS,As)]) ?_ ?_
 ·rintro ⟨xs,zs,⟨⟩⟩ hw hn
  exact LoopsOKp.at (by kernel_rfl) (.cons (by kernel_rfl) (EA) .nil)
 ·rintro ⟨xs,zs,⟨⟩⟩ hw hn
  exact Ki xs zs (hn _ List.mem_cons_self) (ce (bg hw))
noncomputable def lpLEqInt:Lp:=(⟨0,al [] Tryz.f79,(fun _=>none),(aB Tryz.f79 0),(qEl I),xEl⟩:Lp)
theorem Cw (xs:List (Int)) (zs:List (Int)) (n:Int) (i:Int) (hi :(dA I) (xs,zs,n,i,())) :(Go.Mir.stepG lpLEqInt (cm I) (fun y:Den (tyP lpLEqInt.q)=>(dA I) y∧(gF I) y <(gF I) (xs,zs,n,i,())) (xs,zs,n,i,())∧Go.Mir.stepE lpLEqInt (cm I) (xs,zs,n,i,()) =(cm I) (xs,zs,n,i,())):=by
 refine cast (by kernel_rfl) (?_:let r1:Bool:=xs.getD i.toNat (dflt (Ty.int IntKind.i64)) != zs.getD i.toNat (dflt (Ty.int IntKind.i64));((decide (i<n)=true→((0:Int)≤i∧i <(↑xs.length:Int))∧((0:Int)≤i∧i <(↑zs.length:Int))∧(r1=true→True)∧(r1=false→dA I (xs,zs,n,IntKind.i64.wrap (i +(1:Int)),())∧gF I (xs,zs,n,IntKind.i64.wrap (i +(1:Int)),())<gF I (xs,zs,n,i,())))∧(decide (i<n)=false→True))∧(bif decide (i<n) then bif r1 then Sum.inl (false,()) else cm I (xs,zs,n,IntKind.i64.wrap (i +(1:Int)),()) else Sum.inr ())=cm I (xs,zs,n,i,()))
 intro r1
 clear_value (hr1:r1=_)
 obtain ⟨h1,h2,h3,h4,h5⟩:=hi
 simp only at h1 h2 h3 h4 h5
 subst h2
 have h1:n =(xs.length:Int):=h1
 have hx :(xs.length:Int)≤140737488355328:=by have:xs.length≤140737488355328:=h5;omega
 have h4:i≤n:=h4
 have e1:r1=false:=by rw [hr1];simp
 clear hr1
 subst e1
 by_cases h:i<n
 ·rw [decide_eq_true h,bb (n:=i+1) (by omega) (by omega)]
  exact ⟨⟨fun _=>⟨⟨h3,by omega⟩,⟨h3,by omega⟩,fun _=>trivial,fun _=>⟨⟨h1,rfl,by simp only;omega,by simp only;omega,h5⟩,by simp only [gF];omega⟩⟩,fun z=>Bool.noConfusion z⟩,rfl⟩
 ·rw [decide_eq_false h]
  exact ⟨⟨fun z=>Bool.noConfusion z,fun _=>trivial⟩,rfl⟩
noncomputable def vj:LoopSum:=aC lpLEqInt (cm I) (dA I)
noncomputable def uY:Nat:=rid (aB Tryz.f79 0)
theorem Bf:LoopOKp Tryz.prog 0 Tryz.f79.ntmps (aB Tryz.f79 0) (aC lpLEqInt (cm I) (dA I)):=
 bi lpLEqInt (aj (CtrsOK.nil) _) mixed (fun b hb S hS=>by cases hS) (cm I) (dA I) (gF I) (fun |⟨xs,zs,n,i,⟨⟩⟩,hi=>Cw xs zs n i hi)
theorem HD (xs:List (Int)) (zs:List (Int)) (he:xs=zs) (hx:xs.length≤aI) :(evPat (al [] Tryz.f79) (find [(uY,vj)]) Tryz.f79 (qEq I) aw (xs,zs,())).sat fun z_=>z_ =((sEq I) (xs,zs,())).2:=by
 refine cast (by kernel_rfl) (?_:let r1:Bool:=(↑xs.length:Int) !=(↑zs.length:Int);(r1=true→(false,()) =(true,()))∧(r1=false→((cx fun x=>none)∧(↑xs.length:Int) =(↑xs.length:Int)∧xs=zs∧(0:Int)≤(0:Int)∧(0:Int)≤(↑xs.length:Int)∧xs.length≤aI)∧(false=true→(false,()) =(true,()))∧(false=false→(true,()) =(true,()))))
 intro r1
 clear_value (hr1:r1=_)
 have e1:r1=false:=by rw [hr1,he];simp
 exact ⟨fun h=>(by rw [e1] at h;cases h),fun _=>⟨⟨rfl,rfl,he,Int.le_refl _,by omega,hx⟩,fun h=>(by cases h),fun _=>rfl⟩⟩
def Gr:FuncId×Ctr:=(79,af KE (qEq I) aw (sEq I))
theorem Jz:CtrOK Tryz.prog KE 79 (af KE (qEq I) aw (sEq I)):=by
 refine ar (C:=al [] Tryz.f79) (aj (CtrsOK.nil) _) mixed (fn:=Tryz.f79) Tryz.func79 (by kernel_rfl) (by kernel_rfl) (by kernel_rfl) (by kernel_rfl) (by kernel_rfl) (by kernel_rfl) (Λ:=fun x=>find [(uY,vj)]) ?_ ?_
 ·rintro ⟨xs,zs,⟨⟩⟩ hw hn
  exact LoopsOKp.at (by kernel_rfl) (.cons (by kernel_rfl) (Bf) .nil)
 ·rintro ⟨xs,zs,⟨⟩⟩ hw hn
  exact HD xs zs (hn _ List.mem_cons_self) (ce (bg hw))
noncomputable def lpLEqBool:Lp:=(⟨0,al [] Tryz.f80,(fun _=>none),(aB Tryz.f80 0),(qEl .bool),xEl⟩:Lp)
theorem Ap (xs:List (Bool)) (zs:List (Bool)) (n:Int) (i:Int) (hi :(dA .bool) (xs,zs,n,i,())) :(Go.Mir.stepG lpLEqBool (cm .bool) (fun y:Den (tyP lpLEqBool.q)=>(dA .bool) y∧(gF .bool) y <(gF .bool) (xs,zs,n,i,())) (xs,zs,n,i,())∧Go.Mir.stepE lpLEqBool (cm .bool) (xs,zs,n,i,()) =(cm .bool) (xs,zs,n,i,())):=by
 refine cast (by kernel_rfl) (?_:let r1:Bool:=!xs.getD i.toNat (dflt Ty.bool)==zs.getD i.toNat (dflt Ty.bool);((decide (i<n)=true→((0:Int)≤i∧i <(↑xs.length:Int))∧((0:Int)≤i∧i <(↑zs.length:Int))∧(r1=true→True)∧(r1=false→dA Ty.bool (xs,zs,n,IntKind.i64.wrap (i +(1:Int)),())∧gF Ty.bool (xs,zs,n,IntKind.i64.wrap (i +(1:Int)),())<gF Ty.bool (xs,zs,n,i,())))∧(decide (i<n)=false→True))∧(bif decide (i<n) then bif r1 then Sum.inl (false,()) else cm Ty.bool (xs,zs,n,IntKind.i64.wrap (i +(1:Int)),()) else Sum.inr ())=cm Ty.bool (xs,zs,n,i,()))
 intro r1
 clear_value (hr1:r1=_)
 obtain ⟨h1,h2,h3,h4,h5⟩:=hi
 simp only at h1 h2 h3 h4 h5
 subst h2
 have h1:n =(xs.length:Int):=h1
 have hx :(xs.length:Int)≤140737488355328:=by have:xs.length≤140737488355328:=h5;omega
 have h4:i≤n:=h4
 have e1:r1=false:=by rw [hr1];simp
 clear hr1
 subst e1
 by_cases h:i<n
 ·rw [decide_eq_true h,bb (n:=i+1) (by omega) (by omega)]
  exact ⟨⟨fun _=>⟨⟨h3,by omega⟩,⟨h3,by omega⟩,fun _=>trivial,fun _=>⟨⟨h1,rfl,by simp only;omega,by simp only;omega,h5⟩,by simp only [gF];omega⟩⟩,fun z=>Bool.noConfusion z⟩,rfl⟩
 ·rw [decide_eq_false h]
  exact ⟨⟨fun z=>Bool.noConfusion z,fun _=>trivial⟩,rfl⟩
noncomputable def s7:LoopSum:=aC lpLEqBool (cm .bool) (dA .bool)
noncomputable def sw:Nat:=rid (aB Tryz.f80 0)
theorem y5:LoopOKp Tryz.prog 0 Tryz.f80.ntmps (aB Tryz.f80 0) (aC lpLEqBool (cm .bool) (dA .bool)):=
 bi lpLEqBool (aj (CtrsOK.nil) _) mixed (fun b hb S hS=>by cases hS) (cm .bool) (dA .bool) (gF .bool) (fun |⟨xs,zs,n,i,⟨⟩⟩,hi=>Ap xs zs n i hi)
theorem E7 (xs:List (Bool)) (zs:List (Bool)) (he:xs=zs) (hx:xs.length≤aI) :(evPat (al [] Tryz.f80) (find [(sw,s7)]) Tryz.f80 (qEq .bool) aw (xs,zs,())).sat fun z_=>z_ =((sEq .bool) (xs,zs,())).2:=by
 refine cast (by kernel_rfl) (?_:let r1:Bool:=(↑xs.length:Int) !=(↑zs.length:Int);(r1=true→(false,()) =(true,()))∧(r1=false→((cx fun x=>none)∧(↑xs.length:Int) =(↑xs.length:Int)∧xs=zs∧(0:Int)≤(0:Int)∧(0:Int)≤(↑xs.length:Int)∧xs.length≤aI)∧(false=true→(false,()) =(true,()))∧(false=false→(true,()) =(true,()))))
 intro r1
 clear_value (hr1:r1=_)
 have e1:r1=false:=by rw [hr1,he];simp
 exact ⟨fun h=>(by rw [e1] at h;cases h),fun _=>⟨⟨rfl,rfl,he,Int.le_refl _,by omega,hx⟩,fun h=>(by cases h),fun _=>rfl⟩⟩
def CY:FuncId×Ctr:=(80,af KE (qEq .bool) aw (sEq .bool))
theorem G4:CtrOK Tryz.prog KE 80 (af KE (qEq .bool) aw (sEq .bool)):=by
 refine ar (C:=al [] Tryz.f80) (aj (CtrsOK.nil) _) mixed (fn:=Tryz.f80) Tryz.func80 (by kernel_rfl) (by kernel_rfl) (by kernel_rfl) (by kernel_rfl) (by kernel_rfl) (by kernel_rfl) (Λ:=fun x=>find [(sw,s7)]) ?_ ?_
 ·rintro ⟨xs,zs,⟨⟩⟩ hw hn
  exact LoopsOKp.at (by kernel_rfl) (.cons (by kernel_rfl) (y5) .nil)
 ·rintro ⟨xs,zs,⟨⟩⟩ hw hn
  exact E7 xs zs (hn _ List.mem_cons_self) (ce (bg hw))
theorem wX (r:Rules) :(evPat (al [] Tryz.f76) (fun _=>none) Tryz.f76 qRu (bG [A11]) (r,())).sat fun z_=>z_ =(Ci (r,())).2:=by
 refine cast (by kernel_rfl) (?_ :((r.2,r.3,r.4,r.5,r.6,r.7,r.8,r.10,r.11,r.12,r.13,()),()) =((r.2,r.3,r.4,r.5,r.6,r.7,r.8,r.10,r.11,r.12,r.13,()),()))
 rfl
def rv:FuncId×Ctr:=(76,af KE qRu (bG [A11]) Ci)
theorem zl:CtrOK Tryz.prog KE 76 (af KE qRu (bG [A11]) Ci):=by
 refine ar (C:=al [] Tryz.f76) (aj (CtrsOK.nil) _) mixed (fn:=Tryz.f76) Tryz.func76 (by kernel_rfl) (by kernel_rfl) (by kernel_rfl) (by kernel_rfl) (by kernel_rfl) (by kernel_rfl) (Λ:=fun _ _=>none) ?_ ?_
 ·exact fun _ _ _ _ _ _ _ _ h=>by cases h
 ·rintro ⟨r,⟨⟩⟩ hw hn
  exact wX r
theorem Fw (r:Rules) (r':Rules) (he:r=r') :(evPat (al [rv,KL] Tryz.f51) (fun _=>none) Tryz.f51 (tM (.nm .Rules)) aw (r,r',())).sat fun z_=>z_ =((jU (.nm .Rules)) (r,r',())).2:=by
 refine cast (by kernel_rfl) (?_:let r1:Bool:=r.1.toList==r'.1.toList;let r2:Bool:=r.2==r'.2&&(r.3==r'.3&&(r.4==r'.4&&(r.5==r'.5&&(r.6==r'.6&&(r.7==r'.7&&(r.8==r'.8&&(r.10==r'.10&&(r.11==r'.11&&(r.12==r'.12&&(r.13==r'.13&&true))))))))));((r1=true→(r2=true→((r.9==r'.9)=true→r.14=r'.14∧True)∧((r.9==r'.9)=false→True))∧(r2=false→True))∧(r1=false→True))∧(true=true→(bif r1 then bif r2 then bif r.9==r'.9 then true else false else false else false,()) =(true,())))
 intro r1 r2
 clear_value (hr1:r1=_) (hr2:r2=_)
 subst he
 have e1:r1=true:=by rw [hr1];simp
 have e2:r2=true:=by rw [hr2];simp
 refine ⟨⟨fun _=>⟨fun _=>⟨fun _=>⟨rfl,trivial⟩,fun _=>trivial⟩,fun _=>trivial⟩,fun _=>trivial⟩,fun _=>?_⟩
 rw [e1,e2];simp
def Db:FuncId×Ctr:=(51,af KE (tM (.nm .Rules)) aw (jU (.nm .Rules)))
theorem Hi:CtrOK Tryz.prog KE 51 (af KE (tM (.nm .Rules)) aw (jU (.nm .Rules))):=by
 refine ar (C:=al [rv,KL] Tryz.f51) (aj (.consU zl rfl (.consU L6 rfl .nil)) _) mixed (fn:=Tryz.f51) Tryz.func51 (by kernel_rfl) (by kernel_rfl) (by kernel_rfl) (by kernel_rfl) (by kernel_rfl) (by kernel_rfl) (Λ:=fun _ _=>none) ?_ ?_
 ·exact fun _ _ _ _ _ _ _ _ h=>by cases h
 ·rintro ⟨r,r',⟨⟩⟩ hw hn
  exact Fw r r' (hn _ List.mem_cons_self)
theorem Fj (x:Innings) :(evPat (al [] Tryz.f81) (fun _=>none) Tryz.f81 qIn (bG [A15]) (x,())).sat fun z_=>z_ =(xb (x,())).2:=by
 refine cast (by kernel_rfl) (?_ :((0:Int)≤(0:Int)∧(0:Int) <(↑(2:Nat):Int))∧((0:Int)≤(1:Int)∧(1:Int) <(↑(2:Nat):Int))∧((x.1,x.2,x.3,x.4,x.5,x.7,x.8,x.9,x.10,x.12,x.18,x.19,x.20,x.22),()) =((x.1,x.2,x.3,x.4,x.5,x.7,x.8,x.9,x.10,x.12,x.18,x.19,x.20,x.22),()))
 exact ⟨⟨by decide,by decide⟩,⟨by decide,by decide⟩,rfl⟩
def C7:FuncId×Ctr:=(81,af KE qIn (bG [A15]) xb)
theorem He:CtrOK Tryz.prog KE 81 (af KE qIn (bG [A15]) xb):=by
 refine ar (C:=al [] Tryz.f81) (aj (CtrsOK.nil) _) mixed (fn:=Tryz.f81) Tryz.func81 (by kernel_rfl) (by kernel_rfl) (by kernel_rfl) (by kernel_rfl) (by kernel_rfl) (by kernel_rfl) (Λ:=fun _ _=>none) ?_ ?_
 ·exact fun _ _ _ _ _ _ _ _ h=>by cases h
 ·rintro ⟨x,⟨⟩⟩ hw hn
  exact Fj x
theorem HQ (x:Innings) (z:Innings) (he:x=z) :(evPat (al [KM,Gr,CY,C7] Tryz.f53) (fun _=>none) Tryz.f53 (tM FJ) aw (x,z,())).sat fun z_=>z_ =((jU FJ) (x,z,())).2:=by
 refine cast (by kernel_rfl) (?_:let r1:Bool:=bif !true then true else bif !true then true else bif !true then true else bif !true then true else !true;(x.11=z.11∧((!true)=true→True)∧((!true)=false→x.13=z.13∧((!true)=true→True)∧((!true)=false→x.14=z.14∧((!true)=true→True)∧((!true)=false→x.16=z.16∧((!true)=true→True)∧((!true)=false→x.21=z.21∧True)))))∧(true=true→(r1=true→(false,()) =(true,()))∧(r1=false→(bif x.1==z.1&&(x.2==z.2&&(x.3==z.3&&(x.4==z.4&&(x.5==z.5&&(x.7==z.7&&(x.8==z.8&&(x.9==z.9&&(x.10==z.10&&(x.12==z.12&&(x.18==z.18&&(x.19==z.19&&(x.20==z.20&&(x.22.1==z.22.1&&(x.22.2.1==z.22.2.1&&true)))))))))))))) then bif x.6.1==z.6.1&&(x.6.2==z.6.2&&(x.6.3==z.6.3&&(x.6.4==z.6.4&&(x.6.5==z.6.5&&true)))) then bif x.15==z.15 then bif x.17==z.17 then x.23==z.23 else false else false else false else false,()) =(true,()))))
 intro r1
 clear_value (hr1:r1=_)
 subst he
 have e1:r1=false:=hr1
 refine ⟨⟨rfl,fun _=>trivial,fun _=>⟨rfl,fun _=>trivial,fun _=>⟨rfl,fun _=>trivial,fun _=>⟨rfl,fun _=>trivial,fun _=>⟨rfl,trivial⟩⟩⟩⟩⟩,fun _=>⟨fun h=>(by rw [e1] at h;cases h),fun _=>by simp⟩⟩
def Bb:FuncId×Ctr:=(53,af KE (tM FJ) aw (jU FJ))
theorem Dw:CtrOK Tryz.prog KE 53 (af KE (tM FJ) aw (jU FJ)):=by
 refine ar (C:=al [KM,Gr,CY,C7] Tryz.f53) (aj (.consU L7 rfl (.consU Jz rfl (.consU G4 rfl (.consU He rfl .nil)))) _) mixed (fn:=Tryz.f53) Tryz.func53 (by kernel_rfl) (by kernel_rfl) (by kernel_rfl) (by kernel_rfl) (by kernel_rfl) (by kernel_rfl) (Λ:=fun _ _=>none) ?_ ?_
 ·exact fun _ _ _ _ _ _ _ _ h=>by cases h
 ·rintro ⟨x,z,⟨⟩⟩ hw hn
  exact HQ x z (hn _ List.mem_cons_self)
noncomputable def lpLEqf:Lp:=(⟨0,al [Bb] Tryz.f52,(fun _=>none),(aB Tryz.f52 0),(qEg 53),xEg⟩:Lp)
theorem Ix (zs:List Innings) (xs:List Innings) (n:Int) (i:Int) (hi:ul (zs,xs,n,i,())) :(Go.Mir.stepG lpLEqf pA (fun y:Den (tyP lpLEqf.q)=>ul y∧EE y<EE (zs,xs,n,i,())) (zs,xs,n,i,())∧Go.Mir.stepE lpLEqf pA (zs,xs,n,i,())=pA (zs,xs,n,i,())):=by
 refine cast (by kernel_rfl) (?_ :((decide (i<n)=true→((0:Int)≤i∧i <(↑xs.length:Int))∧((0:Int)≤i∧i <(↑zs.length:Int))∧xs.getD i.toNat (dflt (Ty.nm Nm.Innings))=zs.getD i.toNat (dflt (Ty.nm Nm.Innings))∧((!true)=true→True)∧((!true)=false→ul (zs,xs,n,IntKind.i64.wrap (i +(1:Int)),())∧EE (zs,xs,n,IntKind.i64.wrap (i +(1:Int)),())<EE (zs,xs,n,i,())))∧(decide (i<n)=false→True))∧(bif decide (i<n) then bif !true then Sum.inl (false,()) else pA (zs,xs,n,IntKind.i64.wrap (i +(1:Int)),()) else Sum.inr ())=pA (zs,xs,n,i,()))
 obtain ⟨h1,h2,h3,h4,h5⟩:=hi
 simp only at h1 h2 h3 h4 h5
 subst h2
 have hx :(zs.length:Int)≤140737488355328:=by have:zs.length≤140737488355328:=h5;omega
 by_cases h:i<n
 ·rw [decide_eq_true h,bb (n:=i+1) (by omega) (by omega)]
  exact ⟨⟨fun _=>⟨⟨h3,by omega⟩,⟨h3,by omega⟩,rfl,fun _=>trivial,fun _=>⟨⟨h1,rfl,by simp only;omega,by simp only;omega,h5⟩,by simp only [EE];omega⟩⟩,fun z=>Bool.noConfusion z⟩,rfl⟩
 ·rw [decide_eq_false h]
  exact ⟨⟨fun z=>Bool.noConfusion z,fun _=>trivial⟩,rfl⟩
noncomputable def Ea:LoopSum:=aC lpLEqf pA ul
noncomputable def DZ:Nat:=rid (aB Tryz.f52 0)
theorem GP:LoopOKp Tryz.prog 0 Tryz.f52.ntmps (aB Tryz.f52 0) (aC lpLEqf pA ul):=
 bi lpLEqf (aj (.consU Dw rfl .nil) _) mixed (fun b hb S hS=>by cases hS) pA ul EE (fun |⟨zs,xs,n,i,⟨⟩⟩,hi=>Ix zs xs n i hi)
theorem HE (xs:List Innings) (zs:List Innings) (he:xs=zs) (hx:xs.length≤aI) :(evPat (al [Bb] Tryz.f52) (find [(DZ,Ea)]) Tryz.f52 (qEf 53) aw (xs,zs,())).sat fun z_=>z_ =((Mi 53) (xs,zs,())).2:=by
 refine cast (by kernel_rfl) (?_:let r1:Bool:=(↑xs.length:Int) !=(↑zs.length:Int);(r1=true→(false,()) =(true,()))∧(r1=false→((cx fun x=>none)∧(↑xs.length:Int) =(↑xs.length:Int)∧zs=xs∧(0:Int)≤(0:Int)∧(0:Int)≤(↑xs.length:Int)∧xs.length≤aI)∧(false=true→(false,()) =(true,()))∧(false=false→(true,()) =(true,()))))
 intro r1
 clear_value (hr1:r1=_)
 have e1:r1=false:=by rw [hr1,he];simp
 exact ⟨fun h=>(by rw [e1] at h;cases h),fun _=>⟨⟨rfl,rfl,he.symm,Int.le_refl _,by omega,hx⟩,fun h=>(by cases h),fun _=>rfl⟩⟩
def Gs:FuncId×Ctr:=(52,af KE (qEf 53) aw (Mi 53))
theorem JA:CtrOK Tryz.prog KE 52 (af KE (qEf 53) aw (Mi 53)):=by
 refine ar (C:=al [Bb] Tryz.f52) (aj (.consU Dw rfl .nil) _) mixed (fn:=Tryz.f52) Tryz.func52 (by kernel_rfl) (by kernel_rfl) (by kernel_rfl) (by kernel_rfl) (by kernel_rfl) (by kernel_rfl) (Λ:=fun x=>find [(DZ,Ea)]) ?_ ?_
 ·rintro ⟨xs,zs,⟨⟩⟩ hw hn
  exact LoopsOKp.at (by kernel_rfl) (.cons (by kernel_rfl) (GP) .nil)
 ·rintro ⟨xs,zs,⟨⟩⟩ hw hn
  exact HE xs zs (hn _ List.mem_cons_self) (ce (bg hw))
theorem H3 (a:Match) (b:Match) (he:a=b) :(evPat (al [Db,Gs] Tryz.f38) (fun _=>none) Tryz.f38 (tM (.nm .Match)) aw (a,b,())).sat fun z_=>z_ =((jU (.nm .Match)) (a,b,())).2:=by
 refine cast (by kernel_rfl) (?_:let r1:Bool:=a.6.1==b.6.1&&(a.6.2.1==b.6.2.1&&true);let r2:Bool:=a.7.1==b.7.1&&(a.7.2==b.7.2&&(a.7.3==b.7.3&&true));(a.1=b.1∧(true=true→((a.2==b.2)=true→((a.3==b.3)=true→((a.4==b.4)=true→(r1=true→(r2=true→a.5=b.5∧True)∧(r2=false→True))∧(r1=false→True))∧((a.4==b.4)=false→True))∧((a.3==b.3)=false→True))∧((a.2==b.2)=false→True))∧(true=false→True))∧(true=true→(bif true then bif a.2==b.2 then bif a.3==b.3 then bif a.4==b.4 then bif r1 then bif r2 then true else false else false else false else false else false else false,()) =(true,())))
 intro r1 r2
 clear_value (hr1:r1=_) (hr2:r2=_)
 subst he
 have e1:r1=true:=by rw [hr1];simp
 have e2:r2=true:=by rw [hr2];simp
 refine ⟨⟨rfl,fun _=>⟨fun _=>⟨fun _=>⟨fun _=>⟨fun _=>⟨fun _=>⟨rfl,trivial⟩,fun _=>trivial⟩,fun _=>trivial⟩,fun _=>trivial⟩,fun _=>trivial⟩,fun _=>trivial⟩,fun _=>trivial⟩,fun _=>?_⟩
 rw [e1,e2];simp
def GH:FuncId×Ctr:=(38,af KE (tM (.nm .Match)) aw (jU (.nm .Match)))
theorem JN:CtrOK Tryz.prog KE 38 (af KE (tM (.nm .Match)) aw (jU (.nm .Match))):=by
 refine ar (C:=al [Db,Gs] Tryz.f38) (aj (.consU Hi rfl (.consU JA rfl .nil)) _) mixed (fn:=Tryz.f38) Tryz.func38 (by kernel_rfl) (by kernel_rfl) (by kernel_rfl) (by kernel_rfl) (by kernel_rfl) (by kernel_rfl) (Λ:=fun _ _=>none) ?_ ?_
 ·exact fun _ _ _ _ _ _ _ _ h=>by cases h
 ·rintro ⟨a,b,⟨⟩⟩ hw hn
  exact H3 a b (hn _ List.mem_cons_self)
theorem BW (f:live_Follower) (hm:aD f.match_) :(evPat (al [p6] Tryz.f23) (fun _=>none) Tryz.f23 qFp Ka (f.start,f.epoch,f.known,f.match_,f.newest,f.newestN,f.kept,())).sat fun z_=>z_ =(sF (f.start,f.epoch,f.known,f.match_,f.newest,f.newestN,f.kept,())).2:=by
 refine cast (by kernel_rfl) (?_:aD f.4∧(f.4,f.1,f.2,f.3,f.4,f.5,f.6,f.7,()) =(f.4,f.1,f.2,f.3,f.4,f.5,f.6,f.7,()))
 exact ⟨hm,rfl⟩
def ei:FuncId×Ctr:=(23,af KE qFp Ka sF)
theorem fe:CtrOK Tryz.prog KE 23 (af KE qFp Ka sF):=by
 refine ar (C:=al [p6] Tryz.f23) (aj (.consU zh rfl .nil) _) mixed (fn:=Tryz.f23) Tryz.func23 (by kernel_rfl) (by kernel_rfl) (by kernel_rfl) (by kernel_rfl) (by kernel_rfl) (by kernel_rfl) (Λ:=fun _ _=>none) ?_ ?_
 ·exact fun _ _ _ _ _ _ _ _ h=>by cases h
 ·rintro ⟨v1,v2,v3,v4,v5,v6,kp,⟨⟩⟩ hw hn
  exact BW (mkF v1 v2 v3 v4 v5 v6 kp) (hn _ List.mem_cons_self)
theorem Ao (r:Rules) (m:Match) (l:List Mir.Event) (n:Int) (hs:jW r m l n) :(evPat (al [yS,GH] Tryz.f22) (fun _=>none) Tryz.f22 Kf aw (r,m,l,n,())).sat fun z_=>z_ =(Cj (r,m,l,n,())).2:=by
 refine cast (by kernel_rfl) (?_:let r1:Bool:=decide (n >(↑l.length:Int));let r2:Bool:=(aG r (List.drop (Int.toNat (0:Int)) (List.take n.toNat l))).2.2.2 ==(0:Int);let r3:Bool:=(aG r (List.drop (Int.toNat (0:Int)) (List.take n.toNat l))).2.2.1 ==(-1:Int);(r1=true→(false,()) =(true,()))∧(r1=false→((0:Int)≤(0:Int)∧(0:Int)≤n∧n≤(↑l.length:Int))∧((r3=true→(r2=true→m =(aG r (List.drop (Int.toNat (0:Int)) (List.take n.toNat l))).2.1∧True)∧(r2=false→True))∧(r3=false→True))∧(true=true→(bif r3 then bif r2 then true else false else false,()) =(true,()))))
 intro r1 r2 r3
 clear_value (hr1:r1=_) (hr2:r2=_) (hr3:r3=_)
 obtain ⟨h1,h2,h3⟩:=hs
 have e0:List.drop (Int.toNat 0) (List.take n.toNat l)=l.take n.toNat:=rfl
 rw [e0] at hr2 hr3 ⊢
 have e1:r1=false:=by rw [hr1];simp;omega
 have e2:r2=true:=by rw [hr2,h3];rfl
 have e3:r3=true:=by rw [hr3,h3];rfl
 refine ⟨fun h=>(by rw [e1] at h;cases h),fun _=>⟨⟨Int.le_refl _,h1,h2⟩,⟨fun _=>⟨fun _=>⟨by rw [h3],trivial⟩,fun _=>trivial⟩,fun _=>trivial⟩,fun _=>?_⟩⟩
 rw [e3,e2];rfl
def dx:FuncId×Ctr:=(22,af KE Kf aw Cj)
theorem dK:CtrOK Tryz.prog KE 22 (af KE Kf aw Cj):=by
 refine ar (C:=al [yS,GH] Tryz.f22) (aj (.consU EV rfl (.consU JN rfl .nil)) _) mixed (fn:=Tryz.f22) Tryz.func22 (by kernel_rfl) (by kernel_rfl) (by kernel_rfl) (by kernel_rfl) (by kernel_rfl) (by kernel_rfl) (Λ:=fun _ _=>none) ?_ ?_
 ·exact fun _ _ _ _ _ _ _ _ h=>by cases h
 ·rintro ⟨r,m,l,n,⟨⟩⟩ hw hn
  exact Ao r m l n (hn _ List.mem_cons_self)
end Go.Proofs.YtkgplaoappjkcaaGreat
namespace Go.Proofs.YtkgplaoappjkcaaGreat
open Go Go.Mir
attribute [local irreducible] Go.Mir.DT.sat Go.Mir.evPat Go.Mir.RT.sat Go.Mir.evFn
def Ir:Den (tyP qNo)→List Prop×Den (tyP aw):=fun _=>([],(true,()))
theorem bno {b:Bool} {p:Prop} (e:b=false):b=true→p:=fun h=>by rw [e] at h;cases h
def R0:Rules:=Cv { data:=#[84,87,69,78,84,89] }
def ev0:Mir.Event:={ oZ with Kind:=1,Side:=1,Yes:=true }
def ev1:Mir.Event:={ oZ with Kind:=2,Player:=1,Other:=2 }
def ev2:Mir.Event:={ oZ with Kind:=8,Player:=2 }
def S0:live_Server:=wz R0
def S1:live_Server:=aZ S0 ev0
def S2:live_Server:=aZ S1 ev1
def F1:Fol:=(ac (oI R0) { Epoch:=1,From:=2,To:=3,Events:= [ev2] }).1
theorem hR0:ax R0=0:=by kernel_rfl
theorem Nw:okS S0:=⟨hR0,rfl,Nat.zero_le _⟩
theorem Nx:okS S1:=BE Nw ev0
theorem ON:okS S2:=BE Nx ev1
theorem ve {s:live_Server} (h:okS s):gr s:=⟨EP h,h.2.2⟩
theorem Nu:cc (oI R0):=⟨⟨eQ hR0,eQ hR0,Int.le_refl _,by decide⟩,Nat.zero_le _,fun z hz=>by cases hz⟩
theorem OM:cc F1:=Kg Nu (of_decide_eq_true (by kernel_rfl))
theorem sR {s t:live_Server} (h:okS s) (e:t=s):gr t:=by rw [e];exact ve h
theorem zb {s t:Fol} (h:cc s) (e:t=s):cc t:=by rw [e];exact h
theorem An :(evPat (al [po,wm,lS,Dc,cq,bX,bZ,ez,hJ] Tryz.f5) (fun _=>none) Tryz.f5 qNo aw ()).sat fun z_=>z_ =(Ir ()).2:=by
 refine cast (by kernel_rfl) (?_:let r1:Bool:=(0:Int) !=(0:Int);let r2:Mir.Result:=Result.mk (0:Int) (0:Int) (0:Int);let r3:Int:=if true=true then (1:Int) else dz (1:Int);let r4:Int:=W (W ((0:Int) +(1:Int)) +(1:Int));let r5:Bool:=(if (true&&true)=true then (0:Int) else (10:Int)) !=(0:Int);let r6:Int:=W (r4 +(1:Int));let r7:ByteArray:=ByteArray.mk #[(84:UInt8),(87:UInt8),(69:UInt8),(78:UInt8),(84:UInt8),(89:UInt8)];let r8:Delivery:=Delivery.mk (0:Int) (0:Int) (0:Int) (0:Int) (0:Int) false (0:Int) (0:Int) (0:Int) (0:Int) false (0:Int);let r9:Mir.Event:=Mir.Event.mk (1:Int) (1:Int) (0:Int) (0:Int) true (0:Int) (0:Int) r8;let r10:Mir.Event:=Mir.Event.mk (2:Int) (0:Int) (1:Int) (2:Int) false (0:Int) (0:Int) r8;let r11:Mir.Event:=Mir.Event.mk (8:Int) (0:Int) (2:Int) (0:Int) false (0:Int) (0:Int) r8;let r12:Bool:=bif Cu r7 !=(0:Int) then true else bif r1 then true else r1;let r13:List Mir.Event:= []++[r9];let r14:Rules:=Rules.mk r7 (11:Int) (1:Int) (20:Int) (6:Int) (4:Int) (1:Int) (1:Int) true (0:Int) (0:Int) (2:Int) (5:Int) [Phase.mk (1:Int) (6:Int) (2:Int)];let r15:Match:=Match.mk r14 (1:Int) (0:Int) false [] ((0:Int),(0:Int),()) r2;let r16:Match:=Match.mk r14 (2:Int) r3 false [] ((0:Int),(0:Int),()) r2;let r17:List Mir.Event:=r13++[r10];let r18:Match:=bd r15 r9;let r19:List Mir.Event:=r17++[r11];let r20:live_Server:=live_Server.mk r14 (1:Int) [] r15;let r21:Match:=bd r18 r10;let r22:Bool:=lm r20 r9 !=(0:Int);let r23:List Innings:= []++[dP r14 (yl r16) r10];let r24:live_Server:=live_Server.mk r14 (1:Int) r13 r16;let r25:Bool:=lm r24 r10 !=(0:Int);let r26:Match:=Match.mk r14 (3:Int) r3 false r23 ((0:Int),(0:Int),()) r2;let r27:live_Server:=live_Server.mk r14 (1:Int) r17 r26;let r28:Int:=eO r27 (0:Int) (1:Int);let r29:Bool:=eJ r27 (0:Int) !=(0:Int);let r30:Bool:=lm r27 r11 !=(0:Int);let r31:Int:=eO r27 (0:Int) (↑r17.length:Int);let r32:live_Server:=live_Server.mk r14 (1:Int) r19 (Match.mk r14 (3:Int) r3 false (r23.set (EN r26) (dP r14 (bI r26) r11)) ((0:Int),(0:Int),()) r2);let r33:List Mir.Event:=dV r32 (2:Int);let r34:Int:=eO r32 (2:Int) (1:Int);let r35:Bool:=eJ r32 (2:Int) !=(0:Int);let r36:Int:=eO r32 (2:Int) (↑r19.length:Int);let r37:List Message:= []++[Message.mk r34 (eO r32 (2:Int) (2:Int)) r36 r33];let r38:Int:=if r31>r36 then r31 else r36;let r39:live_Follower:=live_Follower.mk r15 (0:Int) (0:Int) r15 r34 r36 r37;let r40:Bool:=jH r39 !=(3:Int);let r41:Bool:=jH (live_Follower.mk r15 r28 r6 (Match.mk r14 (3:Int) r3 false (([]++[dP r14 (yl r18) r10]).set (EN r21) (dP r14 (bI r21) r11)) ((0:Int),(0:Int),()) r2) r34 r38 (List.take (eE (live_Follower.mk r15 r28 r4 r21 r34 r38 r37) r37 (0:Int)).toNat r37++List.drop ((eE (live_Follower.mk r15 r28 r4 r21 r34 r38 r37) r37 (0:Int)).toNat +(1:Nat)) r37)) !=(0:Int);tL r14∧tL r14∧(r12=true→(false,()) =(true,()))∧(r12=false→((0:Int)≤(0:Int)∧(0:Int) <(↑tossW.length:Int))∧gr r20∧(r22=true→(false,()) =(true,()))∧(r22=false→((0:Int)≤(1:Int)∧(1:Int) <(↑tossW.length:Int))∧gr r24∧(r25=true→(false,()) =(true,()))∧(r25=false→r17.length≤(1000000:Nat)∧((0:Int)≤(2:Int)∧(2:Int) <(↑tossW.length:Int))∧gr r27∧(r30=true→(false,()) =(true,()))∧(r30=false→r19.length≤(1000000:Nat)∧(r29=true→(false,()) =(true,()))∧(r29=false→(r35=true→(false,()) =(true,()))∧(r35=false→cc (live_Follower.mk r15 (0:Int) (0:Int) r15 (0:Int) (0:Int) [])∧r33.length≤aI∧(r1=true→(false,()) =(true,()))∧(r1=false→(r40=true→(false,()) =(true,()))∧(r40=false→cc r39∧(dV r27 (0:Int)).length≤aI∧(r5=true→(false,()) =(true,()))∧(r5=false→(r41=true→(false,()) =(true,()))∧(r41=false→(bif r28 ==(1:Int) then r6 ==(3:Int) else false,()) =(true,()))))))))))))
 intro r1 r2 r3 r4 r5 r6 r7 r8 r9 r10 r11 r12 r13 r14 r15 r16 r17 r18 r19 r20 r21 r22 r23 r24 r25 r26 r27 r28 r29 r30 r31 r32 r33 r34 r35 r36 r37 r38 r39 r40 r41
 clear_value (hr1:r1=_) (hr2:r2=_) (hr3:r3=_) (hr4:r4=_) (hr5:r5=_) (hr6:r6=_) (hr7:r7=_) (hr8:r8=_) (hr9:r9=_) (hr10:r10=_) (hr11:r11=_) (hr12:r12=_) (hr13:r13=_) (hr14:r14=_) (hr15:r15=_) (hr16:r16=_) (hr17:r17=_) (hr18:r18=_) (hr19:r19=_) (hr20:r20=_) (hr21:r21=_) (hr22:r22=_) (hr23:r23=_) (hr24:r24=_) (hr25:r25=_) (hr26:r26=_) (hr27:r27=_) (hr28:r28=_) (hr29:r29=_) (hr30:r30=_) (hr31:r31=_) (hr32:r32=_) (hr33:r33=_) (hr34:r34=_) (hr35:r35=_) (hr36:r36=_) (hr37:r37=_) (hr38:r38=_) (hr39:r39=_) (hr40:r40=_) (hr41:r41=_)
 subst hr1 hr2 hr3 hr4 hr5 hr6 hr7 hr8 hr9 hr10 hr11 hr12 hr13 hr14 hr15 hr16 hr17 hr18 hr19 hr20 hr21 hr22 hr23 hr24 hr25 hr26 hr27 hr28 hr29 hr30 hr31 hr32 hr33 hr34 hr35 hr36 hr37 hr38 hr39 hr40 hr41
 refine ⟨show ax _=0 from by kernel_rfl,show ax _=0 from by kernel_rfl,bno (by kernel_rfl),fun _=>⟨⟨by decide,by decide⟩,sR Nw (by kernel_rfl),bno (by kernel_rfl),fun _=>⟨⟨by decide,by decide⟩,sR Nx (by kernel_rfl),bno (by kernel_rfl),fun _=>⟨by decide,⟨by decide,by decide⟩,sR ON (by kernel_rfl),bno (by kernel_rfl),fun _=>⟨by decide,bno (by kernel_rfl),fun _=>⟨bno (by kernel_rfl),fun _=>⟨zb Nu (by kernel_rfl),of_decide_eq_true (by kernel_rfl),bno (by kernel_rfl),fun _=>⟨bno (by kernel_rfl),fun _=>⟨zb OM (by kernel_rfl),of_decide_eq_true (by kernel_rfl),bno (by kernel_rfl),fun _=>⟨bno (by kernel_rfl),fun _=>by kernel_rfl⟩⟩⟩⟩⟩⟩⟩⟩⟩⟩
def lV:FuncId×Ctr:=(5,af KE qNo aw Ir)
theorem rT:CtrOK Tryz.prog KE 5 (af KE qNo aw Ir):=by
 refine ar (C:=al [po,wm,lS,Dc,cq,bX,bZ,ez,hJ] Tryz.f5) (aj (.consU wF rfl (.consU Dy rfl (.consU rQ rfl (.consU Hj rfl (.consU cX rfl (.consU cD rfl (.consU cE rfl (.consU fx rfl (.consU iP rfl .nil))))))))) _) mixed (fn:=Tryz.f5) Tryz.func5 (by kernel_rfl) (by kernel_rfl) (by kernel_rfl) (by kernel_rfl) (by kernel_rfl) (by kernel_rfl) (Λ:=fun _ _=>none) ?_ ?_
 ·exact fun _ _ _ _ _ _ _ _ h=>by cases h
 ·rintro ⟨⟩ hw hn
  exact An
end Go.Proofs.YtkgplaoappjkcaaGreat
namespace Go.Mir
open Go.RowKit Go.ChangeShapes Go.WideShapes
open Go.Proofs.YtkgplaoappjkcaaGreat.Rows (uptoBulk uptoBulkAll)
section
variable {H:Type} {enc:TypeId×Value→H} {P:Program} {w:World}
theorem Lz {K:Nat} {f:FuncId} {c1 c2 c:Ctr} (h1:CtrOK P K f c1) (h2:CtrOK P K f c2)
  (h :∀ args H m ps v dh,c args H m=some (ps,v,dh)→(∀ p∈ps,p)→(∃ ps1,c1 args H m=some (ps1,v,dh)∧∀ p∈ps1,p)∨(∃ ps2,c2 args H m=some (ps2,v,dh)∧∀ p∈ps2,p)):CtrOK P K f c:=
 ⟨h1.fn,fun B E hE args av hav m hm ps v dh hc hps=>by
  rcases h _ _ _ _ _ _ hc hps with ⟨p1,e1,k1⟩ |⟨p2,e2,k2⟩
  ·exact h1.calls B E hE args av hav m hm p1 v dh e1 k1
  ·exact h2.calls B E hE args av hav m hm p2 v dh e2 k2⟩
theorem Hn {K:Nat} {q q':Pat} {s:Den (tyP q)→List Prop×Den (tyP q')} {args:List V} {H:aM} {m:Nat} {ps:List Prop} {v:V} {dh:List (Nat×Blk)} (h:af K q q' s args H m=some (ps,v,dh)) :
  ∃ x,ps =(s x).1∧∀ s1:Den (tyP q)→List Prop×Den (tyP q'),(s1 x).2 =(s x).2→af K q q' s1 args H m=some ((s1 x).1,v,dh):=by
 unfold af at h ⊢
 simp only at h ⊢
 cases hg:wd q ⟨dH 0 args,[],H,m⟩ with
 | none=>rw [hg] at h;cases h
 | some x=>
  rw [hg] at h
  simp only at h ⊢
  cases hb :(Dr q q' (jd q ⟨dH 0 args,[],H,m⟩)&&(Nat.beq args.length q.tm.length&&Nat.ble q'.nx K)) with
  | false=>rw [hb] at h;cases h
  | true=>
   rw [hb] at h
   simp only [cond_true,Option.some.injEq,Prod.mk.injEq] at h ⊢
   obtain ⟨h1,h2,h3⟩:=h
   exact ⟨x,h1.symm,fun s1 e=>⟨rfl,by rw [e];exact h2,by rw [e];exact h3⟩⟩
theorem Mc {K:Nat} {f:FuncId} {q q':Pat} {s1 s2 s:Den (tyP q)→List Prop×Den (tyP q')} (h1:CtrOK P K f (af K q q' s1)) (h2:CtrOK P K f (af K q q' s2)) (e1 :∀ x,(s1 x).2 =(s x).2) (e2 :∀ x,(s2 x).2 =(s x).2)
  (hn :∀ x,(∀ p∈(s x).1,p)→(∀ p∈(s1 x).1,p)∨(∀ p∈(s2 x).1,p)):CtrOK P K f (af K q q' s):=
 Lz h1 h2 fun args H m ps v dh hc hps=>by
  obtain ⟨x,rfl,k⟩:=Hn hc
  rcases hn x hps with h|h
  ·exact .inl ⟨_,k s1 (e1 x),h⟩
  ·exact .inr ⟨_,k s2 (e2 x),h⟩
theorem Bd {K:Nat} {f:FuncId} {fn:Func} {c:Ctr} (hc:CtrOK P K f c) {ps:Ty} (hps:sO P fn.params.toList ps=true)
  (h :∀ x:Den ps,wfD ps x→∃ ls,c (bk ps x) (fun _=>none) 0=some (ls,.bool true,[])∧∀ p∈ls,p)
  {args:Array Value} {ds:List (DataW H)} {p:List MemPlace} (hA:DataW.TrodAll enc P w 0 (fun _=>true) true fn.params.toList args.toList ds p) (hval :∀ (j:Nat) t v,fn.params[j]?=some t→args[j]?=some v→∃ r b,Value.okWide P w r b t v)
  (hw :∀ m∈DataW.weightsEach P fn.params.toList ds,m≤aI) :
  Calls P f args w fun e w'=>e = .returned (.bool true)∧Keeps w (fun _=>False) w':=by
 obtain ⟨x,k1,⟨cs,k2⟩,_,_,_⟩:=og hA hps (fun j t v h1 h2=>hval j t v (by simpa using h1) (by simpa using h2)) hw
 obtain ⟨ls,e1,e2⟩:=h x ⟨_,_,_,k2⟩
 have hc:=hc.calls (KA w) (I5 w) (F6 w) _ _ k1 0 (fun n _ _ hu=>hu) ls _ _ e1 e2
 have e:args.toList.toArray=args:=by simp
 rw [e] at hc
 refine Calls.mono hc fun e w' hr=>?_
 obtain ⟨E',v',rfl,G,hv⟩:=hr
 simp only [aa] at hv
 subst hv
 refine ⟨rfl,?_⟩
 have:=G.rel.keeps
 rw [G.w] at this
 exact this
end
end Go.Mir
namespace Go.Mir
open Go.RowKit
variable {P:Program}
def bV (C:Cfg) (Λ κ:Nat→Option LoopSum):Code→St→Tr
 | .seq a b,st=>match κ (rid (.seq a b)) with
  | some S=> .need (S.pre st) (S.T st)
  | none=>Cq st (bV C Λ κ a st) fun d nx=>bV C Λ κ b (st.app d nx)
 | .cond c x y,st=>match zq st.tm c with
  | .kb true=>bV C Λ κ x st
  | .kb false=>bV C Λ κ y st
  | .bool b=> .br b (bV C Λ κ x st) (bV C Λ κ y st)
  | .hint q true=> .both (.when q (bV C Λ κ x st)) (bV C Λ κ y st)
  | .hint q false=> .both (.when q (bV C Λ κ y st)) (bV C Λ κ x st)
  | _=> .bad
 | .block id b,st=>(bV C Λ κ b st).catch id
 | .skip,st=>bm C Λ .skip st
 | .ret,st=>bm C Λ .ret st
 | .exit id,st=>bm C Λ (.exit id) st
 | .region id ops dr,st=>bm C Λ (.region id ops dr) st
 | .loop b,st=>bm C Λ (.loop b) st
 | _,_=> .bad
def dD (κ:Nat→Option LoopSum):Code→List Code
 | .seq a b=>match κ (rid (.seq a b)) with
  | some _=> [.seq a b]
  | none=>dD κ a++dD κ b
 | .cond _ a b=>dD κ a++dD κ b
 | .block _ b=>dD κ b
 | _=> []
def eI (Λ κ:Nat→Option LoopSum):Code→List Code
 | .seq a b=>match κ (rid (.seq a b)) with
  | some _=> []
  | none=>eI Λ κ a++eI Λ κ b
 | .cond _ a b=>eI Λ κ a++eI Λ κ b
 | .block _ b=>eI Λ κ b
 | .loop b=>aK Λ (.loop b)
 | _=> []
def AN (k:Nat):Code→Option Code
 | .seq a b=>bif Nat.beq (rid (.seq a b)) k then some (.seq a b) else match AN k a with|some c=>some c|none=>AN k b
 | .cond _ a b=>match AN k a with|some c=>some c|none=>AN k b
 | .block _ b=>AN k b
 | .loop b=>AN k b
 | _=>none
def tn (fn:Func) (k:Nat):Code:=match fn.body with
 | some c=>(match AN k c with|some d=>d|none=> .skip)
 | none=> .skip
def Kz (P:Program) (N:Nat) (B:Base) (c:Code) (S:LoopSum):Prop:=
 ∀ (st:St) (Q:Lf→Dl→Nat→Prop) (CQ:Exit→Act→World→Prop),S.pre st→(S.T st).sat Q→(∀ e d nx a w,Q e d nx→at_ B N st d nx a w→CQ (dX e) a w)→∀ a w,fv B N st a w→c.wp P CQ a w
theorem cj {C:Cfg} (hC:CfgOK P C) (hP:P.follows .mixedOrders=true) {Λ κ:Nat→Option LoopSum} {B:Base} :∀ (c:Code),(∀ b∈eI Λ κ c,∀ L,Λ (rid b)=some L→mG P C.N B b L)→(∀ d∈dD κ c,∀ S,κ (rid d)=some S→Kz P C.N B d S)→
  ∀ (st:St) (Q:Lf→Dl→Nat→Prop) (CQ:Exit→Act→World→Prop),(bV C Λ κ c st).sat Q→(∀ e d nx a w,Q e d nx→at_ B C.N st d nx a w→CQ (dX e) a w)→∀ a w,fv B C.N st a w→c.wp P CQ a w
 | .skip,_,_,st,Q,CQ,h,hQ,a,w,hs=>bl hC hP .skip (fun b hb=>by cases hb) st Q CQ h hQ a w hs
 | .ret,_,_,st,Q,CQ,h,hQ,a,w,hs=>bl hC hP .ret (fun b hb=>by cases hb) st Q CQ h hQ a w hs
 | .exit id,_,_,st,Q,CQ,h,hQ,a,w,hs=>bl hC hP (.exit id) (fun b hb=>by cases hb) st Q CQ h hQ a w hs
 | .region id ops dr,_,_,st,Q,CQ,h,hQ,a,w,hs=>bl hC hP (.region id ops dr) (fun b hb=>by cases hb) st Q CQ h hQ a w hs
 | .loop b,hL,_,st,Q,CQ,h,hQ,a,w,hs=>bl hC hP (.loop b) hL st Q CQ h hQ a w hs
 | .seq x y,hL,hK,st,Q,CQ,h,hQ,a,w,hs=>by
  simp only [bV] at h
  simp only [eI] at hL
  simp only [dD] at hK
  cases hk:κ (rid (.seq x y)) with
  | some S=>
   rw [hk] at h hK
   simp only at h hK
   exact hK _ (List.mem_singleton.2 rfl) S hk st Q CQ h.1 h.2 hQ a w hs
  | none=>
   rw [hk] at h hK hL
   simp only at h hK hL
   have hx:=cj hC hP (Λ:=Λ) (κ:=κ) (B:=B) x (fun b hb=>hL b (List.mem_append_left _ hb)) (fun b hb=>hK b (List.mem_append_left _ hb))
   have hy:=cj hC hP (Λ:=Λ) (κ:=κ) (B:=B) y (fun b hb=>hL b (List.mem_append_right _ hb)) (fun b hb=>hK b (List.mem_append_right _ hb))
   have h2:=lz (B:=B) (N:=C.N) (Y:=fun a w=>y.wp P CQ a w) h (fun d nx hk a w ha=>by
    rw [fA] at hk
    exact hy (st.app d nx) _ CQ hk (fun e d' nx' a w hq hat=>hQ e _ _ a w hq (at_pre.1 hat)) a w (at_here.1 ha))
   refine wp_seq (hx st _ _ h2 (fun e d nx a w hq hat=>?_) a w hs)
   cases e with
   | nrm=>exact hq a w hat
   | ext id=>exact hQ (.ext id) d nx a w hq hat
   | ret=>exact hQ .ret d nx a w hq hat
 | .cond c x y,hL,hK,st,Q,CQ,h,hQ,a,w,hs=>by
  simp only [bV] at h
  have hx:=cj hC hP (Λ:=Λ) (κ:=κ) (B:=B) x (fun b hb=>hL b (by simp only [eI];exact List.mem_append_left _ hb)) (fun b hb=>hK b (by simp only [dD];exact List.mem_append_left _ hb))
  have hy:=cj hC hP (Λ:=Λ) (κ:=κ) (B:=B) y (fun b hb=>hL b (by simp only [eI];exact List.mem_append_right _ hb)) (fun b hb=>hK b (by simp only [dD];exact List.mem_append_right _ hb))
  have hv :∃ E:Env,gJ E (find st.tm) a:=by
   obtain ⟨⟨E,_,_,_,_,hT⟩,_⟩:=hs
   exact ⟨E,hT⟩
  obtain ⟨E,hT⟩:=hv
  have hc:=ie hT c
  split at h
  ·rename_i e;rw [e] at hc;simp only [aa] at hc
   exact wp_cond_true hc (hx st Q CQ h hQ a w hs)
  ·rename_i e;rw [e] at hc;simp only [aa] at hc
   exact wp_cond_false hc (hy st Q CQ h hQ a w hs)
  ·rename_i b e;rw [e] at hc;simp only [aa] at hc
   exact wp_cond_split hc (fun hb=>hx st Q CQ (h.1 hb) hQ a w hs) (fun hb=>hy st Q CQ (h.2 hb) hQ a w hs)
  ·rename_i q e;rw [e] at hc;simp only [aa] at hc
   obtain ⟨b,hc,hq⟩:=hc
   exact wp_cond_split hc (fun hb=>hx st Q CQ (h.1 (hq hb)) hQ a w hs) (fun _=>hy st Q CQ h.2 hQ a w hs)
  ·rename_i q e;rw [e] at hc;simp only [aa] at hc
   obtain ⟨b,hc,hq⟩:=hc
   exact wp_cond_split hc (fun _=>hx st Q CQ h.2 hQ a w hs) (fun hb=>hy st Q CQ (h.1 (hq hb)) hQ a w hs)
  ·exact h.elim
 | .block id b,hL,hK,st,Q,CQ,h,hQ,a,w,hs=>by
  simp only [bV] at h
  refine wp_block (cj hC hP (Λ:=Λ) (κ:=κ) (B:=B) b (fun b' hb=>hL b' (by simpa only [eI] using hb)) (fun b' hb=>hK b' (by simpa only [dD] using hb)) st _ _ (du h) (fun e d nx a w hq hat=>?_) a w hs)
  cases e with
  | nrm=>exact hQ .nrm d nx a w hq hat
  | ret=>exact hQ .ret d nx a w hq hat
  | ext id'=>
   simp only [dX,Exit.inBlock]
   simp only at hq
   split
   ·rename_i e;rw [if_pos e] at hq;exact hQ .nrm d nx a w hq hat
   ·rename_i e;rw [if_neg e] at hq;exact hQ (.ext id') d nx a w hq hat
 | .rangeFunc _ _ _ _,_,_,_,_,_,h,_,_,_,_=>h.elim
 | .scope _,_,_,_,_,_,h,_,_,_,_=>h.elim
 | .label _,_,_,_,_,_,h,_,_,_,_=>h.elim
 | .goto _,_,_,_,_,_,h,_,_,_,_=>h.elim
 | .refuse _,_,_,_,_,_,h,_,_,_,_=>h.elim
def fH (P:Program) (p N:Nat) (c:Code) (S:LoopSum):Prop:=∀ (B:Base),B.pins p→Kz P N B c S
def CutsOKp (P:Program) (p N:Nat) (l:List Code) (κ:Nat→Option LoopSum):Prop:=∀ b∈l,∀ S,κ (rid b)=some S→fH P p N b S
theorem CutsOKp.nil {p N:Nat} {κ:Nat→Option LoopSum}:CutsOKp P p N [] κ:=fun b hb=>by simp at hb
theorem CutsOKp.cons {p N:Nat} {b:Code} {l:List Code} {κ:Nat→Option LoopSum} {S:LoopSum} (h0:κ (rid b)=some S) (h1:fH P p N b S) (h2:CutsOKp P p N l κ):CutsOKp P p N (b::l) κ:=fun b' hb S' hS=>by
 rcases List.mem_cons.1 hb with rfl|hb
 ·rw [h0] at hS;cases hS;exact h1
 ·exact h2 b' hb S' hS
theorem CutsOKp.at {p N:Nat} {c:Code} {κ:Nat→Option LoopSum} {l:List Code} (e:dD κ c=l) (h:CutsOKp P p N l κ) :∀ b∈dD κ c,∀ S,κ (rid b)=some S→fH P p N b S:=by rw [e];exact h
section
variable (L:Lp) (κ:Nat→Option LoopSum) (res:Den (tyP L.q)→ig L.X)
def hdC (st:St) (e:Lf) (d:Dl) (nx:Nat):ig L.X:=match mj L.p L.X e (st.app d nx) with
 | some o=>o
 | none=>j8 L.X
def okC (st:St) (e:Lf) (d:Dl) (nx:Nat):Prop:=match mj L.p L.X e (st.app d nx) with
 | some _=>True
 | none=>False
def partE (x:Den (tyP L.q)):ig L.X:=evT (j8 L.X) (hdC L (put L.q x)) (bV L.C L.Λ κ L.body (put L.q x))
def partG (x:Den (tyP L.q)):Prop:=gx (j8 L.X) (hdC L (put L.q x)) (okC L (put L.q x)) (bV L.C L.Λ κ L.body (put L.q x))
def stepEK (x:Den (tyP L.q)):ig L.X:=evT (j8 L.X) (hdL L res (put L.q x)) (bV L.C L.Λ κ L.body (put L.q x))
def stepGK (inv:Den (tyP L.q)→Prop) (x:Den (tyP L.q)):Prop:=gx (j8 L.X) (hdL L res (put L.q x)) (okL L inv (put L.q x)) (bV L.C L.Λ κ L.body (put L.q x))
end
theorem kx (L:Lp) (κ:Nat→Option LoopSum) (hC:CfgOK P L.C) (hP:P.follows .mixedOrders=true) (hΛ :∀ b∈eI L.Λ κ L.body,∀ S,L.Λ (rid b)=some S→LoopOKp P L.p L.C.N b S) (hκ :∀ b∈dD κ L.body,∀ S,κ (rid b)=some S→fH P L.p L.C.N b S)
  (res:Den (tyP L.q)→ig L.X) (inv:Den (tyP L.q)→Prop) (step :∀ x,inv x→partG L κ x∧partE L κ x=res x):fH P L.p L.C.N L.body (aC L res inv):=by
 intro B hB st Q CQ hpre hT hQ a w hs
 simp only [aC] at hpre hT
 obtain ⟨hH0,hpre⟩:=hpre
 obtain ⟨hl,hpre⟩:=ifB_iff.1 hpre
 cases hr:gy L.p L.q st with
 | none=>rw [hr] at hpre;exact hpre.elim
 | some x0=>
 rw [hr] at hpre hT
 simp only at hpre hT
 have hT:=dy hT
 obtain ⟨hp0,hg0⟩:=de hr
 have start:fv B L.C.N (put L.q x0) a w:=dR hB hg0 hp0 hs
 obtain ⟨hG,hE⟩:=step x0 hpre
 refine cj hC hP (B:=B) L.body (fun b hb S hS=>hΛ b hb S hS B hB) (fun b hb S hS=>hκ b hb S hS B hB) (put L.q x0) _ _ (dS _ _ _ _ hG) (fun e d nx a w hq hat=>?_) a w start
 have hat:=at_here.1 hat
 obtain ⟨hok,hv⟩:=hq
 change hdC L (put L.q x0) e d nx=partE L κ x0 at hv
 rw [hE] at hv
 simp only [okC] at hok
 simp only [hdC] at hv
 cases ho:mj L.p L.X e ((put L.q x0).app d nx) with
 | none=>rw [ho] at hok;exact hok.elim
 | some o=>
  rw [ho] at hv
  simp only at hv
  subst hv
  obtain ⟨q,y,h1,h2⟩:=vu ho hT
  obtain ⟨h3,h4⟩:=de h1
  have h5:=dR hB h4 h3 hat
  exact hQ e _ _ a w h2 (p9 hH0 hl h5)
def tZ (fn:Func):Code:=match fn.body with|some c=>c|none=> .skip
def AllOKp (P:Program) (p N:Nat) (l:List Code) (Λ:Nat→Option LoopSum):Prop:=∀ b∈l,∀ L,Λ (rid b)=some L→LoopOKp P p N b L
theorem AllOKp.nil {p N:Nat} {Λ:Nat→Option LoopSum}:AllOKp P p N [] Λ:=fun b hb=>by simp at hb
theorem AllOKp.cons {p N:Nat} {b:Code} {l:List Code} {Λ:Nat→Option LoopSum} {L:LoopSum} (h0:Λ (rid b)=some L) (h1:LoopOKp P p N b L) (h2:AllOKp P p N l Λ):AllOKp P p N (b::l) Λ:=fun b' hb L' hL=>by
 rcases List.mem_cons.1 hb with rfl|hb
 ·rw [h0] at hL;cases hL;exact h1
 ·exact h2 b' hb L' hL
theorem AllOKp.at {p N:Nat} {fn:Func} {l:List Code} {Λ κ:Nat→Option LoopSum} (he:eI Λ κ (tZ fn)=l) (h:AllOKp P p N l Λ) :∀ c,fn.body=some c→∀ b∈eI Λ κ c,∀ L,Λ (rid b)=some L→LoopOKp P p N b L:=fun c hc=>by
 have:tZ fn=c:=by unfold tZ;rw [hc]
 rw [←this,he]
 exact h
theorem CutsOKp.of {p N:Nat} {fn:Func} {l:List Code} {κ:Nat→Option LoopSum} (he:dD κ (tZ fn)=l) (h:CutsOKp P p N l κ) :∀ c,fn.body=some c→∀ b∈dD κ c,∀ S,κ (rid b)=some S→fH P p N b S:=fun c hc=>by
 have:tZ fn=c:=by unfold tZ;rw [hc]
 rw [←this,he]
 exact h
def vS (C:Cfg) (Λ κ:Nat→Option LoopSum) (fn:Func) (q q':Pat) (x:Den (tyP q)):DT (Den (tyP q')):=
 match fn.body with
 | some c=>pR C.tb fn.results.toList q.nx q' (put q x) (bV C Λ κ c (put q x))
 | none=> .bad
theorem DE {C:Cfg} (hC:CfgOK P C) (hP:P.follows .mixedOrders=true) {f:FuncId} {fn:Func} (hf:P.funcs[f]?=some fn) (hbody:fn.body.isSome=true) (hname :(fn.name == "runtime.NumGoroutine")=false) (hN:C.N=fn.ntmps)
  {K:Nat} {q q':Pat} {spec:Den (tyP q)→List Prop×Den (tyP q')} {Λ κ:Nat→Option LoopSum} (hpair:wD q q'=true) (hres:q'.tm.length=fn.results.toList.length) (harg:Nat.ble q.tm.length fn.ntmps=true)
  (hΛ :∀ c,fn.body=some c→∀ b∈eI Λ κ c,∀ L,Λ (rid b)=some L→LoopOKp P q.nx C.N b L) (hκ :∀ c,fn.body=some c→∀ b∈dD κ c,∀ S,κ (rid b)=some S→fH P q.nx C.N b S)
  (h :∀ x:Den (tyP q),wfD (tyP q) x→(∀ p∈(spec x).1,p)→(vS C Λ κ fn q q' x).sat fun y=>y =(spec x).2):CtrOK P K f (af K q q' spec):=by
 refine DF hC hf hbody hname hN hpair hres harg fun x hw hn c hc=>⟨_,fun B hB Q CQ hs hQ a w ha=>cj hC hP (Λ:=Λ) (κ:=κ) (B:=B) c (fun b hb S hS=>hΛ c hc b hb S hS B hB) (fun b hb S hS=>hκ c hc b hb S hS B hB) (put q x) Q CQ hs hQ a w ha,?_⟩
 have hs:=h x hw hn
 unfold vS at hs
 rw [hc] at hs
 exact hs
theorem AF (L:Lp) (κ:Nat→Option LoopSum) (hC:CfgOK P L.C) (hP:P.follows .mixedOrders=true) (hΛ :∀ b∈eI L.Λ κ L.body,∀ S,L.Λ (rid b)=some S→LoopOKp P L.p L.C.N b S) (hκ :∀ b∈dD κ L.body,∀ S,κ (rid b)=some S→fH P L.p L.C.N b S)
  (res:Den (tyP L.q)→ig L.X) (inv:Den (tyP L.q)→Prop) (μ:Den (tyP L.q)→Nat)
  (step :∀ x,inv x→stepGK L κ res (fun y=>inv y∧μ y<μ x) x∧stepEK L κ res x=res x):LoopOKp P L.p L.C.N L.body (aC L res inv):=by
 intro B hB st Q CQ hpre hT hQ a w hs
 simp only [aC] at hpre hT
 obtain ⟨hH0,hpre⟩:=hpre
 obtain ⟨hl,hpre⟩:=ifB_iff.1 hpre
 cases hr:gy L.p L.q st with
 | none=>rw [hr] at hpre;exact hpre.elim
 | some x0=>
 rw [hr] at hpre hT
 simp only at hpre hT
 have hT:=dy hT
 obtain ⟨hp0,hg0⟩:=de hr
 have start:fv B L.C.N (put L.q x0) a w:=dR hB hg0 hp0 hs
 have key :∀ n x a w,inv x→μ x<n→(TX L.X (res x)).sat (fun e d nx=>Q e ⟨d.tm++jI st.tm,d.hp++hZ (Nat.max nx st.nx) st.hp⟩ (Nat.max nx st.nx+1))→fv B L.C.N (put L.q x) a w→Code.rounds P L.body CQ n a w:=by
  intro n
  induction n with
  | zero=>intro x a w _ hlt;omega
  | succ n ih=>
   intro x a w hx hlt hTx hs
   rw [rounds_succ]
   obtain ⟨hG,hE⟩:=step x hx
   refine cj hC hP (B:=B) L.body (fun b hb S hS=>hΛ b hb S hS B hB) (fun b hb S hS=>hκ b hb S hS B hB) (put L.q x) _ _ (dS _ _ _ _ hG) (fun e d nx a w hq hat=>?_) a w hs
   have hat:=at_here.1 hat
   obtain ⟨hok,hv⟩:=hq
   change hdL L res (put L.q x) e d nx=stepEK L κ res x at hv
   rw [hE] at hv
   have out :∀ e:Lf,(match mj L.p L.X e ((put L.q x).app d nx) with|some _=>True|none=>False)→(match mj L.p L.X e ((put L.q x).app d nx) with|some o=>o|none=>j8 L.X)=res x→CQ (dX e) a w:=fun e hok hv=>by
    cases ho:mj L.p L.X e ((put L.q x).app d nx) with
    | none=>rw [ho] at hok;exact hok.elim
    | some o=>
     rw [ho] at hv
     simp only at hv
     subst hv
     obtain ⟨q,y,h1,h2⟩:=vu ho hTx
     obtain ⟨h3,h4⟩:=de h1
     have h5:=dR hB h4 h3 hat
     exact hQ e _ _ a w h2 (p9 hH0 hl h5)
   cases e with
   | nrm=>
    simp only [okL] at hok
    simp only [hdL] at hv
    cases hr2:gy L.p L.q ((put L.q x).app d nx) with
    | none=>rw [hr2] at hok;exact hok.elim
    | some y=>
     rw [hr2] at hok
     obtain ⟨h3,h4⟩:=de hr2
     rw [h4] at hv
     simp only at hok hv
     exact ih y a w hok.1 (by omega) (by rw [hv];exact hTx) (dR hB h4 h3 hat)
   | ext id=>exact out (.ext id) hok hv
   | ret=>exact out .ret hok hv
 exact wp_loop_rounds (μ x0+1) (key _ x0 a w hpre (Nat.lt_succ_self _) hT start)
end Go.Mir
namespace Go.Proofs.YtkgplaoappjkcaaGreat
open Go Go.Mir
attribute [local irreducible] Go.Mir.DT.sat Go.Mir.evPat Go.Mir.RT.sat Go.Mir.evFn
abbrev FN:Ty:= .slice (.nm .law59_Net)
abbrev Gi:List (Nat×PB):= [(0,.cells (FY (.c (.osl 1 2)))),(1,.row 2 (.nm .Event)),(3,.cells (FX (.c (.osl 4 5)))),(4,.row 5 (.nm .Message)),(6,.dat (.nm .Rules))]
abbrev Nc:List (Nat×PB):=Gi++[(7,.row 8 Evs),(9,.row 10 (.nm .Message))]
abbrev Kw:List (Nat×PC):= [(2,.c (.ptr 6 0)),(5,.c (.ptr 0 0)),(7,.c (.ptr 3 0))]
abbrev qSh:Pat:=⟨Kw++[(9,.c (.osl 7 8)),(10,.c (.osl 9 10)),(63,.h FN),(64,.h I),(65,.h I)],Nc,11⟩
abbrev xSh:List (Lf×Pat):= [(.ret,⟨[(4,.h .bool)],[],0⟩),(.ext 0,⟨Kw,Gi,7⟩)]
abbrev Ei:Type:=Rules×Int×Match×List Mir.Event×Match×Int×Int×Match×Int×Int×List Message×Rules×Unit
abbrev TSh:Type:=List law59_Net×Int×Int×Rules×Int×Match×List Mir.Event×Match×Int×Int×Match×Int×Int×List Message×Rules×fF×List Message×Unit
abbrev NS:Type:=live_Server×Fol×fF×List Message
def bB (x:TSh):NS:=(mkS x.2.2.2.1 x.2.2.2.2.1 x.2.2.2.2.2.1 x.2.2.2.2.2.2.1,mkF x.2.2.2.2.2.2.2.1 x.2.2.2.2.2.2.2.2.1 x.2.2.2.2.2.2.2.2.2.1 x.2.2.2.2.2.2.2.2.2.2.1 x.2.2.2.2.2.2.2.2.2.2.2.1 x.2.2.2.2.2.2.2.2.2.2.2.2.1 x.2.2.2.2.2.2.2.2.2.2.2.2.2.1,x.2.2.2.2.2.2.2.2.2.2.2.2.2.2.2.1,x.2.2.2.2.2.2.2.2.2.2.2.2.2.2.2.2.1)
def kr (x:TSh):Rules:=x.2.2.2.2.2.2.2.2.2.2.2.2.2.2.1
def kOf (x:law59_Net):Int:=x.Kind.tmod 7
def pH (x:law59_Net) (s:live_Server):Int:=x.K.tmod (W ((s.log.length:Int)+1))
def nM (s:live_Server) (k:Int):Message:=Message.mk (eO s k s.epoch) (eO s k k) (eO s k s.log.length) (dV s k)
def lB (q:NS) (x:law59_Net):live_Server:=if kOf x==0 then aZ q.1 x.Event else if kOf x==1 then aZ q.1 x.Event else if kOf x==2 then bc q.1 (pH x q.1) x.Event else q.1
def ly (q:NS) (x:law59_Net):List Message:=if kOf x==3 then q.2.2.2++[nM q.1 (pH x q.1)] else q.2.2.2
def vY (q:NS) (x:law59_Net):Fol:=if kOf x==0 then q.2.1 else if kOf x==1 then q.2.1 else if kOf x==2 then q.2.1 else if kOf x==3 then q.2.1 else if decide ((q.2.2.2.length:Int)>0) then (ac q.2.1 (q.2.2.2.getD (x.K.tmod q.2.2.2.length).toNat (dflt (Ty.nm Nm.Message)))).1 else q.2.1
def ap (s:live_Server):Message:=nM s s.log.length
def b9 (e:Int) (q:NS):fF:=(if q.1.epoch != e then q.2.2.1++[[]] else q.2.2.1).set q.1.epoch.toNat q.1.log
def Ga (q:NS):NS:=(q.1,(ac q.2.1 (ap q.1)).1,q.2.2.1,q.2.2.2)
def F9 (e:Int) (q:NS):NS:=Ga (q.1,q.2.1,b9 e q,q.2.2.2)
def pJ (q:NS) (x:law59_Net):NS:=(lB q x,vY q x,q.2.2.1,ly q x)
def l4 (q:NS) (x:law59_Net):NS:=F9 q.1.epoch (pJ q x)
def fi:NS→List law59_Net→NS
 | q,[]=>q
 | q,x::l=>fi (l4 q x) l
def wg (logs:fF) (l:List Message):Prop:=∀ m∈l,fZ logs m
structure NetOK (r:Rules) (q:NS) (i:Int):Prop where
 rules:ax r=0
 srv:okS q.1
 same:q.1.rules=r
 len:q.1.epoch+1 =(q.2.2.1.length:Int)
 one:1≤q.1.epoch
 few:q.1.epoch≤i+1
 top:lg q.2.2.1 q.1.epoch.toNat=q.1.log
 logs:jr r q.2.2.1
 sent:wg q.2.2.1 q.2.2.2
 fol:FolOK r q.2.2.1 q.2.1
 num :(q.2.2.2.length:Int)≤i
structure Mid (r:Rules) (e:Int) (q:NS):Prop where
 rules:ax r=0
 srv:okS q.1
 same:q.1.rules=r
 len:e+1 =(q.2.2.1.length:Int)
 one:1≤e
 few:e≤60
 top :(q.1.epoch=e∧lg q.2.2.1 e.toNat <+: q.1.log)∨q.1.epoch=e+1
 logs:jr r q.2.2.1
 sent:wg q.2.2.1 q.2.2.2
 fol:FolOK r q.2.2.1 q.2.1
 num :(q.2.2.2.length:Int)≤60
structure Late' (r:Rules) (i:Int) (q:NS):Prop where
 net:NetOK r q i
 lag:jH q.2.1=0→q.2.1.epoch=q.1.epoch∧q.2.1.known =(q.1.log.length:Int)
abbrev qMd:Pat:=⟨Kw++[(9,.c (.osl 7 8)),(10,.c (.osl 9 10)),(13,.h I),(14,.h I),(63,.h FN),(64,.h I),(65,.h I)],Nc,11⟩
abbrev xMd:List (Lf×Pat):= [(.ret,⟨[(4,.h .bool)],[],0⟩),(.nrm,qSh)]
abbrev TMd:Type:=Int×Int×TSh
def J6 (y:TSh) (q:NS):TSh:=(y.1,y.2.1,y.2.2.1,q.1.rules,q.1.epoch,q.1.match_,q.1.log,q.2.1.start,q.2.1.epoch,q.2.1.known,q.2.1.match_,q.2.1.newest,q.2.1.newestN,q.2.1.kept,kr y,q.2.2.1,q.2.2.2,())
def uW (x:TMd):Sum (Bool×Unit) TSh:= .inr (J6 x.2.2 (F9 x.1 (bB x.2.2)))
def lq (x:TMd):Sum (Bool×Unit) TSh:= .inr (J6 x.2.2 (Ga (bB x.2.2)))
def zM (x:TMd):Sum (Bool×Unit) TSh:= .inr x.2.2
def CN (x:TMd):Prop:=Mid (kr x.2.2) x.1 (bB x.2.2)
def pm (x:TMd):Prop:=(x.1 =(bB x.2.2).1.epoch∧x.2.1 =((bB x.2.2).1.log.length:Int))∧NetOK (kr x.2.2) (bB x.2.2) 60
def CO (x:TMd):Prop:=(x.1 =(bB x.2.2).1.epoch∧x.2.1 =((bB x.2.2).1.log.length:Int))∧Late' (kr x.2.2) 60 (bB x.2.2)
def nnK (l:List law59_Net):Prop:=∀ z∈l,0≤z.K∧z.K≤255
def kV (x:TSh):Prop:=(x.2.1 =(x.1.length:Int)∧0≤x.2.2.1∧x.2.2.1≤x.2.1∧x.2.1≤50∧nnK x.1)∧NetOK (kr x) (bB x) x.2.2.1
def mi (x:TSh):Nat:=(x.2.1 - x.2.2.1).toNat
def Hl (r:Rules) (q:NS):Sum (Bool×Unit) Ei:= .inr (q.1.rules,q.1.epoch,q.1.match_,q.1.log,q.2.1.start,q.2.1.epoch,q.2.1.known,q.2.1.match_,q.2.1.newest,q.2.1.newestN,q.2.1.kept,r,())
def gl (x:TSh):Sum (Bool×Unit) Ei:=Hl (kr x) (fi (bB x) (x.1.drop x.2.2.1.toNat))
abbrev qRN:Pat:=bG [.nm .Rules,FN]
def Mn:Den (tyP qRN)→List Prop×Den (tyP aw):=fun _=>([],(true,()))
def D3:Den (tyP qRN)→List Prop×Den (tyP aw):=fun x=>([tL (mL x.1)],(true,()))
def D2:Den (tyP qRN)→List Prop×Den (tyP aw):=fun x=>([o0 (mL x.1)],(true,()))
theorem oC (ls:fF) (k:Nat) (l:Evl) (e:Nat) (hk:k<ls.length):lg (ls.set k l) e=if e=k then l else lg ls e:=by
 simp only [lg,List.getD_eq_getElem?_getD,List.getElem?_set]
 by_cases h:k=e
 ·subst h;simp [hk]
 ·rw [if_neg h,if_neg (fun x=>h x.symm)]
theorem GL (ls:fF) (e:Nat):lg (ls++[[]]) e=lg ls e:=by
 simp only [lg,List.getD_eq_getElem?_getD]
 by_cases h:e<ls.length
 ·rw [List.getElem?_append_left h]
 ·rw [List.getElem?_append_right (by omega),List.getElem?_eq_none (l:=ls) (by omega)]
  cases hq:e - ls.length <;> simp
theorem rI {s:live_Server} {k:Int} (h0:0≤k) (h1:k≤(s.log.length:Int)):nM s k={ Epoch:=s.epoch,From:=k,To:=s.log.length,Events:=s.log.drop k.toNat }:=by
 have hG:la s k=false:=by unfold la;rw [decide_eq_false (by omega),decide_eq_false (by omega)];rfl
 unfold nM eO dV
 rw [hG];rfl
theorem rJ {ls:fF} {s:live_Server} {k:Int} (h0:0≤k) (h1:k≤(s.log.length:Int)) (he:1≤s.epoch) (hl:s.epoch+1 =(ls.length:Int)) (ht:lg ls s.epoch.toNat=s.log):fZ ls (nM s k):=by
 rw [rI h0 h1]
 refine ⟨s.epoch.toNat,s.log.length,by omega,by omega,by show s.epoch=_;omega,h0,h1,by rw [ht];exact Nat.le_refl _,rfl,?_⟩
 rw [ht]
 show s.log.drop k.toNat =(s.log.take s.log.length).drop k.toNat
 rw [List.take_length]
theorem J5 (s:live_Server) (e:Mir.Event) :(aZ s e).rules=s.rules∧(aZ s e).epoch=s.epoch∧s.log <+:(aZ s e).log:=by
 unfold aZ
 split
 ·exact ⟨rfl,rfl,List.prefix_refl _⟩
 ·exact ⟨rfl,rfl,List.prefix_append _ _⟩
theorem I0 (s:live_Server) (k:Int) (e:Mir.Event) (h0:0≤s.epoch) (h1:s.epoch≤1000) :(bc s k e).rules=s.rules∧(bc s k e=s∨(bc s k e).epoch=s.epoch+1):=by
 unfold bc
 split
 ·exact ⟨rfl,.inl rfl⟩
 ·exact ⟨rfl,.inr (bb (by omega) (by omega))⟩
theorem ni (q:NS) (x:law59_Net):lB q x=q.1∨lB q x=aZ q.1 x.Event∨lB q x=bc q.1 (pH x q.1) x.Event:=by
 unfold lB
 split
 ·exact .inr (.inl rfl)
 ·split
  ·exact .inr (.inl rfl)
  ·split
   ·exact .inr (.inr rfl)
   ·exact .inl rfl
theorem A2 {q:NS} {x:law59_Net} (hk:0≤x.K):vY q x=q.2.1∨∃ m∈q.2.2.2,vY q x =(ac q.2.1 m).1:=by
 unfold vY
 split
 ·exact .inl rfl
 ·split
  ·exact .inl rfl
  ·split
   ·exact .inl rfl
   ·split
    ·exact .inl rfl
    ·split
     ·rename_i h
      have h :(q.2.2.2.length:Int)>0:=of_decide_eq_true h
      have h1:=Int.tmod_nonneg (q.2.2.2.length:Int) hk
      have h2:=Int.tmod_lt_of_pos x.K h
      exact .inr ⟨_,eg (show (x.K.tmod (q.2.2.2.length:Int)).toNat<q.2.2.2.length by omega) _,rfl⟩
     ·exact .inl rfl
theorem ri {x:law59_Net} {s:live_Server} (hk:0≤x.K) (hs:s.log.length≤4000):0≤pH x s∧pH x s≤(s.log.length:Int):=by
 have e:W ((s.log.length:Int)+1) =(s.log.length:Int)+1:=bb (by omega) (by omega)
 unfold pH
 rw [e]
 have h1:=Int.tmod_nonneg ((s.log.length:Int)+1) hk
 have h2:=Int.tmod_lt_of_pos x.K (show (0:Int) <(s.log.length:Int)+1 by omega)
 omega
theorem GX {r:Rules} {q:NS} {i:Int} {x:law59_Net} (h:NetOK r q i) (hi:i≤50) (hk:0≤x.K):Mid r q.1.epoch (pJ q x):=by
 have h1:=h.one
 have h2:=h.few
 have h3:=h.num
 have hl:=h.srv.2.2
 obtain ⟨i0,i1⟩:=ri (x:=x) hk hl
 obtain ⟨c1,c2⟩:=I0 q.1 (pH x q.1) x.Event (by omega) (by omega)
 obtain ⟨p1,p2,p3⟩:=J5 q.1 x.Event
 refine ⟨h.rules,?_,?_,h.len,h1,by omega,?_,h.logs,?_,?_,?_⟩
 ·show okS (lB q x)
  rcases ni q x with e|e|e <;> rw [e]
  ·exact h.srv
  ·exact BE h.srv _
  ·exact Ly h.srv _ _
 ·show (lB q x).rules=r
  rcases ni q x with e|e|e <;> rw [e]
  ·exact h.same
  ·exact p1.trans h.same
  ·exact c1.trans h.same
 ·show ((lB q x).epoch=q.1.epoch∧lg q.2.2.1 q.1.epoch.toNat <+:(lB q x).log)∨(lB q x).epoch=q.1.epoch+1
  rw [h.top]
  rcases ni q x with e|e|e <;> rw [e]
  ·exact .inl ⟨rfl,List.prefix_refl _⟩
  ·exact .inl ⟨p2,p3⟩
  ·rcases c2 with c2|c2
   ·rw [c2];exact .inl ⟨rfl,List.prefix_refl _⟩
   ·exact .inr c2
 ·show wg q.2.2.1 (ly q x)
  unfold ly
  split
  ·intro m hm
   rcases List.mem_append.1 hm with hm|hm
   ·exact h.sent m hm
   ·rw [List.mem_singleton.1 hm]
    exact rJ i0 i1 h1 h.len h.top
  ·exact h.sent
 ·show FolOK r q.2.2.1 (vY q x)
  rcases A2 (q:=q) hk with e |⟨m,hm,e⟩ <;> rw [e]
  ·exact h.fol
  ·exact (so h.logs h.fol (h.sent m hm)).1
 ·show ((ly q x).length:Int)≤60
  unfold ly
  split
  ·rw [List.length_append,List.length_singleton];omega
  ·omega
theorem FB {s:live_Server} {r:Rules} (h:okS s) (hr:s.rules=r):wq r s.log:=by
 refine ⟨pp _ _ 0 ?_,h.2.2⟩
 have:=h.2.1
 rw [hr] at this
 unfold okG
 rw [this]
theorem GO {r:Rules} {e:Int} {q:NS} (h:Mid r e q):LD q.2.2.1 (b9 e q)∧q.1.epoch+1 =((b9 e q).length:Int)∧lg (b9 e q) q.1.epoch.toNat=q.1.log∧jr r (b9 e q):=by
 have h1:=h.one
 have h2:=h.len
 have hG:=FB h.srv h.same
 rcases h.top with ⟨a,b⟩|a
 ·have e0:b9 e q=q.2.2.1.set e.toNat q.1.log:=by unfold b9;rw [a];simp
  have hk:e.toNat<q.2.2.1.length:=by omega
  rw [e0]
  refine ⟨⟨by rw [List.length_set];exact Nat.le_refl _,fun k=>?_⟩,by rw [List.length_set,a];exact h2,by rw [a,oC _ _ _ _ hk,if_pos rfl],fun k=>?_⟩
  ·rw [oC _ _ _ _ hk]
   split
   ·rename_i hq;rw [hq];exact b
   ·exact List.prefix_refl _
  ·rw [oC _ _ _ _ hk]
   split
   ·exact hG
   ·exact h.logs k
 ·have e0:b9 e q =(q.2.2.1++[[]]).set (e+1).toNat q.1.log:=by
   unfold b9
   rw [a,if_pos (by simp;omega)]
  have hk :(e+1).toNat <(q.2.2.1++[[]]).length:=by rw [List.length_append,List.length_singleton];omega
  rw [e0]
  refine ⟨⟨by rw [List.length_set,List.length_append];exact Nat.le_add_right _ _,fun k=>?_⟩,by rw [List.length_set,List.length_append,List.length_singleton,a];omega,by rw [a,oC _ _ _ _ hk,if_pos rfl],fun k=>?_⟩
  ·rw [oC _ _ _ _ hk]
   split
   ·rename_i hq
    have:lg q.2.2.1 k=[]:=by
     simp only [lg,List.getD_eq_getElem?_getD]
     rw [List.getElem?_eq_none (by omega)];rfl
    rw [this];exact List.nil_prefix
   ·rw [GL];exact List.prefix_refl _
  ·rw [oC _ _ _ _ hk]
   split
   ·exact hG
   ·rw [GL];exact h.logs k
theorem Dk {r:Rules} {e:Int} {q:NS} (h:Mid r e q):NetOK r (q.1,q.2.1,b9 e q,q.2.2.2) 60:=by
 obtain ⟨a,b,c,d⟩:=GO h
 have h1:=h.one
 have h2:=h.few
 refine ⟨h.rules,h.srv,h.same,b,?_,?_,c,d,fun m hm=>yH a (h.sent m hm),I8 a h.fol,h.num⟩
 ·show 1≤q.1.epoch
  rcases h.top with ⟨x,_⟩|x <;> omega
 ·show q.1.epoch≤60+1
  rcases h.top with ⟨x,_⟩|x <;> omega
theorem G0 {r:Rules} {q:NS} {i:Int} (h:NetOK r q i):fZ q.2.2.1 (ap q.1):=rJ (by omega) (Int.le_refl _) h.one h.len h.top
theorem Dd {r:Rules} {q:NS} {i:Int} (h:NetOK r q i):Late' r i (Ga q)∧(¬(ac q.2.1 (ap q.1)).2=0→¬ jH (ac q.2.1 (ap q.1)).1=0):=by
 have hm:ap q.1={ Epoch:=q.1.epoch,From:=q.1.log.length,To:=q.1.log.length,Events:=q.1.log.drop ((q.1.log.length:Int)).toNat }:=rI (by omega) (Int.le_refl _)
 obtain ⟨a,b⟩:=so h.logs h.fol (G0 h)
 obtain ⟨b1,b2,_⟩:=b (by rw [hm];exact h.len) (by rw [hm];show _ =((lg q.2.2.1 q.1.epoch.toNat).length:Int);rw [h.top])
 refine ⟨⟨⟨h.rules,h.srv,h.same,h.len,h.one,h.few,h.top,h.logs,h.sent,a,h.num⟩,fun hz=>?_⟩,b1⟩
 obtain ⟨c1,c2⟩:=b2 hz
 exact ⟨c1.trans (by rw [hm];rfl),c2.trans (by rw [hm];rfl)⟩
theorem ov {r:Rules} {ls:fF} {f:Fol} (hr:ax r=0) (hL:jr r ls) (h:FolOK r ls f):jW r f.match_ (lg ls f.epoch.toNat) f.known∧0≤f.epoch∧f.epoch <(ls.length:Int)∧aD f.match_:=by
 obtain ⟨e,k,c1,c2,c3,c4,c5⟩:=h.cur
 have e1:f.epoch.toNat=e:=by omega
 have hle:=(hL e).2
 refine ⟨⟨by omega,by rw [e1];omega,?_⟩,by omega,by omega,(lK hr hL h).1.2.1⟩
 rw [e1,c4,si hr,ra _ _ _ (rA (hL e).1 _) (by rw [List.length_take];omega),c5]
 rfl
theorem Aq {r:Rules} {q:NS} {i:Int} {x:law59_Net} (h:NetOK r q i) (hi:i≤50) (hk:0≤x.K):NetOK r (l4 q x) (i+1):=by
 have hM:=GX h hi hk
 obtain ⟨⟨a,_⟩,_⟩:=Dd (Dk hM)
 refine ⟨a.rules,a.srv,a.same,a.len,a.one,?_,a.top,a.logs,a.sent,a.fol,?_⟩
 ·have:=h.few
  show (lB q x).epoch≤i+1+1
  rcases hM.top with ⟨e,_⟩|e
  ·have e :(lB q x).epoch=q.1.epoch:=e
   omega
  ·have e :(lB q x).epoch=q.1.epoch+1:=e
   omega
 ·have:=h.num
  show ((ly q x).length:Int)≤i+1
  unfold ly
  split
  ·rw [List.length_append,List.length_singleton];omega
  ·omega
theorem Ol (q:NS) (x:law59_Net) (h:kOf x=0∨kOf x=1):pJ q x =(aZ q.1 x.Event,q.2.1,q.2.2.1,q.2.2.2):=by
 unfold pJ lB vY ly
 rcases h with h|h <;> rw [h] <;> rfl
theorem Om (q:NS) (x:law59_Net) (h:kOf x=2):pJ q x =(bc q.1 (pH x q.1) x.Event,q.2.1,q.2.2.1,q.2.2.2):=by
 unfold pJ lB vY ly
 rw [h];rfl
theorem On (q:NS) (x:law59_Net) (h:kOf x=3):pJ q x =(q.1,q.2.1,q.2.2.1,q.2.2.2++[nM q.1 (pH x q.1)]):=by
 unfold pJ lB vY ly
 rw [h];rfl
theorem Oo (q:NS) (x:law59_Net) (h0 :¬ kOf x=0) (h1 :¬ kOf x=1) (h2 :¬ kOf x=2) (h3 :¬ kOf x=3):pJ q x =(q.1,if decide ((q.2.2.2.length:Int)>0) then (ac q.2.1 (q.2.2.2.getD (x.K.tmod q.2.2.2.length).toNat (dflt (Ty.nm Nm.Message)))).1 else q.2.1,q.2.2.1,q.2.2.2):=by
 have e0 :(kOf x==0)=false:=by simpa using h0
 have e1 :(kOf x==1)=false:=by simpa using h1
 have e2 :(kOf x==2)=false:=by simpa using h2
 have e3 :(kOf x==3)=false:=by simpa using h3
 unfold pJ lB vY ly
 rw [e0,e1,e2,e3];rfl
noncomputable def GU:Lp:=(⟨0,al [dw,cq,dc,bX,bZ,i4,hJ,ei,ez,dx] Tryz.f4,(fun _=>none),(tn Tryz.f4 40),qMd,xMd⟩:Lp)
theorem MG (e:Int) (m:Int) (xs:List law59_Net) (n:Int) (i:Int) (v1:Rules) (v2:Int) (v3:Match) (l:List Mir.Event) (w1:Match) (w2:Int) (w3:Int) (w4:Match) (w5:Int) (w6:Int) (kp:List Message) (r:Rules) (ls:fF) (st:List Message) (hi:CO (e,m,xs,n,i,v1,v2,v3,l,w1,w2,w3,w4,w5,w6,kp,r,ls,st,())) :(Go.Mir.partG GU (fun _=>none) (e,m,xs,n,i,v1,v2,v3,l,w1,w2,w3,w4,w5,w6,kp,r,ls,st,())∧Go.Mir.partE GU (fun _=>none) (e,m,xs,n,i,v1,v2,v3,l,w1,w2,w3,w4,w5,w6,kp,r,ls,st,())=zM (e,m,xs,n,i,v1,v2,v3,l,w1,w2,w3,w4,w5,w6,kp,r,ls,st,())):=by
 refine cast (by kernel_rfl) (?_:let r1:Bool:=jH (live_Follower.mk w1 w2 w3 w4 w5 w6 kp) ==(0:Int);let r2:Bool:=bif r1 then bif w2 != e then true else bif w3 != m then true else !true else false;(((r1=true→((w2 != e)=true→True)∧((w2 != e)=false→((w3 != m)=true→True)∧((w3 != m)=false→aD w4∧l.length≤(1000000:Nat)∧jW r w4 l m∧True)))∧(r1=false→True))∧(true=true→(r2=true→True)∧(r2=false→True)))∧(bif true&&(true&&true)&&true then bif r2 then Sum.inl (false,()) else Sum.inr (xs,n,i,v1,v2,v3,l,Match.mk (Rules.mk (bif r1 then bif w2 != e then w1.1.1 else bif w3 != m then w1.1.1 else w1.1.1 else w1.1.1) (bif r1 then bif w2 != e then w1.1.2 else bif w3 != m then w1.1.2 else w1.1.2 else w1.1.2) (bif r1 then bif w2 != e then w1.1.3 else bif w3 != m then w1.1.3 else w1.1.3 else w1.1.3) (bif r1 then bif w2 != e then w1.1.4 else bif w3 != m then w1.1.4 else w1.1.4 else w1.1.4) (bif r1 then bif w2 != e then w1.1.5 else bif w3 != m then w1.1.5 else w1.1.5 else w1.1.5) (bif r1 then bif w2 != e then w1.1.6 else bif w3 != m then w1.1.6 else w1.1.6 else w1.1.6) (bif r1 then bif w2 != e then w1.1.7 else bif w3 != m then w1.1.7 else w1.1.7 else w1.1.7) (bif r1 then bif w2 != e then w1.1.8 else bif w3 != m then w1.1.8 else w1.1.8 else w1.1.8) (bif r1 then bif w2 != e then w1.1.9 else bif w3 != m then w1.1.9 else w1.1.9 else w1.1.9) (bif r1 then bif w2 != e then w1.1.10 else bif w3 != m then w1.1.10 else w1.1.10 else w1.1.10) (bif r1 then bif w2 != e then w1.1.11 else bif w3 != m then w1.1.11 else w1.1.11 else w1.1.11) (bif r1 then bif w2 != e then w1.1.12 else bif w3 != m then w1.1.12 else w1.1.12 else w1.1.12) (bif r1 then bif w2 != e then w1.1.13 else bif w3 != m then w1.1.13 else w1.1.13 else w1.1.13) (bif r1 then bif w2 != e then w1.1.14 else bif w3 != m then w1.1.14 else w1.1.14 else w1.1.14)) (bif r1 then bif w2 != e then w1.2 else bif w3 != m then w1.2 else w1.2 else w1.2) (bif r1 then bif w2 != e then w1.3 else bif w3 != m then w1.3 else w1.3 else w1.3) (bif r1 then bif w2 != e then w1.4 else bif w3 != m then w1.4 else w1.4 else w1.4) (bif r1 then bif w2 != e then w1.5 else bif w3 != m then w1.5 else w1.5 else w1.5) (bif r1 then bif w2 != e then w1.6.1 else bif w3 != m then w1.6.1 else w1.6.1 else w1.6.1,bif r1 then bif w2 != e then w1.6.2.1 else bif w3 != m then w1.6.2.1 else w1.6.2.1 else w1.6.2.1,()) (Result.mk (bif r1 then bif w2 != e then w1.7.1 else bif w3 != m then w1.7.1 else w1.7.1 else w1.7.1) (bif r1 then bif w2 != e then w1.7.2 else bif w3 != m then w1.7.2 else w1.7.2 else w1.7.2) (bif r1 then bif w2 != e then w1.7.3 else bif w3 != m then w1.7.3 else w1.7.3 else w1.7.3)),bif r1 then bif w2 != e then w2 else bif w3 != m then w2 else w2 else w2,bif r1 then bif w2 != e then w3 else bif w3 != m then w3 else w3 else w3,Match.mk (Rules.mk (bif r1 then bif w2 != e then w4.1.1 else bif w3 != m then w4.1.1 else w4.1.1 else w4.1.1) (bif r1 then bif w2 != e then w4.1.2 else bif w3 != m then w4.1.2 else w4.1.2 else w4.1.2) (bif r1 then bif w2 != e then w4.1.3 else bif w3 != m then w4.1.3 else w4.1.3 else w4.1.3) (bif r1 then bif w2 != e then w4.1.4 else bif w3 != m then w4.1.4 else w4.1.4 else w4.1.4) (bif r1 then bif w2 != e then w4.1.5 else bif w3 != m then w4.1.5 else w4.1.5 else w4.1.5) (bif r1 then bif w2 != e then w4.1.6 else bif w3 != m then w4.1.6 else w4.1.6 else w4.1.6) (bif r1 then bif w2 != e then w4.1.7 else bif w3 != m then w4.1.7 else w4.1.7 else w4.1.7) (bif r1 then bif w2 != e then w4.1.8 else bif w3 != m then w4.1.8 else w4.1.8 else w4.1.8) (bif r1 then bif w2 != e then w4.1.9 else bif w3 != m then w4.1.9 else w4.1.9 else w4.1.9) (bif r1 then bif w2 != e then w4.1.10 else bif w3 != m then w4.1.10 else w4.1.10 else w4.1.10) (bif r1 then bif w2 != e then w4.1.11 else bif w3 != m then w4.1.11 else w4.1.11 else w4.1.11) (bif r1 then bif w2 != e then w4.1.12 else bif w3 != m then w4.1.12 else w4.1.12 else w4.1.12) (bif r1 then bif w2 != e then w4.1.13 else bif w3 != m then w4.1.13 else w4.1.13 else w4.1.13) (bif r1 then bif w2 != e then w4.1.14 else bif w3 != m then w4.1.14 else w4.1.14 else w4.1.14)) (bif r1 then bif w2 != e then w4.2 else bif w3 != m then w4.2 else w4.2 else w4.2) (bif r1 then bif w2 != e then w4.3 else bif w3 != m then w4.3 else w4.3 else w4.3) (bif r1 then bif w2 != e then w4.4 else bif w3 != m then w4.4 else w4.4 else w4.4) (bif r1 then bif w2 != e then w4.5 else bif w3 != m then w4.5 else w4.5 else w4.5) (bif r1 then bif w2 != e then w4.6.1 else bif w3 != m then w4.6.1 else w4.6.1 else w4.6.1,bif r1 then bif w2 != e then w4.6.2.1 else bif w3 != m then w4.6.2.1 else w4.6.2.1 else w4.6.2.1,()) (Result.mk (bif r1 then bif w2 != e then w4.7.1 else bif w3 != m then w4.7.1 else w4.7.1 else w4.7.1) (bif r1 then bif w2 != e then w4.7.2 else bif w3 != m then w4.7.2 else w4.7.2 else w4.7.2) (bif r1 then bif w2 != e then w4.7.3 else bif w3 != m then w4.7.3 else w4.7.3 else w4.7.3)),bif r1 then bif w2 != e then w5 else bif w3 != m then w5 else w5 else w5,bif r1 then bif w2 != e then w6 else bif w3 != m then w6 else w6 else w6,bif r1 then bif w2 != e then kp else bif w3 != m then kp else kp else kp,r,ls,st,()) else bif true then bif r2 then Sum.inl (false,()) else Sum.inr (xs,n,i,v1,v2,v3,l,Match.mk (Rules.mk (bif r1 then bif w2 != e then w1.1.1 else bif w3 != m then w1.1.1 else w1.1.1 else w1.1.1) (bif r1 then bif w2 != e then w1.1.2 else bif w3 != m then w1.1.2 else w1.1.2 else w1.1.2) (bif r1 then bif w2 != e then w1.1.3 else bif w3 != m then w1.1.3 else w1.1.3 else w1.1.3) (bif r1 then bif w2 != e then w1.1.4 else bif w3 != m then w1.1.4 else w1.1.4 else w1.1.4) (bif r1 then bif w2 != e then w1.1.5 else bif w3 != m then w1.1.5 else w1.1.5 else w1.1.5) (bif r1 then bif w2 != e then w1.1.6 else bif w3 != m then w1.1.6 else w1.1.6 else w1.1.6) (bif r1 then bif w2 != e then w1.1.7 else bif w3 != m then w1.1.7 else w1.1.7 else w1.1.7) (bif r1 then bif w2 != e then w1.1.8 else bif w3 != m then w1.1.8 else w1.1.8 else w1.1.8) (bif r1 then bif w2 != e then w1.1.9 else bif w3 != m then w1.1.9 else w1.1.9 else w1.1.9) (bif r1 then bif w2 != e then w1.1.10 else bif w3 != m then w1.1.10 else w1.1.10 else w1.1.10) (bif r1 then bif w2 != e then w1.1.11 else bif w3 != m then w1.1.11 else w1.1.11 else w1.1.11) (bif r1 then bif w2 != e then w1.1.12 else bif w3 != m then w1.1.12 else w1.1.12 else w1.1.12) (bif r1 then bif w2 != e then w1.1.13 else bif w3 != m then w1.1.13 else w1.1.13 else w1.1.13) (bif r1 then bif w2 != e then w1.1.14 else bif w3 != m then w1.1.14 else w1.1.14 else w1.1.14)) (bif r1 then bif w2 != e then w1.2 else bif w3 != m then w1.2 else w1.2 else w1.2) (bif r1 then bif w2 != e then w1.3 else bif w3 != m then w1.3 else w1.3 else w1.3) (bif r1 then bif w2 != e then w1.4 else bif w3 != m then w1.4 else w1.4 else w1.4) (bif r1 then bif w2 != e then w1.5 else bif w3 != m then w1.5 else w1.5 else w1.5) (bif r1 then bif w2 != e then w1.6.1 else bif w3 != m then w1.6.1 else w1.6.1 else w1.6.1,bif r1 then bif w2 != e then w1.6.2.1 else bif w3 != m then w1.6.2.1 else w1.6.2.1 else w1.6.2.1,()) (Result.mk (bif r1 then bif w2 != e then w1.7.1 else bif w3 != m then w1.7.1 else w1.7.1 else w1.7.1) (bif r1 then bif w2 != e then w1.7.2 else bif w3 != m then w1.7.2 else w1.7.2 else w1.7.2) (bif r1 then bif w2 != e then w1.7.3 else bif w3 != m then w1.7.3 else w1.7.3 else w1.7.3)),bif r1 then bif w2 != e then w2 else bif w3 != m then w2 else w2 else w2,bif r1 then bif w2 != e then w3 else bif w3 != m then w3 else w3 else w3,Match.mk (Rules.mk (bif r1 then bif w2 != e then w4.1.1 else bif w3 != m then w4.1.1 else w4.1.1 else w4.1.1) (bif r1 then bif w2 != e then w4.1.2 else bif w3 != m then w4.1.2 else w4.1.2 else w4.1.2) (bif r1 then bif w2 != e then w4.1.3 else bif w3 != m then w4.1.3 else w4.1.3 else w4.1.3) (bif r1 then bif w2 != e then w4.1.4 else bif w3 != m then w4.1.4 else w4.1.4 else w4.1.4) (bif r1 then bif w2 != e then w4.1.5 else bif w3 != m then w4.1.5 else w4.1.5 else w4.1.5) (bif r1 then bif w2 != e then w4.1.6 else bif w3 != m then w4.1.6 else w4.1.6 else w4.1.6) (bif r1 then bif w2 != e then w4.1.7 else bif w3 != m then w4.1.7 else w4.1.7 else w4.1.7) (bif r1 then bif w2 != e then w4.1.8 else bif w3 != m then w4.1.8 else w4.1.8 else w4.1.8) (bif r1 then bif w2 != e then w4.1.9 else bif w3 != m then w4.1.9 else w4.1.9 else w4.1.9) (bif r1 then bif w2 != e then w4.1.10 else bif w3 != m then w4.1.10 else w4.1.10 else w4.1.10) (bif r1 then bif w2 != e then w4.1.11 else bif w3 != m then w4.1.11 else w4.1.11 else w4.1.11) (bif r1 then bif w2 != e then w4.1.12 else bif w3 != m then w4.1.12 else w4.1.12 else w4.1.12) (bif r1 then bif w2 != e then w4.1.13 else bif w3 != m then w4.1.13 else w4.1.13 else w4.1.13) (bif r1 then bif w2 != e then w4.1.14 else bif w3 != m then w4.1.14 else w4.1.14 else w4.1.14)) (bif r1 then bif w2 != e then w4.2 else bif w3 != m then w4.2 else w4.2 else w4.2) (bif r1 then bif w2 != e then w4.3 else bif w3 != m then w4.3 else w4.3 else w4.3) (bif r1 then bif w2 != e then w4.4 else bif w3 != m then w4.4 else w4.4 else w4.4) (bif r1 then bif w2 != e then w4.5 else bif w3 != m then w4.5 else w4.5 else w4.5) (bif r1 then bif w2 != e then w4.6.1 else bif w3 != m then w4.6.1 else w4.6.1 else w4.6.1,bif r1 then bif w2 != e then w4.6.2.1 else bif w3 != m then w4.6.2.1 else w4.6.2.1 else w4.6.2.1,()) (Result.mk (bif r1 then bif w2 != e then w4.7.1 else bif w3 != m then w4.7.1 else w4.7.1 else w4.7.1) (bif r1 then bif w2 != e then w4.7.2 else bif w3 != m then w4.7.2 else w4.7.2 else w4.7.2) (bif r1 then bif w2 != e then w4.7.3 else bif w3 != m then w4.7.3 else w4.7.3 else w4.7.3)),bif r1 then bif w2 != e then w5 else bif w3 != m then w5 else w5 else w5,bif r1 then bif w2 != e then w6 else bif w3 != m then w6 else w6 else w6,bif r1 then bif w2 != e then kp else bif w3 != m then kp else kp else kp,r,ls,st,()) else bif r1 then bif w2 != e then Sum.inl (dflt (Ty.bool.prod Ty.unit)) else bif w3 != m then Sum.inl (dflt (Ty.bool.prod Ty.unit)) else Sum.inl (dflt (Ty.bool.prod Ty.unit)) else Sum.inl (dflt (Ty.bool.prod Ty.unit)))=zM (e,m,xs,n,i,v1,v2,v3,l,w1,w2,w3,w4,w5,w6,kp,r,ls,st,()))
 intro r1 r2
 clear_value (hr1:r1=_) (hr2:r2=_)
 obtain ⟨⟨he,hm⟩,hN⟩:=hi
 have he:e=v2:=he
 have hm:m =(l.length:Int):=hm
 have hN:Late' r 60 (live_Server.mk v1 v2 l v3,live_Follower.mk w1 w2 w3 w4 w5 w6 kp,ls,st):=hN
 have hl:=hN.net.srv.2.2
 simp only at hl
 have hz:r1=true→w2=v2∧w3 =(l.length:Int):=fun h=>hN.lag (by rw [hr1] at h;exact eq_of_beq h)
 obtain ⟨f1,f2,f3,f4⟩:=ov hN.net.rules hN.net.logs hN.net.fol
 have ht:lg ls v2.toNat=l:=hN.net.top
 have e2:r2=false:=by
  rw [hr2]
  cases hb:r1 with
  | false=>rfl
  | true=>
   obtain ⟨a,b⟩:=hz hb
   rw [he,hm,a,b]
   simp
 refine ⟨⟨⟨fun h=>⟨fun _=>trivial,fun _=>⟨fun _=>trivial,fun _=>⟨f4,by omega,?_,trivial⟩⟩⟩,fun _=>trivial⟩,fun _=>⟨fun _=>trivial,fun _=>trivial⟩⟩,?_⟩
 ·obtain ⟨a,b⟩:=hz h
  have f1:jW r w4 (lg ls w2.toNat) w3:=f1
  rw [a,ht,b,←hm] at f1
  exact f1
 ·rw [e2]
  clear hz hr1 hr2
  cases r1 <;> cases (w2 != e) <;> cases (w3 != m) <;> rfl
noncomputable def IC:LoopSum:=aC GU zM CO
theorem M6:fH Tryz.prog 0 Tryz.f4.ntmps (tn Tryz.f4 40) (aC GU zM CO):=
 kx GU (fun _=>none) (aj (.consU dJ rfl (.consU cX rfl (.consU dI rfl (.consU cD rfl (.consU cE rfl (.consU iQ rfl (.consU iP rfl (.consU fe rfl (.consU fx rfl (.consU dK rfl .nil)))))))))) _) mixed (fun b hb S hS=>by cases hS) (fun b hb S hS=>by cases hS) zM CO (fun |⟨e,m,xs,n,i,v1,v2,v3,l,w1,w2,w3,w4,w5,w6,kp,r,ls,st,⟨⟩⟩,hi=>MG e m xs n i v1 v2 v3 l w1 w2 w3 w4 w5 w6 kp r ls st hi)
noncomputable def GT:Lp:=(⟨0,al [dw,cq,dc,bX,bZ,i4,hJ,ei,ez,dx] Tryz.f4,(fun _=>none),(tn Tryz.f4 37),qMd,xMd⟩:Lp)
theorem MF (e:Int) (m:Int) (xs:List law59_Net) (n:Int) (i:Int) (v1:Rules) (v2:Int) (v3:Match) (l:List Mir.Event) (w1:Match) (w2:Int) (w3:Int) (w4:Match) (w5:Int) (w6:Int) (kp:List Message) (r:Rules) (ls:fF) (st:List Message) (hi:pm (e,m,xs,n,i,v1,v2,v3,l,w1,w2,w3,w4,w5,w6,kp,r,ls,st,())) :(Go.Mir.partG GT (find [(40,IC)]) (e,m,xs,n,i,v1,v2,v3,l,w1,w2,w3,w4,w5,w6,kp,r,ls,st,())∧Go.Mir.partE GT (find [(40,IC)]) (e,m,xs,n,i,v1,v2,v3,l,w1,w2,w3,w4,w5,w6,kp,r,ls,st,())=lq (e,m,xs,n,i,v1,v2,v3,l,w1,w2,w3,w4,w5,w6,kp,r,ls,st,())):=by
 refine cast (by kernel_rfl) (?_:let r1:Bool:=eJ (live_Server.mk v1 v2 l v3) m !=(0:Int);let r2:Fol×Int:=ac (live_Follower.mk w1 w2 w3 w4 w5 w6 kp) (Message.mk (eO (live_Server.mk v1 v2 l v3) m v2) (eO (live_Server.mk v1 v2 l v3) m m) (eO (live_Server.mk v1 v2 l v3) m (↑l.length:Int)) (dV (live_Server.mk v1 v2 l v3) m));let r3:Bool:=r2.2 !=(0:Int);let r4:Bool:=jH r2.1 ==(0:Int);let r5:Bool:=bif r1 then false else bif r3 then !r4 else true;((r5=true→(l.length≤(1000000:Nat)∧(r1=true→False)∧(r1=false→cc (live_Follower.mk w1 w2 w3 w4 w5 w6 kp)∧(dV (live_Server.mk v1 v2 l v3) m).length≤aI∧(r3=true→(r4=true→False)∧(r4=false→True))∧(r3=false→True)))∧((cx fun x=>none)∧(e=v2∧m =(↑l.length:Int))∧Late' (kr (xs,n,i,v1,v2,v3,l,Match.mk (Rules.mk (bif r3 then r2.1.1.1.1 else r2.1.1.1.1) (bif r3 then r2.1.1.1.2 else r2.1.1.1.2) (bif r3 then r2.1.1.1.3 else r2.1.1.1.3) (bif r3 then r2.1.1.1.4 else r2.1.1.1.4) (bif r3 then r2.1.1.1.5 else r2.1.1.1.5) (bif r3 then r2.1.1.1.6 else r2.1.1.1.6) (bif r3 then r2.1.1.1.7 else r2.1.1.1.7) (bif r3 then r2.1.1.1.8 else r2.1.1.1.8) (bif r3 then r2.1.1.1.9 else r2.1.1.1.9) (bif r3 then r2.1.1.1.10 else r2.1.1.1.10) (bif r3 then r2.1.1.1.11 else r2.1.1.1.11) (bif r3 then r2.1.1.1.12 else r2.1.1.1.12) (bif r3 then r2.1.1.1.13 else r2.1.1.1.13) (bif r3 then r2.1.1.1.14 else r2.1.1.1.14)) (bif r3 then r2.1.1.2 else r2.1.1.2) (bif r3 then r2.1.1.3 else r2.1.1.3) (bif r3 then r2.1.1.4 else r2.1.1.4) (bif r3 then r2.1.1.5 else r2.1.1.5) (bif r3 then r2.1.1.6.1 else r2.1.1.6.1,bif r3 then r2.1.1.6.2.1 else r2.1.1.6.2.1,()) (Result.mk (bif r3 then r2.1.1.7.1 else r2.1.1.7.1) (bif r3 then r2.1.1.7.2 else r2.1.1.7.2) (bif r3 then r2.1.1.7.3 else r2.1.1.7.3)),bif r3 then r2.1.2 else r2.1.2,bif r3 then r2.1.3 else r2.1.3,Match.mk (Rules.mk (bif r3 then r2.1.4.1.1 else r2.1.4.1.1) (bif r3 then r2.1.4.1.2 else r2.1.4.1.2) (bif r3 then r2.1.4.1.3 else r2.1.4.1.3) (bif r3 then r2.1.4.1.4 else r2.1.4.1.4) (bif r3 then r2.1.4.1.5 else r2.1.4.1.5) (bif r3 then r2.1.4.1.6 else r2.1.4.1.6) (bif r3 then r2.1.4.1.7 else r2.1.4.1.7) (bif r3 then r2.1.4.1.8 else r2.1.4.1.8) (bif r3 then r2.1.4.1.9 else r2.1.4.1.9) (bif r3 then r2.1.4.1.10 else r2.1.4.1.10) (bif r3 then r2.1.4.1.11 else r2.1.4.1.11) (bif r3 then r2.1.4.1.12 else r2.1.4.1.12) (bif r3 then r2.1.4.1.13 else r2.1.4.1.13) (bif r3 then r2.1.4.1.14 else r2.1.4.1.14)) (bif r3 then r2.1.4.2 else r2.1.4.2) (bif r3 then r2.1.4.3 else r2.1.4.3) (bif r3 then r2.1.4.4 else r2.1.4.4) (bif r3 then r2.1.4.5 else r2.1.4.5) (bif r3 then r2.1.4.6.1 else r2.1.4.6.1,bif r3 then r2.1.4.6.2.1 else r2.1.4.6.2.1,()) (Result.mk (bif r3 then r2.1.4.7.1 else r2.1.4.7.1) (bif r3 then r2.1.4.7.2 else r2.1.4.7.2) (bif r3 then r2.1.4.7.3 else r2.1.4.7.3)),bif r3 then r2.1.5 else r2.1.5,bif r3 then r2.1.6 else r2.1.6,bif r3 then r2.1.7 else r2.1.7,r,ls,st,())) (60:Int) (bB (xs,n,i,v1,v2,v3,l,Match.mk (Rules.mk (bif r3 then r2.1.1.1.1 else r2.1.1.1.1) (bif r3 then r2.1.1.1.2 else r2.1.1.1.2) (bif r3 then r2.1.1.1.3 else r2.1.1.1.3) (bif r3 then r2.1.1.1.4 else r2.1.1.1.4) (bif r3 then r2.1.1.1.5 else r2.1.1.1.5) (bif r3 then r2.1.1.1.6 else r2.1.1.1.6) (bif r3 then r2.1.1.1.7 else r2.1.1.1.7) (bif r3 then r2.1.1.1.8 else r2.1.1.1.8) (bif r3 then r2.1.1.1.9 else r2.1.1.1.9) (bif r3 then r2.1.1.1.10 else r2.1.1.1.10) (bif r3 then r2.1.1.1.11 else r2.1.1.1.11) (bif r3 then r2.1.1.1.12 else r2.1.1.1.12) (bif r3 then r2.1.1.1.13 else r2.1.1.1.13) (bif r3 then r2.1.1.1.14 else r2.1.1.1.14)) (bif r3 then r2.1.1.2 else r2.1.1.2) (bif r3 then r2.1.1.3 else r2.1.1.3) (bif r3 then r2.1.1.4 else r2.1.1.4) (bif r3 then r2.1.1.5 else r2.1.1.5) (bif r3 then r2.1.1.6.1 else r2.1.1.6.1,bif r3 then r2.1.1.6.2.1 else r2.1.1.6.2.1,()) (Result.mk (bif r3 then r2.1.1.7.1 else r2.1.1.7.1) (bif r3 then r2.1.1.7.2 else r2.1.1.7.2) (bif r3 then r2.1.1.7.3 else r2.1.1.7.3)),bif r3 then r2.1.2 else r2.1.2,bif r3 then r2.1.3 else r2.1.3,Match.mk (Rules.mk (bif r3 then r2.1.4.1.1 else r2.1.4.1.1) (bif r3 then r2.1.4.1.2 else r2.1.4.1.2) (bif r3 then r2.1.4.1.3 else r2.1.4.1.3) (bif r3 then r2.1.4.1.4 else r2.1.4.1.4) (bif r3 then r2.1.4.1.5 else r2.1.4.1.5) (bif r3 then r2.1.4.1.6 else r2.1.4.1.6) (bif r3 then r2.1.4.1.7 else r2.1.4.1.7) (bif r3 then r2.1.4.1.8 else r2.1.4.1.8) (bif r3 then r2.1.4.1.9 else r2.1.4.1.9) (bif r3 then r2.1.4.1.10 else r2.1.4.1.10) (bif r3 then r2.1.4.1.11 else r2.1.4.1.11) (bif r3 then r2.1.4.1.12 else r2.1.4.1.12) (bif r3 then r2.1.4.1.13 else r2.1.4.1.13) (bif r3 then r2.1.4.1.14 else r2.1.4.1.14)) (bif r3 then r2.1.4.2 else r2.1.4.2) (bif r3 then r2.1.4.3 else r2.1.4.3) (bif r3 then r2.1.4.4 else r2.1.4.4) (bif r3 then r2.1.4.5 else r2.1.4.5) (bif r3 then r2.1.4.6.1 else r2.1.4.6.1,bif r3 then r2.1.4.6.2.1 else r2.1.4.6.2.1,()) (Result.mk (bif r3 then r2.1.4.7.1 else r2.1.4.7.1) (bif r3 then r2.1.4.7.2 else r2.1.4.7.2) (bif r3 then r2.1.4.7.3 else r2.1.4.7.3)),bif r3 then r2.1.5 else r2.1.5,bif r3 then r2.1.6 else r2.1.6,bif r3 then r2.1.7 else r2.1.7,r,ls,st,())))∧(false=true→True)∧(false=false→True))∧(r5=false→l.length≤(1000000:Nat)∧(r1=true→True)∧(r1=false→cc (live_Follower.mk w1 w2 w3 w4 w5 w6 kp)∧(dV (live_Server.mk v1 v2 l v3) m).length≤aI∧(r3=true→(r4=true→True)∧(r4=false→True))∧(r3=false→True))))∧(bif false&&(false&&true&&true) then bif false then Sum.inl (false,()) else Sum.inr (xs,n,i,v1,v2,v3,l,Match.mk (Rules.mk (bif r3 then r2.1.1.1.1 else r2.1.1.1.1) (bif r3 then r2.1.1.1.2 else r2.1.1.1.2) (bif r3 then r2.1.1.1.3 else r2.1.1.1.3) (bif r3 then r2.1.1.1.4 else r2.1.1.1.4) (bif r3 then r2.1.1.1.5 else r2.1.1.1.5) (bif r3 then r2.1.1.1.6 else r2.1.1.1.6) (bif r3 then r2.1.1.1.7 else r2.1.1.1.7) (bif r3 then r2.1.1.1.8 else r2.1.1.1.8) (bif r3 then r2.1.1.1.9 else r2.1.1.1.9) (bif r3 then r2.1.1.1.10 else r2.1.1.1.10) (bif r3 then r2.1.1.1.11 else r2.1.1.1.11) (bif r3 then r2.1.1.1.12 else r2.1.1.1.12) (bif r3 then r2.1.1.1.13 else r2.1.1.1.13) (bif r3 then r2.1.1.1.14 else r2.1.1.1.14)) (bif r3 then r2.1.1.2 else r2.1.1.2) (bif r3 then r2.1.1.3 else r2.1.1.3) (bif r3 then r2.1.1.4 else r2.1.1.4) (bif r3 then r2.1.1.5 else r2.1.1.5) (bif r3 then r2.1.1.6.1 else r2.1.1.6.1,bif r3 then r2.1.1.6.2.1 else r2.1.1.6.2.1,()) (Result.mk (bif r3 then r2.1.1.7.1 else r2.1.1.7.1) (bif r3 then r2.1.1.7.2 else r2.1.1.7.2) (bif r3 then r2.1.1.7.3 else r2.1.1.7.3)),bif r3 then r2.1.2 else r2.1.2,bif r3 then r2.1.3 else r2.1.3,Match.mk (Rules.mk (bif r3 then r2.1.4.1.1 else r2.1.4.1.1) (bif r3 then r2.1.4.1.2 else r2.1.4.1.2) (bif r3 then r2.1.4.1.3 else r2.1.4.1.3) (bif r3 then r2.1.4.1.4 else r2.1.4.1.4) (bif r3 then r2.1.4.1.5 else r2.1.4.1.5) (bif r3 then r2.1.4.1.6 else r2.1.4.1.6) (bif r3 then r2.1.4.1.7 else r2.1.4.1.7) (bif r3 then r2.1.4.1.8 else r2.1.4.1.8) (bif r3 then r2.1.4.1.9 else r2.1.4.1.9) (bif r3 then r2.1.4.1.10 else r2.1.4.1.10) (bif r3 then r2.1.4.1.11 else r2.1.4.1.11) (bif r3 then r2.1.4.1.12 else r2.1.4.1.12) (bif r3 then r2.1.4.1.13 else r2.1.4.1.13) (bif r3 then r2.1.4.1.14 else r2.1.4.1.14)) (bif r3 then r2.1.4.2 else r2.1.4.2) (bif r3 then r2.1.4.3 else r2.1.4.3) (bif r3 then r2.1.4.4 else r2.1.4.4) (bif r3 then r2.1.4.5 else r2.1.4.5) (bif r3 then r2.1.4.6.1 else r2.1.4.6.1,bif r3 then r2.1.4.6.2.1 else r2.1.4.6.2.1,()) (Result.mk (bif r3 then r2.1.4.7.1 else r2.1.4.7.1) (bif r3 then r2.1.4.7.2 else r2.1.4.7.2) (bif r3 then r2.1.4.7.3 else r2.1.4.7.3)),bif r3 then r2.1.5 else r2.1.5,bif r3 then r2.1.6 else r2.1.6,bif r3 then r2.1.7 else r2.1.7,r,ls,st,()) else bif r5 then bif false then Sum.inl (false,()) else Sum.inr (xs,n,i,v1,v2,v3,l,Match.mk (Rules.mk (bif r3 then r2.1.1.1.1 else r2.1.1.1.1) (bif r3 then r2.1.1.1.2 else r2.1.1.1.2) (bif r3 then r2.1.1.1.3 else r2.1.1.1.3) (bif r3 then r2.1.1.1.4 else r2.1.1.1.4) (bif r3 then r2.1.1.1.5 else r2.1.1.1.5) (bif r3 then r2.1.1.1.6 else r2.1.1.1.6) (bif r3 then r2.1.1.1.7 else r2.1.1.1.7) (bif r3 then r2.1.1.1.8 else r2.1.1.1.8) (bif r3 then r2.1.1.1.9 else r2.1.1.1.9) (bif r3 then r2.1.1.1.10 else r2.1.1.1.10) (bif r3 then r2.1.1.1.11 else r2.1.1.1.11) (bif r3 then r2.1.1.1.12 else r2.1.1.1.12) (bif r3 then r2.1.1.1.13 else r2.1.1.1.13) (bif r3 then r2.1.1.1.14 else r2.1.1.1.14)) (bif r3 then r2.1.1.2 else r2.1.1.2) (bif r3 then r2.1.1.3 else r2.1.1.3) (bif r3 then r2.1.1.4 else r2.1.1.4) (bif r3 then r2.1.1.5 else r2.1.1.5) (bif r3 then r2.1.1.6.1 else r2.1.1.6.1,bif r3 then r2.1.1.6.2.1 else r2.1.1.6.2.1,()) (Result.mk (bif r3 then r2.1.1.7.1 else r2.1.1.7.1) (bif r3 then r2.1.1.7.2 else r2.1.1.7.2) (bif r3 then r2.1.1.7.3 else r2.1.1.7.3)),bif r3 then r2.1.2 else r2.1.2,bif r3 then r2.1.3 else r2.1.3,Match.mk (Rules.mk (bif r3 then r2.1.4.1.1 else r2.1.4.1.1) (bif r3 then r2.1.4.1.2 else r2.1.4.1.2) (bif r3 then r2.1.4.1.3 else r2.1.4.1.3) (bif r3 then r2.1.4.1.4 else r2.1.4.1.4) (bif r3 then r2.1.4.1.5 else r2.1.4.1.5) (bif r3 then r2.1.4.1.6 else r2.1.4.1.6) (bif r3 then r2.1.4.1.7 else r2.1.4.1.7) (bif r3 then r2.1.4.1.8 else r2.1.4.1.8) (bif r3 then r2.1.4.1.9 else r2.1.4.1.9) (bif r3 then r2.1.4.1.10 else r2.1.4.1.10) (bif r3 then r2.1.4.1.11 else r2.1.4.1.11) (bif r3 then r2.1.4.1.12 else r2.1.4.1.12) (bif r3 then r2.1.4.1.13 else r2.1.4.1.13) (bif r3 then r2.1.4.1.14 else r2.1.4.1.14)) (bif r3 then r2.1.4.2 else r2.1.4.2) (bif r3 then r2.1.4.3 else r2.1.4.3) (bif r3 then r2.1.4.4 else r2.1.4.4) (bif r3 then r2.1.4.5 else r2.1.4.5) (bif r3 then r2.1.4.6.1 else r2.1.4.6.1,bif r3 then r2.1.4.6.2.1 else r2.1.4.6.2.1,()) (Result.mk (bif r3 then r2.1.4.7.1 else r2.1.4.7.1) (bif r3 then r2.1.4.7.2 else r2.1.4.7.2) (bif r3 then r2.1.4.7.3 else r2.1.4.7.3)),bif r3 then r2.1.5 else r2.1.5,bif r3 then r2.1.6 else r2.1.6,bif r3 then r2.1.7 else r2.1.7,r,ls,st,()) else bif r1 then Sum.inl (false,()) else bif r3 then bif r4 then Sum.inl (false,()) else Sum.inl (dflt (Ty.bool.prod Ty.unit)) else Sum.inl (dflt (Ty.bool.prod Ty.unit)))=lq (e,m,xs,n,i,v1,v2,v3,l,w1,w2,w3,w4,w5,w6,kp,r,ls,st,()))
 intro r1 r2 r3 r4 r5
 clear_value (hr1:r1=_) (hr2:r2=_) (hr3:r3=_) (hr4:r4=_) (hr5:r5=_)
 obtain ⟨⟨he,hm⟩,hN⟩:=hi
 have he:e=v2:=he
 have hm:m =(l.length:Int):=hm
 have hN:NetOK r (live_Server.mk v1 v2 l v3,live_Follower.mk w1 w2 w3 w4 w5 w6 kp,ls,st) 60:=hN
 have hl:=hN.srv.2.2
 simp only at hl
 have hG:la (live_Server.mk v1 v2 l v3) m=false:=by unfold la;rw [hm,decide_eq_false (by omega),decide_eq_false (by simp)];rfl
 have e1:r1=false:=by rw [hr1];unfold eJ;rw [hG];rfl
 have e2:r2=ac (live_Follower.mk w1 w2 w3 w4 w5 w6 kp) (ap (live_Server.mk v1 v2 l v3)):=by rw [hr2,hm];rfl
 obtain ⟨hL,hb⟩:=Dd hN
 have hL:Late' r 60 (live_Server.mk v1 v2 l v3,r2.1,ls,st):=by rw [e2];exact hL
 have hb:r3=true→r4=false:=fun h=>by
  have h :¬ r2.2=0:=by rw [hr3] at h;simpa using h
  rw [e2] at h
  have:=hb h
  rw [←e2] at this
  rw [hr4]
  simpa using this
 have e5:r5=true:=by
  rw [hr5,e1]
  cases h3:r3 with
  | false=>rfl
  | true=>rw [hb h3];rfl
 have hO:cc (live_Follower.mk w1 w2 w3 w4 w5 w6 kp):=lK hN.rules hN.logs hN.fol
 have hE :(dV (live_Server.mk v1 v2 l v3) m).length≤aI:=by
  unfold dV
  rw [hG]
  show (List.drop m.toNat l).length≤140737488355328
  rw [List.length_drop];omega
 refine ⟨⟨fun _=>⟨⟨by omega,fun h=>(by rw [e1] at h;cases h),fun _=>⟨hO,hE,fun h=>⟨fun h4=>(by rw [hb h] at h4;cases h4),fun _=>trivial⟩,fun _=>trivial⟩⟩,⟨rfl,⟨he,hm⟩,?_⟩,fun _=>trivial,fun _=>trivial⟩,fun h=>(by rw [e5] at h;cases h)⟩,?_⟩
 ·clear hr3 hr4 hr5 hb
  cases r3 <;> exact hL
 ·rw [e5]
  have eR:lq (e,m,xs,n,i,v1,v2,v3,l,w1,w2,w3,w4,w5,w6,kp,r,ls,st,()) = .inr (J6 (xs,n,i,v1,v2,v3,l,w1,w2,w3,w4,w5,w6,kp,r,ls,st,()) (live_Server.mk v1 v2 l v3,r2.1,ls,st)):=by rw [e2];rfl
  rw [eR]
  clear hr3 hr4 hr5 hb
  cases r3 <;> rfl
noncomputable def IB:LoopSum:=aC GT lq pm
theorem M5:fH Tryz.prog 0 Tryz.f4.ntmps (tn Tryz.f4 37) (aC GT lq pm):=
 kx GT (find [(40,IC)]) (aj (.consU dJ rfl (.consU cX rfl (.consU dI rfl (.consU cD rfl (.consU cE rfl (.consU iQ rfl (.consU iP rfl (.consU fe rfl (.consU fx rfl (.consU dK rfl .nil)))))))))) _) mixed (fun b hb S hS=>by cases hS) (CutsOKp.at (by kernel_rfl) (.cons (by kernel_rfl) M6 .nil)) lq pm (fun |⟨e,m,xs,n,i,v1,v2,v3,l,w1,w2,w3,w4,w5,w6,kp,r,ls,st,⟨⟩⟩,hi=>MF e m xs n i v1 v2 v3 l w1 w2 w3 w4 w5 w6 kp r ls st hi)
noncomputable def GS:Lp:=(⟨0,al [dw,cq,dc,bX,bZ,i4,hJ,ei,ez,dx] Tryz.f4,(fun _=>none),(tn Tryz.f4 34),qMd,xMd⟩:Lp)
theorem ME (e:Int) (m:Int) (xs:List law59_Net) (n:Int) (i:Int) (v1:Rules) (v2:Int) (v3:Match) (l:List Mir.Event) (w1:Match) (w2:Int) (w3:Int) (w4:Match) (w5:Int) (w6:Int) (kp:List Message) (r:Rules) (ls:fF) (st:List Message) (hi:pm (e,m,xs,n,i,v1,v2,v3,l,w1,w2,w3,w4,w5,w6,kp,r,ls,st,())) :(Go.Mir.partG GS (find [(37,IB)]) (e,m,xs,n,i,v1,v2,v3,l,w1,w2,w3,w4,w5,w6,kp,r,ls,st,())∧Go.Mir.partE GS (find [(37,IB)]) (e,m,xs,n,i,v1,v2,v3,l,w1,w2,w3,w4,w5,w6,kp,r,ls,st,())=lq (e,m,xs,n,i,v1,v2,v3,l,w1,w2,w3,w4,w5,w6,kp,r,ls,st,())):=by
 refine cast (by kernel_rfl) (?_:let r1:Bool:=decide (w2 <(0:Int));let r2:Bool:=decide (w2≥(↑(List.length ls):Int));let r3:Int:=bif r1 then w2 else bif r2 then w2 else w2;let r4:Int:=bif r1 then w3 else bif r2 then w3 else w3;let r5:Int:=bif r1 then w5 else bif r2 then w5 else w5;let r6:Int:=bif r1 then w6 else bif r2 then w6 else w6;let r7:Bool:=bif r1 then true else bif r2 then true else !true;let r8:List Message:=bif r1 then kp else bif r2 then kp else kp;let r9:Match:=Match.mk (Rules.mk (bif r1 then w1.1.1 else bif r2 then w1.1.1 else w1.1.1) (bif r1 then w1.1.2 else bif r2 then w1.1.2 else w1.1.2) (bif r1 then w1.1.3 else bif r2 then w1.1.3 else w1.1.3) (bif r1 then w1.1.4 else bif r2 then w1.1.4 else w1.1.4) (bif r1 then w1.1.5 else bif r2 then w1.1.5 else w1.1.5) (bif r1 then w1.1.6 else bif r2 then w1.1.6 else w1.1.6) (bif r1 then w1.1.7 else bif r2 then w1.1.7 else w1.1.7) (bif r1 then w1.1.8 else bif r2 then w1.1.8 else w1.1.8) (bif r1 then w1.1.9 else bif r2 then w1.1.9 else w1.1.9) (bif r1 then w1.1.10 else bif r2 then w1.1.10 else w1.1.10) (bif r1 then w1.1.11 else bif r2 then w1.1.11 else w1.1.11) (bif r1 then w1.1.12 else bif r2 then w1.1.12 else w1.1.12) (bif r1 then w1.1.13 else bif r2 then w1.1.13 else w1.1.13) (bif r1 then w1.1.14 else bif r2 then w1.1.14 else w1.1.14)) (bif r1 then w1.2 else bif r2 then w1.2 else w1.2) (bif r1 then w1.3 else bif r2 then w1.3 else w1.3) (bif r1 then w1.4 else bif r2 then w1.4 else w1.4) (bif r1 then w1.5 else bif r2 then w1.5 else w1.5) (bif r1 then w1.6.1 else bif r2 then w1.6.1 else w1.6.1,bif r1 then w1.6.2.1 else bif r2 then w1.6.2.1 else w1.6.2.1,()) (Result.mk (bif r1 then w1.7.1 else bif r2 then w1.7.1 else w1.7.1) (bif r1 then w1.7.2 else bif r2 then w1.7.2 else w1.7.2) (bif r1 then w1.7.3 else bif r2 then w1.7.3 else w1.7.3));let r10:Match:=Match.mk (Rules.mk (bif r1 then w4.1.1 else bif r2 then w4.1.1 else w4.1.1) (bif r1 then w4.1.2 else bif r2 then w4.1.2 else w4.1.2) (bif r1 then w4.1.3 else bif r2 then w4.1.3 else w4.1.3) (bif r1 then w4.1.4 else bif r2 then w4.1.4 else w4.1.4) (bif r1 then w4.1.5 else bif r2 then w4.1.5 else w4.1.5) (bif r1 then w4.1.6 else bif r2 then w4.1.6 else w4.1.6) (bif r1 then w4.1.7 else bif r2 then w4.1.7 else w4.1.7) (bif r1 then w4.1.8 else bif r2 then w4.1.8 else w4.1.8) (bif r1 then w4.1.9 else bif r2 then w4.1.9 else w4.1.9) (bif r1 then w4.1.10 else bif r2 then w4.1.10 else w4.1.10) (bif r1 then w4.1.11 else bif r2 then w4.1.11 else w4.1.11) (bif r1 then w4.1.12 else bif r2 then w4.1.12 else w4.1.12) (bif r1 then w4.1.13 else bif r2 then w4.1.13 else w4.1.13) (bif r1 then w4.1.14 else bif r2 then w4.1.14 else w4.1.14)) (bif r1 then w4.2 else bif r2 then w4.2 else w4.2) (bif r1 then w4.3 else bif r2 then w4.3 else w4.3) (bif r1 then w4.4 else bif r2 then w4.4 else w4.4) (bif r1 then w4.5 else bif r2 then w4.5 else w4.5) (bif r1 then w4.6.1 else bif r2 then w4.6.1 else w4.6.1,bif r1 then w4.6.2.1 else bif r2 then w4.6.2.1 else w4.6.2.1,()) (Result.mk (bif r1 then w4.7.1 else bif r2 then w4.7.1 else w4.7.1) (bif r1 then w4.7.2 else bif r2 then w4.7.2 else w4.7.2) (bif r1 then w4.7.3 else bif r2 then w4.7.3 else w4.7.3));(((r1=true→True)∧(r1=false→(r2=true→True)∧(r2=false→aD w4∧((0:Int)≤w2∧w2 <(↑(List.length ls):Int))∧jW r w4 (List.getD ls w2.toNat (dflt (Ty.nm Nm.Event).slice)) w3∧True)))∧(true=true→(r7=true→True)∧(r7=false→((cx fun x=>none)∧(e=v2∧m =(↑l.length:Int))∧NetOK (kr (xs,n,i,v1,v2,v3,l,r9,r3,r4,r10,r5,r6,r8,r,ls,st,())) (bB (xs,n,i,v1,v2,v3,l,r9,r3,r4,r10,r5,r6,r8,r,ls,st,())) (60:Int))∧(false=true→True)∧(false=false→True))))∧(bif true&&(true&&true) then bif r7 then Sum.inl (false,()) else bif false then Sum.inl (false,()) else Sum.inr (xs,n,i,v1,v2,v3,l,(ac (live_Follower.mk r9 r3 r4 r10 r5 r6 r8) (ap (live_Server.mk v1 v2 l v3))).1.1,(ac (live_Follower.mk r9 r3 r4 r10 r5 r6 r8) (ap (live_Server.mk v1 v2 l v3))).1.2,(ac (live_Follower.mk r9 r3 r4 r10 r5 r6 r8) (ap (live_Server.mk v1 v2 l v3))).1.3,(ac (live_Follower.mk r9 r3 r4 r10 r5 r6 r8) (ap (live_Server.mk v1 v2 l v3))).1.4,(ac (live_Follower.mk r9 r3 r4 r10 r5 r6 r8) (ap (live_Server.mk v1 v2 l v3))).1.5,(ac (live_Follower.mk r9 r3 r4 r10 r5 r6 r8) (ap (live_Server.mk v1 v2 l v3))).1.6,(ac (live_Follower.mk r9 r3 r4 r10 r5 r6 r8) (ap (live_Server.mk v1 v2 l v3))).1.7,r,ls,st,()) else bif true then bif r7 then Sum.inl (false,()) else bif false then Sum.inl (false,()) else Sum.inr (xs,n,i,v1,v2,v3,l,(ac (live_Follower.mk r9 r3 r4 r10 r5 r6 r8) (ap (live_Server.mk v1 v2 l v3))).1.1,(ac (live_Follower.mk r9 r3 r4 r10 r5 r6 r8) (ap (live_Server.mk v1 v2 l v3))).1.2,(ac (live_Follower.mk r9 r3 r4 r10 r5 r6 r8) (ap (live_Server.mk v1 v2 l v3))).1.3,(ac (live_Follower.mk r9 r3 r4 r10 r5 r6 r8) (ap (live_Server.mk v1 v2 l v3))).1.4,(ac (live_Follower.mk r9 r3 r4 r10 r5 r6 r8) (ap (live_Server.mk v1 v2 l v3))).1.5,(ac (live_Follower.mk r9 r3 r4 r10 r5 r6 r8) (ap (live_Server.mk v1 v2 l v3))).1.6,(ac (live_Follower.mk r9 r3 r4 r10 r5 r6 r8) (ap (live_Server.mk v1 v2 l v3))).1.7,r,ls,st,()) else bif r1 then Sum.inl (dflt (Ty.bool.prod Ty.unit)) else bif r2 then Sum.inl (dflt (Ty.bool.prod Ty.unit)) else Sum.inl (dflt (Ty.bool.prod Ty.unit)))=lq (e,m,xs,n,i,v1,v2,v3,l,w1,w2,w3,w4,w5,w6,kp,r,ls,st,()))
 intro r1 r2 r3 r4 r5 r6 r7 r8 r9 r10
 clear_value (hr1:r1=_) (hr2:r2=_) (hr3:r3=_) (hr4:r4=_) (hr5:r5=_) (hr6:r6=_) (hr7:r7=_) (hr8:r8=_) (hr9:r9=_) (hr10:r10=_)
 obtain ⟨⟨he,hm⟩,hN⟩:=hi
 have he:e=v2:=he
 have hm:m =(l.length:Int):=hm
 have hN:NetOK r (live_Server.mk v1 v2 l v3,live_Follower.mk w1 w2 w3 w4 w5 w6 kp,ls,st) 60:=hN
 obtain ⟨f1,f2,f3,f4⟩:=ov hN.rules hN.logs hN.fol
 have f2:0≤w2:=f2
 have f3:w2 <(List.length ls:Int):=f3
 have e1:r1=false:=by rw [hr1];exact decide_eq_false (by omega)
 have e2:r2=false:=by rw [hr2];exact decide_eq_false (by omega)
 clear hr1 hr2
 subst e1 e2
 have e3:r3=w2:=hr3
 have e4:r4=w3:=hr4
 have e5:r5=w5:=hr5
 have e6:r6=w6:=hr6
 have e7:r7=false:=hr7
 have e8:r8=kp:=hr8
 have e9:r9=w1:=hr9
 have e10:r10=w4:=hr10
 clear hr3 hr4 hr5 hr6 hr7 hr8 hr9 hr10
 subst e3 e4 e5 e6 e7 e8 e9 e10
 exact ⟨⟨⟨fun _=>trivial,fun _=>⟨fun _=>trivial,fun _=>⟨f4,⟨f2,f3⟩,f1,trivial⟩⟩⟩,fun _=>⟨fun _=>trivial,fun _=>⟨⟨rfl,⟨he,hm⟩,hN⟩,fun _=>trivial,fun _=>trivial⟩⟩⟩,rfl⟩
noncomputable def IA:LoopSum:=aC GS lq pm
theorem M4:fH Tryz.prog 0 Tryz.f4.ntmps (tn Tryz.f4 34) (aC GS lq pm):=
 kx GS (find [(37,IB)]) (aj (.consU dJ rfl (.consU cX rfl (.consU dI rfl (.consU cD rfl (.consU cE rfl (.consU iQ rfl (.consU iP rfl (.consU fe rfl (.consU fx rfl (.consU dK rfl .nil)))))))))) _) mixed (fun b hb S hS=>by cases hS) (CutsOKp.at (by kernel_rfl) (.cons (by kernel_rfl) M5 .nil)) lq pm (fun |⟨e,m,xs,n,i,v1,v2,v3,l,w1,w2,w3,w4,w5,w6,kp,r,ls,st,⟨⟩⟩,hi=>ME e m xs n i v1 v2 v3 l w1 w2 w3 w4 w5 w6 kp r ls st hi)
noncomputable def GR:Lp:=(⟨0,al [dw,cq,dc,bX,bZ,i4,hJ,ei,ez,dx] Tryz.f4,(fun _=>none),(tn Tryz.f4 27),qMd,xMd⟩:Lp)
theorem MD (e:Int) (m:Int) (xs:List law59_Net) (n:Int) (i:Int) (v1:Rules) (v2:Int) (v3:Match) (l:List Mir.Event) (w1:Match) (w2:Int) (w3:Int) (w4:Match) (w5:Int) (w6:Int) (kp:List Message) (r:Rules) (ls:fF) (st:List Message) (hi:CN (e,m,xs,n,i,v1,v2,v3,l,w1,w2,w3,w4,w5,w6,kp,r,ls,st,())) :(Go.Mir.partG GR (find [(34,IA)]) (e,m,xs,n,i,v1,v2,v3,l,w1,w2,w3,w4,w5,w6,kp,r,ls,st,())∧Go.Mir.partE GR (find [(34,IA)]) (e,m,xs,n,i,v1,v2,v3,l,w1,w2,w3,w4,w5,w6,kp,r,ls,st,())=uW (e,m,xs,n,i,v1,v2,v3,l,w1,w2,w3,w4,w5,w6,kp,r,ls,st,())):=by
 refine cast (by kernel_rfl) (?_:let r1:List (List Mir.Event):= [[]];let r2:Bool:=v2 != IntKind.i64.wrap ((↑(List.length ls):Int) - (1:Int));let r3:List (List Mir.Event):=ls++r1;let r4:Int:=(↑r3.length:Int);let r5:Bool:=v2 != IntKind.i64.wrap (r4 - (1:Int));(((v2 != e)=true→(List.length ls+r1.length) *(24:Nat)≤(70368744177664:Nat)∧(r5=true→True)∧(r5=false→l.length≤(1000000:Nat)∧((0:Int)≤v2∧v2<r4)∧((cx fun x=>none)∧(v2=v2∧(↑l.length:Int) =(↑l.length:Int))∧NetOK (kr (xs,n,i,v1,v2,v3,l,w1,w2,w3,w4,w5,w6,kp,r,r3.set v2.toNat l,st,())) (bB (xs,n,i,v1,v2,v3,l,w1,w2,w3,w4,w5,w6,kp,r,r3.set v2.toNat l,st,())) (60:Int))∧(false=true→True)∧(false=false→True)))∧((v2 != e)=false→(r2=true→True)∧(r2=false→l.length≤(1000000:Nat)∧((0:Int)≤v2∧v2 <(↑(List.length ls):Int))∧((cx fun x=>none)∧(v2=v2∧(↑l.length:Int) =(↑l.length:Int))∧NetOK (kr (xs,n,i,v1,v2,v3,l,w1,w2,w3,w4,w5,w6,kp,r,List.set ls v2.toNat l,st,())) (bB (xs,n,i,v1,v2,v3,l,w1,w2,w3,w4,w5,w6,kp,r,List.set ls v2.toNat l,st,())) (60:Int))∧(false=true→True)∧(false=false→True))))∧(bif v2 != e then bif r5 then Sum.inl (false,()) else bif false then Sum.inl (false,()) else Sum.inr (xs,n,i,v1,v2,v3,l,(ac (live_Follower.mk w1 w2 w3 w4 w5 w6 kp) (ap (live_Server.mk v1 v2 l v3))).1.1,(ac (live_Follower.mk w1 w2 w3 w4 w5 w6 kp) (ap (live_Server.mk v1 v2 l v3))).1.2,(ac (live_Follower.mk w1 w2 w3 w4 w5 w6 kp) (ap (live_Server.mk v1 v2 l v3))).1.3,(ac (live_Follower.mk w1 w2 w3 w4 w5 w6 kp) (ap (live_Server.mk v1 v2 l v3))).1.4,(ac (live_Follower.mk w1 w2 w3 w4 w5 w6 kp) (ap (live_Server.mk v1 v2 l v3))).1.5,(ac (live_Follower.mk w1 w2 w3 w4 w5 w6 kp) (ap (live_Server.mk v1 v2 l v3))).1.6,(ac (live_Follower.mk w1 w2 w3 w4 w5 w6 kp) (ap (live_Server.mk v1 v2 l v3))).1.7,r,r3.set v2.toNat l,st,()) else bif r2 then Sum.inl (false,()) else bif false then Sum.inl (false,()) else Sum.inr (xs,n,i,v1,v2,v3,l,(ac (live_Follower.mk w1 w2 w3 w4 w5 w6 kp) (ap (live_Server.mk v1 v2 l v3))).1.1,(ac (live_Follower.mk w1 w2 w3 w4 w5 w6 kp) (ap (live_Server.mk v1 v2 l v3))).1.2,(ac (live_Follower.mk w1 w2 w3 w4 w5 w6 kp) (ap (live_Server.mk v1 v2 l v3))).1.3,(ac (live_Follower.mk w1 w2 w3 w4 w5 w6 kp) (ap (live_Server.mk v1 v2 l v3))).1.4,(ac (live_Follower.mk w1 w2 w3 w4 w5 w6 kp) (ap (live_Server.mk v1 v2 l v3))).1.5,(ac (live_Follower.mk w1 w2 w3 w4 w5 w6 kp) (ap (live_Server.mk v1 v2 l v3))).1.6,(ac (live_Follower.mk w1 w2 w3 w4 w5 w6 kp) (ap (live_Server.mk v1 v2 l v3))).1.7,r,List.set ls v2.toNat l,st,()))=uW (e,m,xs,n,i,v1,v2,v3,l,w1,w2,w3,w4,w5,w6,kp,r,ls,st,()))
 intro r1 r2 r3 r4 r5
 clear_value (hr1:r1=_) (hr2:r2=_) (hr3:r3=_) (hr4:r4=_) (hr5:r5=_)
 have hM:Mid r e (live_Server.mk v1 v2 l v3,live_Follower.mk w1 w2 w3 w4 w5 w6 kp,ls,st):=hi
 have hN:=Dk hM
 have hl:=hM.srv.2.2
 simp only at hl
 have h1:=hM.one
 have h2:e+1 =(List.length ls:Int):=hM.len
 have h3:=hM.few
 have e1:r1.length=1:=by rw [hr1];rfl
 have e4:r4 =(List.length ls:Int)+1:=by rw [hr4,hr3,List.length_append,e1];omega
 have htop:v2=e∨v2=e+1:=hM.top.imp (·.1) id
 have eR:uW (e,m,xs,n,i,v1,v2,v3,l,w1,w2,w3,w4,w5,w6,kp,r,ls,st,()) = .inr (J6 (xs,n,i,v1,v2,v3,l,w1,w2,w3,w4,w5,w6,kp,r,ls,st,()) (live_Server.mk v1 v2 l v3,(ac (live_Follower.mk w1 w2 w3 w4 w5 w6 kp) (ap (live_Server.mk v1 v2 l v3))).1,(if v2 != e then ls++[[]] else ls).set v2.toNat l,st)):=rfl
 have hN:NetOK r (live_Server.mk v1 v2 l v3,live_Follower.mk w1 w2 w3 w4 w5 w6 kp,(if v2 != e then ls++[[]] else ls).set v2.toNat l,st) 60:=hN
 rw [eR]
 by_cases hv:v2=e
 ·have eb :(v2 != e)=false:=by rw [hv];simp
  rw [eb] at hN ⊢
  have e2:r2=false:=by
   rw [hr2,show IntKind.i64.wrap ((List.length ls:Int) - 1) =(List.length ls:Int) - 1 from bb (by omega) (by omega)]
   simp;omega
  rw [e2]
  exact ⟨⟨fun h=>(by cases h),fun _=>⟨fun _=>trivial,fun _=>⟨by omega,⟨by omega,by omega⟩,⟨rfl,⟨rfl,rfl⟩,hN⟩,fun _=>trivial,fun _=>trivial⟩⟩⟩,rfl⟩
 ·have eb :(v2 != e)=true:=by simpa using hv
  rw [eb] at hN ⊢
  have hv:v2=e+1:=by omega
  have e5:r5=false:=by
   rw [hr5,e4,show IntKind.i64.wrap ((List.length ls:Int)+1 - 1) =(List.length ls:Int)+1 - 1 from bb (by omega) (by omega)]
   simp;omega
  rw [e5]
  have e3:r3=ls++[[]]:=by rw [hr3,hr1]
  rw [e3]
  exact ⟨⟨fun _=>⟨by rw [e1];omega,fun _=>trivial,fun _=>⟨by omega,⟨by omega,by omega⟩,⟨rfl,⟨rfl,rfl⟩,hN⟩,fun _=>trivial,fun _=>trivial⟩⟩,fun h=>(by cases h)⟩,rfl⟩
noncomputable def Iz:LoopSum:=aC GR uW CN
theorem M3:fH Tryz.prog 0 Tryz.f4.ntmps (tn Tryz.f4 27) (aC GR uW CN):=
 kx GR (find [(34,IA)]) (aj (.consU dJ rfl (.consU cX rfl (.consU dI rfl (.consU cD rfl (.consU cE rfl (.consU iQ rfl (.consU iP rfl (.consU fe rfl (.consU fx rfl (.consU dK rfl .nil)))))))))) _) mixed (fun b hb S hS=>by cases hS) (CutsOKp.at (by kernel_rfl) (.cons (by kernel_rfl) M4 .nil)) uW CN (fun |⟨e,m,xs,n,i,v1,v2,v3,l,w1,w2,w3,w4,w5,w6,kp,r,ls,st,⟨⟩⟩,hi=>MD e m xs n i v1 v2 v3 l w1 w2 w3 w4 w5 w6 kp r ls st hi)
noncomputable def lpSh:Lp:=(⟨0,al [dw,cq,dc,bX,bZ,i4,hJ,ei,ez,dx] Tryz.f4,(fun _=>none),(aB Tryz.f4 0),qSh,xSh⟩:Lp)
theorem ML (xs:List law59_Net) (n:Int) (i:Int) (v1:Rules) (v2:Int) (v3:Match) (l:List Mir.Event) (w1:Match) (w2:Int) (w3:Int) (w4:Match) (w5:Int) (w6:Int) (kp:List Message) (r:Rules) (ls:fF) (st:List Message) (hi:kV (xs,n,i,v1,v2,v3,l,w1,w2,w3,w4,w5,w6,kp,r,ls,st,())) :(Go.Mir.stepGK lpSh (find [(27,Iz)]) gl (fun y:Den (tyP lpSh.q)=>kV y∧mi y<mi (xs,n,i,v1,v2,v3,l,w1,w2,w3,w4,w5,w6,kp,r,ls,st,())) (xs,n,i,v1,v2,v3,l,w1,w2,w3,w4,w5,w6,kp,r,ls,st,())∧Go.Mir.stepEK lpSh (find [(27,Iz)]) gl (xs,n,i,v1,v2,v3,l,w1,w2,w3,w4,w5,w6,kp,r,ls,st,())=gl (xs,n,i,v1,v2,v3,l,w1,w2,w3,w4,w5,w6,kp,r,ls,st,())):=by
 refine cast (by kernel_rfl) (?_:let r1:Int:=IntKind.i64.wrap (i +(1:Int));let r2:Int:=(xs.getD i.toNat (dflt (Ty.nm Nm.law59_Net))).1.tmod (7:Int);let r3:Int:=IntKind.i64.wrap ((↑l.length:Int) +(1:Int));let r4:Int:=(IntKind.i64.wrap (xs.getD i.toNat (dflt (Ty.nm Nm.law59_Net))).2).tmod (↑st.length:Int);let r5:Bool:=r2 ==(0:Int);let r6:Bool:=r2 ==(2:Int);let r7:Bool:=r2 ==(3:Int);let r8:Bool:=decide ((↑st.length:Int) >(0:Int));let r9:Message:=st.getD r4.toNat (dflt (Ty.nm Nm.Message));let r10:Int:=(IntKind.i64.wrap (xs.getD i.toNat (dflt (Ty.nm Nm.law59_Net))).2).tmod r3;let r11:Bool:=eJ (live_Server.mk v1 v2 l v3) r10 !=(0:Int);let r12:Bool:=bif r5 then r5 else r2 ==(1:Int);let r13:List Message:= [Message.mk (eO (live_Server.mk v1 v2 l v3) r10 v2) (eO (live_Server.mk v1 v2 l v3) r10 r10) (eO (live_Server.mk v1 v2 l v3) r10 (↑l.length:Int)) (dV (live_Server.mk v1 v2 l v3) r10)];((decide (i<n)=true→((0:Int)≤i∧i <(↑xs.length:Int))∧(7:Int)≠(0:Int)∧(r12=true→gr (live_Server.mk v1 v2 l v3)∧((cx fun x=>none)∧Mid (kr (xs,n,i,(aZ (live_Server.mk v1 v2 l v3) (xs.getD i.toNat (dflt (Ty.nm Nm.law59_Net))).3).1,(aZ (live_Server.mk v1 v2 l v3) (xs.getD i.toNat (dflt (Ty.nm Nm.law59_Net))).3).2,(aZ (live_Server.mk v1 v2 l v3) (xs.getD i.toNat (dflt (Ty.nm Nm.law59_Net))).3).4,(aZ (live_Server.mk v1 v2 l v3) (xs.getD i.toNat (dflt (Ty.nm Nm.law59_Net))).3).3,w1,w2,w3,w4,w5,w6,kp,r,ls,st,())) v2 (bB (xs,n,i,(aZ (live_Server.mk v1 v2 l v3) (xs.getD i.toNat (dflt (Ty.nm Nm.law59_Net))).3).1,(aZ (live_Server.mk v1 v2 l v3) (xs.getD i.toNat (dflt (Ty.nm Nm.law59_Net))).3).2,(aZ (live_Server.mk v1 v2 l v3) (xs.getD i.toNat (dflt (Ty.nm Nm.law59_Net))).3).4,(aZ (live_Server.mk v1 v2 l v3) (xs.getD i.toNat (dflt (Ty.nm Nm.law59_Net))).3).3,w1,w2,w3,w4,w5,w6,kp,r,ls,st,())))∧(false=true→True)∧(false=false→kV (xs,n,r1,(aZ (live_Server.mk v1 v2 l v3) (xs.getD i.toNat (dflt (Ty.nm Nm.law59_Net))).3).1,(aZ (live_Server.mk v1 v2 l v3) (xs.getD i.toNat (dflt (Ty.nm Nm.law59_Net))).3).2,(aZ (live_Server.mk v1 v2 l v3) (xs.getD i.toNat (dflt (Ty.nm Nm.law59_Net))).3).4,(aZ (live_Server.mk v1 v2 l v3) (xs.getD i.toNat (dflt (Ty.nm Nm.law59_Net))).3).3,(ac (live_Follower.mk w1 w2 w3 w4 w5 w6 kp) (ap (aZ (live_Server.mk v1 v2 l v3) (xs.getD i.toNat (dflt (Ty.nm Nm.law59_Net))).3))).1.1,(ac (live_Follower.mk w1 w2 w3 w4 w5 w6 kp) (ap (aZ (live_Server.mk v1 v2 l v3) (xs.getD i.toNat (dflt (Ty.nm Nm.law59_Net))).3))).1.2,(ac (live_Follower.mk w1 w2 w3 w4 w5 w6 kp) (ap (aZ (live_Server.mk v1 v2 l v3) (xs.getD i.toNat (dflt (Ty.nm Nm.law59_Net))).3))).1.3,(ac (live_Follower.mk w1 w2 w3 w4 w5 w6 kp) (ap (aZ (live_Server.mk v1 v2 l v3) (xs.getD i.toNat (dflt (Ty.nm Nm.law59_Net))).3))).1.4,(ac (live_Follower.mk w1 w2 w3 w4 w5 w6 kp) (ap (aZ (live_Server.mk v1 v2 l v3) (xs.getD i.toNat (dflt (Ty.nm Nm.law59_Net))).3))).1.5,(ac (live_Follower.mk w1 w2 w3 w4 w5 w6 kp) (ap (aZ (live_Server.mk v1 v2 l v3) (xs.getD i.toNat (dflt (Ty.nm Nm.law59_Net))).3))).1.6,(ac (live_Follower.mk w1 w2 w3 w4 w5 w6 kp) (ap (aZ (live_Server.mk v1 v2 l v3) (xs.getD i.toNat (dflt (Ty.nm Nm.law59_Net))).3))).1.7,r,b9 v2 (bB (xs,n,i,(aZ (live_Server.mk v1 v2 l v3) (xs.getD i.toNat (dflt (Ty.nm Nm.law59_Net))).3).1,(aZ (live_Server.mk v1 v2 l v3) (xs.getD i.toNat (dflt (Ty.nm Nm.law59_Net))).3).2,(aZ (live_Server.mk v1 v2 l v3) (xs.getD i.toNat (dflt (Ty.nm Nm.law59_Net))).3).4,(aZ (live_Server.mk v1 v2 l v3) (xs.getD i.toNat (dflt (Ty.nm Nm.law59_Net))).3).3,w1,w2,w3,w4,w5,w6,kp,r,ls,st,())),st,())∧mi (xs,n,r1,(aZ (live_Server.mk v1 v2 l v3) (xs.getD i.toNat (dflt (Ty.nm Nm.law59_Net))).3).1,(aZ (live_Server.mk v1 v2 l v3) (xs.getD i.toNat (dflt (Ty.nm Nm.law59_Net))).3).2,(aZ (live_Server.mk v1 v2 l v3) (xs.getD i.toNat (dflt (Ty.nm Nm.law59_Net))).3).4,(aZ (live_Server.mk v1 v2 l v3) (xs.getD i.toNat (dflt (Ty.nm Nm.law59_Net))).3).3,(ac (live_Follower.mk w1 w2 w3 w4 w5 w6 kp) (ap (aZ (live_Server.mk v1 v2 l v3) (xs.getD i.toNat (dflt (Ty.nm Nm.law59_Net))).3))).1.1,(ac (live_Follower.mk w1 w2 w3 w4 w5 w6 kp) (ap (aZ (live_Server.mk v1 v2 l v3) (xs.getD i.toNat (dflt (Ty.nm Nm.law59_Net))).3))).1.2,(ac (live_Follower.mk w1 w2 w3 w4 w5 w6 kp) (ap (aZ (live_Server.mk v1 v2 l v3) (xs.getD i.toNat (dflt (Ty.nm Nm.law59_Net))).3))).1.3,(ac (live_Follower.mk w1 w2 w3 w4 w5 w6 kp) (ap (aZ (live_Server.mk v1 v2 l v3) (xs.getD i.toNat (dflt (Ty.nm Nm.law59_Net))).3))).1.4,(ac (live_Follower.mk w1 w2 w3 w4 w5 w6 kp) (ap (aZ (live_Server.mk v1 v2 l v3) (xs.getD i.toNat (dflt (Ty.nm Nm.law59_Net))).3))).1.5,(ac (live_Follower.mk w1 w2 w3 w4 w5 w6 kp) (ap (aZ (live_Server.mk v1 v2 l v3) (xs.getD i.toNat (dflt (Ty.nm Nm.law59_Net))).3))).1.6,(ac (live_Follower.mk w1 w2 w3 w4 w5 w6 kp) (ap (aZ (live_Server.mk v1 v2 l v3) (xs.getD i.toNat (dflt (Ty.nm Nm.law59_Net))).3))).1.7,r,b9 v2 (bB (xs,n,i,(aZ (live_Server.mk v1 v2 l v3) (xs.getD i.toNat (dflt (Ty.nm Nm.law59_Net))).3).1,(aZ (live_Server.mk v1 v2 l v3) (xs.getD i.toNat (dflt (Ty.nm Nm.law59_Net))).3).2,(aZ (live_Server.mk v1 v2 l v3) (xs.getD i.toNat (dflt (Ty.nm Nm.law59_Net))).3).4,(aZ (live_Server.mk v1 v2 l v3) (xs.getD i.toNat (dflt (Ty.nm Nm.law59_Net))).3).3,w1,w2,w3,w4,w5,w6,kp,r,ls,st,())),st,())<mi (xs,n,i,v1,v2,v3,l,w1,w2,w3,w4,w5,w6,kp,r,ls,st,())))∧(r12=false→(r6=true→r3≠(0:Int)∧gr (live_Server.mk v1 v2 l v3)∧((cx fun x=>none)∧Mid (kr (xs,n,i,(bc (live_Server.mk v1 v2 l v3) r10 (xs.getD i.toNat (dflt (Ty.nm Nm.law59_Net))).3).1,(bc (live_Server.mk v1 v2 l v3) r10 (xs.getD i.toNat (dflt (Ty.nm Nm.law59_Net))).3).2,(bc (live_Server.mk v1 v2 l v3) r10 (xs.getD i.toNat (dflt (Ty.nm Nm.law59_Net))).3).4,(bc (live_Server.mk v1 v2 l v3) r10 (xs.getD i.toNat (dflt (Ty.nm Nm.law59_Net))).3).3,w1,w2,w3,w4,w5,w6,kp,r,ls,st,())) v2 (bB (xs,n,i,(bc (live_Server.mk v1 v2 l v3) r10 (xs.getD i.toNat (dflt (Ty.nm Nm.law59_Net))).3).1,(bc (live_Server.mk v1 v2 l v3) r10 (xs.getD i.toNat (dflt (Ty.nm Nm.law59_Net))).3).2,(bc (live_Server.mk v1 v2 l v3) r10 (xs.getD i.toNat (dflt (Ty.nm Nm.law59_Net))).3).4,(bc (live_Server.mk v1 v2 l v3) r10 (xs.getD i.toNat (dflt (Ty.nm Nm.law59_Net))).3).3,w1,w2,w3,w4,w5,w6,kp,r,ls,st,())))∧(false=true→True)∧(false=false→kV (xs,n,r1,(bc (live_Server.mk v1 v2 l v3) r10 (xs.getD i.toNat (dflt (Ty.nm Nm.law59_Net))).3).1,(bc (live_Server.mk v1 v2 l v3) r10 (xs.getD i.toNat (dflt (Ty.nm Nm.law59_Net))).3).2,(bc (live_Server.mk v1 v2 l v3) r10 (xs.getD i.toNat (dflt (Ty.nm Nm.law59_Net))).3).4,(bc (live_Server.mk v1 v2 l v3) r10 (xs.getD i.toNat (dflt (Ty.nm Nm.law59_Net))).3).3,(ac (live_Follower.mk w1 w2 w3 w4 w5 w6 kp) (ap (bc (live_Server.mk v1 v2 l v3) r10 (xs.getD i.toNat (dflt (Ty.nm Nm.law59_Net))).3))).1.1,(ac (live_Follower.mk w1 w2 w3 w4 w5 w6 kp) (ap (bc (live_Server.mk v1 v2 l v3) r10 (xs.getD i.toNat (dflt (Ty.nm Nm.law59_Net))).3))).1.2,(ac (live_Follower.mk w1 w2 w3 w4 w5 w6 kp) (ap (bc (live_Server.mk v1 v2 l v3) r10 (xs.getD i.toNat (dflt (Ty.nm Nm.law59_Net))).3))).1.3,(ac (live_Follower.mk w1 w2 w3 w4 w5 w6 kp) (ap (bc (live_Server.mk v1 v2 l v3) r10 (xs.getD i.toNat (dflt (Ty.nm Nm.law59_Net))).3))).1.4,(ac (live_Follower.mk w1 w2 w3 w4 w5 w6 kp) (ap (bc (live_Server.mk v1 v2 l v3) r10 (xs.getD i.toNat (dflt (Ty.nm Nm.law59_Net))).3))).1.5,(ac (live_Follower.mk w1 w2 w3 w4 w5 w6 kp) (ap (bc (live_Server.mk v1 v2 l v3) r10 (xs.getD i.toNat (dflt (Ty.nm Nm.law59_Net))).3))).1.6,(ac (live_Follower.mk w1 w2 w3 w4 w5 w6 kp) (ap (bc (live_Server.mk v1 v2 l v3) r10 (xs.getD i.toNat (dflt (Ty.nm Nm.law59_Net))).3))).1.7,r,b9 v2 (bB (xs,n,i,(bc (live_Server.mk v1 v2 l v3) r10 (xs.getD i.toNat (dflt (Ty.nm Nm.law59_Net))).3).1,(bc (live_Server.mk v1 v2 l v3) r10 (xs.getD i.toNat (dflt (Ty.nm Nm.law59_Net))).3).2,(bc (live_Server.mk v1 v2 l v3) r10 (xs.getD i.toNat (dflt (Ty.nm Nm.law59_Net))).3).4,(bc (live_Server.mk v1 v2 l v3) r10 (xs.getD i.toNat (dflt (Ty.nm Nm.law59_Net))).3).3,w1,w2,w3,w4,w5,w6,kp,r,ls,st,())),st,())∧mi (xs,n,r1,(bc (live_Server.mk v1 v2 l v3) r10 (xs.getD i.toNat (dflt (Ty.nm Nm.law59_Net))).3).1,(bc (live_Server.mk v1 v2 l v3) r10 (xs.getD i.toNat (dflt (Ty.nm Nm.law59_Net))).3).2,(bc (live_Server.mk v1 v2 l v3) r10 (xs.getD i.toNat (dflt (Ty.nm Nm.law59_Net))).3).4,(bc (live_Server.mk v1 v2 l v3) r10 (xs.getD i.toNat (dflt (Ty.nm Nm.law59_Net))).3).3,(ac (live_Follower.mk w1 w2 w3 w4 w5 w6 kp) (ap (bc (live_Server.mk v1 v2 l v3) r10 (xs.getD i.toNat (dflt (Ty.nm Nm.law59_Net))).3))).1.1,(ac (live_Follower.mk w1 w2 w3 w4 w5 w6 kp) (ap (bc (live_Server.mk v1 v2 l v3) r10 (xs.getD i.toNat (dflt (Ty.nm Nm.law59_Net))).3))).1.2,(ac (live_Follower.mk w1 w2 w3 w4 w5 w6 kp) (ap (bc (live_Server.mk v1 v2 l v3) r10 (xs.getD i.toNat (dflt (Ty.nm Nm.law59_Net))).3))).1.3,(ac (live_Follower.mk w1 w2 w3 w4 w5 w6 kp) (ap (bc (live_Server.mk v1 v2 l v3) r10 (xs.getD i.toNat (dflt (Ty.nm Nm.law59_Net))).3))).1.4,(ac (live_Follower.mk w1 w2 w3 w4 w5 w6 kp) (ap (bc (live_Server.mk v1 v2 l v3) r10 (xs.getD i.toNat (dflt (Ty.nm Nm.law59_Net))).3))).1.5,(ac (live_Follower.mk w1 w2 w3 w4 w5 w6 kp) (ap (bc (live_Server.mk v1 v2 l v3) r10 (xs.getD i.toNat (dflt (Ty.nm Nm.law59_Net))).3))).1.6,(ac (live_Follower.mk w1 w2 w3 w4 w5 w6 kp) (ap (bc (live_Server.mk v1 v2 l v3) r10 (xs.getD i.toNat (dflt (Ty.nm Nm.law59_Net))).3))).1.7,r,b9 v2 (bB (xs,n,i,(bc (live_Server.mk v1 v2 l v3) r10 (xs.getD i.toNat (dflt (Ty.nm Nm.law59_Net))).3).1,(bc (live_Server.mk v1 v2 l v3) r10 (xs.getD i.toNat (dflt (Ty.nm Nm.law59_Net))).3).2,(bc (live_Server.mk v1 v2 l v3) r10 (xs.getD i.toNat (dflt (Ty.nm Nm.law59_Net))).3).4,(bc (live_Server.mk v1 v2 l v3) r10 (xs.getD i.toNat (dflt (Ty.nm Nm.law59_Net))).3).3,w1,w2,w3,w4,w5,w6,kp,r,ls,st,())),st,())<mi (xs,n,i,v1,v2,v3,l,w1,w2,w3,w4,w5,w6,kp,r,ls,st,())))∧(r6=false→(r7=true→r3≠(0:Int)∧l.length≤(1000000:Nat)∧(r11=true→True)∧(r11=false→(st.length+r13.length) *(48:Nat)≤(70368744177664:Nat)∧((cx fun x=>none)∧Mid (kr (xs,n,i,v1,v2,v3,l,w1,w2,w3,w4,w5,w6,kp,r,ls,st++r13,())) v2 (bB (xs,n,i,v1,v2,v3,l,w1,w2,w3,w4,w5,w6,kp,r,ls,st++r13,())))∧(false=true→True)∧(false=false→kV (xs,n,r1,v1,v2,v3,l,(ac (live_Follower.mk w1 w2 w3 w4 w5 w6 kp) (ap (live_Server.mk v1 v2 l v3))).1.1,(ac (live_Follower.mk w1 w2 w3 w4 w5 w6 kp) (ap (live_Server.mk v1 v2 l v3))).1.2,(ac (live_Follower.mk w1 w2 w3 w4 w5 w6 kp) (ap (live_Server.mk v1 v2 l v3))).1.3,(ac (live_Follower.mk w1 w2 w3 w4 w5 w6 kp) (ap (live_Server.mk v1 v2 l v3))).1.4,(ac (live_Follower.mk w1 w2 w3 w4 w5 w6 kp) (ap (live_Server.mk v1 v2 l v3))).1.5,(ac (live_Follower.mk w1 w2 w3 w4 w5 w6 kp) (ap (live_Server.mk v1 v2 l v3))).1.6,(ac (live_Follower.mk w1 w2 w3 w4 w5 w6 kp) (ap (live_Server.mk v1 v2 l v3))).1.7,r,b9 v2 (bB (xs,n,i,v1,v2,v3,l,w1,w2,w3,w4,w5,w6,kp,r,ls,st++r13,())),st++r13,())∧mi (xs,n,r1,v1,v2,v3,l,(ac (live_Follower.mk w1 w2 w3 w4 w5 w6 kp) (ap (live_Server.mk v1 v2 l v3))).1.1,(ac (live_Follower.mk w1 w2 w3 w4 w5 w6 kp) (ap (live_Server.mk v1 v2 l v3))).1.2,(ac (live_Follower.mk w1 w2 w3 w4 w5 w6 kp) (ap (live_Server.mk v1 v2 l v3))).1.3,(ac (live_Follower.mk w1 w2 w3 w4 w5 w6 kp) (ap (live_Server.mk v1 v2 l v3))).1.4,(ac (live_Follower.mk w1 w2 w3 w4 w5 w6 kp) (ap (live_Server.mk v1 v2 l v3))).1.5,(ac (live_Follower.mk w1 w2 w3 w4 w5 w6 kp) (ap (live_Server.mk v1 v2 l v3))).1.6,(ac (live_Follower.mk w1 w2 w3 w4 w5 w6 kp) (ap (live_Server.mk v1 v2 l v3))).1.7,r,b9 v2 (bB (xs,n,i,v1,v2,v3,l,w1,w2,w3,w4,w5,w6,kp,r,ls,st++r13,())),st++r13,())<mi (xs,n,i,v1,v2,v3,l,w1,w2,w3,w4,w5,w6,kp,r,ls,st,()))))∧(r7=false→(r8=true→(↑st.length:Int)≠(0:Int)∧((0:Int)≤r4∧r4 <(↑st.length:Int))∧cc (live_Follower.mk w1 w2 w3 w4 w5 w6 kp)∧r9.4.length≤aI∧((cx fun x=>none)∧Mid (kr (xs,n,i,v1,v2,v3,l,(ac (live_Follower.mk w1 w2 w3 w4 w5 w6 kp) r9).1.1,(ac (live_Follower.mk w1 w2 w3 w4 w5 w6 kp) r9).1.2,(ac (live_Follower.mk w1 w2 w3 w4 w5 w6 kp) r9).1.3,(ac (live_Follower.mk w1 w2 w3 w4 w5 w6 kp) r9).1.4,(ac (live_Follower.mk w1 w2 w3 w4 w5 w6 kp) r9).1.5,(ac (live_Follower.mk w1 w2 w3 w4 w5 w6 kp) r9).1.6,(ac (live_Follower.mk w1 w2 w3 w4 w5 w6 kp) r9).1.7,r,ls,st,())) v2 (bB (xs,n,i,v1,v2,v3,l,(ac (live_Follower.mk w1 w2 w3 w4 w5 w6 kp) r9).1.1,(ac (live_Follower.mk w1 w2 w3 w4 w5 w6 kp) r9).1.2,(ac (live_Follower.mk w1 w2 w3 w4 w5 w6 kp) r9).1.3,(ac (live_Follower.mk w1 w2 w3 w4 w5 w6 kp) r9).1.4,(ac (live_Follower.mk w1 w2 w3 w4 w5 w6 kp) r9).1.5,(ac (live_Follower.mk w1 w2 w3 w4 w5 w6 kp) r9).1.6,(ac (live_Follower.mk w1 w2 w3 w4 w5 w6 kp) r9).1.7,r,ls,st,())))∧(false=true→True)∧(false=false→kV (xs,n,r1,v1,v2,v3,l,(ac (ac (live_Follower.mk w1 w2 w3 w4 w5 w6 kp) r9).1 (ap (live_Server.mk v1 v2 l v3))).1.1,(ac (ac (live_Follower.mk w1 w2 w3 w4 w5 w6 kp) r9).1 (ap (live_Server.mk v1 v2 l v3))).1.2,(ac (ac (live_Follower.mk w1 w2 w3 w4 w5 w6 kp) r9).1 (ap (live_Server.mk v1 v2 l v3))).1.3,(ac (ac (live_Follower.mk w1 w2 w3 w4 w5 w6 kp) r9).1 (ap (live_Server.mk v1 v2 l v3))).1.4,(ac (ac (live_Follower.mk w1 w2 w3 w4 w5 w6 kp) r9).1 (ap (live_Server.mk v1 v2 l v3))).1.5,(ac (ac (live_Follower.mk w1 w2 w3 w4 w5 w6 kp) r9).1 (ap (live_Server.mk v1 v2 l v3))).1.6,(ac (ac (live_Follower.mk w1 w2 w3 w4 w5 w6 kp) r9).1 (ap (live_Server.mk v1 v2 l v3))).1.7,r,b9 v2 (bB (xs,n,i,v1,v2,v3,l,(ac (live_Follower.mk w1 w2 w3 w4 w5 w6 kp) r9).1.1,(ac (live_Follower.mk w1 w2 w3 w4 w5 w6 kp) r9).1.2,(ac (live_Follower.mk w1 w2 w3 w4 w5 w6 kp) r9).1.3,(ac (live_Follower.mk w1 w2 w3 w4 w5 w6 kp) r9).1.4,(ac (live_Follower.mk w1 w2 w3 w4 w5 w6 kp) r9).1.5,(ac (live_Follower.mk w1 w2 w3 w4 w5 w6 kp) r9).1.6,(ac (live_Follower.mk w1 w2 w3 w4 w5 w6 kp) r9).1.7,r,ls,st,())),st,())∧mi (xs,n,r1,v1,v2,v3,l,(ac (ac (live_Follower.mk w1 w2 w3 w4 w5 w6 kp) r9).1 (ap (live_Server.mk v1 v2 l v3))).1.1,(ac (ac (live_Follower.mk w1 w2 w3 w4 w5 w6 kp) r9).1 (ap (live_Server.mk v1 v2 l v3))).1.2,(ac (ac (live_Follower.mk w1 w2 w3 w4 w5 w6 kp) r9).1 (ap (live_Server.mk v1 v2 l v3))).1.3,(ac (ac (live_Follower.mk w1 w2 w3 w4 w5 w6 kp) r9).1 (ap (live_Server.mk v1 v2 l v3))).1.4,(ac (ac (live_Follower.mk w1 w2 w3 w4 w5 w6 kp) r9).1 (ap (live_Server.mk v1 v2 l v3))).1.5,(ac (ac (live_Follower.mk w1 w2 w3 w4 w5 w6 kp) r9).1 (ap (live_Server.mk v1 v2 l v3))).1.6,(ac (ac (live_Follower.mk w1 w2 w3 w4 w5 w6 kp) r9).1 (ap (live_Server.mk v1 v2 l v3))).1.7,r,b9 v2 (bB (xs,n,i,v1,v2,v3,l,(ac (live_Follower.mk w1 w2 w3 w4 w5 w6 kp) r9).1.1,(ac (live_Follower.mk w1 w2 w3 w4 w5 w6 kp) r9).1.2,(ac (live_Follower.mk w1 w2 w3 w4 w5 w6 kp) r9).1.3,(ac (live_Follower.mk w1 w2 w3 w4 w5 w6 kp) r9).1.4,(ac (live_Follower.mk w1 w2 w3 w4 w5 w6 kp) r9).1.5,(ac (live_Follower.mk w1 w2 w3 w4 w5 w6 kp) r9).1.6,(ac (live_Follower.mk w1 w2 w3 w4 w5 w6 kp) r9).1.7,r,ls,st,())),st,())<mi (xs,n,i,v1,v2,v3,l,w1,w2,w3,w4,w5,w6,kp,r,ls,st,())))∧(r8=false→((cx fun x=>none)∧Mid (kr (xs,n,i,v1,v2,v3,l,w1,w2,w3,w4,w5,w6,kp,r,ls,st,())) v2 (bB (xs,n,i,v1,v2,v3,l,w1,w2,w3,w4,w5,w6,kp,r,ls,st,())))∧(false=true→True)∧(false=false→kV (xs,n,r1,v1,v2,v3,l,(ac (live_Follower.mk w1 w2 w3 w4 w5 w6 kp) (ap (live_Server.mk v1 v2 l v3))).1.1,(ac (live_Follower.mk w1 w2 w3 w4 w5 w6 kp) (ap (live_Server.mk v1 v2 l v3))).1.2,(ac (live_Follower.mk w1 w2 w3 w4 w5 w6 kp) (ap (live_Server.mk v1 v2 l v3))).1.3,(ac (live_Follower.mk w1 w2 w3 w4 w5 w6 kp) (ap (live_Server.mk v1 v2 l v3))).1.4,(ac (live_Follower.mk w1 w2 w3 w4 w5 w6 kp) (ap (live_Server.mk v1 v2 l v3))).1.5,(ac (live_Follower.mk w1 w2 w3 w4 w5 w6 kp) (ap (live_Server.mk v1 v2 l v3))).1.6,(ac (live_Follower.mk w1 w2 w3 w4 w5 w6 kp) (ap (live_Server.mk v1 v2 l v3))).1.7,r,b9 v2 (bB (xs,n,i,v1,v2,v3,l,w1,w2,w3,w4,w5,w6,kp,r,ls,st,())),st,())∧mi (xs,n,r1,v1,v2,v3,l,(ac (live_Follower.mk w1 w2 w3 w4 w5 w6 kp) (ap (live_Server.mk v1 v2 l v3))).1.1,(ac (live_Follower.mk w1 w2 w3 w4 w5 w6 kp) (ap (live_Server.mk v1 v2 l v3))).1.2,(ac (live_Follower.mk w1 w2 w3 w4 w5 w6 kp) (ap (live_Server.mk v1 v2 l v3))).1.3,(ac (live_Follower.mk w1 w2 w3 w4 w5 w6 kp) (ap (live_Server.mk v1 v2 l v3))).1.4,(ac (live_Follower.mk w1 w2 w3 w4 w5 w6 kp) (ap (live_Server.mk v1 v2 l v3))).1.5,(ac (live_Follower.mk w1 w2 w3 w4 w5 w6 kp) (ap (live_Server.mk v1 v2 l v3))).1.6,(ac (live_Follower.mk w1 w2 w3 w4 w5 w6 kp) (ap (live_Server.mk v1 v2 l v3))).1.7,r,b9 v2 (bB (xs,n,i,v1,v2,v3,l,w1,w2,w3,w4,w5,w6,kp,r,ls,st,())),st,())<mi (xs,n,i,v1,v2,v3,l,w1,w2,w3,w4,w5,w6,kp,r,ls,st,())))))))∧(decide (i<n)=false→True))∧(bif decide (i<n) then bif r12 then bif false then Sum.inl (false,()) else gl (xs,n,r1,(aZ (live_Server.mk v1 v2 l v3) (xs.getD i.toNat (dflt (Ty.nm Nm.law59_Net))).3).1,(aZ (live_Server.mk v1 v2 l v3) (xs.getD i.toNat (dflt (Ty.nm Nm.law59_Net))).3).2,(aZ (live_Server.mk v1 v2 l v3) (xs.getD i.toNat (dflt (Ty.nm Nm.law59_Net))).3).4,(aZ (live_Server.mk v1 v2 l v3) (xs.getD i.toNat (dflt (Ty.nm Nm.law59_Net))).3).3,(ac (live_Follower.mk w1 w2 w3 w4 w5 w6 kp) (ap (aZ (live_Server.mk v1 v2 l v3) (xs.getD i.toNat (dflt (Ty.nm Nm.law59_Net))).3))).1.1,(ac (live_Follower.mk w1 w2 w3 w4 w5 w6 kp) (ap (aZ (live_Server.mk v1 v2 l v3) (xs.getD i.toNat (dflt (Ty.nm Nm.law59_Net))).3))).1.2,(ac (live_Follower.mk w1 w2 w3 w4 w5 w6 kp) (ap (aZ (live_Server.mk v1 v2 l v3) (xs.getD i.toNat (dflt (Ty.nm Nm.law59_Net))).3))).1.3,(ac (live_Follower.mk w1 w2 w3 w4 w5 w6 kp) (ap (aZ (live_Server.mk v1 v2 l v3) (xs.getD i.toNat (dflt (Ty.nm Nm.law59_Net))).3))).1.4,(ac (live_Follower.mk w1 w2 w3 w4 w5 w6 kp) (ap (aZ (live_Server.mk v1 v2 l v3) (xs.getD i.toNat (dflt (Ty.nm Nm.law59_Net))).3))).1.5,(ac (live_Follower.mk w1 w2 w3 w4 w5 w6 kp) (ap (aZ (live_Server.mk v1 v2 l v3) (xs.getD i.toNat (dflt (Ty.nm Nm.law59_Net))).3))).1.6,(ac (live_Follower.mk w1 w2 w3 w4 w5 w6 kp) (ap (aZ (live_Server.mk v1 v2 l v3) (xs.getD i.toNat (dflt (Ty.nm Nm.law59_Net))).3))).1.7,r,b9 v2 (bB (xs,n,i,(aZ (live_Server.mk v1 v2 l v3) (xs.getD i.toNat (dflt (Ty.nm Nm.law59_Net))).3).1,(aZ (live_Server.mk v1 v2 l v3) (xs.getD i.toNat (dflt (Ty.nm Nm.law59_Net))).3).2,(aZ (live_Server.mk v1 v2 l v3) (xs.getD i.toNat (dflt (Ty.nm Nm.law59_Net))).3).4,(aZ (live_Server.mk v1 v2 l v3) (xs.getD i.toNat (dflt (Ty.nm Nm.law59_Net))).3).3,w1,w2,w3,w4,w5,w6,kp,r,ls,st,())),st,()) else bif r6 then bif false then Sum.inl (false,()) else gl (xs,n,r1,(bc (live_Server.mk v1 v2 l v3) r10 (xs.getD i.toNat (dflt (Ty.nm Nm.law59_Net))).3).1,(bc (live_Server.mk v1 v2 l v3) r10 (xs.getD i.toNat (dflt (Ty.nm Nm.law59_Net))).3).2,(bc (live_Server.mk v1 v2 l v3) r10 (xs.getD i.toNat (dflt (Ty.nm Nm.law59_Net))).3).4,(bc (live_Server.mk v1 v2 l v3) r10 (xs.getD i.toNat (dflt (Ty.nm Nm.law59_Net))).3).3,(ac (live_Follower.mk w1 w2 w3 w4 w5 w6 kp) (ap (bc (live_Server.mk v1 v2 l v3) r10 (xs.getD i.toNat (dflt (Ty.nm Nm.law59_Net))).3))).1.1,(ac (live_Follower.mk w1 w2 w3 w4 w5 w6 kp) (ap (bc (live_Server.mk v1 v2 l v3) r10 (xs.getD i.toNat (dflt (Ty.nm Nm.law59_Net))).3))).1.2,(ac (live_Follower.mk w1 w2 w3 w4 w5 w6 kp) (ap (bc (live_Server.mk v1 v2 l v3) r10 (xs.getD i.toNat (dflt (Ty.nm Nm.law59_Net))).3))).1.3,(ac (live_Follower.mk w1 w2 w3 w4 w5 w6 kp) (ap (bc (live_Server.mk v1 v2 l v3) r10 (xs.getD i.toNat (dflt (Ty.nm Nm.law59_Net))).3))).1.4,(ac (live_Follower.mk w1 w2 w3 w4 w5 w6 kp) (ap (bc (live_Server.mk v1 v2 l v3) r10 (xs.getD i.toNat (dflt (Ty.nm Nm.law59_Net))).3))).1.5,(ac (live_Follower.mk w1 w2 w3 w4 w5 w6 kp) (ap (bc (live_Server.mk v1 v2 l v3) r10 (xs.getD i.toNat (dflt (Ty.nm Nm.law59_Net))).3))).1.6,(ac (live_Follower.mk w1 w2 w3 w4 w5 w6 kp) (ap (bc (live_Server.mk v1 v2 l v3) r10 (xs.getD i.toNat (dflt (Ty.nm Nm.law59_Net))).3))).1.7,r,b9 v2 (bB (xs,n,i,(bc (live_Server.mk v1 v2 l v3) r10 (xs.getD i.toNat (dflt (Ty.nm Nm.law59_Net))).3).1,(bc (live_Server.mk v1 v2 l v3) r10 (xs.getD i.toNat (dflt (Ty.nm Nm.law59_Net))).3).2,(bc (live_Server.mk v1 v2 l v3) r10 (xs.getD i.toNat (dflt (Ty.nm Nm.law59_Net))).3).4,(bc (live_Server.mk v1 v2 l v3) r10 (xs.getD i.toNat (dflt (Ty.nm Nm.law59_Net))).3).3,w1,w2,w3,w4,w5,w6,kp,r,ls,st,())),st,()) else bif r7 then bif r11 then Sum.inl (false,()) else bif false then Sum.inl (false,()) else gl (xs,n,r1,v1,v2,v3,l,(ac (live_Follower.mk w1 w2 w3 w4 w5 w6 kp) (ap (live_Server.mk v1 v2 l v3))).1.1,(ac (live_Follower.mk w1 w2 w3 w4 w5 w6 kp) (ap (live_Server.mk v1 v2 l v3))).1.2,(ac (live_Follower.mk w1 w2 w3 w4 w5 w6 kp) (ap (live_Server.mk v1 v2 l v3))).1.3,(ac (live_Follower.mk w1 w2 w3 w4 w5 w6 kp) (ap (live_Server.mk v1 v2 l v3))).1.4,(ac (live_Follower.mk w1 w2 w3 w4 w5 w6 kp) (ap (live_Server.mk v1 v2 l v3))).1.5,(ac (live_Follower.mk w1 w2 w3 w4 w5 w6 kp) (ap (live_Server.mk v1 v2 l v3))).1.6,(ac (live_Follower.mk w1 w2 w3 w4 w5 w6 kp) (ap (live_Server.mk v1 v2 l v3))).1.7,r,b9 v2 (bB (xs,n,i,v1,v2,v3,l,w1,w2,w3,w4,w5,w6,kp,r,ls,st++r13,())),st++r13,()) else bif r8 then bif false then Sum.inl (false,()) else gl (xs,n,r1,v1,v2,v3,l,(ac (ac (live_Follower.mk w1 w2 w3 w4 w5 w6 kp) r9).1 (ap (live_Server.mk v1 v2 l v3))).1.1,(ac (ac (live_Follower.mk w1 w2 w3 w4 w5 w6 kp) r9).1 (ap (live_Server.mk v1 v2 l v3))).1.2,(ac (ac (live_Follower.mk w1 w2 w3 w4 w5 w6 kp) r9).1 (ap (live_Server.mk v1 v2 l v3))).1.3,(ac (ac (live_Follower.mk w1 w2 w3 w4 w5 w6 kp) r9).1 (ap (live_Server.mk v1 v2 l v3))).1.4,(ac (ac (live_Follower.mk w1 w2 w3 w4 w5 w6 kp) r9).1 (ap (live_Server.mk v1 v2 l v3))).1.5,(ac (ac (live_Follower.mk w1 w2 w3 w4 w5 w6 kp) r9).1 (ap (live_Server.mk v1 v2 l v3))).1.6,(ac (ac (live_Follower.mk w1 w2 w3 w4 w5 w6 kp) r9).1 (ap (live_Server.mk v1 v2 l v3))).1.7,r,b9 v2 (bB (xs,n,i,v1,v2,v3,l,(ac (live_Follower.mk w1 w2 w3 w4 w5 w6 kp) r9).1.1,(ac (live_Follower.mk w1 w2 w3 w4 w5 w6 kp) r9).1.2,(ac (live_Follower.mk w1 w2 w3 w4 w5 w6 kp) r9).1.3,(ac (live_Follower.mk w1 w2 w3 w4 w5 w6 kp) r9).1.4,(ac (live_Follower.mk w1 w2 w3 w4 w5 w6 kp) r9).1.5,(ac (live_Follower.mk w1 w2 w3 w4 w5 w6 kp) r9).1.6,(ac (live_Follower.mk w1 w2 w3 w4 w5 w6 kp) r9).1.7,r,ls,st,())),st,()) else bif false then Sum.inl (false,()) else gl (xs,n,r1,v1,v2,v3,l,(ac (live_Follower.mk w1 w2 w3 w4 w5 w6 kp) (ap (live_Server.mk v1 v2 l v3))).1.1,(ac (live_Follower.mk w1 w2 w3 w4 w5 w6 kp) (ap (live_Server.mk v1 v2 l v3))).1.2,(ac (live_Follower.mk w1 w2 w3 w4 w5 w6 kp) (ap (live_Server.mk v1 v2 l v3))).1.3,(ac (live_Follower.mk w1 w2 w3 w4 w5 w6 kp) (ap (live_Server.mk v1 v2 l v3))).1.4,(ac (live_Follower.mk w1 w2 w3 w4 w5 w6 kp) (ap (live_Server.mk v1 v2 l v3))).1.5,(ac (live_Follower.mk w1 w2 w3 w4 w5 w6 kp) (ap (live_Server.mk v1 v2 l v3))).1.6,(ac (live_Follower.mk w1 w2 w3 w4 w5 w6 kp) (ap (live_Server.mk v1 v2 l v3))).1.7,r,b9 v2 (bB (xs,n,i,v1,v2,v3,l,w1,w2,w3,w4,w5,w6,kp,r,ls,st,())),st,()) else Sum.inr (v1,v2,v3,l,w1,w2,w3,w4,w5,w6,kp,r,()))=gl (xs,n,i,v1,v2,v3,l,w1,w2,w3,w4,w5,w6,kp,r,ls,st,()))
 intro r1 r2 r3 r4 r5 r6 r7 r8 r9 r10 r11 r12 r13
 clear_value (hr1:r1=_) (hr2:r2=_) (hr3:r3=_) (hr4:r4=_) (hr5:r5=_) (hr6:r6=_) (hr7:r7=_) (hr8:r8=_) (hr9:r9=_) (hr10:r10=_) (hr11:r11=_) (hr12:r12=_) (hr13:r13=_)
 obtain ⟨⟨h1,h2,h3,h4,h5⟩,hN⟩:=hi
 have h1:n =(xs.length:Int):=h1
 have h2:0≤i:=h2
 have h3:i≤n:=h3
 have h4:n≤50:=h4
 have h5:nnK xs:=h5
 have hN:NetOK r (live_Server.mk v1 v2 l v3,live_Follower.mk w1 w2 w3 w4 w5 w6 kp,ls,st) i:=hN
 by_cases h:i<n
 ·have e:xs.drop i.toNat=xs.getD i.toNat (dflt (Ty.nm Nm.law59_Net))::xs.drop (i+1).toNat:=c8 h2 (by omega) _
  have hv:xs.getD i.toNat (dflt (Ty.nm Nm.law59_Net))∈xs:=eg (show i.toNat<xs.length by omega) _
  have hK:=h5 _ hv
  have e1:r1=i+1:=by rw [hr1];exact bb (by omega) (by omega)
  rw [decide_eq_true h,cond_true]
  generalize xs.getD i.toNat (dflt (Ty.nm Nm.law59_Net))=v at *
  have hl:l.length≤4000:=hN.srv.2.2
  have hst :(st.length:Int)≤i:=hN.num
  have sS:gr (live_Server.mk v1 v2 l v3):=ve hN.srv
  have hM:Mid r v2 (pJ (live_Server.mk v1 v2 l v3,live_Follower.mk w1 w2 w3 w4 w5 w6 kp,ls,st) v):=GX hN (by omega) hK.1
  have hS:=Aq hN (by omega) hK.1
  have e3:r3 =(l.length:Int)+1:=by rw [hr3];exact bb (by omega) (by omega)
  have e4:r4=v.K.tmod (st.length:Int):=by rw [hr4,show IntKind.i64.wrap v.K=v.K from bb (by omega) (by omega)]
  have e10:r10=pH v (live_Server.mk v1 v2 l v3):=by rw [hr10,show IntKind.i64.wrap v.K=v.K from bb (by omega) (by omega),hr3];rfl
  have e13:r13=[nM (live_Server.mk v1 v2 l v3) (pH v (live_Server.mk v1 v2 l v3))]:=by rw [hr13,e10];rfl
  have hr2:r2=kOf v:=hr2
  have h12:r12=true→kOf v=0∨kOf v=1:=fun a=>by
   rw [hr12,hr5,hr2] at a
   by_cases z:kOf v=0
   ·exact .inl z
   ·have z' :(kOf v==0)=false:=by simpa using z
    rw [z'] at a
    exact .inr (by simpa using a)
  have n12:r12=false→¬ kOf v=0∧¬ kOf v=1:=fun a=>by
   rw [hr12,hr5,hr2] at a
   by_cases z:kOf v=0
   ·have z' :(kOf v==0)=true:=by simpa using z
    rw [z'] at a;cases a
   ·have z' :(kOf v==0)=false:=by simpa using z
    rw [z'] at a
    exact ⟨z,by simpa using a⟩
  have h6:r6=true→kOf v=2:=fun a=>by rw [hr6,hr2] at a;simpa using a
  have n6:r6=false→¬ kOf v=2:=fun a=>by rw [hr6,hr2] at a;simpa using a
  have h7:r7=true→kOf v=3:=fun a=>by rw [hr7,hr2] at a;simpa using a
  have n7:r7=false→¬ kOf v=3:=fun a=>by rw [hr7,hr2] at a;simpa using a
  have e11:r11=false:=by
   obtain ⟨i0,i1⟩:=ri (x:=v) (s:=live_Server.mk v1 v2 l v3) hK.1 hl
   have i1:pH v (live_Server.mk v1 v2 l v3)≤(l.length:Int):=i1
   have hG:la (live_Server.mk v1 v2 l v3) r10=false:=by rw [e10];unfold la;rw [decide_eq_false (by omega),decide_eq_false (by simp;omega)];rfl
   rw [hr11];unfold eJ;rw [hG];rfl
  have hInv :∀ z:TSh,z.1=xs→z.2.1=n→z.2.2.1=r1→kr z=r→bB z=l4 (live_Server.mk v1 v2 l v3,live_Follower.mk w1 w2 w3 w4 w5 w6 kp,ls,st) v→kV z∧mi z<mi (xs,n,i,v1,v2,v3,l,w1,w2,w3,w4,w5,w6,kp,r,ls,st,()):=fun z a b c d f=>by
   refine ⟨⟨⟨by rw [a,b];exact h1,by rw [c];omega,by rw [b,c];omega,by rw [b];exact h4,by rw [a];exact h5⟩,by rw [c,d,e1,f];exact hS⟩,?_⟩
   unfold mi
   rw [b,c]
   show (n - r1).toNat <(n - i).toNat
   omega
  have hRes :∀ z:TSh,z.1=xs→z.2.2.1=r1→kr z=r→bB z=l4 (live_Server.mk v1 v2 l v3,live_Follower.mk w1 w2 w3 w4 w5 w6 kp,ls,st) v→gl z=gl (xs,n,i,v1,v2,v3,l,w1,w2,w3,w4,w5,w6,kp,r,ls,st,()):=fun z a c d f=>by
   have eN:gl (xs,n,i,v1,v2,v3,l,w1,w2,w3,w4,w5,w6,kp,r,ls,st,())=Hl r (fi (live_Server.mk v1 v2 l v3,live_Follower.mk w1 w2 w3 w4 w5 w6 kp,ls,st) (xs.drop i.toNat)):=rfl
   unfold gl at eN ⊢
   rw [a,c,d,f,eN,e,e1]
   rfl
  clear hr1 hr2 hr3 hr4 hr5 hr6 hr7 hr10 hr11 hr12 hr13
  have hns :∀ M,pJ (live_Server.mk v1 v2 l v3,live_Follower.mk w1 w2 w3 w4 w5 w6 kp,ls,st) v=M→l4 (live_Server.mk v1 v2 l v3,live_Follower.mk w1 w2 w3 w4 w5 w6 kp,ls,st) v=F9 v2 M:=fun M eM=>by unfold l4;rw [eM]
  cases b12:r12 with
  | true=>
   have eM:=Ol (live_Server.mk v1 v2 l v3,live_Follower.mk w1 w2 w3 w4 w5 w6 kp,ls,st) v (h12 b12)
   have eS:=hns _ eM
   rw [eM] at hM
   exact ⟨⟨fun _=>⟨⟨h2,by omega⟩,by decide,fun _=>⟨sS,⟨rfl,hM⟩,fun _=>trivial,fun _=>hInv _ rfl rfl rfl rfl eS.symm⟩,fun a=>(by cases a)⟩,fun _=>trivial⟩,hRes _ rfl rfl rfl eS.symm⟩
  | false=>
   obtain ⟨k0,k1⟩:=n12 b12
   cases b6:r6 with
   | true=>
    have eM:=Om (live_Server.mk v1 v2 l v3,live_Follower.mk w1 w2 w3 w4 w5 w6 kp,ls,st) v (h6 b6)
    simp only [←e10] at eM
    have eS:=hns _ eM
    rw [eM] at hM
    exact ⟨⟨fun _=>⟨⟨h2,by omega⟩,by decide,fun a=>(by cases a),fun _=>⟨fun _=>⟨by omega,sS,⟨rfl,hM⟩,fun _=>trivial,fun _=>hInv _ rfl rfl rfl rfl eS.symm⟩,fun a=>(by cases a)⟩⟩,fun _=>trivial⟩,hRes _ rfl rfl rfl eS.symm⟩
   | false=>
    cases b7:r7 with
    | true=>
     have eM:=On (live_Server.mk v1 v2 l v3,live_Follower.mk w1 w2 w3 w4 w5 w6 kp,ls,st) v (h7 b7)
     simp only [←e13] at eM
     have eS:=hns _ eM
     rw [eM] at hM
     rw [e11]
     have e13':r13.length=1:=by rw [e13];rfl
     exact ⟨⟨fun _=>⟨⟨h2,by omega⟩,by decide,fun a=>(by cases a),fun _=>⟨fun a=>(by cases a),fun _=>⟨fun _=>⟨by omega,by omega,fun _=>trivial,fun _=>⟨by rw [e13'];omega,⟨rfl,hM⟩,fun _=>trivial,fun _=>hInv _ rfl rfl rfl rfl eS.symm⟩⟩,fun a=>(by cases a)⟩⟩⟩,fun _=>trivial⟩,hRes _ rfl rfl rfl eS.symm⟩
    | false=>
     have eM:=Oo (live_Server.mk v1 v2 l v3,live_Follower.mk w1 w2 w3 w4 w5 w6 kp,ls,st) v k0 k1 (n6 b6) (n7 b7)
     have e8:decide ((st.length:Int)>0)=r8:=hr8.symm
     simp only [←e4,←hr9,e8] at eM
     cases b8:r8 with
     | true=>
      rw [b8] at eM
      simp only [if_true] at eM
      have eS:=hns _ eM
      rw [eM] at hM
      have hp :(st.length:Int)>0:=by rw [b8] at e8;exact of_decide_eq_true e8
      have t1:=Int.tmod_nonneg (st.length:Int) hK.1
      have t2:=Int.tmod_lt_of_pos v.K hp
      have hm:r9∈st:=by rw [hr9];exact eg (show r4.toNat<st.length by omega) _
      have hO:cc (live_Follower.mk w1 w2 w3 w4 w5 w6 kp):=lK hN.rules hN.logs hN.fol
      have hf:=rh hN.logs (hN.sent r9 hm)
      exact ⟨⟨fun _=>⟨⟨h2,by omega⟩,by decide,fun a=>(by cases a),fun _=>⟨fun a=>(by cases a),fun _=>⟨fun a=>(by cases a),fun _=>⟨fun _=>⟨by omega,⟨by omega,by omega⟩,hO,hf.2,⟨rfl,hM⟩,fun _=>trivial,fun _=>hInv _ rfl rfl rfl rfl eS.symm⟩,fun a=>(by cases a)⟩⟩⟩⟩,fun _=>trivial⟩,hRes _ rfl rfl rfl eS.symm⟩
     | false=>
      rw [b8] at eM
      simp only [Bool.false_eq_true,if_false] at eM
      have eS:=hns _ eM
      rw [eM] at hM
      exact ⟨⟨fun _=>⟨⟨h2,by omega⟩,by decide,fun a=>(by cases a),fun _=>⟨fun a=>(by cases a),fun _=>⟨fun a=>(by cases a),fun _=>⟨fun a=>(by cases a),fun _=>⟨⟨rfl,hM⟩,fun _=>trivial,fun _=>hInv _ rfl rfl rfl rfl eS.symm⟩⟩⟩⟩⟩,fun _=>trivial⟩,hRes _ rfl rfl rfl eS.symm⟩
 ·rw [decide_eq_false h,cond_false]
  refine ⟨⟨fun z=>(by cases z),fun _=>trivial⟩,?_⟩
  have eN:gl (xs,n,i,v1,v2,v3,l,w1,w2,w3,w4,w5,w6,kp,r,ls,st,())=Hl r (fi (live_Server.mk v1 v2 l v3,live_Follower.mk w1 w2 w3 w4 w5 w6 kp,ls,st) (xs.drop i.toNat)):=rfl
  rw [eN,co (l:=xs) (by omega)]
  rfl
noncomputable def Ee:LoopSum:=aC lpSh gl kV
noncomputable def D0:Nat:=rid (aB Tryz.f4 0)
theorem GQ:LoopOKp Tryz.prog 0 Tryz.f4.ntmps (aB Tryz.f4 0) (aC lpSh gl kV):=
 AF lpSh (find [(27,Iz)]) (aj (.consU dJ rfl (.consU cX rfl (.consU dI rfl (.consU cD rfl (.consU cE rfl (.consU iQ rfl (.consU iP rfl (.consU fe rfl (.consU fx rfl (.consU dK rfl .nil)))))))))) _) mixed (fun b hb S hS=>by cases hS) (CutsOKp.at (by kernel_rfl) (.cons (by kernel_rfl) M3 .nil)) gl kV mi (fun |⟨xs,n,i,v1,v2,v3,l,w1,w2,w3,w4,w5,w6,kp,r,ls,st,⟨⟩⟩,hi=>ML xs n i v1 v2 v3 l w1 w2 w3 w4 w5 w6 kp r ls st hi)
end Go.Proofs.YtkgplaoappjkcaaGreat
namespace Go.Proofs.YtkgplaoappjkcaaGreat
open Go Go.Mir
attribute [local irreducible] Go.Mir.DT.sat Go.Mir.evPat Go.Mir.RT.sat Go.Mir.evFn
structure EndOK (r:Rules) (s:live_Server) (f:Fol):Prop where
 ex :∃ ls st,NetOK r (s,f,ls,st) 60
abbrev qAf:Pat:=⟨Kw,Gi,7⟩
abbrev xAf:List (Lf×Pat):= [(.ret,⟨[(4,.h .bool)],[],0⟩)]
def Lb (x:Ei):live_Server:=mkS x.1 x.2.1 x.2.2.1 x.2.2.2.1
def KI (x:Ei):Fol:=mkF x.2.2.2.2.1 x.2.2.2.2.2.1 x.2.2.2.2.2.2.1 x.2.2.2.2.2.2.2.1 x.2.2.2.2.2.2.2.2.1 x.2.2.2.2.2.2.2.2.2.1 x.2.2.2.2.2.2.2.2.2.2.1
def CP (x:Ei):Prop:=EndOK x.2.2.2.2.2.2.2.2.2.2.2.1 (Lb x) (KI x)
def zN (_:Ei):Bool×Unit:=(true,())
theorem IS {t:Ty} {xs:List (Den t)} (h:wfD (.slice t) xs) :∀ x∈xs,wfD t x:=by
 obtain ⟨S,w,cs,h⟩:=h
 cases h with
 | nil=>intro x hx;cases hx
 | slice _ _ _ _ _ hr=>
  intro x hx
  obtain ⟨i,hi,rfl⟩:=List.mem_iff_getElem.1 hx
  exact ⟨_,_,_,hr i hi⟩
theorem MT {x:law59_Net} (h:wfD (.nm .law59_Net) x):0≤x.K∧x.K≤255:=by
 obtain ⟨S,w,cs,h⟩:=h
 cases h with
 | nm h=>
  have h:Rd S w (.prod (.int .u8) (.prod (.int .u8) (.prod (.nm .Event) .unit))) (x.Kind,x.K,x.Event,()) cs:=h
  cases h with
  | prod _ h2=>
   cases h2 with
   | prod h3 _=>
    cases h3 with
    | int hk=>exact ⟨hk.1,hk.2⟩
theorem y8 {r:Rules} :∀ (l:List law59_Net) (q:NS) (i:Int),NetOK r q i→0≤i→i +(l.length:Int)≤50→nnK l→NetOK r (fi q l) (i +(l.length:Int))
 | [],q,i,h,_,_,_=>by
  have:i +(([]:List law59_Net).length:Int)=i:=by simp
  rw [this];exact h
 | x::l,q,i,h,h0,hl,hk=>by
  simp only [List.length_cons] at hl
  have hs:=Aq h (by omega) (hk x List.mem_cons_self).1
  have:=y8 l _ (i+1) hs (by omega) (by omega) (fun z hz=>hk z (List.mem_cons_of_mem _ hz))
  have e:i +((x::l).length:Int)=i+1 +(l.length:Int):=by simp only [List.length_cons];omega
  rw [e];exact this
theorem GZ {r:Rules} {q:NS} {i:Int} (h:NetOK r q i) (hi:i≤50):NetOK r q 60:=
 ⟨h.rules,h.srv,h.same,h.len,h.one,by have:=h.few;omega,h.top,h.logs,h.sent,h.fol,by have:=h.num;omega⟩
theorem EL {r:Rules} (h:ax r=0):NetOK r (wz r,oI r,[[],[]],[]) 0:=by
 have hl :∀ e,lg ([[],[]]:fF) e=[]:=fun e=>by
  match e with
  | 0=>rfl
  | 1=>rfl
  | n+2=>rfl
 refine ⟨h,⟨h,rfl,Nat.zero_le _⟩,rfl,rfl,Int.le_refl 1,Int.le_refl 1,rfl,fun e=>?_,fun m hm=>(by cases hm),⟨rfl,⟨0,0,Nat.zero_lt_succ 1,rfl,Nat.zero_le _,rfl,rfl⟩,fun m hm=>(by cases hm),Nat.zero_le _,⟨0,0,Nat.zero_lt_succ 1,rfl,rfl,Nat.zero_le _⟩,Int.le_refl _⟩,Int.le_refl _⟩
 rw [hl]
 exact ⟨trivial,Nat.zero_le _⟩
noncomputable def GV:Lp:=(⟨0,al [dw,bX,bZ,i4,ei,ez,dx] Tryz.f4,(fun _=>none),(tn Tryz.f4 44),qAf,xAf⟩:Lp)
theorem MH (v1:Rules) (v2:Int) (v3:Match) (l:List Mir.Event) (w1:Match) (w2:Int) (w3:Int) (w4:Match) (w5:Int) (w6:Int) (kp:List Message) (r:Rules) (hi:CP (v1,v2,v3,l,w1,w2,w3,w4,w5,w6,kp,r,())) :(Go.Mir.partG GV (fun _=>none) (v1,v2,v3,l,w1,w2,w3,w4,w5,w6,kp,r,())∧Go.Mir.partE GV (fun _=>none) (v1,v2,v3,l,w1,w2,w3,w4,w5,w6,kp,r,())=zN (v1,v2,v3,l,w1,w2,w3,w4,w5,w6,kp,r,())):=by
 refine cast (by kernel_rfl) (?_:let r1:Bool:=eJ (live_Server.mk v1 v2 l v3) (0:Int) !=(0:Int);let r2:Fol×Int:=ac (live_Follower.mk w1 w2 w3 w4 w5 w6 kp) (Message.mk (eO (live_Server.mk v1 v2 l v3) (0:Int) v2) (eO (live_Server.mk v1 v2 l v3) (0:Int) (0:Int)) (eO (live_Server.mk v1 v2 l v3) (0:Int) (↑l.length:Int)) (dV (live_Server.mk v1 v2 l v3) (0:Int)));let r3:Bool:=r2.2 !=(0:Int);let r4:Bool:=jH r2.1 ==(0:Int);(l.length≤(1000000:Nat)∧(r1=true→True)∧(r1=false→cc (live_Follower.mk w1 w2 w3 w4 w5 w6 kp)∧(dV (live_Server.mk v1 v2 l v3) (0:Int)).length≤aI∧(r3=true→True)∧(r3=false→((r4=true→aD r2.1.4∧l.length≤(1000000:Nat)∧jW r r2.1.4 l (↑l.length:Int)∧True)∧(r4=false→True))∧(true=true→True))))∧(bif r1 then (false,()) else bif r3 then (false,()) else bif true&&true then (bif r4 then true else false,()) else bif true then (bif r4 then true else false,()) else bif r4 then dflt (Ty.bool.prod Ty.unit) else dflt (Ty.bool.prod Ty.unit))=zN (v1,v2,v3,l,w1,w2,w3,w4,w5,w6,kp,r,()))
 intro r1 r2 r3 r4
 clear_value (hr1:r1=_) (hr2:r2=_) (hr3:r3=_) (hr4:r4=_)
 obtain ⟨ls,st,hN⟩:=hi.ex
 have hN:NetOK r (live_Server.mk v1 v2 l v3,live_Follower.mk w1 w2 w3 w4 w5 w6 kp,ls,st) 60:=hN
 have hl:l.length≤4000:=hN.srv.2.2
 have hG:la (live_Server.mk v1 v2 l v3) 0=false:=by unfold la;rw [decide_eq_false (by omega),decide_eq_false (by simp)];rfl
 have e1:r1=false:=by rw [hr1];unfold eJ;rw [hG];rfl
 have e2:r2=ac (live_Follower.mk w1 w2 w3 w4 w5 w6 kp) (nM (live_Server.mk v1 v2 l v3) 0):=by rw [hr2];rfl
 have hm:nM (live_Server.mk v1 v2 l v3) 0={ Epoch:=v2,From:=0,To:=l.length,Events:=l.drop (0:Int).toNat }:=rI (s:=live_Server.mk v1 v2 l v3) (Int.le_refl _) (by omega)
 have ht:lg ls v2.toNat=l:=hN.top
 obtain ⟨a,b⟩:=so hN.logs hN.fol (rJ (s:=live_Server.mk v1 v2 l v3) (k:=0) (Int.le_refl _) (by omega) hN.one hN.len hN.top)
 obtain ⟨_,b2,b3⟩:=b (by rw [hm];exact hN.len) (by rw [hm];show _ =((lg ls v2.toNat).length:Int);rw [ht])
 obtain ⟨c1,c2⟩:=b3 (by rw [hm])
 obtain ⟨d1,d2⟩:=b2 c2
 rw [←e2] at a c1 c2 d1 d2
 rw [hm] at d1 d2
 have d1:r2.1.epoch=v2:=d1
 have d2:r2.1.known =(l.length:Int):=d2
 have e3:r3=false:=by rw [hr3,c1];rfl
 have e4:r4=true:=by rw [hr4,c2];rfl
 obtain ⟨f1,f2,f3,f4⟩:=ov hN.rules hN.logs a
 rw [d1,d2,ht] at f1
 have hO:cc (live_Follower.mk w1 w2 w3 w4 w5 w6 kp):=lK hN.rules hN.logs hN.fol
 have hE :(dV (live_Server.mk v1 v2 l v3) 0).length≤aI:=by
  unfold dV
  rw [hG]
  show (List.drop (0:Int).toNat l).length≤140737488355328
  rw [List.length_drop];omega
 refine ⟨⟨by omega,fun _=>trivial,fun _=>⟨hO,hE,fun _=>trivial,fun _=>⟨⟨fun _=>⟨f4,by omega,f1,trivial⟩,fun _=>trivial⟩,fun _=>trivial⟩⟩⟩,?_⟩
 rw [e1,e3,e4];rfl
noncomputable def D9:LoopSum:=aC GV zN CP
theorem KF:fH Tryz.prog 0 Tryz.f4.ntmps (tn Tryz.f4 44) (aC GV zN CP):=
 kx GV (fun _=>none) (aj (.consU dJ rfl (.consU cD rfl (.consU cE rfl (.consU iQ rfl (.consU fe rfl (.consU fx rfl (.consU dK rfl .nil))))))) _) mixed (fun b hb S hS=>by cases hS) (fun b hb S hS=>by cases hS) zN CP (fun |⟨v1,v2,v3,l,w1,w2,w3,w4,w5,w6,kp,r,⟨⟩⟩,hi=>MH v1 v2 v3 l w1 w2 w3 w4 w5 w6 kp r hi)
theorem wZ (r:Rules) (steps:List law59_Net) (h0:tL (mL r)) (hk:nnK steps) :(vS (al [lV,iL,wm,lS,dw,cq,dc,bX,bZ,i4,hJ,ei,ez,dx] Tryz.f4) (find [(D0,Ee)]) (find [(44,D9)]) Tryz.f4 qRN aw (r,steps,())).sat fun z_=>z_ =(D3 (r,steps,())).2:=by
 refine cast (by kernel_rfl) (?_:let r1:Bool:=(0:Int) !=(0:Int);let r2:Bool:=bif r1 then true else r1;let r3:Int:=if (50:Int) <(↑steps.length:Int) then (50:Int) else (↑steps.length:Int);let r4:List law59_Net:=List.drop (Int.toNat (0:Int)) (List.take r3.toNat steps);let r5:Int:=(↑r4.length:Int);let r6:Rules:=Rules.mk (AI r.1) r.2 r.3 r.4 r.5 r.6 r.7 r.8 r.9 r.10 r.11 r.12 r.13 (List.take (if (10:Int) <(↑r.14.length:Int) then (10:Int) else (↑r.14.length:Int)).toNat r.14);let r7:Match:=Match.mk r6 (1:Int) (0:Int) false [] ((0:Int),(0:Int),()) (Result.mk (0:Int) (0:Int) (0:Int));((!true)=true→(false,()) =(true,()))∧((!true)=false→tL r6∧tL r6∧(r2=true→(false,()) =(true,()))∧(r2=false→((0:Int)≤(0:Int)∧(0:Int)≤r3∧r3≤(↑steps.length:Int))∧((cx fun x=>none)∧(r5 =(↑r4.length:Int)∧(0:Int)≤(0:Int)∧(0:Int)≤r5∧r5≤(50:Int)∧nnK r4)∧NetOK (kr (r4,r5,(0:Int),r6,(1:Int),r7,[],r7,(0:Int),(0:Int),r7,(0:Int),(0:Int),[],r6,[[],[]],[],())) (bB (r4,r5,(0:Int),r6,(1:Int),r7,[],r7,(0:Int),(0:Int),r7,(0:Int),(0:Int),[],r6,[[],[]],[],())) (0:Int))∧(false=true→(false,()) =(true,()))∧(false=false→((cx fun x=>none)∧EndOK r6 (Lb ((fi (bB (r4,r5,(0:Int),r6,(1:Int),r7,[],r7,(0:Int),(0:Int),r7,(0:Int),(0:Int),[],r6,[[],[]],[],())) (List.drop (Int.toNat (0:Int)) r4)).1.1,(fi (bB (r4,r5,(0:Int),r6,(1:Int),r7,[],r7,(0:Int),(0:Int),r7,(0:Int),(0:Int),[],r6,[[],[]],[],())) (List.drop (Int.toNat (0:Int)) r4)).1.2,(fi (bB (r4,r5,(0:Int),r6,(1:Int),r7,[],r7,(0:Int),(0:Int),r7,(0:Int),(0:Int),[],r6,[[],[]],[],())) (List.drop (Int.toNat (0:Int)) r4)).1.4,(fi (bB (r4,r5,(0:Int),r6,(1:Int),r7,[],r7,(0:Int),(0:Int),r7,(0:Int),(0:Int),[],r6,[[],[]],[],())) (List.drop (Int.toNat (0:Int)) r4)).1.3,(fi (bB (r4,r5,(0:Int),r6,(1:Int),r7,[],r7,(0:Int),(0:Int),r7,(0:Int),(0:Int),[],r6,[[],[]],[],())) (List.drop (Int.toNat (0:Int)) r4)).2.1.1,(fi (bB (r4,r5,(0:Int),r6,(1:Int),r7,[],r7,(0:Int),(0:Int),r7,(0:Int),(0:Int),[],r6,[[],[]],[],())) (List.drop (Int.toNat (0:Int)) r4)).2.1.2,(fi (bB (r4,r5,(0:Int),r6,(1:Int),r7,[],r7,(0:Int),(0:Int),r7,(0:Int),(0:Int),[],r6,[[],[]],[],())) (List.drop (Int.toNat (0:Int)) r4)).2.1.3,(fi (bB (r4,r5,(0:Int),r6,(1:Int),r7,[],r7,(0:Int),(0:Int),r7,(0:Int),(0:Int),[],r6,[[],[]],[],())) (List.drop (Int.toNat (0:Int)) r4)).2.1.4,(fi (bB (r4,r5,(0:Int),r6,(1:Int),r7,[],r7,(0:Int),(0:Int),r7,(0:Int),(0:Int),[],r6,[[],[]],[],())) (List.drop (Int.toNat (0:Int)) r4)).2.1.5,(fi (bB (r4,r5,(0:Int),r6,(1:Int),r7,[],r7,(0:Int),(0:Int),r7,(0:Int),(0:Int),[],r6,[[],[]],[],())) (List.drop (Int.toNat (0:Int)) r4)).2.1.6,(fi (bB (r4,r5,(0:Int),r6,(1:Int),r7,[],r7,(0:Int),(0:Int),r7,(0:Int),(0:Int),[],r6,[[],[]],[],())) (List.drop (Int.toNat (0:Int)) r4)).2.1.7,r6,())) (KI ((fi (bB (r4,r5,(0:Int),r6,(1:Int),r7,[],r7,(0:Int),(0:Int),r7,(0:Int),(0:Int),[],r6,[[],[]],[],())) (List.drop (Int.toNat (0:Int)) r4)).1.1,(fi (bB (r4,r5,(0:Int),r6,(1:Int),r7,[],r7,(0:Int),(0:Int),r7,(0:Int),(0:Int),[],r6,[[],[]],[],())) (List.drop (Int.toNat (0:Int)) r4)).1.2,(fi (bB (r4,r5,(0:Int),r6,(1:Int),r7,[],r7,(0:Int),(0:Int),r7,(0:Int),(0:Int),[],r6,[[],[]],[],())) (List.drop (Int.toNat (0:Int)) r4)).1.4,(fi (bB (r4,r5,(0:Int),r6,(1:Int),r7,[],r7,(0:Int),(0:Int),r7,(0:Int),(0:Int),[],r6,[[],[]],[],())) (List.drop (Int.toNat (0:Int)) r4)).1.3,(fi (bB (r4,r5,(0:Int),r6,(1:Int),r7,[],r7,(0:Int),(0:Int),r7,(0:Int),(0:Int),[],r6,[[],[]],[],())) (List.drop (Int.toNat (0:Int)) r4)).2.1.1,(fi (bB (r4,r5,(0:Int),r6,(1:Int),r7,[],r7,(0:Int),(0:Int),r7,(0:Int),(0:Int),[],r6,[[],[]],[],())) (List.drop (Int.toNat (0:Int)) r4)).2.1.2,(fi (bB (r4,r5,(0:Int),r6,(1:Int),r7,[],r7,(0:Int),(0:Int),r7,(0:Int),(0:Int),[],r6,[[],[]],[],())) (List.drop (Int.toNat (0:Int)) r4)).2.1.3,(fi (bB (r4,r5,(0:Int),r6,(1:Int),r7,[],r7,(0:Int),(0:Int),r7,(0:Int),(0:Int),[],r6,[[],[]],[],())) (List.drop (Int.toNat (0:Int)) r4)).2.1.4,(fi (bB (r4,r5,(0:Int),r6,(1:Int),r7,[],r7,(0:Int),(0:Int),r7,(0:Int),(0:Int),[],r6,[[],[]],[],())) (List.drop (Int.toNat (0:Int)) r4)).2.1.5,(fi (bB (r4,r5,(0:Int),r6,(1:Int),r7,[],r7,(0:Int),(0:Int),r7,(0:Int),(0:Int),[],r6,[[],[]],[],())) (List.drop (Int.toNat (0:Int)) r4)).2.1.6,(fi (bB (r4,r5,(0:Int),r6,(1:Int),r7,[],r7,(0:Int),(0:Int),r7,(0:Int),(0:Int),[],r6,[[],[]],[],())) (List.drop (Int.toNat (0:Int)) r4)).2.1.7,r6,())))∧(true,()) =(true,())))))
 intro r1 r2 r3 r4 r5 r6 r7
 clear_value (hr1:r1=_) (hr2:r2=_) (hr3:r3=_) (hr4:r4=_) (hr5:r5=_) (hr6:r6=_) (hr7:r7=_)
 have h0':ax r6=0:=by rw [hr6];exact h0
 have e2:r2=false:=by rw [hr2,hr1];rfl
 have hb:0≤r3∧r3≤(steps.length:Int)∧r3≤50:=by rw [hr3];split <;> omega
 have e4:r4=steps.take r3.toNat:=by rw [hr4];rfl
 have hl5:r5≤50:=by rw [hr5,e4,List.length_take];omega
 have hnn:nnK r4:=fun z hz=>hk z (by rw [e4] at hz;exact List.mem_of_mem_take hz)
 have hS:NetOK r6 (wz r6,oI r6,[[],[]],[]) 0:=EL h0'
 have hN:NetOK r6 (fi (wz r6,oI r6,[[],[]],[]) r4) 60:=GZ (y8 r4 _ 0 hS (Int.le_refl _) (by omega) hnn) (by omega)
 refine ⟨fun h=>(by cases h),fun _=>⟨h0',h0',fun h=>(by rw [e2] at h;cases h),fun _=>⟨⟨Int.le_refl _,hb.1,hb.2.1⟩,⟨rfl,⟨hr5,Int.le_refl _,by omega,hl5,hnn⟩,?_⟩,fun h=>(by cases h),fun _=>⟨⟨rfl,⟨⟨(fi (wz r6,oI r6,[[],[]],[]) r4).2.2.1,(fi (wz r6,oI r6,[[],[]],[]) r4).2.2.2,?_⟩⟩⟩,rfl⟩⟩⟩⟩
 ·rw [hr7];exact hS
 ·rw [hr7];exact hN
theorem zn:CtrOK Tryz.prog KE 4 (af KE qRN aw D3):=by
 refine DE (C:=al [lV,iL,wm,lS,dw,cq,dc,bX,bZ,i4,hJ,ei,ez,dx] Tryz.f4) (aj (.consU rT rfl (.consU nS rfl (.consU Dy rfl (.consU rQ rfl (.consU dJ rfl (.consU cX rfl (.consU dI rfl (.consU cD rfl (.consU cE rfl (.consU iQ rfl (.consU iP rfl (.consU fe rfl (.consU fx rfl (.consU dK rfl .nil)))))))))))))) _) mixed (fn:=Tryz.f4) Tryz.func4 (by kernel_rfl) (by kernel_rfl) (by kernel_rfl) (by kernel_rfl) (by kernel_rfl) (by kernel_rfl) (Λ:=(find [(D0,Ee)])) (κ:=(find [(44,D9)])) (AllOKp.at (by kernel_rfl) (.cons (by kernel_rfl) GQ .nil)) (CutsOKp.of (by kernel_rfl) (.cons (by kernel_rfl) KF .nil)) ?_
 rintro ⟨r,steps,⟨⟩⟩ hw hn
 exact wZ r steps (hn _ List.mem_cons_self) (fun z hz=>MT (IS (bg (aX hw)) z hz))
theorem wY (r:Rules) (steps:List law59_Net) (h0:o0 (mL r)) :(vS (al [lV,iL,C9,ru,dw,cq,dc,bX,bZ,i4,hJ,ei,ez,dx] Tryz.f4) (find [(D0,Ee)]) (find [(44,D9)]) Tryz.f4 qRN aw (r,steps,())).sat fun z_=>z_ =(D2 (r,steps,())).2:=by
 refine cast (by kernel_rfl) (?_:let r1:Int:=if (50:Int) <(↑steps.length:Int) then (50:Int) else (↑steps.length:Int);let r2:Rules:=Rules.mk (AI r.1) r.2 r.3 r.4 r.5 r.6 r.7 r.8 r.9 r.10 r.11 r.12 r.13 (List.take (if (10:Int) <(↑r.14.length:Int) then (10:Int) else (↑r.14.length:Int)).toNat r.14);let r3:Int:=ax r2;let r4:Bool:=r3 !=(0:Int);let r5:Bool:=bif r4 then true else r4;((!true)=true→(false,()) =(true,()))∧((!true)=false→o0 r2∧o0 r2∧(r5=true→(r3==r3,()) =(true,()))∧(r5=false→((0:Int)≤(0:Int)∧(0:Int)≤r1∧r1≤(↑steps.length:Int))∧((cx fun x=>none)∧False)∧False)))
 intro r1 r2 r3 r4 r5
 clear_value (hr1:r1=_) (hr2:r2=_) (hr3:r3=_) (hr4:r4=_) (hr5:r5=_)
 have h0' :¬ ax r2=0:=by rw [hr2];exact h0
 have e5:r5=true:=by rw [hr5,hr4,hr3];simp [h0']
 refine ⟨fun h=>(by cases h),fun _=>⟨by rw [hr2];exact h0,by rw [hr2];exact h0,fun h=>(by simp),fun h=>(by rw [e5] at h;cases h)⟩⟩
theorem zm:CtrOK Tryz.prog KE 4 (af KE qRN aw D2):=by
 refine DE (C:=al [lV,iL,C9,ru,dw,cq,dc,bX,bZ,i4,hJ,ei,ez,dx] Tryz.f4) (aj (.consU rT rfl (.consU nS rfl (.consU Hg rfl (.consU zg rfl (.consU dJ rfl (.consU cX rfl (.consU dI rfl (.consU cD rfl (.consU cE rfl (.consU iQ rfl (.consU iP rfl (.consU fe rfl (.consU fx rfl (.consU dK rfl .nil)))))))))))))) _) mixed (fn:=Tryz.f4) Tryz.func4 (by kernel_rfl) (by kernel_rfl) (by kernel_rfl) (by kernel_rfl) (by kernel_rfl) (by kernel_rfl) (Λ:=(find [(D0,Ee)])) (κ:=(find [(44,D9)])) (AllOKp.at (by kernel_rfl) (.cons (by kernel_rfl) GQ .nil)) (CutsOKp.of (by kernel_rfl) (.cons (by kernel_rfl) KF .nil)) ?_
 rintro ⟨r,steps,⟨⟩⟩ hw hn
 exact wY r steps (hn _ List.mem_cons_self)
theorem Bw:CtrOK Tryz.prog KE 4 (af KE qRN aw Mn):=
 Mc zn zm (fun _=>rfl) (fun _=>rfl) fun x _=>by
  by_cases h:ax (mL x.1)=0
  ·exact .inl fun p hp=>by rw [List.mem_singleton.1 hp];exact h
  ·exact .inr fun p hp=>by rw [List.mem_singleton.1 hp];exact h
end Go.Proofs.YtkgplaoappjkcaaGreat
