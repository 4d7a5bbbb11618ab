/- Texts of the mirror and contracts, put together. -/
import Derived.Test.YtjcbhomccohklaaGreatDoorPC1
import Derived.LoopN
import Derived.Test.YtjcbhomccohklaaGreatDoorPC0
import Derived.Test.YtjcbhomccohklaaGreatDoorChecked
import Derived.Test.YtjcbhomccohklaaGreatDoorRows
import Derived.ProofKit
import Derived.OpenShut
namespace Go.Mir
section
open Go.RowKit
variable {P:Program}
set_option maxHeartbeats 1000000 in
mutual
theorem px {E:Env} {p:Bool} :∀ (x y v:V) (u:Value),bC p x y=some v→(p=true→aa E x u)→(p=false→aa E y u)→aa E v u
 | .any,y,v,u,h,_,_=>by simp only [bC,Option.some.injEq] at h;subst h;simp [aa]
 | .int k a,y,v,u,h,h1,h2=>by
  cases y <;> simp only [bC,reduceCtorEq,Option.some.injEq] at h
  case any=>subst h;simp [aa]
  case int k' b=>
   split at h
   case isFalse=>cases h
   rename_i e;subst e
   cases h
   cases p
   ·exact h2 rfl
   ·exact h1 rfl
 | .bool a,y,v,u,h,h1,h2=>by
  cases y <;> simp only [bC,reduceCtorEq,Option.some.injEq] at h
  case any=>subst h;simp [aa]
  all_goals (subst h;cases p <;> first|exact h1 rfl |(have:=h2 rfl;simpa [aa] using this))
 | .kb a,y,v,u,h,h1,h2=>by
  cases y <;> simp only [bC,reduceCtorEq,Option.some.injEq] at h
  case any=>subst h;simp [aa]
  case bool b=>subst h;cases p <;> first |(have:=h1 rfl;simpa [aa] using this) |(have:=h2 rfl;simpa [aa] using this)
  case kb b=>
   cases a <;> cases b <;> simp only [Option.some.injEq] at h <;> subst h <;> cases p <;> first |(have:=h1 rfl;simpa [aa] using this) |(have:=h2 rfl;simpa [aa] using this)
 | .str a,y,v,u,h,h1,h2=>by
  cases y <;> simp only [bC,reduceCtorEq,Option.some.injEq] at h
  case any=>subst h;simp [aa]
  case str b=>subst h;cases p <;> first|exact h1 rfl|exact h2 rfl
 | .nilptr,y,v,u,h,h1,h2=>by
  cases y <;> simp only [bC,reduceCtorEq,Option.some.injEq] at h
  case any=>subst h;simp [aa]
  case nilptr=>subst h;cases p <;> first|exact h1 rfl|exact h2 rfl
 | .ptr hh o,y,v,u,h,h1,h2=>by
  cases y <;> simp only [bC,reduceCtorEq,Option.some.injEq] at h
  case any=>subst h;simp [aa]
  case ptr h' o'=>
   split at h
   case isFalse=>cases h
   rename_i e;obtain ⟨rfl,rfl⟩:=e
   cases h
   cases p <;> first|exact h1 rfl|exact h2 rfl
 | .fp t xs i o,y,v,u,h,h1,h2=>by
  cases y <;> simp only [bC,reduceCtorEq,Option.some.injEq] at h
  case any=>subst h;simp [aa]
  case fp t' ys j o'=>
   split at h
   case isFalse=>cases h
   rename_i e;subst e
   split at h
   case isFalse=>cases h
   rename_i e;subst e
   cases h
   cases p <;> first|exact h1 rfl|exact h2 rfl
 | .rp hh ver i o,y,v,u,h,h1,h2=>by
  cases y <;> simp only [bC,reduceCtorEq,Option.some.injEq] at h
  case any=>subst h;simp [aa]
  case rp h' ver' j o'=>
   split at h
   case isFalse=>cases h
   rename_i e;obtain ⟨rfl,rfl,rfl⟩:=e
   cases h
   cases p <;> first|exact h1 rfl|exact h2 rfl
 | .nilsl,y,v,u,h,h1,h2=>by
  cases y <;> simp only [bC,reduceCtorEq,Option.some.injEq] at h
  case any=>subst h;simp [aa]
  case nilsl=>subst h;cases p <;> first|exact h1 rfl|exact h2 rfl
  case fsl t ys=>
   subst h
   cases p
   ·exact h2 rfl
   ·have:=h1 rfl
    simp only [aa] at this ⊢
    subst this
    exact .nil
 | .esl,y,v,u,h,h1,h2=>by
  cases y <;> simp only [bC,reduceCtorEq,Option.some.injEq] at h
  case any=>subst h;simp [aa]
  case esl=>subst h;cases p <;> first|exact h1 rfl|exact h2 rfl
 | .osl hh ver,y,v,u,h,h1,h2=>by
  cases y <;> simp only [bC,reduceCtorEq,Option.some.injEq] at h
  case any=>subst h;simp [aa]
  case osl h' ver'=>
   split at h
   case isFalse=>cases h
   rename_i e;obtain ⟨rfl,rfl⟩:=e
   cases h
   cases p <;> first|exact h1 rfl|exact h2 rfl
 | .fsl t xs,y,v,u,h,h1,h2=>by
  cases y <;> simp only [bC,reduceCtorEq,Option.some.injEq] at h
  case any=>subst h;simp [aa]
  case fsl t' ys=>
   split at h
   case isFalse=>cases h
   rename_i e;subst e
   cases h
   cases p <;> first|exact h1 rfl|exact h2 rfl
  case nilsl=>
   subst h
   cases p
   ·have:=h2 rfl
    simp only [aa] at this ⊢
    subst this
    exact .nil
   ·exact h1 rfl
 | .hint _ _,y,v,u,h,h1,h2=>by
  simp only [bC,Option.some.injEq] at h
  subst h;simp [aa]
 | .gsl hh ver e o l,y,v,u,h,h1,h2=>by
  cases y <;> simp only [bC,reduceCtorEq,Option.some.injEq] at h
  case any=>subst h;simp [aa]
  case gsl h' ver' e' o' l'=>
   split at h
   case isFalse=>cases h
   rename_i e;obtain ⟨rfl,rfl,rfl,rfl,rfl⟩:=e
   cases h
   cases p <;> first|exact h1 rfl|exact h2 rfl
 | .gp hh ver o,y,v,u,h,h1,h2=>by
  cases y <;> simp only [bC,reduceCtorEq,Option.some.injEq] at h
  case any=>subst h;simp [aa]
  case gp h' ver' o'=>
   split at h
   case isFalse=>cases h
   rename_i e;obtain ⟨rfl,rfl,rfl⟩:=e
   cases h
   cases p <;> first|exact h1 rfl|exact h2 rfl
 | .mpv hh,y,v,u,h,h1,h2=>by
  cases y <;> simp only [bC,reduceCtorEq,Option.some.injEq] at h
  case any=>subst h;simp [aa]
  case mpv h'=>
   split at h
   case isFalse=>cases h
   rename_i e;subst e
   cases h
   cases p <;> first|exact h1 rfl|exact h2 rfl
 | .av k hh,y,v,u,h,h1,h2=>by
  cases y <;> simp only [bC,reduceCtorEq,Option.some.injEq] at h
  case any=>subst h;simp [aa]
  case av k' h'=>
   split at h
   case isFalse=>cases h
   rename_i e;obtain ⟨rfl,rfl⟩:=e
   cases h
   cases p <;> first|exact h1 rfl|exact h2 rfl
 | .nilfn,y,v,u,h,h1,h2=>by
  cases y <;> simp only [bC,reduceCtorEq,Option.some.injEq] at h
  case any=>subst h;simp [aa]
  case nilfn=>subst h;cases p <;> first|exact h1 rfl|exact h2 rfl
 | .nilmap,y,v,u,h,h1,h2=>by
  cases y <;> simp only [bC,reduceCtorEq,Option.some.injEq] at h
  case any=>subst h;simp [aa]
  case nilmap=>subst h;cases p <;> first|exact h1 rfl|exact h2 rfl
 | .fn f cs,y,v,u,h,h1,h2=>by
  cases y <;> simp only [bC,reduceCtorEq,Option.some.injEq] at h
  case any=>subst h;simp [aa]
  case fn f' ds=>
   split at h
   case isFalse=>cases h
   rename_i e;subst e
   split at h
   case h_2=>cases h
   rename_i l hl
   cases h
   simp only [aa] at h1 h2 ⊢
   cases p with
   | true=>
    obtain ⟨l',e1,e2⟩:=h1 rfl
    exact ⟨l',e1,bB cs ds l l'.toList hl (fun _=>e2) (fun e=>by cases e)⟩
   | false=>
    obtain ⟨l',e1,e2⟩:=h2 rfl
    exact ⟨l',e1,bB cs ds l l'.toList hl (fun e=>by cases e) (fun _=>e2)⟩
 | .agg cs,y,v,u,h,h1,h2=>by
  cases y <;> simp only [bC,reduceCtorEq,Option.some.injEq] at h
  case any=>subst h;simp [aa]
  case agg ds=>
   split at h
   case h_2=>cases h
   rename_i l hl
   cases h
   simp only [aa] at h1 h2 ⊢
   cases p with
   | true=>
    obtain ⟨l',e1,e2⟩:=h1 rfl
    exact ⟨l',e1,bB cs ds l l'.toList hl (fun _=>e2) (fun e=>by cases e)⟩
   | false=>
    obtain ⟨l',e1,e2⟩:=h2 rfl
    exact ⟨l',e1,bB cs ds l l'.toList hl (fun e=>by cases e) (fun _=>e2)⟩
 | .tup cs,y,v,u,h,h1,h2=>by
  cases y <;> simp only [bC,reduceCtorEq,Option.some.injEq] at h
  case any=>subst h;simp [aa]
  case tup ds=>
   split at h
   case h_2=>cases h
   rename_i l hl
   cases h
   simp only [aa] at h1 h2 ⊢
   cases p with
   | true=>
    obtain ⟨l',e1,e2⟩:=h1 rfl
    exact ⟨l',e1,bB cs ds l l'.toList hl (fun _=>e2) (fun e=>by cases e)⟩
   | false=>
    obtain ⟨l',e1,e2⟩:=h2 rfl
    exact ⟨l',e1,bB cs ds l l'.toList hl (fun e=>by cases e) (fun _=>e2)⟩
theorem bB {E:Env} {p:Bool} :∀ (xs ys l:List V) (us:List Value),gg p xs ys=some l→(p=true→ab E xs us)→(p=false→ab E ys us)→ab E l us
 | [],[],l,us,h,h1,h2=>by
  simp only [gg,Option.some.injEq] at h
  subst h
  cases p
  ·exact h2 rfl
  ·exact h1 rfl
 | _::_,[],l,us,h,_,_=>by simp [gg] at h
 | [],_::_,l,us,h,_,_=>by simp [gg] at h
 | x::xs,y::ys,l,us,h,h1,h2=>by
  simp only [gg] at h
  split at h
  case h_2=>cases h
  rename_i v hv
  split at h
  case h_2=>cases h
  rename_i l' hl
  cases h
  cases us with
  | nil=>
   cases p
   ·have:=h2 rfl;simp [ab] at this
   ·have:=h1 rfl;simp [ab] at this
  | cons u us=>
   simp only [ab] at h1 h2 ⊢
   exact ⟨px x y v u hv (fun e=>(h1 e).1) (fun e=>(h2 e).1),bB xs ys l' us hl (fun e=>(h1 e).2) (fun e=>(h2 e).2)⟩
end
theorem HRel.weak {B:Base} {E:Env} (hE:HRel B E) (H':aw) (h :∀ h k',H' h=some k'→∃ k,E.H h=some k∧(k'=k∨∃ cs cs',k = .cells cs∧k' = .cells cs'∧∀ l,ab E cs l→ab E cs' l)) :
  HRel B { E with H:=H' }∧Ext E { E with H:=H' }:=by
 have X:Ext E { E with H:=H' }:=by
  refine ⟨fun _ h=>h,fun _ h=>h,fun _ _=>rfl,fun hh cs _ hx=>?_,fun hh ver rw t xs _ _ hx=>?_,fun hh ver esz cs _ _ hx=>?_,fun hh es _ hx=>?_,fun hh kk t x _ hx=>?_⟩
  case refine_5=>
   obtain ⟨k,h1,h2⟩:=h _ _ hx
   rcases h2 with h2 |⟨cs1,cs2,h2,h3,_⟩
   ·subst h2;exact ⟨⟨x,h1⟩,rfl⟩
   ·cases h3
  ·obtain ⟨k,h1,h2⟩:=h _ _ hx
   rcases h2 with h2 |⟨cs1,cs2,h2,h3,_⟩
   ·subst h2;exact ⟨⟨_,h1⟩,rfl⟩
   ·subst h2;exact ⟨⟨_,h1⟩,rfl⟩
  ·obtain ⟨k,h1,h2⟩:=h _ _ hx
   rcases h2 with h2 |⟨cs1,cs2,h2,h3,_⟩
   ·subst h2;exact ⟨rw,xs,h1,rfl,rfl,fun b c T fr _ hw=>⟨c,T,fr,hw,rfl⟩⟩
   ·cases h3
  ·obtain ⟨k,h1,h2⟩:=h _ _ hx
   rcases h2 with h2 |⟨cs1,cs2,h2,h3,_⟩
   ·subst h2;exact ⟨cs,h1,rfl,rfl,fun b c T fr _ hw=>⟨c,T,fr,hw,rfl⟩⟩
   ·cases h3
  ·obtain ⟨k,h1,h2⟩:=h _ _ hx
   rcases h2 with h2 |⟨cs1,cs2,h2,h3,_⟩
   ·subst h2;exact ⟨⟨es,h1⟩,rfl⟩
   ·cases h3
 have tk :∀ {hh k b},H' hh=some k→Tch { E with H:=H' } hh k b→∃ k0,E.H hh=some k0∧Tch E hh k0 b:=fun hx ht=>by
  obtain ⟨k0,h1,h2⟩:=h _ _ hx
  rcases h2 with h2 |⟨cs1,cs2,h2,h3,_⟩
  ·subst h2;exact ⟨_,h1,ht⟩
  ·subst h2;subst h3;exact ⟨_,h1,.inl (ht.of rfl)⟩
 refine ⟨⟨fun hh b hx=>?_,hE.stab,fun hh k b hx hb=>?_,fun h1 h2 k1 k2 b x1 x2 b1 b2=>?_,fun hh k hx=>?_,hE.keeps,fun hh k b hx hb=>?_,hE.s0,hE.sb⟩,X⟩
 ·obtain ⟨k,h1,_⟩:=h _ _ hx;exact hE.used _ _ h1
 ·obtain ⟨k,h1,h2⟩:=tk hx hb;exact hE.lt' _ _ _ h1 h2
 ·obtain ⟨_,y1,z1⟩:=tk x1 b1
  obtain ⟨_,y2,z2⟩:=tk x2 b2
  exact hE.inj' _ _ _ _ _ y1 y2 z1 z2
 ·obtain ⟨k0,h1,h2⟩:=h _ _ hx
  rcases h2 with h2 |⟨cs1,cs2,h2,h3,h4⟩
  ·subst h2;exact bX X rfl (fun _ _=>rfl) (fun _ _ _ h=>h) (hE.blk _ _ h1)
  ·subst h2;subst h3
   obtain ⟨b,c,T,fr,g1,g2,g3,g4,g5⟩:=hE.blk _ _ h1
   exact ⟨b,c,T,fr,g1,g2,g3,g4,aR X _ _ (h4 _ g5)⟩
 ·obtain ⟨k,h1,h2⟩:=tk hx hb;exact hE.own' _ _ _ h1 h2
theorem dG {α:Type} :∀ (l:List (Nat×α)) (acc:List Nat) (k:Nat),(k∈acc∨find l k≠none)→k∈jD l acc
 | [],acc,k,h=>by
  rcases h with h|h
  ·exact h
  ·simp [find] at h
 |(a,b)::l,acc,k,h=>by
  unfold jD
  cases hm:memN acc a with
  | true=>
   refine dG l acc k ?_
   rcases h with h|h
   ·exact .inl h
   ·simp only [find] at h
    cases hb:Nat.beq a k with
    | true=>obtain rfl:=Nat.eq_of_beq_eq_true hb;exact .inl (memN_iff.1 hm)
    | false=>rw [hb] at h;exact .inr h
  | false=>
   refine dG l (a::acc) k ?_
   rcases h with h|h
   ·exact .inl (List.mem_cons_of_mem _ h)
   ·simp only [find] at h
    cases hb:Nat.beq a k with
    | true=>obtain rfl:=Nat.eq_of_beq_eq_true hb;exact .inl List.mem_cons_self
    | false=>rw [hb] at h;exact .inr h
theorem pw {E:Env} {p:Bool} {x y v:V} {u:Value} (h:zI p x y=some v) (h1:p=true→aa E x u) (h2:p=false→aa E y u):aa E v u:=by
 unfold zI at h
 cases hb:rZ x||rZ y with
 | true=>rw [hb] at h;simp only [cond_true,Option.some.injEq] at h;subst h;simp [aa]
 | false=>rw [hb] at h;exact px _ _ _ _ h h1 h2
theorem kS {p:Bool} {t1 t2:List (Nat×V)} :∀ {ks:List Nat} {l:List (Nat×V)},kQ p t1 t2 ks=some l→∀ s v,find l s=some v→s∈ks∧zI p (cA t1 s) (cA t2 s)=some v
 | [],l,h,s,v,hf=>by simp only [kQ,Option.some.injEq] at h;subst h;simp [find] at hf
 | k::ks,l,h,s,v,hf=>by
  simp only [kQ] at h
  split at h
  case h_2=>cases h
  rename_i v0 hv
  split at h
  case h_2=>cases h
  rename_i l' hl
  cases h
  simp only [find] at hf
  cases hb:Nat.beq k s with
  | true=>
   obtain rfl:=Nat.eq_of_beq_eq_true hb
   rw [hb] at hf;simp only [cond_true,Option.some.injEq] at hf;subst hf
   exact ⟨List.mem_cons_self,hv⟩
  | false=>
   rw [hb] at hf
   obtain ⟨h1,h2⟩:=kS hl s v hf
   exact ⟨List.mem_cons_of_mem _ h1,h2⟩
theorem pq {p:Bool} {t1 t2:List (Nat×V)} :∀ {ks:List Nat} {l:List (Nat×V)},kQ p t1 t2 ks=some l→∀ s,find l s=none→s∉ks
 | [],l,h,s,hf=>by simp
 | k::ks,l,h,s,hf=>by
  simp only [kQ] at h
  split at h
  case h_2=>cases h
  split at h
  case h_2=>cases h
  rename_i l' hl
  cases h
  simp only [find] at hf
  cases hb:Nat.beq k s with
  | true=>rw [hb] at hf;cases hf
  | false=>
   rw [hb] at hf
   intro hm
   rcases List.mem_cons.1 hm with rfl|hm
   ·rw [Nat.beq_refl] at hb;cases hb
   ·exact pq hl s hf hm
theorem kP {p:Bool} {H H1 H2:aw} :∀ {ks:List Nat} {l:List (Nat×Blk)},mW p H H1 H2 ks=some l→
  (∀ h b,find l h=some b→∃ b1 b2,H1 h=some b1∧H2 h=some b2∧zG p b1 b2=some b)∧(∀ h,find l h=none→h∈ks→H h=none)
 | [],l,h=>by simp only [mW,Option.some.injEq] at h;subst h;exact ⟨fun h b hf=>by simp [find] at hf,fun h _ hm=>by simp at hm⟩
 | k::ks,l,h=>by
  simp only [mW] at h
  split at h
  ·rename_i b1 b2 e1 e2
   split at h
   case h_2=>cases h
   rename_i b hb
   split at h
   case h_2=>cases h
   rename_i l' hl
   cases h
   obtain ⟨g1,g2⟩:=kP hl
   refine ⟨fun h b' hf=>?_,fun h hf hm=>?_⟩
   ·simp only [find] at hf
    cases hbq:Nat.beq k h with
    | true=>
     obtain rfl:=Nat.eq_of_beq_eq_true hbq
     rw [hbq] at hf;simp only [cond_true,Option.some.injEq] at hf;subst hf
     exact ⟨b1,b2,e1,e2,hb⟩
    | false=>rw [hbq] at hf;exact g1 h b' hf
   ·simp only [find] at hf
    cases hbq:Nat.beq k h with
    | true=>rw [hbq] at hf;cases hf
    | false=>
     rw [hbq] at hf
     rcases List.mem_cons.1 hm with rfl|hm
     ·rw [Nat.beq_refl] at hbq;cases hbq
     ·exact g2 h hf hm
  ·split at h
   ·cases h
   ·rename_i hH
    obtain ⟨g1,g2⟩:=kP h
    refine ⟨g1,fun h hf hm=>?_⟩
    rcases List.mem_cons.1 hm with rfl|hm
    ·exact hH
    ·exact g2 h hf hm
theorem po {E:Env} {p:Bool} {b1 b2 b:Blk} (h:zG p b1 b2=some b) :
  (p=true→b=b1∨∃ cs cs',b1 = .cells cs∧b = .cells cs'∧∀ l,ab E cs l→ab E cs' l)∧(p=false→b=b2∨∃ cs cs',b2 = .cells cs∧b = .cells cs'∧∀ l,ab E cs l→ab E cs' l):=by
 unfold zG at h
 split at h
 ·rename_i cs ds
  split at h
  case h_2=>cases h
  rename_i l hl
  cases h
  exact ⟨fun e=> .inr ⟨cs,l,rfl,rfl,fun us hu=>bB cs ds l us hl (fun _=>hu) (fun e'=>by rw [e] at e';cases e')⟩,fun e=> .inr ⟨ds,l,rfl,rfl,fun us hu=>bB cs ds l us hl (fun e'=>by rw [e] at e';cases e') (fun _=>hu)⟩⟩
 ·split at h
  case isFalse=>cases h
  rename_i e
  subst e
  split at h
  case isFalse=>cases h
  rename_i e
  obtain ⟨rfl,rfl⟩:=e
  cases h
  exact ⟨fun e=> .inl (by subst e;rfl),fun e=> .inl (by subst e;rfl)⟩
 ·split at h
  case isFalse=>cases h
  rename_i e
  subst e
  split at h
  case isFalse=>cases h
  rename_i e
  subst e
  cases h
  exact ⟨fun e=> .inl (by subst e;rfl),fun e=> .inl (by subst e;rfl)⟩
 ·cases h
theorem SRel.weak {B:Base} {N:Nat} {T T':Nat→Option V} {H H':aw} {U U':Nat→Prop} {a:Act} {w:World} (hs:SRel B N T H U a w) (hU :∀ n,U n→U' n)
  (hH :∀ E:Env,E.H=H→∀ h k',H' h=some k'→∃ k,H h=some k∧(k'=k∨∃ cs cs',k = .cells cs∧k' = .cells cs'∧∀ l,ab E cs l→ab E cs' l))
  (hT :∀ E:Env,eJ E T a→∀ s v,T' s=some v→aa E v (a.tmps.getD s undef)):SRel B N T' H' U' a w:=by
 obtain ⟨⟨E,hE,rfl,hEH,⟨hG,hEU⟩,hET⟩,hsz,hd⟩:=hs
 obtain ⟨R,X⟩:=hE.weak H' (fun h k' hx=>by rw [hEH];exact hH E hEH h k' hx)
 exact ⟨⟨_,R,rfl,rfl,⟨B.clo _ _ hG X,fun n hn=>hU n (hEU n hn)⟩,fun s v hv=>bb X _ _ (hT E hET s v hv)⟩,hsz,hd⟩
theorem nF {B:Base} {N:Nat} {p:Bool} {st:St} {d1 d2 d:Dl} (h:zH p st d1 d2=some d) {U U':Nat→Prop} (hU :∀ n,U n→U' n) {a:Act} {w:World} :
  (p=true→SRel B N (find (d1.tm++st.tm)) (au st.H d1.hp) U a w→SRel B N (find (d.tm++st.tm)) (au st.H d.hp) U' a w)∧
  (p=false→SRel B N (find (d2.tm++st.tm)) (au st.H d2.hp) U a w→SRel B N (find (d.tm++st.tm)) (au st.H d.hp) U' a w):=by
 unfold zH at h
 split at h
 case h_2=>cases h
 rename_i tm htm
 split at h
 case h_2=>cases h
 rename_i hp hhp
 cases h
 obtain ⟨g1,g2⟩:=kP hhp
 have hTn :∀ s,find tm s=none→find d1.tm s=none∧find d2.tm s=none:=fun s hs=>by
  have hn:=pq htm s hs
  constructor
  ·cases hf:find d1.tm s with
   | none=>rfl
   | some v=>exact absurd (dG _ _ _ (.inr (by rw [hf];simp))) hn
  ·cases hf:find d2.tm s with
   | none=>rfl
   | some v=>exact absurd (dG _ _ _ (.inl (dG _ _ _ (.inr (by rw [hf];simp))))) hn
 have hHn :∀ h,find hp h=none→(find d1.hp h=none∧find d2.hp h=none)∨st.H h=none:=fun h hs=>by
  by_cases hm:h∈jD d1.hp (jD d2.hp [])
  ·exact .inr (g2 h hs hm)
  ·left
   constructor
   ·cases hf:find d1.hp h with
    | none=>rfl
    | some v=>exact absurd (dG _ _ _ (.inr (by rw [hf];simp))) hm
   ·cases hf:find d2.hp h with
    | none=>rfl
    | some v=>exact absurd (dG _ _ _ (.inl (dG _ _ _ (.inr (by rw [hf];simp))))) hm
 refine ⟨fun hp1 hs=>hs.weak hU (fun E hEH h k' hx=>?_) (fun E hE s v hv=>?_),fun hp1 hs=>hs.weak hU (fun E hEH h k' hx=>?_) (fun E hE s v hv=>?_)⟩
 ·simp only [au] at hx ⊢
  cases hf:find hp h with
  | some b=>
   rw [hf] at hx
   simp only [Option.some.injEq] at hx
   subst hx
   obtain ⟨b1,b2,e1,e2,e3⟩:=g1 h b hf
   exact ⟨b1,by simpa [au] using e1,(po (E:=E) e3).1 hp1⟩
  | none=>
   rw [hf] at hx
   rcases hHn h hf with ⟨h1,h2⟩|h1
   ·rw [h1];exact ⟨k',hx,.inl rfl⟩
   ·simp only at hx;rw [h1] at hx;cases hx
 ·rw [bR] at hv
  cases hf:find tm s with
  | some x=>
   rw [hf] at hv
   simp only [Option.some.injEq] at hv
   subst hv
   exact pw (kS htm s x hf).2 (fun _=>cw hE s) (fun e=>by rw [hp1] at e;cases e)
  | none=>
   rw [hf] at hv
   refine hE s v ?_
   rw [bR,(hTn s hf).1];exact hv
 ·simp only [au] at hx ⊢
  cases hf:find hp h with
  | some b=>
   rw [hf] at hx
   simp only [Option.some.injEq] at hx
   subst hx
   obtain ⟨b1,b2,e1,e2,e3⟩:=g1 h b hf
   exact ⟨b2,by simpa [au] using e2,(po (E:=E) e3).2 hp1⟩
  | none=>
   rw [hf] at hx
   rcases hHn h hf with ⟨h1,h2⟩|h1
   ·rw [h2];exact ⟨k',hx,.inl rfl⟩
   ·simp only at hx;rw [h1] at hx;cases hx
 ·rw [bR] at hv
  cases hf:find tm s with
  | some x=>
   rw [hf] at hv
   simp only [Option.some.injEq] at hv
   subst hv
   exact pw (kS htm s x hf).2 (fun e=>by rw [hp1] at e;cases e) (fun _=>cw hE s)
  | none=>
   rw [hf] at hv
   refine hE s v ?_
   rw [bR,(hTn s hf).2];exact hv
end
section
open Go.RowKit
variable {P:Program}
def at_ (B:Base) (N:Nat) (st:St) (d:Dl) (nx:Nat) (a:Act) (w:World):Prop:=SRel B N (find (d.tm++st.tm)) (au st.H d.hp) (fun n=>n<nx) a w
def gX (B:Base) (N:Nat) (st:St) (a:Act) (w:World):Prop:=SRel B N (find st.tm) st.H (fun n=>n<st.nx) a w
theorem at_here {B:Base} {N:Nat} {st:St} {d:Dl} {nx:Nat} {a:Act} {w:World}:at_ B N st d nx a w↔gX B N (st.app d nx) a w:=by
 unfold at_ gX St.app St.H
 rw [bT]
theorem at_pre {B:Base} {N:Nat} {st:St} {d d':Dl} {nx nx':Nat} {a:Act} {w:World}:at_ B N (st.app d nx) d' nx' a w↔at_ B N st ⟨d'.tm++d.tm,d'.hp++d.hp⟩ nx' a w:=by
 unfold at_ St.app St.H
 simp only [bT,List.append_assoc]
def fI:Lf→Exit
 | .nrm=> .normal
 | .ext id=> .exit id
 | .ret=> .ret
theorem gY {Q:Lf→Dl→Nat→Prop} {d:Dl} :∀ {t:Tr},(t.pre d).sat Q↔t.sat fun e d' nx=>Q e ⟨d'.tm++d.tm,d'.hp++d.hp⟩ nx
 | .leaf _ _ _=>Iff.rfl
 | .br b t e=>by simp only [Tr.pre,Tr.sat,gY (t:=t),gY (t:=e)]
 | .need p t=>by simp only [Tr.pre,Tr.sat,gY (t:=t)]
 | .both t u=>by simp only [Tr.pre,Tr.sat,gY (t:=t),gY (t:=u)]
 | .when b t=>by simp only [Tr.pre,Tr.sat,gY (t:=t)]
 | .done=>Iff.rfl
 | .bad=>Iff.rfl
theorem Tr.sat_mono {Q Q':Lf→Dl→Nat→Prop} (h :∀ e d nx,Q e d nx→Q' e d nx) :∀ {t:Tr},t.sat Q→t.sat Q'
 | .leaf _ _ _,hs=>h _ _ _ hs
 | .br _ _ _,hs=>⟨fun hb=>sat_mono h (hs.1 hb),fun hb=>sat_mono h (hs.2 hb)⟩
 | .need _ _,hs=>⟨hs.1,sat_mono h hs.2⟩
 | .both _ _,hs=>⟨sat_mono h hs.1,sat_mono h hs.2⟩
 | .when _ _,hs=>fun hb=>sat_mono h (hs hb)
 | .done,hs=>hs
 | .bad,hs=>hs
def C3 (Y:Dl→Nat→Prop) (Q:Lf→Dl→Nat→Prop):Lf→Dl→Nat→Prop
 | .nrm,d,nx=>Y d nx
 | e,d,nx=>Q e d nx
theorem fL {Q:Lf→Dl→Nat→Prop} {k:Dl→Nat→Tr} :∀ {t:Tr},(t.graft k).sat Q→t.sat (C3 (fun d nx=>((k d nx).pre d).sat Q) Q)
 | .leaf .nrm _ _,h=>h
 | .leaf (.ext _) _ _,h=>h
 | .leaf .ret _ _,h=>h
 | .br _ _ _,h=>⟨fun hb=>fL (h.1 hb),fun hb=>fL (h.2 hb)⟩
 | .need _ _,h=>⟨h.1,fL h.2⟩
 | .both _ _,h=>⟨fL h.1,fL h.2⟩
 | .when _ _,h=>fun hb=>fL (h hb)
 | .done,h=>h
 | .bad,h=>h
theorem KB.ite_val (b:Bool) (x y:KB) :(KB.ite b x y).val=cond b x.val y.val:=by
 cases x <;> cases y <;> cases b <;> simp [KB.ite,KB.val]
theorem KB.or_val (x y:KB) :(KB.or x y).val =(x.val||y.val):=by
 cases x <;> cases y <;> simp [KB.or,KB.val]
theorem KB.and_val (b:Bool) (x:KB) :(KB.and b x).val =(b&&x.val):=by
 cases x <;> simp [KB.and,KB.val]
theorem eb {st:St} {Q:Lf→Dl→Nat→Prop} {Y:Dl→Nat→Prop} :∀ {t:Tr},t.mrg st=some none→t.cut.sat Q→t.sat (C3 Y Q)
 | .leaf .nrm d nx,h,_=>by simp [Tr.mrg] at h
 | .leaf (.ext id) d nx,_,hs=>hs
 | .leaf .ret d nx,_,hs=>hs
 | .br b t e,h,hs=>by
  simp only [Tr.mrg] at h
  have h2:t.mrg st=some none∧e.mrg st=some none:=by
   split at h
   ·rename_i h1;exact ⟨h1,h⟩
   ·rename_i h1 _;exact ⟨h,h1⟩
   ·split at h <;> simp at h
   ·simp at h
  exact ⟨fun hb=>eb h2.1 (hs.1 hb),fun hb=>eb h2.2 (hs.2 hb)⟩
 | .need p t,h,hs=>⟨hs.1,eb (t:=t) h hs.2⟩
 | .both t u,h,hs=>by
  simp only [Tr.mrg] at h
  have h2:t.mrg st=some none∧u.mrg st=some none:=by
   split at h
   ·rename_i h1;exact ⟨h1,h⟩
   ·rename_i h1 _;exact ⟨h,h1⟩
   ·simp at h
  exact ⟨eb h2.1 hs.1,eb h2.2 hs.2⟩
 | .when b t,h,hs=>fun hb=>eb (t:=t) h (hs hb)
 | .done,_,hs=>hs
 | .bad,_,hs=>hs
theorem ei {B:Base} {N:Nat} {st:St} {Q:Lf→Dl→Nat→Prop} {Y:Act→World→Prop} :∀ {t:Tr} {d:Dl} {nx:Nat},t.mrg st=some (some (d,nx))→t.cut.sat Q→(t.isN.val=true→∀ a w,at_ B N st d nx a w→Y a w)→
  t.sat (C3 (fun d nx=>∀ a w,at_ B N st d nx a w→Y a w) Q)
 | .leaf .nrm d' nx',d,nx,h,_,hy=>by
  simp only [Tr.mrg,Option.some.injEq,Prod.mk.injEq] at h
  obtain ⟨rfl,rfl⟩:=h
  exact hy rfl
 | .leaf (.ext id) _ _,d,nx,h,_,_=>by simp [Tr.mrg] at h
 | .leaf .ret _ _,d,nx,h,_,_=>by simp [Tr.mrg] at h
 | .br b t e,d,nx,h,hs,hy=>by
  simp only [Tr.isN,KB.ite_val] at hy
  simp only [Tr.mrg] at h
  split at h
  ·rename_i h1
   refine ⟨fun hb=>eb h1 (hs.1 hb),fun hb=>ei h (hs.2 hb) (fun hn=>hy (by rw [hb];exact hn))⟩
  ·rename_i h1 _
   refine ⟨fun hb=>ei h (hs.1 hb) (fun hn=>hy (by rw [hb];exact hn)),fun hb=>eb h1 (hs.2 hb)⟩
  ·rename_i d1 n1 d2 n2 e1 e2
   split at h
   case h_2=>cases h
   rename_i dm hm
   simp only [Option.some.injEq,Prod.mk.injEq] at h
   obtain ⟨rfl,rfl⟩:=h
   refine ⟨fun hb=>ei e1 (hs.1 hb) (fun hn a w ha=>?_),fun hb=>ei e2 (hs.2 hb) (fun hn a w ha=>?_)⟩
   ·refine hy (by rw [hb];exact hn) a w ?_
    exact (nF hm (fun n h=>Nat.lt_of_lt_of_le h (Nat.le_max_left n1 n2))).1 hb ha
   ·refine hy (by rw [hb];exact hn) a w ?_
    exact (nF hm (fun n h=>Nat.lt_of_lt_of_le h (Nat.le_max_right n1 n2))).2 hb ha
  ·simp at h
 | .need p t,d,nx,h,hs,hy=>⟨hs.1,ei (t:=t) h hs.2 hy⟩
 | .both t u,d,nx,h,hs,hy=>by
  simp only [Tr.isN,KB.or_val,Bool.or_eq_true] at hy
  simp only [Tr.mrg] at h
  split at h
  ·rename_i h1
   exact ⟨eb h1 hs.1,ei h hs.2 (fun hn=>hy (.inr hn))⟩
  ·rename_i h1 _
   exact ⟨ei h hs.1 (fun hn=>hy (.inl hn)),eb h1 hs.2⟩
  ·simp at h
 | .when b t,d,nx,h,hs,hy=>fun hb=>ei (t:=t) h (hs hb) (fun hn=>hy (by simp only [Tr.isN,KB.and_val,hb,hn,Bool.and_self]))
 | .done,_,_,h,_,_=>by simp [Tr.mrg] at h
 | .bad,_,_,_,hs,_=>hs.elim
theorem pZ {Q:Lf→Dl→Nat→Prop} :∀ {t:Tr},t.clean=true→t.cut.sat Q
 | .leaf .nrm _ _,_=>trivial
 | .leaf (.ext _) _ _,h=>by simp [Tr.clean] at h
 | .leaf .ret _ _,h=>by simp [Tr.clean] at h
 | .br b t e,h=>by
  simp only [Tr.clean,Bool.and_eq_true] at h
  exact ⟨fun _=>pZ h.1,fun _=>pZ h.2⟩
 | .need _ _,h=>by simp [Tr.clean] at h
 | .both _ _,h=>by simp [Tr.clean] at h
 | .when _ _,h=>by simp [Tr.clean] at h
 | .done,h=>by simp [Tr.clean] at h
 | .bad,h=>by simp [Tr.clean] at h
theorem uB {B:Base} {N:Nat} {st:St} {t:Tr} {k:Dl→Nat→Tr} {Q:Lf→Dl→Nat→Prop} {Y:Act→World→Prop} (h :(KY st t k).sat Q)
  (hk :∀ d nx,((k d nx).pre d).sat Q→∀ a w,at_ B N st d nx a w→Y a w):t.sat (C3 (fun d nx=>∀ a w,at_ B N st d nx a w→Y a w) Q):=by
 have byGraft :(t.graft k).sat Q→t.sat (C3 (fun d nx=>∀ a w,at_ B N st d nx a w→Y a w) Q):=fun hg=>
  Tr.sat_mono (fun e d nx hq=>by
   cases e with
   | nrm=>exact hk d nx hq
   | ext id=>exact hq
   | ret=>exact hq) (fL hg)
 unfold KY at h
 cases hb:Nat.ble t.nN 1 with
 | true=>rw [hb] at h;exact byGraft h
 | false=>
  rw [hb] at h
  simp only [cond_false] at h
  split at h
  ·rename_i d nx hm
   cases hc:t.clean with
   | true=>
    rw [hc] at h
    exact ei hm (pZ hc) (fun _=>hk d nx h)
   | false=>
    rw [hc] at h
    simp only [cond_false,Tr.sat] at h
    exact ei hm h.1 (fun hn=>hk d nx (h.2 hn))
  ·exact byGraft h
theorem eM {Q:Lf→Dl→Nat→Prop} {id:Nat} :∀ {t:Tr},(t.catch id).sat Q→t.sat fun e d nx=>match e with | .ext id'=>if id'=id then Q .nrm d nx else Q (.ext id') d nx|e=>Q e d nx
 | .leaf .nrm d nx,h=>h
 | .leaf (.ext id') d nx,h=>by
  simp only [Tr.catch] at h
  simp only [Tr.sat]
  split
  ·rename_i e;rw [if_pos e] at h;exact h
  ·rename_i e;rw [if_neg e] at h;exact h
 | .leaf .ret d nx,h=>h
 | .br b t e,h=>⟨fun hb=>eM (h.1 hb),fun hb=>eM (h.2 hb)⟩
 | .need p t,h=>⟨h.1,eM h.2⟩
 | .both t u,h=>⟨eM h.1,eM h.2⟩
 | .when b t,h=>fun hb=>eM (h hb)
 | .done,h=>h
 | .bad,h=>h
def sq (P:Program) (N:Nat) (B:Base) (body:Code) (L:LoopSum):Prop:=
 ∀ (st:St) (Q:Lf→Dl→Nat→Prop) (CQ:Exit→Act→World→Prop),L.pre st→(L.T st).sat Q→(∀ e d nx a w,Q e d nx→at_ B N st d nx a w→CQ (fI e) a w)→∀ a w,gX B N st a w→(Code.loop body).wp P CQ a w
def Base.free (B:Base):Prop:=∀ E,B.G E
def LoopOK (P:Program) (N:Nat) (body:Code) (L:LoopSum):Prop:=∀ (B:Base),B.free→sq P N B body L
theorem LoopOK.at_free {N:Nat} {B:Base} {body:Code} {L:LoopSum} (h:LoopOK P N body L) (hB:B.free):sq P N B body L:=h B hB
theorem jV {B:Base} {N:Nat} {st:St} {a:Act} {w:World} (h:gX B N st a w):at_ B N st ⟨[],[]⟩ st.nx a w:=h
theorem lu {B:Base} {N:Nat} {b:Code} {f:St→Tr}
  (hb :∀ (st:St) (Q:Lf→Dl→Nat→Prop) (CQ:Exit→Act→World→Prop),(f st).sat Q→(∀ e d nx a w,Q e d nx→at_ B N st d nx a w→CQ (fI e) a w)→∀ a w,gX B N st a w→b.wp P CQ a w) :
  ∀ (n:Nat) (st:St) (Q:Lf→Dl→Nat→Prop) (CQ:Exit→Act→World→Prop),(uX f n st).sat Q→(∀ e d nx a w,Q e d nx→at_ B N st d nx a w→CQ (fI e) a w)→∀ a w,gX B N st a w→Code.rounds P b CQ n a w
 | 0,_,_,_,h,_,_,_,_=>h.elim
 | n+1,st,Q,CQ,h,hQ,a,w,hs=>by
  unfold uX at h
  have h2:=uB (B:=B) (N:=N) (Y:=fun a w=>Code.rounds P b CQ n a w) h (fun d nx hk a w ha=>by
   rw [gY] at hk
   exact lu hb n (st.app d nx) _ CQ hk (fun e d' nx' a w hq hat=>hQ e _ _ a w hq (at_pre.1 hat)) a w (at_here.1 ha))
  rw [rounds_succ]
  refine hb st _ _ h2 (fun e d nx a w hq hat=>?_) a w hs
  cases e with
  | nrm=>exact hq a w hat
  | ext id=>exact hQ (.ext id) d nx a w hq hat
  | ret=>exact hQ .ret d nx a w hq hat
theorem cy {C:Cfg} (hC:CfgOK P C) (hP:P.follows .mixedOrders=true) {Λ:Nat→Option LoopSum} {B:Base} :∀ (c:Code),(∀ b∈aU Λ c,∀ L,Λ (rid b)=some L→sq P C.N B b L)→
  ∀ (st:St) (Q:Lf→Dl→Nat→Prop) (CQ:Exit→Act→World→Prop),(bM C Λ c st).sat Q→(∀ e d nx a w,Q e d nx→at_ B C.N st d nx a w→CQ (fI e) a w)→∀ a w,gX B C.N st a w→c.wp P CQ a w
 | .skip,_,st,Q,CQ,h,hQ,a,w,hs=>wp_skip (hQ .nrm _ _ a w h (jV hs))
 | .ret,_,st,Q,CQ,h,hQ,a,w,hs=>wp_ret (hQ .ret _ _ a w h (jV hs))
 | .exit id,_,st,Q,CQ,h,hQ,a,w,hs=>wp_exit (hQ (.ext id) _ _ a w h (jV hs))
 | .region id ops dr,_,st,Q,CQ,h,hQ,a,w,hs=>by
  simp only [bM] at h
  obtain ⟨df,rf,hrun,hc,hq⟩:=kY _ _ _ _ h
  have hfin :∀ a w,SRel B C.N (find (df.tm++st.tm)) (au st.H df.hp) (fun n=>n<st.nx+ops.toList.length*C.K) a w→CQ .normal a w:=fun a w h'=>hQ .nrm _ _ a w hq h'
  cases dr with
  | false=>
   refine wp_region_list ?_
   have:=Aj hC ops.toList 0 _ _ _ _ hrun (Q:=CQ) (B:=B) (fun a w h'=>hfin a w (by simpa using h')) a w (by simpa [gX,pc] using hs)
   simpa using this
  | true=>
   rcases hc with hc|hc
   ·cases hc
   ·have:=sH hC hP hrun hc.1 hc.2 hfin hs id
    simpa using this
 | .seq x y,hL,st,Q,CQ,h,hQ,a,w,hs=>by
  simp only [bM] at h
  have hx:=cy hC hP (Λ:=Λ) (B:=B) x (fun b hb=>hL b (by simp [aU,hb]))
  have hy:=cy hC hP (Λ:=Λ) (B:=B) y (fun b hb=>hL b (by simp [aU,hb]))
  have h2:=uB (B:=B) (N:=C.N) (Y:=fun a w=>y.wp P CQ a w) h (fun d nx hk a w ha=>by
   rw [gY] at hk
   exact hy (st.app d nx) _ CQ hk (fun e d' nx' a w hq hat=>hQ e _ _ a w hq (at_pre.1 hat)) a w (at_here.1 ha))
  refine wp_seq (hx st _ _ h2 (fun e d nx a w hq hat=>?_) a w hs)
  cases e with
  | nrm=>exact hq a w hat
  | ext id=>exact hQ (.ext id) d nx a w hq hat
  | ret=>exact hQ .ret d nx a w hq hat
 | .cond c x y,hL,st,Q,CQ,h,hQ,a,w,hs=>by
  simp only [bM] at h
  have hx:=cy hC hP (Λ:=Λ) (B:=B) x (fun b hb=>hL b (by simp [aU,hb]))
  have hy:=cy hC hP (Λ:=Λ) (B:=B) y (fun b hb=>hL b (by simp [aU,hb]))
  have hv :∃ E:Env,eJ E (find st.tm) a:=by
   obtain ⟨⟨E,_,_,_,_,hT⟩,_⟩:=hs
   exact ⟨E,hT⟩
  obtain ⟨E,hT⟩:=hv
  have hc:=oy hT c
  split at h
  ·rename_i e;rw [e] at hc;simp only [aa] at hc
   exact wp_cond_true hc (hx st Q CQ h hQ a w hs)
  ·rename_i e;rw [e] at hc;simp only [aa] at hc
   exact wp_cond_false hc (hy st Q CQ h hQ a w hs)
  ·rename_i b e;rw [e] at hc;simp only [aa] at hc
   cases b with
   | true=>exact wp_cond_true hc (hx st Q CQ h hQ a w hs)
   | false=>exact wp_cond_false hc (hy st Q CQ h hQ a w hs)
  ·rename_i q e;rw [e] at hc;simp only [aa] at hc
   obtain ⟨b,hc,hq⟩:=hc
   exact wp_cond_split hc (fun hb=>hx st Q CQ (h.1 (hq hb)) hQ a w hs) (fun _=>hy st Q CQ h.2 hQ a w hs)
  ·rename_i q e;rw [e] at hc;simp only [aa] at hc
   obtain ⟨b,hc,hq⟩:=hc
   exact wp_cond_split hc (fun _=>hx st Q CQ h.2 hQ a w hs) (fun hb=>hy st Q CQ (h.1 (hq hb)) hQ a w hs)
  ·exact h.elim
 | .block id b,hL,st,Q,CQ,h,hQ,a,w,hs=>by
  simp only [bM] at h
  refine wp_block (cy hC hP b (fun b' hb=>hL b' (by simpa [aU] using hb)) st _ _ (eM h) (fun e d nx a w hq hat=>?_) a w hs)
  cases e with
  | nrm=>exact hQ .nrm d nx a w hq hat
  | ret=>exact hQ .ret d nx a w hq hat
  | ext id'=>
   simp only [fI,Exit.inBlock]
   simp only at hq
   split
   ·rename_i e;rw [if_pos e] at hq;exact hQ .nrm d nx a w hq hat
   ·rename_i e;rw [if_neg e] at hq;exact hQ (.ext id') d nx a w hq hat
 | .loop b,hL,st,Q,CQ,h,hQ,a,w,hs=>by
  simp only [bM] at h
  split at h
  ·rename_i L hl
   exact hL b (by simp [aU]) L hl st Q CQ h.1 h.2 hQ a w hs
  ·rename_i hl
   have hb:=cy hC hP (Λ:=Λ) (B:=B) b (fun b' hb'=>hL b' (by simp [aU,hl,hb']))
   exact wp_loop_rounds jv (lu hb jv st Q CQ h hQ a w hs)
 | .rangeFunc _ _ _ _,_,_,_,_,h,_,_,_,_=>h.elim
 | .scope _,_,_,_,_,h,_,_,_,_=>h.elim
 | .label _,_,_,_,_,h,_,_,_,_=>h.elim
 | .goto _,_,_,_,_,h,_,_,_,_=>h.elim
 | .refuse _,_,_,_,_,h,_,_,_,_=>h.elim
theorem bN {C:Cfg} (hC:CfgOK P C) (hP:P.follows .mixedOrders=true) {Λ:Nat→Option LoopSum} {B:Base} :∀ (c:Code),(∀ b∈aU Λ c,∀ L,Λ (rid b)=some L→sq P C.N B b L)→
  ∀ (st:St) (Q:Lf→Dl→Nat→Prop) (CQ:Exit→Act→World→Prop),(bs C Λ c st).sat Q→(∀ e d nx a w,Q e d nx→at_ B C.N st d nx a w→CQ (fI e) a w)→∀ a w,gX B C.N st a w→c.wp P CQ a w
 | .skip,_,st,Q,CQ,h,hQ,a,w,hs=>wp_skip (hQ .nrm _ _ a w h (jV hs))
 | .ret,_,st,Q,CQ,h,hQ,a,w,hs=>wp_ret (hQ .ret _ _ a w h (jV hs))
 | .exit id,_,st,Q,CQ,h,hQ,a,w,hs=>wp_exit (hQ (.ext id) _ _ a w h (jV hs))
 | .region id ops dr,_,st,Q,CQ,h,hQ,a,w,hs=>by
  simp only [bs] at h
  obtain ⟨df,rf,hrun,hc,hq⟩:=kY _ _ _ _ h
  have hfin :∀ a w,SRel B C.N (find (df.tm++st.tm)) (au st.H df.hp) (fun n=>n<st.nx+ops.toList.length*C.K) a w→CQ .normal a w:=fun a w h'=>hQ .nrm _ _ a w hq h'
  cases dr with
  | false=>
   refine wp_region_list ?_
   have:=Aj hC ops.toList 0 _ _ _ _ hrun (Q:=CQ) (B:=B) (fun a w h'=>hfin a w (by simpa using h')) a w (by simpa [gX,pc] using hs)
   simpa using this
  | true=>
   rcases hc with hc|hc
   ·cases hc
   ·have:=sH hC hP hrun hc.1 hc.2 hfin hs id
    simpa using this
 | .seq x y,hL,st,Q,CQ,h,hQ,a,w,hs=>by
  simp only [bs] at h
  have hx:=bN hC hP (Λ:=Λ) (B:=B) x (fun b hb=>hL b (by simp [aU,hb]))
  have hy:=bN hC hP (Λ:=Λ) (B:=B) y (fun b hb=>hL b (by simp [aU,hb]))
  have h2:=uB (B:=B) (N:=C.N) (Y:=fun a w=>y.wp P CQ a w) h (fun d nx hk a w ha=>by
   rw [gY] at hk
   exact hy (st.app d nx) _ CQ hk (fun e d' nx' a w hq hat=>hQ e _ _ a w hq (at_pre.1 hat)) a w (at_here.1 ha))
  refine wp_seq (hx st _ _ h2 (fun e d nx a w hq hat=>?_) a w hs)
  cases e with
  | nrm=>exact hq a w hat
  | ext id=>exact hQ (.ext id) d nx a w hq hat
  | ret=>exact hQ .ret d nx a w hq hat
 | .cond c x y,hL,st,Q,CQ,h,hQ,a,w,hs=>by
  simp only [bs] at h
  have hx:=bN hC hP (Λ:=Λ) (B:=B) x (fun b hb=>hL b (by simp [aU,hb]))
  have hy:=bN hC hP (Λ:=Λ) (B:=B) y (fun b hb=>hL b (by simp [aU,hb]))
  have hv :∃ E:Env,eJ E (find st.tm) a:=by
   obtain ⟨⟨E,_,_,_,_,hT⟩,_⟩:=hs
   exact ⟨E,hT⟩
  obtain ⟨E,hT⟩:=hv
  have hc:=oy hT c
  split at h
  ·rename_i e;rw [e] at hc;simp only [aa] at hc
   exact wp_cond_true hc (hx st Q CQ h hQ a w hs)
  ·rename_i e;rw [e] at hc;simp only [aa] at hc
   exact wp_cond_false hc (hy st Q CQ h hQ a w hs)
  ·rename_i b e;rw [e] at hc;simp only [aa] at hc
   exact wp_cond_split hc (fun hb=>hx st Q CQ (h.1 hb) hQ a w hs) (fun hb=>hy st Q CQ (h.2 hb) hQ a w hs)
  ·rename_i q e;rw [e] at hc;simp only [aa] at hc
   obtain ⟨b,hc,hq⟩:=hc
   exact wp_cond_split hc (fun hb=>hx st Q CQ (h.1 (hq hb)) hQ a w hs) (fun _=>hy st Q CQ h.2 hQ a w hs)
  ·rename_i q e;rw [e] at hc;simp only [aa] at hc
   obtain ⟨b,hc,hq⟩:=hc
   exact wp_cond_split hc (fun _=>hx st Q CQ h.2 hQ a w hs) (fun hb=>hy st Q CQ (h.1 (hq hb)) hQ a w hs)
  ·exact h.elim
 | .block id b,hL,st,Q,CQ,h,hQ,a,w,hs=>by
  simp only [bs] at h
  refine wp_block (bN hC hP b (fun b' hb=>hL b' (by simpa [aU] using hb)) st _ _ (eM h) (fun e d nx a w hq hat=>?_) a w hs)
  cases e with
  | nrm=>exact hQ .nrm d nx a w hq hat
  | ret=>exact hQ .ret d nx a w hq hat
  | ext id'=>
   simp only [fI,Exit.inBlock]
   simp only at hq
   split
   ·rename_i e;rw [if_pos e] at hq;exact hQ .nrm d nx a w hq hat
   ·rename_i e;rw [if_neg e] at hq;exact hQ (.ext id') d nx a w hq hat
 | .loop b,hL,st,Q,CQ,h,hQ,a,w,hs=>by
  simp only [bs] at h
  split at h
  ·rename_i L hl
   exact hL b (by simp [aU]) L hl st Q CQ h.1 h.2 hQ a w hs
  ·rename_i hl
   have hb:=cy hC hP (Λ:=Λ) (B:=B) b (fun b' hb'=>hL b' (by simp [aU,hl,hb']))
   exact wp_loop_rounds jv (lu hb jv st Q CQ h hQ a w hs)
 | .rangeFunc _ _ _ _,_,_,_,_,h,_,_,_,_=>h.elim
 | .scope _,_,_,_,_,h,_,_,_,_=>h.elim
 | .label _,_,_,_,_,h,_,_,_,_=>h.elim
 | .goto _,_,_,_,_,h,_,_,_,_=>h.elim
 | .refuse _,_,_,_,_,h,_,_,_,_=>h.elim
end
section
open Go.RowKit
variable {P:Program}
structure RowD where
 t:Ty
 xs:List (Den t)
inductive RT where
 | ret (v:V) (rows:List RowD)
 | br (b:Bool) (t e:RT)
 | need (p:Prop) (t:RT)
 | both (t u:RT)
 | when (b:Bool) (t:RT)
 | done
 | bad
def RT.sat (Q:V→List RowD→Prop):RT→Prop
 | .ret v rows=>Q v rows
 | .br b t e=>(b=true→t.sat Q)∧(b=false→e.sat Q)
 | .need p t=>p∧t.sat Q
 | .both t u=>t.sat Q∧u.sat Q
 | .when b t=>b=true→t.sat Q
 | .done=>True
 | .bad=>False
mutual
def gj (H:aw):V→List (Nat×RowD)→Option (V×List (Nat×RowD))
 | .osl h ver,acc=>match H h with
  | some (.row ver' rw t xs)=>if ver=ver' then (bif rw then (bif memN (acc.map (·.1)) h then none else some (.osl acc.length acc.length,acc++[(h,⟨t,xs⟩)])) else some (.fsl t xs,acc)) else none
  | _=>none
 | .agg cs,acc=>match vY H cs acc with|some (l,acc')=>some (.agg l,acc')|none=>none
 | .tup cs,acc=>match vY H cs acc with|some (l,acc')=>some (.tup l,acc')|none=>none
 | .ptr _ _,_ | .rp _ _ _ _,_ | .fp _ _ _ _,_ | .fn _ _,_ | .hint _ _,_ | .gsl _ _ _ _ _,_ | .gp _ _ _,_ | .mpv _,_ | .av _ _,_=>none
 | v,acc=>some (v,acc)
def vY (H:aw):List V→List (Nat×RowD)→Option (List V×List (Nat×RowD))
 | [],acc=>some ([],acc)
 | v::vs,acc=>match gj H v acc with
  | some (v',acc')=>match vY H vs acc' with
   | some (l,acc'')=>some (v'::l,acc'')
   | none=>none
  | none=>none
end
def Ah (tb:Tbl) (tm:List (Nat×V)) (H:aw):ResultVar→Option V
 | .tmp t=>some (cA tm t)
 | .cell a t=>match tb t with
  | some td=>match lT td H (cA tm a) with
   | .val _ v _=>some v
   | _=>none
  | none=>none
def oB (tb:Tbl) (tm:List (Nat×V)) (H:aw):List ResultVar→Option (List V)
 | []=>some []
 | r::rs=>match Ah tb tm H r with
  | some v=>match oB tb tm H rs with
   | some l=>some (v::l)
   | none=>none
  | none=>none
def pJ (tb:Tbl) (tm:List (Nat×V)) (H:aw) (rs:List ResultVar):Option V:=
 match oB tb tm H rs with
 | some [v]=>some v
 | some l=>some (.tup l)
 | none=>none
def ya:Nat→Ty→List (Option Ty)
 | 0,_=> []
 | f+1,.prod a b=>ya f a++ya f b
 | f+1,.nm n=>ya f n.flds
 | _+1,.slice t=> [some t]
 | _+1,.unit=> []
 | _+1,_=> [none]
def qB:List (Option Ty)→List V→Nat→List V×List (Nat×Blk)
 | o::ts,v::vs,n=>match o,v with
  | some t,.nilsl=>(.osl n n ::(qB ts vs (n+1)).1,(qB ts vs (n+1)).2++[(n,.row n true t [])])
  | _,v=>(v ::(qB ts vs n).1,(qB ts vs n).2)
 | _,vs,_=>(vs,[])
def Jt (o:Option Ty) (v:V) (n:Nat):V×List (Nat×Blk):=match o with
 | some ty=>match v with
  | .agg cs=>(.agg (qB (ya dx ty) cs n).1,(qB (ya dx ty) cs n).2)
  | .nilsl=>match ty with
   | .slice t=>(.osl n n,[(n,.row n true t [])])
   | _=>(.nilsl,[])
  | v=>(v,[])
 | none=>(v,[])
def R9 (tb:Tbl) (t:TypeId):Option Ty:=match tb t with
 | some td=>td.ty
 | none=>none
def vA (tb:Tbl):List TypeId→List V→Nat→List V×List (Nat×Blk)
 | t::ts,v::vs,n=>let r:=Jt (R9 tb t) v n;let q:=vA tb ts vs (n+r.2.length);(r.1::q.1,q.2++r.2)
 | _,vs,_=>(vs,[])
def zF (tb:Tbl) (ts:List TypeId) (v:V) (n:Nat):V×List (Nat×Blk):=match ts with
 | [t]=>Jt (R9 tb t) v n
 | ts=>match v with
  | .tup vs=>(.tup (vA tb ts vs n).1,(vA tb ts vs n).2)
  | v=>(v,[])
def vL (tb:Tbl) (rs:List ResultVar) (ts:List TypeId) (st:St):Tr→RT
 | .leaf (.ext _) _ _=> .bad
 | .leaf _ d nx=>match pJ tb (d.tm++st.tm) (au st.H d.hp) rs with
  | some v=>match gj (au (au st.H d.hp) (zF tb ts v nx).2) (zF tb ts v nx).1 [] with
   | some (v',acc)=> .ret v' (acc.map (·.2))
   | none=> .bad
  | none=> .bad
 | .br b t e=> .br b (vL tb rs ts st t) (vL tb rs ts st e)
 | .need p t=> .need p (vL tb rs ts st t)
 | .both t u=> .both (vL tb rs ts st t) (vL tb rs ts st u)
 | .when b t=> .when b (vL tb rs ts st t)
 | .done=> .done
 | .bad=> .bad
def cj {α:Type}:Nat→List α→List (Nat×α)
 | _,[]=> []
 | n,x::xs=>(n,x)::cj (n+1) xs
def lj (args:List V):St:=⟨cj 0 args,[],fun _=>none,0⟩
def evFn (C:Cfg) (Λ:Nat→Option LoopSum) (fn:Func) (args:List V):RT:=
 match fn.body with
 | some c=>vL C.tb fn.results.toList fn.resultTypes.toList (lj args) (bs C Λ c (lj args))
 | none=> .bad
def dy :(ps:Ty)→Den ps→List V
 | .prod a b,x=>bD a x.1::dy b x.2
 | _,_=> []
def cK (H:aw) :(ps:Ty)→List V→Option (Den ps)
 | .prod a b,v::vs=>bif fB a==dF v then (match cellsOf v with
  | some cs=>match pE H a cs with
   | some x=>match cK H b vs with
    | some y=>some (x,y)
    | none=>none
   | none=>none
  | none=>none) else none
 | .unit,[]=>some ()
 | _,_=>none
structure PRes where
 needs:List Prop
 v:V
 rows:List RowD
mutual
def V.noF:V→Bool
 | .fsl _ _ | .fp _ _ _ _=>false
 | .fn _ cs=>zN cs
 | .agg cs=>zN cs
 | .tup cs=>zN cs
 | _=>true
def zN:List V→Bool
 | []=>true
 | v::vs=>v.noF&&zN vs
end
mutual
def V.shift (m:Nat):V→V
 | .osl h ver=> .osl (m+h) (m+ver)
 | .agg cs=> .agg (jG m cs)
 | .tup cs=> .tup (jG m cs)
 | v=>v
def jG (m:Nat):List V→List V
 | []=> []
 | v::vs=>v.shift m::jG m vs
end
def iV (m:Nat):Nat→List RowD→List (Nat×Blk)
 | _,[]=> []
 | i,r::rs=>(m+i,.row (m+i) true r.t r.xs)::iV m (i+1) rs
def PRes.flat (r:PRes):Bool:=r.v.noF&&r.rows.all fun q=>q.t.flatB
def aK (K:Nat) (ps:Ty) (spec:Den ps→PRes):Ctr:=fun args H m=>
 let L:=hss args
 match cK (roL H L) ps args with
 | some x=>
  let r:=spec x
  bif Nat.ble r.rows.length K then
   some (r.needs,r.v.shift m,iV m 0 r.rows ++(bif r.flat then [] else eC H L))
  else none
 | none=>none
end
section
open Go.RowKit
variable {P:Program}
def wfD (t:Ty) (x:Den t):Prop:=∃ (S:Nat→Prop) (w:World) (cs:List Value),Rd S w t x cs
theorem iK {B:Base} {E:Env} (hE:HRel B E) {Ec:Env} (hS:Ec.S=E.S) (hw:Ec.w=E.w) :∀ {ps:Ty} {args:List V} {av:List Value} {x:Den ps},ab E args av→cK E.H ps args=some x→ab Ec (dy ps x) av∧∃ cs,Rd E.S E.w ps x cs
 | .unit,[],av,x,hv,_=>by
  cases av with
  | nil=>exact ⟨trivial,[],.unit⟩
  | cons=>simp [ab] at hv
 | .prod a b,v::vs,av,x,hv,h=>by
  simp only [cK] at h
  cases hg:fB a==dF v with
  | false=>rw [hg] at h;cases h
  | true=>
   rw [hg] at h
   simp only [cond_true] at h
   split at h
   case h_2=>cases h
   rename_i cs hcs
   split at h
   case h_2=>cases h
   rename_i x1 hx1
   split at h
   case h_2=>cases h
   rename_i y1 hy1
   cases h
   cases av with
   | nil=>simp [ab] at hv
   | cons u us=>
    simp only [ab] at hv
    obtain ⟨ih,cs2,hrd2⟩:=iK hE hS hw hv.2 hy1
    have hrd:=bI hE hx1 (bp hv.1 hcs)
    have hrdc:Rd Ec.S Ec.w a x1 u.cells.toList:=by rw [hS,hw];exact hrd
    refine ⟨?_,?_⟩
    ·simp only [dy,ab]
     refine ⟨?_,ih⟩
     simp only [beq_iff_eq] at hg
     have one:fB a=false→u.cells.toList=[u]:=fun e=>by
      rw [e] at hg
      have h1:u.oneCell'=true:=by
       cases v <;> simp only [dF,Bool.false_eq_true] at hg <;> simp only [cellsOf,reduceCtorEq] at hcs <;> exact fh rfl hv.1
      rw [nf h1]
     have agg:fB a=true→∃ l,u = .agg l:=fun e=>by
      rw [e] at hg
      cases v <;> simp only [dF,Bool.true_eq_false] at hg
      have:=hv.1
      simp only [aa] at this
      obtain ⟨l,hl,_⟩:=this
      exact ⟨l,hl⟩
     cases a with
     | int k=>rw [one rfl] at hrdc;cases hrdc with|int hk=>simp only [bD];exact fU hk
     | bool=>rw [one rfl] at hrdc;cases hrdc with|bool=>simp only [bD,aa]
     | str=>rw [one rfl] at hrdc;cases hrdc with|str hk=>simp only [bD];exact HN hk
     | slice t=>rw [one rfl] at hrdc;simp only [bD,aa];exact hrdc
     | unit=>
      obtain ⟨l,rfl⟩:=agg rfl
      simp only [bD,aa]
      refine ⟨l,rfl,?_⟩
      have h0:l.toList=[]:=List.eq_nil_of_length_eq_zero hrdc.len
      rw [h0];simp [ab]
     | prod c d=>
      obtain ⟨l,rfl⟩:=agg rfl
      simp only [bD,aa]
      exact ⟨l,rfl,hrdc.flat dx⟩
     | nm n=>
      obtain ⟨l,rfl⟩:=agg rfl
      simp only [bD,aa]
      exact ⟨l,rfl,hrdc.flat dx⟩
    ·exact ⟨_,.prod hrd hrd2⟩
 | .int _,_,_,_,_,h=>by simp [cK] at h
 | .bool,_,_,_,_,h=>by simp [cK] at h
 | .str,_,_,_,_,h=>by simp [cK] at h
 | .slice _,_,_,_,_,h=>by simp [cK] at h
 | .nm _,_,_,_,_,h=>by simp [cK] at h
 | .unit,_::_,_,_,_,h=>by simp [cK] at h
 | .prod _ _,[],_,_,_,h=>by simp [cK] at h
end
section
open Go.RowKit
variable {P:Program}
abbrev Acc:=List (Nat×RowD)
structure AccOK (E:Env) (acc:Acc):Prop where
 nodup :(acc.map (·.1)).Nodup
 row :∀ h r,(h,r)∈acc→∃ ver,E.H h=some (.row ver true r.t r.xs)
def Ren (E E2:Env) (m:Nat) (acc:Acc):Prop:=∀ i h r,acc[i]?=some (h,r)→E2.U (m+i)∧E2.ρ (m+i)=E.ρ h∧E2.H (m+i)=some (.row (m+i) true r.t r.xs)
theorem Ren.front {E E2:Env} {m:Nat} {acc suf:Acc} (h:Ren E E2 m (acc++suf)):Ren E E2 m acc:=fun i hh r hi=>h i hh r (by
 have:i<acc.length:=by
  rcases Nat.lt_or_ge i acc.length with h1|h1
  ·exact h1
  ·rw [List.getElem?_eq_none h1] at hi;cases hi
 rw [List.getElem?_append_left this];exact hi)
structure CanOK (E:Env) (m:Nat) (acc acc':Acc) (v:V) (u:Value):Prop where
 pre :∃ suf,acc'=acc++suf
 acc:AccOK E acc→AccOK E acc'
 rel :∀ E2:Env,E2.w=E.w→((∀ b,E.S b→E2.S b)∨v.noF=true)→Ren E E2 m acc'→aa E2 (v.shift m) u
structure CansOK (E:Env) (m:Nat) (acc acc':Acc) (v:List V) (u:List Value):Prop where
 pre :∃ suf,acc'=acc++suf
 acc:AccOK E acc→AccOK E acc'
 rel :∀ E2:Env,E2.w=E.w→((∀ b,E.S b→E2.S b)∨zN v=true)→Ren E E2 m acc'→ab E2 (jG m v) u
theorem cX {E:Env} {m:Nat} {acc:Acc} {v:V} {u:Value} (h :∀ E2:Env,E2.w=E.w→((∀ b,E.S b→E2.S b)∨v.noF=true)→aa E2 (v.shift m) u):CanOK E m acc acc v u:=
 ⟨⟨[],by simp⟩,fun h=>h,fun E2 hw hs _=>h E2 hw hs⟩
mutual
theorem sD {B:Base} {E:Env} (hE:HRel B E) (m:Nat) :∀ (v0:V) (acc:Acc) (v:V) (acc':Acc) (u:Value),gj E.H v0 acc=some (v,acc')→aa E v0 u→CanOK E m acc acc' v u
 | .osl h ver,acc,v,acc',u,hc,hv=>by
  simp only [gj] at hc
  split at hc
  case h_2=>cases hc
  rename_i ver' rw t xs hH
  split at hc
  case isFalse=>cases hc
  rename_i e
  subst e
  have hrow:=kV hE hH hv
  cases rw with
  | true=>
   simp only [cond_true] at hc
   cases hm:memN (acc.map (·.1)) h with
   | true=>rw [hm] at hc;cases hc
   | false=>
    rw [hm] at hc
    simp only [cond_false,Option.some.injEq,Prod.mk.injEq] at hc
    obtain ⟨rfl,rfl⟩:=hc
    have hnm:h∉acc.map (·.1):=fun hh=>by rw [memN_iff.2 hh] at hm;cases hm
    refine ⟨⟨_,rfl⟩,fun ha=>⟨?_,fun h2 r hr=>?_⟩,fun E2 hw _ hren=>?_⟩
    ·rw [List.map_append,List.nodup_append]
     refine ⟨ha.nodup,by simp,fun a ha' b hb=>?_⟩
     simp only [List.map_cons,List.map_nil,List.mem_singleton] at hb
     subst hb
     exact fun e=>hnm (e▸ha')
    ·rcases List.mem_append.1 hr with hr|hr
     ·exact ha.row _ _ hr
     ·simp only [List.mem_singleton,Prod.mk.injEq] at hr
      obtain ⟨rfl,rfl⟩:=hr
      exact ⟨_,hH⟩
    ·obtain ⟨h1,h2,h3⟩:=hren acc.length h ⟨t,xs⟩ (by simp)
     simp only [V.shift,aa]
     refine ⟨h1,h1,?_,fun rw' t' xs' hx=>?_⟩
     ·rcases hrow with ⟨_,_,a,ha⟩ |⟨b,cap,c,T,fr,_,hh,_⟩
      ·exact ⟨_,_,_,ha⟩
      ·exact ⟨_,_,_,hh⟩
     ·rw [h3] at hx
      cases hx
      rw [h2,hw]
      rcases hrow with ⟨k1,_,k3⟩ |⟨b,cap,c,T,fr,k1,k2,k3,k4,k5,_⟩
      ·exact .inl ⟨k1,k3⟩
      ·exact .inr ⟨b,cap,c,T,fr,k1,k2,k3,k4,k5⟩
  | false=>
   simp only [cond_false,Option.some.injEq,Prod.mk.injEq] at hc
   obtain ⟨rfl,rfl⟩:=hc
   refine cX fun E2 hw hs=>?_
   rcases hs with hs|hs
   case inr=>simp [V.noF] at hs
   simp only [V.shift,aa]
   rcases hrow with ⟨_,rfl,a,rfl⟩ |⟨b,cap,c,T,fr,_,rfl,k3,k4,k5,_,_,k8,k9,k10,k11⟩
   ·exact .nil
   ·exact .slice (hs _ (k8 rfl)) (by rw [hw];exact k3) (by simpa using k9) k5 k10 (fun i hi=>by
     have:=(k11 i hi).ext hs (w':=E2.w) (fun b _=>by rw [hw])
     simpa using this)
 | .agg cs,acc,v,acc',u,hc,hv=>by
  simp only [gj] at hc
  split at hc
  case h_2=>cases hc
  rename_i l acc2 hcs
  simp only [Option.some.injEq,Prod.mk.injEq] at hc
  obtain ⟨rfl,rfl⟩:=hc
  simp only [aa] at hv
  obtain ⟨l',rfl,hv⟩:=hv
  obtain ⟨h1,h2,h3⟩:=lN hE m cs acc l acc2 _ hcs hv
  refine ⟨h1,h2,fun E2 hw hs hren=>?_⟩
  simp only [V.shift,aa]
  exact ⟨l',rfl,h3 E2 hw hs hren⟩
 | .tup cs,acc,v,acc',u,hc,hv=>by
  simp only [gj] at hc
  split at hc
  case h_2=>cases hc
  rename_i l acc2 hcs
  simp only [Option.some.injEq,Prod.mk.injEq] at hc
  obtain ⟨rfl,rfl⟩:=hc
  simp only [aa] at hv
  obtain ⟨l',rfl,hv⟩:=hv
  obtain ⟨h1,h2,h3⟩:=lN hE m cs acc l acc2 _ hcs hv
  refine ⟨h1,h2,fun E2 hw hs hren=>?_⟩
  simp only [V.shift,aa]
  exact ⟨l',rfl,h3 E2 hw hs hren⟩
 | .ptr _ _,_,_,_,_,hc,_=>by simp [gj] at hc
 | .rp _ _ _ _,_,_,_,_,hc,_=>by simp [gj] at hc
 | .fp _ _ _ _,_,_,_,_,hc,_=>by simp [gj] at hc
 | .fn _ _,_,_,_,_,hc,_=>by simp [gj] at hc
 | .hint _ _,_,_,_,_,hc,_=>by simp [gj] at hc
 | .any,acc,v,acc',u,hc,hv=>by
  simp only [gj,Option.some.injEq,Prod.mk.injEq] at hc
  obtain ⟨rfl,rfl⟩:=hc
  exact cX fun E2 hw hs=>by simp [V.shift,aa]
 | .int k n,acc,v,acc',u,hc,hv=>by
  simp only [gj,Option.some.injEq,Prod.mk.injEq] at hc
  obtain ⟨rfl,rfl⟩:=hc
  exact cX fun E2 hw hs=>by simpa [V.shift,aa] using hv
 | .bool b,acc,v,acc',u,hc,hv=>by
  simp only [gj,Option.some.injEq,Prod.mk.injEq] at hc
  obtain ⟨rfl,rfl⟩:=hc
  exact cX fun E2 hw hs=>by simpa [V.shift,aa] using hv
 | .kb b,acc,v,acc',u,hc,hv=>by
  simp only [gj,Option.some.injEq,Prod.mk.injEq] at hc
  obtain ⟨rfl,rfl⟩:=hc
  exact cX fun E2 hw hs=>by simpa [V.shift,aa] using hv
 | .str s,acc,v,acc',u,hc,hv=>by
  simp only [gj,Option.some.injEq,Prod.mk.injEq] at hc
  obtain ⟨rfl,rfl⟩:=hc
  exact cX fun E2 hw hs=>by simpa [V.shift,aa] using hv
 | .nilptr,acc,v,acc',u,hc,hv=>by
  simp only [gj,Option.some.injEq,Prod.mk.injEq] at hc
  obtain ⟨rfl,rfl⟩:=hc
  exact cX fun E2 hw hs=>by simpa [V.shift,aa] using hv
 | .nilsl,acc,v,acc',u,hc,hv=>by
  simp only [gj,Option.some.injEq,Prod.mk.injEq] at hc
  obtain ⟨rfl,rfl⟩:=hc
  exact cX fun E2 hw hs=>by simpa [V.shift,aa] using hv
 | .esl,acc,v,acc',u,hc,hv=>by
  simp only [gj,Option.some.injEq,Prod.mk.injEq] at hc
  obtain ⟨rfl,rfl⟩:=hc
  exact cX fun E2 hw hs=>by simpa [V.shift,aa] using hv
 | .fsl t xs,acc,v,acc',u,hc,hv=>by
  simp only [gj,Option.some.injEq,Prod.mk.injEq] at hc
  obtain ⟨rfl,rfl⟩:=hc
  refine cX fun E2 hw hs=>?_
  rcases hs with hs|hs
  case inr=>simp [V.noF] at hs
  simp only [V.shift,aa] at hv ⊢
  exact hv.ext hs (fun b _=>by rw [hw])
 | .nilfn,acc,v,acc',u,hc,hv=>by
  simp only [gj,Option.some.injEq,Prod.mk.injEq] at hc
  obtain ⟨rfl,rfl⟩:=hc
  exact cX fun E2 hw hs=>by simpa [V.shift,aa] using hv
 | .nilmap,acc,v,acc',u,hc,hv=>by
  simp only [gj,Option.some.injEq,Prod.mk.injEq] at hc
  obtain ⟨rfl,rfl⟩:=hc
  exact cX fun E2 hw hs=>by simpa [V.shift,aa] using hv
theorem lN {B:Base} {E:Env} (hE:HRel B E) (m:Nat) :∀ (v0:List V) (acc:Acc) (v:List V) (acc':Acc) (u:List Value),vY E.H v0 acc=some (v,acc')→ab E v0 u→CansOK E m acc acc' v u
 | [],acc,v,acc',u,hc,hv=>by
  simp only [vY,Option.some.injEq,Prod.mk.injEq] at hc
  obtain ⟨rfl,rfl⟩:=hc
  exact ⟨⟨[],by simp⟩,fun h=>h,fun E2 hw hs _=>by cases u <;> simp_all [jG,ab]⟩
 | x::xs,acc,v,acc',u,hc,hv=>by
  simp only [vY] at hc
  split at hc
  case h_2=>cases hc
  rename_i v1 acc1 h1
  split at hc
  case h_2=>cases hc
  rename_i l2 acc2 h2
  simp only [Option.some.injEq,Prod.mk.injEq] at hc
  obtain ⟨rfl,rfl⟩:=hc
  cases u with
  | nil=>simp [ab] at hv
  | cons u us=>
   simp only [ab] at hv
   obtain ⟨⟨s1,e1⟩,a2,a3⟩:=sD hE m x acc v1 acc1 u h1 hv.1
   obtain ⟨⟨s2,e2⟩,b2,b3⟩:=lN hE m xs acc1 l2 acc2 us h2 hv.2
   refine ⟨⟨s1++s2,by rw [e2,e1,List.append_assoc]⟩,fun h=>b2 (a2 h),fun E2 hw hs hren=>?_⟩
   simp only [jG,ab]
   simp only [zN,Bool.and_eq_true] at hs
   exact ⟨a3 E2 hw (hs.imp id (·.1)) (by rw [e2] at hren;exact hren.front),b3 E2 hw (hs.imp id (·.2)) hren⟩
end
def rd1 (tmps:Array Value):ResultVar→Sem Value
 | .tmp t=>pure (tmps.getD t undef)
 | .cell c t=>do loadVar t (←asAddr (tmps.getD c undef))
theorem ur (fn:Func) (tmps:Array Value):results fn tmps =((fn.results.mapM (rd1 tmps)) >>= fun (vs:Array Value)=>pure (if h:vs.size=1 then vs[0] else .tuple vs)):=by
 unfold results
 congr
theorem EJ {B:Base} {E:Env} (hE:HRel B E) {tb:Tbl} (hT:a6 P tb) {tm:List (Nat×V)} {a:Act} (ha:eJ E (find tm) a) {r:ResultVar} {v:V} (h:Ah tb tm E.H r=some v) :
  ∃ v',(rd1 a.tmps r).run P E.w = .ok v' E.w∧aa E v v':=by
 cases r with
 | tmp t=>
  simp only [Ah,Option.some.injEq] at h
  subst h
  exact ⟨_,rfl,cw ha t⟩
 | cell c t=>
  simp only [Ah] at h
  split at h
  case h_2=>cases h
  rename_i td htd
  split at h
  case h_2=>cases h
  rename_i ps v2 dh hl
  simp only [Option.some.injEq] at h
  subst h
  obtain ⟨_,v',h1,h2⟩:=oR hE (hT _ _ htd) (cw ha c) hl
  refine ⟨v',?_,h2⟩
  have :∀ x:Value,(Instr.loadAt t x).run P E.w = .ok v' E.w→((do loadVar t (←asAddr x):Sem Value).run P E.w = .ok v' E.w):=fun x hx=>by
   cases x with
   | pointer o=>
    cases o with
    | some ad=>simpa [Instr.loadAt,Instr.sureAddr,asAddr] using hx
    | none=>simp [Instr.loadAt,Instr.sureAddr] at hx
   | _=>simp [Instr.loadAt,Instr.sureAddr] at hx
  exact this _ h1
theorem pM {α:Type} {E:Env} {w:World} (f:α→Sem Value) (g:α→Option V) (hfg :∀ x v,g x=some v→∃ v',(f x).run P w = .ok v' w∧aa E v v') :∀ (l:List α) (vs:List V),l.length=vs.length→(∀ (i:Nat) (x:α) (v:V),l[i]?=some x→vs[i]?=some v→g x=some v)→
  ∃ us,(l.mapM f).run P w = .ok us w∧ab E vs us
 | [],[],_,_=>⟨[],rfl,by simp [ab]⟩
 | [],_::_,h,_=>by simp at h
 | _::_,[],h,_=>by simp at h
 | x::l,v::vs,h,hg=>by
  obtain ⟨v',h1,h2⟩:=hfg x v (hg 0 x v rfl rfl)
  obtain ⟨us,h3,h4⟩:=pM f g hfg l vs (by simpa using h) (fun i y u hy hu=>hg (i+1) y u (by simpa using hy) (by simpa using hu))
  refine ⟨v'::us,?_,by simp only [ab];exact ⟨h2,h4⟩⟩
  simp [List.mapM_cons,h1,h3]
theorem CH {tb:Tbl} {tm:List (Nat×V)} {H:aw} :∀ {rs:List ResultVar} {l:List V},oB tb tm H rs=some l→rs.length=l.length∧∀ (i:Nat) (x:ResultVar) (v:V),rs[i]?=some x→l[i]?=some v→Ah tb tm H x=some v
 | [],l,h=>by simp only [oB,Option.some.injEq] at h;subst h;exact ⟨rfl,fun i x v hx=>by simp at hx⟩
 | r::rs,l,h=>by
  simp only [oB] at h
  split at h
  case h_2=>cases h
  rename_i v1 h1
  split at h
  case h_2=>cases h
  rename_i l2 h2
  simp only [Option.some.injEq] at h
  subst h
  obtain ⟨k1,k2⟩:=CH h2
  refine ⟨by simp [k1],fun i x v hx hv=>?_⟩
  cases i with
  | zero=>simp only [List.getElem?_cons_zero,Option.some.injEq] at hx hv;subst hx;subst hv;exact h1
  | succ i=>exact k2 i x v (by simpa using hx) (by simpa using hv)
theorem oC {B:Base} {E:Env} (hE:HRel B E) {tb:Tbl} (hT:a6 P tb) {tm:List (Nat×V)} {a:Act} (ha:eJ E (find tm) a) {fn:Func} {v:V} (h:pJ tb tm E.H fn.results.toList=some v) :
  ∃ v',(results fn a.tmps).run P E.w = .ok v' E.w∧aa E v v':=by
 unfold pJ at h
 have key :∀ l,oB tb tm E.H fn.results.toList=some l→∃ us,(fn.results.mapM (rd1 a.tmps)).run P E.w = .ok us E.w∧ab E l us.toList:=fun l hl=>by
  obtain ⟨k1,k2⟩:=CH hl
  obtain ⟨us,h1,h2⟩:=pM (P:=P) (E:=E) (w:=E.w) (rd1 a.tmps) (Ah tb tm E.H) (fun x v hx=>EJ hE hT ha hx) _ _ k1 k2
  refine ⟨us.toArray,?_,by simpa using h2⟩
  rw [Array.mapM_eq_mapM_toList,Sem.run_map,h1]
  rfl
 split at h
 ·rename_i v1 hl
  simp only [Option.some.injEq] at h
  subst h
  obtain ⟨us,h1,h2⟩:=key _ hl
  have hsz:us.size=1:=by have:=aI h2;simpa using this.symm
  refine ⟨us[0],?_,?_⟩
  ·rw [ur,Sem.run_bind,h1]
   simp [hsz]
  ·have:us.toList=[us[0]]:=by
    apply List.ext_getElem?
    intro i
    cases i with
    | zero=>simp [hsz]
    | succ i=>simp [hsz]
   rw [this] at h2
   simp only [ab] at h2
   exact h2.1
 ·rename_i l hne hl
  simp only [Option.some.injEq] at h
  subst h
  obtain ⟨us,h1,h2⟩:=key _ hl
  have hsz :¬ us.size=1:=fun hs=>by
   have:=aI h2
   have h3:l.length=1:=by simpa [hs] using this
   obtain ⟨x,rfl⟩:=List.length_eq_one_iff.1 h3
   exact hne x rfl
  refine ⟨.tuple us,?_,?_⟩
  ·rw [ur,Sem.run_bind,h1]
   simp [hsz]
  ·simp only [aa];exact ⟨us,rfl,h2⟩
 ·cases h
end
section
open Go.RowKit
variable {P:Program}
theorem qX (m:Nat) :∀ (rows:List RowD) (i h:Nat),find (iV m i rows) h=if m+i≤h∧h<m+i+rows.length then (rows[h - (m+i)]?).map fun r=> .row h true r.t r.xs else none
 | [],i,h=>by simp [iV,find]
 | r::rs,i,h=>by
  simp only [iV,find]
  cases hb:Nat.beq (m+i) h with
  | true=>
   obtain rfl:=Nat.eq_of_beq_eq_true hb
   simp
  | false=>
   have hne:m+i≠h:=fun e=>by subst e;rw [Nat.beq_refl] at hb;cases hb
   simp only [cond_false]
   rw [qX m rs (i+1) h]
   by_cases hc:m+i≤h∧h<m+i +(r::rs).length
   ·have hc2:m +(i+1)≤h∧h<m +(i+1)+rs.length:=by simp at hc;omega
    rw [if_pos hc,if_pos hc2]
    have:h - (m+i) =(h - (m +(i+1)))+1:=by omega
    rw [this,List.getElem?_cons_succ]
   ·have hc2 :¬(m +(i+1)≤h∧h<m +(i+1)+rs.length):=by simp at hc;omega
    rw [if_neg hc,if_neg hc2]
theorem HW {B:Base} {Eb:Env} (hEb:HRel B Eb) {m K:Nat} (hm :∀ n,m≤n→n<m+K→¬ Eb.U n) {S1:Nat→Prop} (_ :∀ b,Eb.S b→S1 b) {Ec:Env} (hEc:HRel (A2 Eb.w (fun _=>False) S1 hEb.glob0) Ec) {acc:Acc} (ha:AccOK Ec acc) (hK:acc.length≤K)
  (hfl :(∀ b,S1 b→Eb.S b)∨∀ q∈acc,q.2.t.flatB=true) :
  ∃ E',GoodK B Eb m K (iV m 0 (acc.map (·.2))) Ec.w E'∧Ren Ec E' m acc∧((∀ b,S1 b→Eb.S b)→∀ b,Ec.S b→E'.S b):=by
 classical
 let D:Nat→Prop:=fun h=>m≤h∧h<m+K
 let ρ':Nat→Option Nat:=fun h=>if D h then (match acc[h - m]? with|some q=>Ec.ρ q.1|none=>none) else Eb.ρ h
 let E':Env:=⟨fun n=>Eb.U n∨D n,ρ',fun b=>Eb.S b∨(Ec.S b∧Eb.w.heap.size≤b),Ec.w,au Eb.H (iV m 0 (acc.map (·.2)))⟩
 have hfind :∀ h,find (iV m 0 (acc.map (·.2))) h=if m≤h∧h<m+acc.length then (acc[h - m]?).map fun q=>Blk.row h true q.2.t q.2.xs else none:=fun h=>by
  rw [qX]
  simp only [Nat.add_zero,List.length_map,List.getElem?_map,Option.map_map]
  rfl
 have hHn :∀ h,¬ D h→E'.H h=Eb.H h:=fun h hd=>by
  show au Eb.H _ h=Eb.H h
  unfold au
  rw [hfind,if_neg (fun hc=>hd ⟨hc.1,by omega⟩)]
 have hρn :∀ h,¬ D h→E'.ρ h=Eb.ρ h:=fun h hd=>if_neg hd
 have hHd :∀ h k,D h→E'.H h=some k→∃ h0 r,acc[h - m]?=some (h0,r)∧k = .row h true r.t r.xs:=fun h k hd hk=>by
  have hk':au Eb.H (iV m 0 (acc.map (·.2))) h=some k:=hk
  unfold au at hk'
  rw [hfind] at hk'
  by_cases hc:m≤h∧h<m+acc.length
  ·rw [if_pos hc] at hk'
   cases hq:acc[h - m]? with
   | none=>rw [List.getElem?_eq_none_iff] at hq;omega
   | some q=>
    obtain ⟨h0,r⟩:=q
    rw [hq] at hk'
    simp only [Option.map_some,Option.some.injEq] at hk'
    exact ⟨h0,r,rfl,hk'.symm⟩
  ·rw [if_neg hc] at hk'
   simp only at hk'
   exact absurd (hEb.used _ _ hk') (hm h hd.1 hd.2)
 have hρd :∀ h h0 r,D h→acc[h - m]?=some (h0,r)→E'.ρ h=Ec.ρ h0:=fun h h0 r hd hq=>by
  show (if D h then _ else _)=_
  rw [if_pos hd,hq]
 have used' :∀ h k,Eb.H h=some k→¬ D h:=fun h k hx hd=>hm h hd.1 hd.2 (hEb.used _ _ hx)
 have hw0:Eb.w.heap.size≤Ec.w.heap.size:=hEc.keeps.size
 have hB0:B.w0.heap.size≤Eb.w.heap.size:=hEb.keeps.size
 have same :∀ b,b<Eb.w.heap.size→Ec.w.heap[b]?=Eb.w.heap[b]?:=fun b hb=>hEc.keeps.block b hb (fun h=>h)
 have newb :∀ h0 r b,(h0,r)∈acc→Ec.ρ h0=some b→Eb.w.heap.size≤b:=fun h0 r b hq hb=>by
  obtain ⟨ver,hx⟩:=ha.row _ _ hq
  rcases hEc.own _ _ _ hx hb with h|h
  ·exact h.elim
  ·exact h
 have X:Ext Eb E':=by
  refine ⟨fun _ h=> .inl h,fun _ h=> .inl h,fun b hb=>same b (hEb.stab b hb),fun h cs hu hx=>?_,fun h ver rw t xs hu hv hx=>?_,fun h ver esz cs hu hv hx=>?_,fun h es hu hx=>?_,fun h kk t x hu hx=>?_⟩
  case refine_5=>
   have hd :¬ D h:=fun hd=>hm h hd.1 hd.2 hu
   rw [hHn h hd] at hx
   exact ⟨⟨x,hx⟩,hρn h hd⟩
  ·have hd :¬ D h:=fun hd=>hm h hd.1 hd.2 hu
   rw [hHn h hd] at hx
   exact ⟨⟨cs,hx⟩,hρn h hd⟩
  ·have hd :¬ D h:=fun hd=>hm h hd.1 hd.2 hu
   rw [hHn h hd] at hx
   exact ⟨rw,xs,hx,rfl,hρn h hd,fun b c T fr hb hw=>⟨c,T,fr,by rw [show E'.w=Ec.w from rfl,same b (hEb.lt _ _ _ hx hb)];exact hw,rfl⟩⟩
  ·have hd :¬ D h:=fun hd=>hm h hd.1 hd.2 hu
   rw [hHn h hd] at hx
   exact ⟨cs,hx,rfl,hρn h hd,fun b c T fr hb hw=>⟨c,T,fr,by rw [show E'.w=Ec.w from rfl,same b (hEb.lt _ _ _ hx hb)];exact hw,rfl⟩⟩
  ·have hd :¬ D h:=fun hd=>hm h hd.1 hd.2 hu
   rw [hHn h hd] at hx
   exact ⟨⟨es,hx⟩,hρn h hd⟩
 have tN :∀ {h k b},¬ D h→Eb.H h=some k→Tch E' h k b→Tch Eb h k b:=fun hd hx ht=>ht.mv (hρn _ hd) fun b hb=>same b (hEb.lt _ _ _ hx hb)
 have R:HRel B E':=by
  refine ⟨fun h k hx=>?_,fun b hs=>?_,fun h k b hx hb=>?_,fun h h' k k' b h1 h2 b1 b2=>?_,fun h k hx=>?_,?_,fun h k b hx hb=>?_,fun b hs=> .inl (hEb.s0 b hs),fun b hs=>?_⟩
  ·by_cases hd:D h
   ·exact .inr hd
   ·rw [hHn h hd] at hx;exact .inl (hEb.used _ _ hx)
  ·rcases hs with hs|hs
   ·exact Nat.lt_of_lt_of_le (hEb.stab b hs) hw0
   ·exact hEc.stab b hs.1
  ·by_cases hd:D h
   ·obtain ⟨h0,r,hq,rfl⟩:=hHd h k hd hx
    replace hb:=hb.of rfl
    rw [hρd h h0 r hd hq] at hb
    obtain ⟨ver,hx0⟩:=ha.row _ _ (List.mem_of_getElem? hq)
    exact hEc.lt _ _ _ hx0 hb
   ·rw [hHn h hd] at hx;exact Nat.lt_of_lt_of_le (hEb.lt' _ _ _ hx (tN hd hx hb)) hw0
  ·have mix :∀ h h' k k',D h→¬ D h'→E'.H h=some k→E'.H h'=some k'→Tch E' h k b→Tch E' h' k' b→False:=fun h h' k k' hd hd' h1 h2 b1 b2=>by
    obtain ⟨h0,r,hq,rfl⟩:=hHd h k hd h1
    replace b1:=b1.of rfl
    rw [hρd h h0 r hd hq] at b1;rw [hHn h' hd'] at h2
    have h3:=newb _ _ _ (List.mem_of_getElem? hq) b1
    have h4:=hEb.lt' _ _ _ h2 (tN hd' h2 b2)
    omega
   by_cases hd:D h <;> by_cases hd':D h'
   ·obtain ⟨a0,r,hq,rfl⟩:=hHd h k hd h1
    obtain ⟨a0',r',hq',rfl⟩:=hHd h' k' hd' h2
    replace b1:=b1.of rfl
    replace b2:=b2.of rfl
    rw [hρd h _ _ hd hq] at b1;rw [hρd h' _ _ hd' hq'] at b2
    obtain ⟨_,x1⟩:=ha.row _ _ (List.mem_of_getElem? hq)
    obtain ⟨_,x2⟩:=ha.row _ _ (List.mem_of_getElem? hq')
    have e:=hEc.inj _ _ _ _ _ x1 x2 b1 b2
    have n1 :(acc.map (·.1))[h - m]?=some a0:=by simp [hq]
    have n2 :(acc.map (·.1))[h' - m]?=some a0:=by simp [hq',e]
    have hl:h - m <(acc.map (·.1)).length:=by
     rcases Nat.lt_or_ge (h - m) (acc.map (·.1)).length with h1|h1
     ·exact h1
     ·rw [List.getElem?_eq_none h1] at n1;cases n1
    have:=(List.getElem?_inj hl ha.nodup).1 (n1.trans n2.symm)
    have:=hd.1;have:=hd'.1
    omega
   ·exact (mix h h' k k' hd hd' h1 h2 b1 b2).elim
   ·exact (mix h' h k' k hd' hd h2 h1 b2 b1).elim
   ·rw [hHn h hd] at h1;rw [hHn h' hd'] at h2
    exact hEb.inj' _ _ _ _ _ h1 h2 (tN hd h1 b1) (tN hd' h2 b2)
  ·by_cases hd:D h
   ·obtain ⟨h0,r,hq,rfl⟩:=hHd h k hd hx
    have hmem:=List.mem_of_getElem? hq
    obtain ⟨ver,hx0⟩:=ha.row _ _ hmem
    obtain ⟨_,hbl⟩:=hEc.blk _ _ hx0
    refine ⟨.inr hd,?_⟩
    rw [hρd h h0 r hd hq]
    rcases hbl with hbl |⟨b,c,T,fr,k1,k2,k3,k4,k5,k6,k7,k8⟩
    ·exact .inl hbl
    ·refine .inr ⟨b,c,T,fr,k1,k2,k3,fun _ hs=>?_,(fun h=>by cases h),k6,k7,fun i hi=>?_⟩
     ·rcases hs with hs|hs
      ·have h3:=hEb.stab b hs
       have h4:=newb _ _ _ hmem k1
       omega
      ·exact k4 rfl hs.1
     ·rcases hfl with hfl|hfl
      ·refine (k8 i hi).ext (fun b hs=>?_) (fun b _=>rfl)
       rcases hEc.sb b hs with h|h|h
       ·exact .inl (hfl b h)
       ·exact h.elim
       ·exact .inr ⟨hs,h⟩
      ·exact (k8 i hi).flatB (hfl _ hmem)
   ·have hx':=hx
    rw [hHn h hd] at hx'
    refine bX X (hρn h hd) (fun b hb=>same b (hEb.lt' _ _ _ hx' hb)) (fun b hb _ hs hs'=>?_) (hEb.blk _ _ hx')
    rcases hs' with hs'|hs'
    ·exact hs hs'
    ·have h4:=hEb.lt' _ _ _ hx' hb
     have:=hs'.2
     omega
  ·exact hEb.keeps.trans hEc.keeps (fun b h=>h.elim)
  ·by_cases hd:D h
   ·obtain ⟨h0,r,hq,rfl⟩:=hHd h k hd hx
    replace hb:=hb.of rfl
    rw [hρd h h0 r hd hq] at hb
    exact .inr (Nat.le_trans hB0 (newb _ _ _ (List.mem_of_getElem? hq) hb))
   ·rw [hHn h hd] at hx;exact hEb.own' _ _ _ hx (tN hd hx hb)
  ·rcases hs with hs|hs
   ·exact hEb.sb b hs
   ·exact .inr (.inr (Nat.le_trans hB0 hs.2))
 refine ⟨E',⟨R,X,rfl,rfl,fun n h=>h⟩,fun i h0 r hq=>?_,fun hs b hb=>?_⟩
 ·have hi:i<acc.length:=by
   rcases Nat.lt_or_ge i acc.length with h1|h1
   ·exact h1
   ·rw [List.getElem?_eq_none h1] at hq;cases hq
  have hd:D (m+i):=⟨by omega,by omega⟩
  refine ⟨.inr hd,hρd _ h0 r hd (by rw [Nat.add_sub_cancel_left];exact hq),?_⟩
  show au Eb.H _ (m+i)=_
  unfold au
  rw [hfind,if_pos ⟨by omega,by omega⟩,Nat.add_sub_cancel_left,hq]
  rfl
 ·rcases hEc.sb b hb with h|h|h
  ·exact .inl (hs b h)
  ·exact h.elim
  ·exact .inr ⟨hb,h⟩
theorem eP {α:Type} :∀ (l:List α) (n i:Nat),find (cj n l) i=if n≤i then l[i - n]? else none
 | [],n,i=>by simp [cj,find]
 | x::l,n,i=>by
  simp only [cj,find]
  cases hb:Nat.beq n i with
  | true=>obtain rfl:=Nat.eq_of_beq_eq_true hb;simp
  | false=>
   have hne:n≠i:=fun e=>by subst e;rw [Nat.beq_refl] at hb;cases hb
   simp only [cond_false]
   rw [eP l (n+1) i]
   by_cases hc:n≤i
   ·rw [if_pos hc,if_pos (by omega)]
    have:i - n =(i - (n+1))+1:=by omega
    rw [this,List.getElem?_cons_succ]
   ·rw [if_neg hc,if_neg (by omega)]
structure Mat (B:Base) (E:Env) (n:Nat) (dh:List (Nat×Blk)) (E':Env):Prop where
 rel:HRel B E'
 ext:Ext E E'
 w:E'.w=E.w
 h:E'.H=au E.H dh
 u :∀ k,E'.U k→k<n+dh.length
theorem Mat.refl {B:Base} {E:Env} (hE:HRel B E) {n:Nat} (hn :∀ k,E.U k→k<n):Mat B E n [] E:=
 ⟨hE,Ext.refl E,rfl,by funext h;simp [au,find],by simpa using hn⟩
theorem Mat.trans {B:Base} {E E1 E2:Env} {n:Nat} {d1 d2:List (Nat×Blk)} (h1:Mat B E n d1 E1) (h2:Mat B E1 (n+d1.length) d2 E2):Mat B E n (d2++d1) E2:=
 ⟨h2.rel,h1.ext.trans h2.ext,h2.w.trans h1.w,by rw [h2.h,h1.h,bT],fun k hk=>by have:=h2.u k hk;simp only [List.length_append];omega⟩
theorem FQ {B:Base} {E:Env} (hE:HRel B E) {n:Nat} (hn :∀ k,E.U k→k<n) (t:Ty) :∃ E',Mat B E n [(n,.row n true t [])] E'∧aa E' (.osl n n) (.slice none 0 0):=by
 have hnot :¬ E.U n:=fun h=>Nat.lt_irrefl _ (hn n h)
 obtain ⟨R,X⟩:=ju hE n (.row n true t []) none E.w (fun k=>E.U k∨k=n) (fun _ h=> .inl h) (.inr rfl) (Keeps.refl _ _) (fun b h=>by cases h) (fun b h=>by cases h) (fun cs h=>by cases h) (fun _ _ _ _ _ h=>absurd h hnot)
  (fun _=>⟨.inr rfl,.inl ⟨ah _ _ _,rfl⟩⟩)
 refine ⟨_,⟨R,X,rfl,(bn _ _ _).symm,fun k hk=>?_⟩,?_⟩
 ·rcases hk with hk|rfl
  ·have:=hn k hk;simp only [List.length_cons,List.length_nil];omega
  ·simp
 ·simp only [aa]
  exact ⟨.inr trivial,.inr trivial,⟨_,_,_,rfl⟩,fun rw t' xs hx=> .inl ⟨ah _ _ _,_,rfl⟩⟩
theorem oh {B:Base} :∀ (ts:List (Option Ty)) (cs:List V) (n:Nat) (E:Env) (vs:List Value),HRel B E→(∀ k,E.U k→k<n)→ab E cs vs→
  ∃ E',Mat B E n (qB ts cs n).2 E'∧ab E' (qB ts cs n).1 vs
 | [],cs,n,E,vs,hE,hn,hv=>⟨E,by simpa [qB] using Mat.refl hE hn,by simpa [qB] using hv⟩
 | _::_,[],n,E,vs,hE,hn,hv=>⟨E,by simpa [qB] using Mat.refl hE hn,by simpa [qB] using hv⟩
 | o::ts,c::cs,n,E,vs,hE,hn,hv=>by
  cases vs with
  | nil=>simp [ab] at hv
  | cons v vs=>
   simp only [ab] at hv
   simp only [qB]
   split
   ·rename_i t
    have hv1:=hv.1
    simp only [aa] at hv1
    subst hv1
    obtain ⟨E1,M1,r1⟩:=FQ hE hn t
    obtain ⟨E2,M2,r2⟩:=oh ts cs (n+1) E1 vs M1.rel (fun k hk=>by simpa using M1.u k hk) (aR M1.ext _ _ hv.2)
    exact ⟨E2,M1.trans M2,by simp only [ab];exact ⟨bb M2.ext _ _ r1,r2⟩⟩
   ·obtain ⟨E2,M2,r2⟩:=oh ts cs n E vs hE hn hv.2
    exact ⟨E2,M2,by simp only [ab];exact ⟨bb M2.ext _ _ hv.1,r2⟩⟩
theorem tU {B:Base} {E:Env} (hE:HRel B E) {n:Nat} (hn :∀ k,E.U k→k<n) (o:Option Ty) {v:V} {u:Value} (hv:aa E v u) :∃ E',Mat B E n (Jt o v n).2 E'∧aa E' (Jt o v n).1 u:=by
 unfold Jt
 split
 ·split
  ·rename_i ty _ cs
   simp only [aa] at hv
   obtain ⟨l,rfl,hl⟩:=hv
   obtain ⟨E',M,r⟩:=oh (ya dx ty) cs n E l.toList hE hn hl
   exact ⟨E',M,by simp only [aa];exact ⟨l,rfl,r⟩⟩
  ·split
   ·simp only [aa] at hv
    subst hv
    exact FQ hE hn _
   ·exact ⟨E,Mat.refl hE hn,hv⟩
  ·exact ⟨E,Mat.refl hE hn,hv⟩
 ·exact ⟨E,Mat.refl hE hn,hv⟩
theorem tT {B:Base} (tb:Tbl) :∀ (ts:List TypeId) (vs:List V) (n:Nat) (E:Env) (us:List Value),HRel B E→(∀ k,E.U k→k<n)→ab E vs us→
  ∃ E',Mat B E n (vA tb ts vs n).2 E'∧ab E' (vA tb ts vs n).1 us
 | [],vs,n,E,us,hE,hn,hv=>⟨E,by simpa [vA] using Mat.refl hE hn,by simpa [vA] using hv⟩
 | _::_,[],n,E,us,hE,hn,hv=>⟨E,by simpa [vA] using Mat.refl hE hn,by simpa [vA] using hv⟩
 | t::ts,v::vs,n,E,us,hE,hn,hv=>by
  cases us with
  | nil=>simp [ab] at hv
  | cons u us=>
   simp only [ab] at hv
   simp only [vA]
   obtain ⟨E1,M1,r1⟩:=tU hE hn (R9 tb t) hv.1
   obtain ⟨E2,M2,r2⟩:=tT tb ts vs _ E1 us M1.rel M1.u (aR M1.ext _ _ hv.2)
   exact ⟨E2,M1.trans M2,by simp only [ab];exact ⟨bb M2.ext _ _ r1,r2⟩⟩
theorem D2 {B:Base} {E:Env} (hE:HRel B E) {n:Nat} (hn :∀ k,E.U k→k<n) (tb:Tbl) (ts:List TypeId) {v:V} {u:Value} (hv:aa E v u) :∃ E',Mat B E n (zF tb ts v n).2 E'∧aa E' (zF tb ts v n).1 u:=by
 unfold zF
 split
 ·exact tU hE hn _ hv
 ·split
  ·rename_i vs
   simp only [aa] at hv
   obtain ⟨l,rfl,hl⟩:=hv
   obtain ⟨E',M,r⟩:=tT tb ts vs n E l.toList hE hn hl
   exact ⟨E',M,by simp only [aa];exact ⟨l,rfl,r⟩⟩
  ·exact ⟨E,Mat.refl hE hn,hv⟩
def UH (_:Base) (Q:V→List RowD→Prop) (tb:Tbl) (rs:List ResultVar) (ts:List TypeId) (st:St):Lf→Dl→Nat→Prop
 | .ext _,_,_=>False
 | _,d,nx=>∃ v0 v acc,pJ tb (d.tm++st.tm) (au st.H d.hp) rs=some v0∧gj (au (au st.H d.hp) (zF tb ts v0 nx).2) (zF tb ts v0 nx).1 []=some (v,acc)∧Q v (acc.map (·.2))
theorem iZ {B:Base} {Q:V→List RowD→Prop} {tb:Tbl} {rs:List ResultVar} {ts:List TypeId} {st:St} :∀ {t:Tr},(vL tb rs ts st t).sat Q→t.sat (UH B Q tb rs ts st)
 | .leaf (.ext _) _ _,h=>h.elim
 | .leaf .nrm d nx,h=>by
  simp only [vL] at h
  split at h
  case h_2=>exact h.elim
  rename_i v0 hv
  split at h
  case h_2=>exact h.elim
  rename_i v acc hc
  exact ⟨v0,v,acc,hv,hc,h⟩
 | .leaf .ret d nx,h=>by
  simp only [vL] at h
  split at h
  case h_2=>exact h.elim
  rename_i v0 hv
  split at h
  case h_2=>exact h.elim
  rename_i v acc hc
  exact ⟨v0,v,acc,hv,hc,h⟩
 | .br b t e,h=>⟨fun hb=>iZ (h.1 hb),fun hb=>iZ (h.2 hb)⟩
 | .need p t,h=>⟨h.1,iZ h.2⟩
 | .both t u,h=>⟨iZ h.1,iZ h.2⟩
 | .when b t,h=>fun hb=>iZ (h hb)
 | .done,h=>h
 | .bad,h=>h
theorem DE {C:Cfg} (hC:CfgOK P C) (hP:P.follows .mixedOrders=true) {Λ:Nat→Option LoopSum} {f:FuncId} {fn:Func} (hf:P.funcs[f]?=some fn) (hN:C.N=fn.ntmps)
  (hΛ :∀ c,fn.body=some c→∀ b∈aU Λ c,∀ L,Λ (rid b)=some L→LoopOK P C.N b L) {args:List V} {Q:V→List RowD→Prop} (h :(evFn C Λ fn args).sat Q)
  {B:Base} {E:Env} (hE:HRel B E) (hF:B.free) (hB:B.dfs=[]) (hH:E.H=fun _=>none) (hU :∀ n,¬ E.U n) {av:List Value} (hav:ab E args av) (hlen:av.length≤fn.ntmps) :
  Calls P f av.toArray E.w fun e w'=>∃ Ec v' v0 v acc,e = .returned v'∧HRel B Ec∧Ec.w=w'∧aa Ec v0 v'∧gj Ec.H v0 []=some (v,acc)∧Q v (acc.map (·.2)):=by
 unfold evFn at h
 split at h
 case h_2=>exact h.elim
 rename_i c hc
 refine calls_of_wp hf hc ?_
 have hs:=iZ (B:=B) h
 refine bN hC hP (B:=B) c (fun b hb L hL=>LoopOK.at_free (hΛ c hc b hb L hL) hF) (lj args) _ _ hs (fun e d nx a w hq hat=>?_) _ _ ?_
 ·obtain ⟨⟨Ec,hEc,rfl,hHc,hUc,hT⟩,hsz,hdf⟩:=hat
  have fin :(∃ v0 v acc,pJ C.tb (d.tm ++(lj args).tm) (au (lj args).H d.hp) fn.results.toList=some v0∧gj (au (au (lj args).H d.hp) (zF C.tb fn.resultTypes.toList v0 nx).2) (zF C.tb fn.resultTypes.toList v0 nx).1 []=some (v,acc)∧Q v (acc.map (·.2)))→
    ∃ v',(results fn a.tmps).run P Ec.w = .ok v' Ec.w∧∃ Ec' v'' v0 v acc,(Ending.returned v') = .returned v''∧HRel B Ec'∧Ec'.w=Ec.w∧aa Ec' v0 v''∧gj Ec'.H v0 []=some (v,acc)∧Q v (acc.map (·.2)):=fun ⟨v0,v,acc,h1,h2,h3⟩=>by
   rw [←hHc] at h1 h2
   obtain ⟨v',k1,k2⟩:=oC hEc hC.tb hT h1
   obtain ⟨Em,Mm,k3⟩:=D2 hEc hUc.2 C.tb fn.resultTypes.toList k2
   rw [←Mm.h] at h2
   exact ⟨v',k1,Em,v',_,v,acc,rfl,Mm.rel,Mm.w,k3,h2,h3⟩
  cases e with
  | ext id=>exact hq.elim
  | nrm=>exact ⟨hdf.trans hB,fin hq⟩
  | ret=>exact ⟨hdf.trans hB,fin hq⟩
 ·refine ⟨⟨E,hE,rfl,?_,⟨hF E,fun n hn=>absurd hn (hU n)⟩,fun s v hv=>?_⟩,?_,hB.symm⟩
  ·rw [hH];rfl
  ·simp only [lj,eP,Nat.zero_le,if_true,Nat.sub_zero] at hv
   obtain ⟨v',h1,h2⟩:=dp hav s v hv
   have :(av.toArray++Array.replicate (fn.ntmps - av.toArray.size) undef).getD s undef=v':=by
    rw [Array.getD_eq_getD_getElem?]
    have hl:s<av.toArray.size:=by
     rcases Nat.lt_or_ge s av.length with h3|h3
     ·simpa using h3
     ·rw [List.getElem?_eq_none h3] at h1;cases h1
    rw [Array.getElem?_append_left hl]
    simp [h1]
   rw [this]
   exact h2
  ·simp only [Array.size_append,Array.size_replicate,List.size_toArray];omega
def ifB (b:Bool) (p:Prop):Prop:=match b with|true=>p|false=>False
theorem ifB_iff {b:Bool} {p:Prop}:ifB b p↔b=true∧p:=by cases b <;> simp [ifB]
mutual
def leV:V→V→Prop
 | .any,.any=>True
 | .int k n,.int k' n'=>ifB (decide (k=k')) (n=n')
 | .bool b,.bool b'=>b=b'
 | .bool b,.kb b'=>b=b'
 | .kb b,.bool b'=>b=b'
 | .kb b,.kb b'=>b=b'
 | .str s,.str s'=>s=s'
 | .nilptr,.nilptr=>True
 | .nilfn,.nilfn=>True
 | .nilmap,.nilmap=>True
 | .nilsl,.nilsl=>True
 | .esl,.esl=>True
 | .nilsl,.fsl _ xs=>xs=[]
 | .esl,.fsl _ xs=>xs=[]
 | .fsl t xs,.fsl t' xs'=>RowD.mk t xs=RowD.mk t' xs'
 | .osl h ver,.osl h' ver'=>h=h'∧ver=ver'
 | .agg cs,.agg cs'=>tI cs cs'
 | .tup cs,.tup cs'=>tI cs cs'
 | _,_=>False
def tI:List V→List V→Prop
 | [],[]=>True
 | x::xs,y::ys=>leV x y∧tI xs ys
 | _,_=>False
end
mutual
theorem qx {E:Env} {m:Nat} :∀ (x y:V) (u:Value),leV x y→aa E (x.shift m) u→aa E (y.shift m) u
 | x,.any,u,h,hv=>by simp [V.shift,aa]
 | x,.int k n,u,h,hv=>by
  cases x <;> simp only [leV] at h
  obtain ⟨h1,rfl⟩:=ifB_iff.1 h
  obtain rfl:=of_decide_eq_true h1
  exact hv
 | x,.bool b,u,h,hv=>by cases x <;> simp only [leV] at h <;> subst h <;> simpa [V.shift,aa] using hv
 | x,.kb b,u,h,hv=>by cases x <;> simp only [leV] at h <;> subst h <;> simpa [V.shift,aa] using hv
 | x,.str b,u,h,hv=>by cases x <;> simp only [leV] at h <;> subst h <;> exact hv
 | x,.nilptr,u,h,hv=>by cases x <;> simp only [leV] at h;exact hv
 | x,.nilfn,u,h,hv=>by cases x <;> simp only [leV] at h;exact hv
 | x,.nilmap,u,h,hv=>by cases x <;> simp only [leV] at h;exact hv
 | x,.nilsl,u,h,hv=>by cases x <;> simp only [leV] at h;exact hv
 | x,.esl,u,h,hv=>by cases x <;> simp only [leV] at h;exact hv
 | x,.fsl t xs,u,h,hv=>by
  cases x <;> simp only [leV] at h
  ·subst h;simp only [V.shift,aa] at hv ⊢;subst hv;exact .nil
  ·subst h;simp only [V.shift,aa] at hv ⊢;obtain ⟨a,rfl⟩:=hv;exact .nil
  ·cases h;exact hv
 | x,.osl t xs,u,h,hv=>by
  cases x <;> simp only [leV] at h
  obtain ⟨rfl,rfl⟩:=h;exact hv
 | x,.agg cs,u,h,hv=>by
  cases x <;> simp only [leV] at h
  simp only [V.shift,aa] at hv ⊢
  obtain ⟨l,rfl,hl⟩:=hv
  exact ⟨l,rfl,oe _ _ _ h hl⟩
 | x,.tup cs,u,h,hv=>by
  cases x <;> simp only [leV] at h
  simp only [V.shift,aa] at hv ⊢
  obtain ⟨l,rfl,hl⟩:=hv
  exact ⟨l,rfl,oe _ _ _ h hl⟩
 | x,.ptr _ _,u,h,hv=>by cases x <;> simp only [leV] at h
 | x,.fp _ _ _ _,u,h,hv=>by cases x <;> simp only [leV] at h
 | x,.rp _ _ _ _,u,h,hv=>by cases x <;> simp only [leV] at h
 | x,.fn _ _,u,h,hv=>by cases x <;> simp only [leV] at h
 | x,.hint _ _,u,h,hv=>by cases x <;> simp only [leV] at h
 | x,.gsl _ _ _ _ _,u,h,hv=>by cases x <;> simp only [leV] at h
 | x,.gp _ _ _,u,h,hv=>by cases x <;> simp only [leV] at h
 | x,.mpv _,u,h,hv=>by cases x <;> simp only [leV] at h
 | x,.av _ _,u,h,hv=>by cases x <;> simp only [leV] at h
theorem oe {E:Env} {m:Nat} :∀ (xs ys:List V) (us:List Value),tI xs ys→ab E (jG m xs) us→ab E (jG m ys) us
 | [],[],us,_,hv=>hv
 | [],_::_,_,h,_=>by simp [tI] at h
 | _::_,[],_,h,_=>by simp [tI] at h
 | x::xs,y::ys,us,h,hv=>by
  cases us with
  | nil=>simp [jG,ab] at hv
  | cons u us=>
   simp only [tI] at h
   simp only [jG,ab] at hv ⊢
   exact ⟨qx _ _ _ h.1 hv.1,oe _ _ _ h.2 hv.2⟩
end
mutual
theorem FK :∀ (x y:V),leV x y→y.noF=true→x.noF=true
 | x,.any,h,_=>by cases x <;> simp only [leV] at h;rfl
 | x,.int k n,h,_=>by cases x <;> simp only [leV] at h;rfl
 | x,.bool b,h,_=>by cases x <;> simp only [leV] at h <;> rfl
 | x,.kb b,h,_=>by cases x <;> simp only [leV] at h <;> rfl
 | x,.str b,h,_=>by cases x <;> simp only [leV] at h;rfl
 | x,.nilptr,h,_=>by cases x <;> simp only [leV] at h;rfl
 | x,.nilfn,h,_=>by cases x <;> simp only [leV] at h;rfl
 | x,.nilmap,h,_=>by cases x <;> simp only [leV] at h;rfl
 | x,.nilsl,h,_=>by cases x <;> simp only [leV] at h;rfl
 | x,.esl,h,_=>by cases x <;> simp only [leV] at h;rfl
 | x,.fsl t xs,h,hf=>by simp [V.noF] at hf
 | x,.osl t xs,h,_=>by cases x <;> simp only [leV] at h;rfl
 | x,.agg cs,h,hf=>by
  cases x <;> simp only [leV] at h
  simp only [V.noF] at hf ⊢
  exact tJ _ _ h hf
 | x,.tup cs,h,hf=>by
  cases x <;> simp only [leV] at h
  simp only [V.noF] at hf ⊢
  exact tJ _ _ h hf
 | x,.ptr _ _,h,_=>by cases x <;> simp only [leV] at h
 | x,.fp _ _ _ _,h,_=>by cases x <;> simp only [leV] at h
 | x,.rp _ _ _ _,h,_=>by cases x <;> simp only [leV] at h
 | x,.fn _ _,h,_=>by cases x <;> simp only [leV] at h
 | x,.hint _ _,h,_=>by cases x <;> simp only [leV] at h
 | x,.gsl _ _ _ _ _,h,_=>by cases x <;> simp only [leV] at h
 | x,.gp _ _ _,h,_=>by cases x <;> simp only [leV] at h
 | x,.mpv _,h,_=>by cases x <;> simp only [leV] at h
 | x,.av _ _,h,_=>by cases x <;> simp only [leV] at h
theorem tJ :∀ (xs ys:List V),tI xs ys→zN ys=true→zN xs=true
 | [],[],_,_=>rfl
 | [],_::_,h,_=>by simp [tI] at h
 | _::_,[],h,_=>by simp [tI] at h
 | x::xs,y::ys,h,hf=>by
  simp only [tI] at h
  simp only [zN,Bool.and_eq_true] at hf ⊢
  exact ⟨FK _ _ h.1 hf.1,tJ _ _ h.2 hf.2⟩
end
theorem fx {C:Cfg} (hC:CfgOK P C) (hP:P.follows .mixedOrders=true) {f:FuncId} {fn:Func} (hf:P.funcs[f]?=some fn) (hbody:fn.body.isSome=true) (hname :(fn.name == "runtime.NumGoroutine")=false) (hN:C.N=fn.ntmps)
  {ps:Ty} {spec:Den ps→PRes} {Λ:Den ps→Nat→Option LoopSum}
  (hΛ :∀ x:Den ps,wfD ps x→(∀ p∈(spec x).needs,p)→∀ c,fn.body=some c→∀ b∈aU (Λ x) c,∀ L,Λ x (rid b)=some L→LoopOK P C.N b L) (hlen :∀ x:Den ps,(dy ps x).length≤fn.ntmps)
  (h :∀ x:Den ps,wfD ps x→(∀ p∈(spec x).needs,p)→(evFn C (Λ x) fn (dy ps x)).sat fun v rows=>leV v (spec x).v∧rows =(spec x).rows):CtrOK P C.K f (aK C.K ps spec):=by
 refine ⟨⟨fn,hf,hbody,hname⟩,fun B E hE args av hav m hm ps' v dh hct hps=>?_⟩
 unfold aK at hct
 simp only at hct
 split at hct
 case h_2=>cases hct
 rename_i x hx
 cases hle:Nat.ble (spec x).rows.length C.K with
 | false=>rw [hle] at hct;cases hct
 | true=>
  rw [hle] at hct
  simp only [cond_true,Option.some.injEq,Prod.mk.injEq] at hct
  obtain ⟨rfl,rfl,rfl⟩:=hct
  obtain ⟨hSE,XS⟩:=cx hE (hss args)
  let E0:Env:=⟨fun _=>False,fun _=>none,(bh E (hss args)).S,E.w,fun _=>none⟩
  have hE0:HRel (A2 E.w (fun _=>False) (bh E (hss args)).S hE.glob0) E0:=by
   refine ⟨fun h b hx=>?_,fun b hb=>hSE.stab b hb,fun h k b hx=>?_,fun h h' k k' b hx=>?_,fun h k hx=>?_,Keeps.refl _ _,fun h k b hx=>?_,fun _ h=>h,fun _ h=> .inl h⟩ <;> cases hx
  obtain ⟨hav0,cs,hrd⟩:=iK hSE (Ec:=E0) rfl rfl (aR XS _ _ hav) hx
  have hwf:wfD ps x:=⟨_,_,_,hrd⟩
  have hl0:av.length≤fn.ntmps:=by rw [←aI hav0];exact hlen x
  refine Calls.mono (DE hC hP hf hN (hΛ x hwf hps) (h x hwf hps) hE0 (fun _=>trivial) rfl rfl (fun _ h=>h) hav0 hl0) fun e w' hr=>?_
  obtain ⟨Ec,v',v0,v,acc,rfl,hEc,rfl,hv,hcan,hq1,hq2⟩:=hr
  have hcs:=sD hEc m v0 [] v acc v' hcan hv
  have hacc:=hcs.acc ⟨by simp,fun h r hr=>by simp at hr⟩
  have hlenK:acc.length≤C.K:=by
   have:=Nat.le_of_ble_eq_true hle
   rw [←hq2] at this
   simpa using this
  cases hfl :(spec x).flat with
  | true=>
   simp only [PRes.flat,Bool.and_eq_true,List.all_eq_true] at hfl
   obtain ⟨E',G,hren,_⟩:=HW hE hm (S1:=(bh E (hss args)).S) (fun b hb=> .inl hb) hEc hacc hlenK (.inr fun q hq=>hfl.2 _ (by rw [←hq2];exact List.mem_map_of_mem hq))
   refine ⟨E',v',rfl,?_,?_⟩
   ·simp only [cond_true,List.append_nil]
    rw [←hq2];exact G
   ·exact qx _ _ _ hq1 (hcs.rel E' G.w (.inr (FK _ _ hq1 hfl.1)) hren)
  | false=>
   have hm' :∀ n,m≤n→n<m+C.K→¬(bh E (hss args)).U n:=hm
   obtain ⟨E',G,hren,hs⟩:=HW hSE hm' (S1:=(bh E (hss args)).S) (fun b hb=>hb) hEc hacc hlenK (.inl fun b hb=>hb)
   refine ⟨E',v',rfl,⟨G.rel,XS.trans G.ext,G.w,?_,G.u⟩,?_⟩
   ·rw [G.h,hq2]
    simp only [cond_false]
    rw [bT]
    congr 1
    funext h
    exact (kJ E.H (hss args) h).symm
   ·exact qx _ _ _ hq1 (hcs.rel E' G.w (.inl (hs fun b hb=>hb)) hren)
end
section
open Go.RowKit
variable {P:Program}
structure Nam where
 σ:List (Nat×Nat)
 Z:List Nat
 nx:Nat
def Nam.at (M:Nam) (n:Nat):Nat:=match find M.σ n with|some k=>k|none=>n
def Nam.is (M:Nam) (n k:Nat):Bool:=Nat.blt n M.nx&&(Nat.beq (M.at n) k&&!memN M.Z n)
def Nam.vs (M:Nam) (n k:Nat):Bool:=Nat.blt n M.nx&&Nat.beq (M.at n) k
mutual
def cE (M:Nam):V→V→Prop
 | _,.any=>True
 | .int k n,.int k' n'=>ifB (decide (k=k')) (n=n')
 | .bool b,.bool b'=>b=b'
 | .bool b,.kb b'=>b=b'
 | .kb b,.bool b'=>b=b'
 | .kb b,.kb b'=>b=b'
 | .str s,.str s'=>s=s'
 | .nilptr,.nilptr=>True
 | .nilfn,.nilfn=>True
 | .nilmap,.nilmap=>True
 | .nilsl,.nilsl=>True
 | .esl,.esl=>True
 | .nilsl,.esl=>True
 | .nilsl,.fsl _ xs=>xs=[]
 | .esl,.fsl _ xs=>xs=[]
 | .fsl t xs,.fsl t' xs'=>RowD.mk t xs=RowD.mk t' xs'
 | .ptr h off,.ptr h' off'=>ifB (M.is h' h&&Nat.beq off off') True
 | .fp t xs i off,.fp t' xs' i' off'=>ifB (Nat.beq off off') (RowD.mk t xs=RowD.mk t' xs'∧i=i')
 | .rp h ver i off,.rp h' ver' i' off'=>ifB (M.is h' h&&M.vs ver' ver&&Nat.beq off off') (i=i')
 | .osl h ver,.osl h' ver'=>ifB (M.is h' h&&M.vs ver' ver) True
 | .gsl h ver e o l,.gsl h' ver' e' o' l'=>ifB (M.is h' h&&M.vs ver' ver&&(Nat.beq e e'&&Nat.beq o o'&&Nat.beq l l')) True
 | .nilsl,.osl h' ver'=>ifB (memN M.Z h'&&Nat.blt h' M.nx&&Nat.blt ver' M.nx) True
 | .esl,.osl h' ver'=>ifB (memN M.Z h'&&Nat.blt h' M.nx&&Nat.blt ver' M.nx) True
 | .av k h,.av k' h'=>ifB (M.is h' h&&Nat.beq k k') True
 | .fn f cs,.fn f' cs'=>ifB (Nat.beq f f') (fA M cs cs')
 | .agg cs,.agg cs'=>fA M cs cs'
 | .tup cs,.tup cs'=>fA M cs cs'
 | _,_=>False
def fA (M:Nam):List V→List V→Prop
 | [],[]=>True
 | x::xs,y::ys=>cE M x y∧fA M xs ys
 | _,_=>False
end
def fT (M:Nam):Blk→Blk→Prop
 | .cells cs,.cells cs'=>fA M cs cs'
 | .row ver rw t xs,.row ver' rw' t' xs'=>ifB (M.vs ver' ver&&(rw==rw')) (RowD.mk t xs=RowD.mk t' xs')
 | .grow ver e cs,.grow ver' e' cs'=>ifB (M.vs ver' ver&&Nat.beq e e') (fA M cs cs')
 | .abs k t x,.abs k' t' x'=>ifB (Nat.beq k k') (AbsD.mk t x=AbsD.mk t' x')
 | _,_=>False
def Gm (M:Nam) (tm:List (Nat×V)):List (Nat×V)→Prop
 | []=>True
 |(s,v)::r=>cE M (cA tm s) v∧Gm M tm r
def rE (M:Nam):Blk→Prop
 | .row ver _ _ xs=>ifB (Nat.blt ver M.nx) (xs=[])
 | _=>False
def nS (M:Nam) (H:aw):List (Nat×Blk)→Prop
 | []=>True
 |(h,k)::r=>ifB (Nat.blt h M.nx) (match memN M.Z h with
   | true=>rE M k
   | false=>match H (M.at h) with
    | some k0=>fT M k0 k
    | none=>False)∧nS M H r
def iH:List Nat→Bool
 | []=>true
 | x::xs=>!memN xs x&&iH xs
theorem nodupN_iff {l:List Nat}:iH l=true↔l.Nodup:=by
 induction l with
 | nil=>simp [iH]
 | cons x xs ih=>
  simp only [iH,Bool.and_eq_true,ih,List.nodup_cons,Bool.not_eq_true']
  constructor
  ·rintro ⟨h1,h2⟩;exact ⟨(fun h=>by rw [memN_iff.2 h] at h1;cases h1),h2⟩
  ·rintro ⟨h1,h2⟩;exact ⟨by cases h:memN xs x with|true=>exact absurd (memN_iff.1 h) h1|false=>rfl,h2⟩
theorem eA {α β:Type} {f:α→β} :∀ {l:List α},(l.map f).Nodup→∀ {x y:α},x∈l→y∈l→f x=f y→x=y
 | [],_,_,_,hx,_,_=>by simp at hx
 | a::l,h,x,y,hx,hy,e=>by
  simp only [List.map_cons,List.nodup_cons,List.mem_map,not_exists,not_and] at h
  rcases List.mem_cons.1 hx with h1|h1
  ·rcases List.mem_cons.1 hy with h2|h2
   ·rw [h1,h2]
   ·exact absurd (by rw [←e,h1]) (h.1 y h2)
  ·rcases List.mem_cons.1 hy with h2|h2
   ·exact absurd (by rw [e,h2]) (h.1 x h1)
   ·exact eA h.2 h1 h2 e
def Sub (M:Nam) (s:St) (tm:List (Nat×V)) (hp:List (Nat×Blk)):Prop:=
 ifB (iH (((hp.map (·.1)).filter fun h=>!memN M.Z h).map M.at)) (Gm M s.tm tm∧nS M s.H hp)
def bc (M:Nam) (E:Env) (hp:List (Nat×Blk)):Env:=⟨fun n=>n<M.nx,fun h=>if memN M.Z h then none else E.ρ (M.at h),E.S,E.w,au (fun _=>none) hp⟩
theorem dM {M:Nam} {H:aw} :∀ {hp:List (Nat×Blk)} {h:Nat} {k:Blk},nS M H hp→(h,k)∈hp→h<M.nx∧((memN M.Z h=true∧rE M k)∨(memN M.Z h=false∧∃ k0,H (M.at h)=some k0∧fT M k0 k))
 | [],_,_,_,hm=>by simp at hm
 |(n,v)::r,h,k,hs,hm=>by
  simp only [nS] at hs
  rcases List.mem_cons.1 hm with hm|hm
  ·cases hm
   obtain ⟨h1,h2⟩:=ifB_iff.1 hs.1
   refine ⟨by simpa using h1,?_⟩
   cases hz:memN M.Z n with
   | true=>rw [hz] at h2;exact .inl ⟨rfl,h2⟩
   | false=>
    rw [hz] at h2
    simp only at h2
    split at h2
    ·rename_i k0 hk;exact .inr ⟨rfl,k0,hk,h2⟩
    ·exact h2.elim
  ·exact dM hs.2 hm
section
variable {M:Nam} {E:Env} {hp:List (Nat×Blk)}
theorem is_iff {n k:Nat}:M.is n k=true↔n<M.nx∧M.at n=k∧memN M.Z n=false:=by
 simp only [Nam.is,Bool.and_eq_true,Nat.blt_eq,Nat.beq_eq,Bool.not_eq_true']
theorem vs_iff {n k:Nat}:M.vs n k=true↔n<M.nx∧M.at n=k:=by
 simp only [Nam.vs,Bool.and_eq_true,Nat.blt_eq,Nat.beq_eq]
theorem La (hh:nS M E.H hp) {h ver:Nat} {rw:Bool} {t:Ty} {xs:List (Den t)} (hx:au (fun _=>none) hp h=some (.row ver rw t xs)) :
  (memN M.Z h=true∧xs=[])∨(memN M.Z h=false∧E.H (M.at h)=some (.row (M.at ver) rw t xs)):=by
 have hf:find hp h=some (.row ver rw t xs):=by unfold au at hx;cases hf:find hp h with|some k=>rw [hf] at hx;exact hx|none=>rw [hf] at hx;cases hx
 obtain ⟨_,h2⟩:=dM hh (ag hf)
 rcases h2 with ⟨hz,h3⟩ |⟨hz,k0,h3,h4⟩
 ·simp only [rE] at h3
  exact .inl ⟨hz,(ifB_iff.1 h3).2⟩
 ·cases k0 with
  | cells=>simp [fT] at h4
  | grow=>simp [fT] at h4
  | mp=>simp [fT] at h4
  | abs=>simp [fT] at h4
  | row ver0 rw0 t0 xs0=>
   simp only [fT] at h4
   obtain ⟨h5,h6⟩:=ifB_iff.1 h4
   simp only [Bool.and_eq_true,beq_iff_eq] at h5
   obtain ⟨_,h7⟩:=vs_iff.1 h5.1
   cases h6
   rw [h3,←h7,h5.2]
   exact .inr ⟨hz,rfl⟩
theorem uQ (hh:nS M E.H hp) {h:Nat} {cs:List V} (hx:au (fun _=>none) hp h=some (.cells cs)):memN M.Z h=false∧∃ cs0,E.H (M.at h)=some (.cells cs0)∧fA M cs0 cs:=by
 have hf:find hp h=some (.cells cs):=by unfold au at hx;cases hf:find hp h with|some k=>rw [hf] at hx;exact hx|none=>rw [hf] at hx;cases hx
 obtain ⟨_,h2⟩:=dM hh (ag hf)
 rcases h2 with ⟨hz,h3⟩ |⟨hz,k0,h3,h4⟩
 ·simp [rE] at h3
 ·cases k0 with
  | cells cs0=>exact ⟨hz,cs0,h3,h4⟩
  | row=>simp [fT] at h4
  | grow=>simp [fT] at h4
  | mp=>simp [fT] at h4
  | abs=>simp [fT] at h4
theorem K9 (hh:nS M E.H hp) {h k:Nat} {t:Ty} {x:Den t} (hx:au (fun _=>none) hp h=some (.abs k t x)):memN M.Z h=false∧E.H (M.at h)=some (.abs k t x):=by
 have hf:find hp h=some (.abs k t x):=by unfold au at hx;cases hf:find hp h with|some k=>rw [hf] at hx;exact hx|none=>rw [hf] at hx;cases hx
 obtain ⟨_,h2⟩:=dM hh (ag hf)
 rcases h2 with ⟨_,h3⟩ |⟨hz,k0,h3,h4⟩
 ·simp [rE] at h3
 ·cases k0 with
  | cells=>simp [fT] at h4
  | row=>simp [fT] at h4
  | grow=>simp [fT] at h4
  | mp=>simp [fT] at h4
  | abs k0 t0 x0=>
   simp only [fT] at h4
   obtain ⟨h5,h6⟩:=ifB_iff.1 h4
   simp only [Nat.beq_eq] at h5
   subst h5
   cases h6
   exact ⟨hz,h3⟩
theorem HJ (hh:nS M E.H hp) {h:Nat} {es:List (V×V)} (hx:au (fun _=>none) hp h=some (.mp es)):False:=by
 have hf:find hp h=some (.mp es):=by unfold au at hx;cases hf:find hp h with|some k=>rw [hf] at hx;exact hx|none=>rw [hf] at hx;cases hx
 obtain ⟨_,h2⟩:=dM hh (ag hf)
 rcases h2 with ⟨_,h3⟩ |⟨_,k0,_,h4⟩
 ·simp [rE] at h3
 ·cases k0 <;> simp [fT] at h4
theorem ye (hh:nS M E.H hp) {h ver esz:Nat} {cs:List V} (hx:au (fun _=>none) hp h=some (.grow ver esz cs)):memN M.Z h=false∧ver<M.nx∧∃ cs0,E.H (M.at h)=some (.grow (M.at ver) esz cs0)∧fA M cs0 cs:=by
 have hf:find hp h=some (.grow ver esz cs):=by unfold au at hx;cases hf:find hp h with|some k=>rw [hf] at hx;exact hx|none=>rw [hf] at hx;cases hx
 obtain ⟨_,h2⟩:=dM hh (ag hf)
 rcases h2 with ⟨hz,h3⟩ |⟨hz,k0,h3,h4⟩
 ·simp [rE] at h3
 ·cases k0 with
  | cells=>simp [fT] at h4
  | row=>simp [fT] at h4
  | mp=>simp [fT] at h4
  | abs=>simp [fT] at h4
  | grow ver0 esz0 cs0=>
   simp only [fT] at h4
   obtain ⟨h5,h6⟩:=ifB_iff.1 h4
   simp only [Bool.and_eq_true,Nat.beq_eq] at h5
   obtain ⟨h7,h8⟩:=vs_iff.1 h5.1
   rw [h3,h8,←h5.2]
   exact ⟨hz,h7,cs0,rfl,h6⟩
structure HSub0 (M:Nam) (E:Env) (hp:List (Nat×Blk)):Prop where
 lt :∀ h k,find hp h=some k→h<M.nx
 row :∀ (h ver:Nat) (rw:Bool) (t:Ty) (xs:List (Den t)),find hp h=some (.row ver rw t xs)→ver<M.nx∧((memN M.Z h=true∧xs=[])∨(memN M.Z h=false∧E.H (M.at h)=some (.row (M.at ver) rw t xs)))
 cells :∀ h cs,find hp h=some (.cells cs)→memN M.Z h=false∧∃ cs0,E.H (M.at h)=some (.cells cs0)
 grow :∀ h ver esz cs,find hp h=some (.grow ver esz cs)→memN M.Z h=false∧ver<M.nx∧∃ cs0,E.H (M.at h)=some (.grow (M.at ver) esz cs0)∧cs0.length=cs.length
 nomp :∀ h es,find hp h=some (.mp es)→False
 abs :∀ (h k:Nat) (t:Ty) (x:Den t),find hp h=some (.abs k t x)→memN M.Z h=false∧E.H (M.at h)=some (.abs k t x)
theorem aC {hp:List (Nat×Blk)} {h:Nat} {k:Blk} (hx:au (fun _=>none) hp h=some k):find hp h=some k:=by
 unfold au at hx;cases hf:find hp h with|some k=>rw [hf] at hx;exact hx|none=>rw [hf] at hx;cases hx
theorem cr {hp:List (Nat×Blk)} {h:Nat} {k:Blk} (hx:find hp h=some k):au (fun _=>none) hp h=some k:=by
 unfold au;rw [hx]
theorem Gn (hh:HSub0 M E hp) {h ver:Nat} {rw:Bool} {t:Ty} {xs:List (Den t)} (hx:au (fun _=>none) hp h=some (.row ver rw t xs)) :
  (memN M.Z h=true∧xs=[])∨(memN M.Z h=false∧E.H (M.at h)=some (.row (M.at ver) rw t xs)):=(hh.row _ _ _ _ _ (aC hx)).2
theorem HH (hh:HSub0 M E hp) {h:Nat} {cs:List V} (hx:au (fun _=>none) hp h=some (.cells cs)):memN M.Z h=false∧∃ cs0,E.H (M.at h)=some (.cells cs0):=hh.cells _ _ (aC hx)
theorem M6 (hh:HSub0 M E hp) {h k:Nat} {t:Ty} {x:Den t} (hx:au (fun _=>none) hp h=some (.abs k t x)):memN M.Z h=false∧E.H (M.at h)=some (.abs k t x):=hh.abs _ _ _ _ (aC hx)
theorem K4 (hh:HSub0 M E hp) {h ver esz:Nat} {cs:List V} (hx:au (fun _=>none) hp h=some (.grow ver esz cs)):memN M.Z h=false∧ver<M.nx∧∃ cs0,E.H (M.at h)=some (.grow (M.at ver) esz cs0)∧cs0.length=cs.length:=hh.grow _ _ _ _ (aC hx)
theorem yc {M:Nam} :∀ {xs ys:List V},fA M xs ys→xs.length=ys.length
 | [],[],_=>rfl
 | _::_,[],h=>by simp [fA] at h
 | [],_::_,h=>by simp [fA] at h
 | x::xs,y::ys,h=>by simp only [fA] at h;simp [yc h.2]
mutual
theorem iX (hh:HSub0 M E hp) :∀ (x v:V) (u:Value),cE M x v→aa E x u→aa (bc M E hp) v u
 | x,.any,u,_,_=>by simp [aa]
 | x,.int k n,u,h,hv=>by
  cases x <;> simp only [cE] at h
  obtain ⟨h1,rfl⟩:=ifB_iff.1 h
  obtain rfl:=of_decide_eq_true h1
  simpa [aa] using hv
 | x,.bool b,u,h,hv=>by
  cases x <;> simp only [cE] at h
  all_goals subst h;simpa [aa] using hv
 | x,.kb b,u,h,hv=>by
  cases x <;> simp only [cE] at h
  all_goals subst h;simpa [aa] using hv
 | x,.str s,u,h,hv=>by
  cases x <;> simp only [cE] at h
  subst h;simpa [aa] using hv
 | x,.nilptr,u,h,hv=>by cases x <;> simp only [cE] at h;simpa [aa] using hv
 | x,.hint _ _,u,h,hv=>by cases x <;> simp only [cE] at h
 | x,.nilfn,u,h,hv=>by cases x <;> simp only [cE] at h;simpa [aa] using hv
 | x,.nilmap,u,h,hv=>by cases x <;> simp only [cE] at h;simpa [aa] using hv
 | x,.nilsl,u,h,hv=>by cases x <;> simp only [cE] at h;simpa [aa] using hv
 | x,.esl,u,h,hv=>by
  cases x <;> simp only [cE] at h
  ·simp only [aa] at hv ⊢;exact ⟨_,hv⟩
  ·simpa [aa] using hv
 | x,.fsl t xs,u,h,hv=>by
  cases x <;> simp only [cE] at h
  ·subst h;simp only [aa] at hv ⊢;subst hv;exact .nil
  ·subst h;simp only [aa] at hv ⊢;obtain ⟨a,rfl⟩:=hv;exact .nil
  ·cases h;simpa [aa,bc] using hv
 | x,.ptr h0 off,u,h,hv=>by
  cases x <;> simp only [cE] at h
  obtain ⟨h1,_⟩:=ifB_iff.1 h
  simp only [Bool.and_eq_true,Nat.beq_eq] at h1
  obtain ⟨h2,rfl⟩:=h1
  obtain ⟨h3,rfl,hz⟩:=is_iff.1 h2
  simp only [aa] at hv ⊢
  refine ⟨h3,hv.2.1,fun cs hx=>?_⟩
  obtain ⟨_,cs0,hx0⟩:=HH hh hx
  obtain ⟨b,hb,hu⟩:=hv.2.2 _ hx0
  exact ⟨b,by simp only [bc,hz,Bool.false_eq_true,if_false];exact hb,hu⟩
 | x,.fp t xs i off,u,h,hv=>by
  cases x <;> simp only [cE] at h
  obtain ⟨h1,h2,rfl⟩:=ifB_iff.1 h
  simp only [Nat.beq_eq] at h1
  subst h1
  cases h2
  simpa [aa,bc] using hv
 | x,.rp h0 ver i off,u,h,hv=>by
  cases x <;> simp only [cE] at h
  obtain ⟨h1,rfl⟩:=ifB_iff.1 h
  simp only [Bool.and_eq_true,Nat.beq_eq] at h1
  obtain ⟨⟨h2,h4⟩,rfl⟩:=h1
  obtain ⟨h3,rfl,hz⟩:=is_iff.1 h2
  obtain ⟨h5,rfl⟩:=vs_iff.1 h4
  simp only [aa] at hv ⊢
  refine ⟨h3,h5,hv.2.2.1,fun rw t xs hx=>?_⟩
  rcases Gn hh hx with ⟨hz',_⟩ |⟨_,hx0⟩
  ·rw [hz] at hz';cases hz'
  ·obtain ⟨b,hb,hu⟩:=hv.2.2.2 _ _ _ hx0
   exact ⟨b,by simp only [bc,hz,Bool.false_eq_true,if_false];exact hb,hu⟩
 | x,.osl h0 ver,u,h,hv=>by
  have zero :∀ (a:Option Addr),u = .slice a 0 0→(memN M.Z h0&&Nat.blt h0 M.nx&&Nat.blt ver M.nx)=true→aa (bc M E hp) (.osl h0 ver) u:=fun a hu h1=>by
   simp only [Bool.and_eq_true,Nat.blt_eq] at h1
   simp only [aa]
   refine ⟨h1.1.2,h1.2,⟨_,_,_,hu⟩,fun rw t xs hx=> .inl ⟨by simp only [bc,h1.1.1,if_true],a,hu⟩⟩
  cases x <;> simp only [cE] at h
  ·simp only [aa] at hv;exact zero none hv (ifB_iff.1 h).1
  ·simp only [aa] at hv;obtain ⟨a,hv⟩:=hv;exact zero a hv (ifB_iff.1 h).1
  ·obtain ⟨h1,_⟩:=ifB_iff.1 h
   simp only [Bool.and_eq_true] at h1
   obtain ⟨h3,rfl,hz⟩:=is_iff.1 h1.1
   obtain ⟨h5,rfl⟩:=vs_iff.1 h1.2
   simp only [aa] at hv ⊢
   refine ⟨h3,h5,hv.2.2.1,fun rw t xs hx=>?_⟩
   rcases Gn hh hx with ⟨hz',_⟩ |⟨_,hx0⟩
   ·rw [hz] at hz';cases hz'
   ·have e :(bc M E hp).ρ h0=E.ρ (M.at h0):=by simp only [bc,hz,Bool.false_eq_true,if_false]
    rw [e]
    exact hv.2.2.2 _ _ _ hx0
 | x,.fn f cs,u,h,hv=>by
  cases x <;> simp only [cE] at h
  obtain ⟨h1,h2⟩:=ifB_iff.1 h
  simp only [Nat.beq_eq] at h1
  subst h1
  simp only [aa] at hv ⊢
  obtain ⟨l,rfl,hl⟩:=hv
  exact ⟨l,rfl,fi hh _ _ _ h2 hl⟩
 | x,.agg cs,u,h,hv=>by
  cases x <;> simp only [cE] at h
  simp only [aa] at hv ⊢
  obtain ⟨l,rfl,hl⟩:=hv
  exact ⟨l,rfl,fi hh _ _ _ h hl⟩
 | x,.tup cs,u,h,hv=>by
  cases x <;> simp only [cE] at h
  simp only [aa] at hv ⊢
  obtain ⟨l,rfl,hl⟩:=hv
  exact ⟨l,rfl,fi hh _ _ _ h hl⟩
 | x,.gsl h0 ver e o l,u,h,hv=>by
  cases x <;> simp only [cE] at h
  obtain ⟨h1,_⟩:=ifB_iff.1 h
  simp only [Bool.and_eq_true,Nat.beq_eq] at h1
  obtain ⟨⟨h2,h4⟩,⟨rfl,rfl⟩,rfl⟩:=h1
  obtain ⟨h3,rfl,hz⟩:=is_iff.1 h2
  obtain ⟨h5,rfl⟩:=vs_iff.1 h4
  simp only [aa] at hv ⊢
  refine ⟨h3,h5,hv.2.2.1,fun cs hx=>?_⟩
  obtain ⟨_,_,cs0,hx0,hs⟩:=K4 hh hx
  obtain ⟨b,cap,c,T,fr,q1,q2,q3,q4,q5,q6⟩:=hv.2.2.2 _ hx0
  exact ⟨b,cap,c,T,fr,by simp only [bc,hz,Bool.false_eq_true,if_false];exact q1,q2,q3,q4,q5,by rw [←hs];exact q6⟩
 | x,.gp _ _ _,u,h,hv=>by cases x <;> simp only [cE] at h
 | x,.mpv _,u,h,hv=>by cases x <;> simp only [cE] at h
 | x,.av k h0,u,h,hv=>by
  cases x <;> simp only [cE] at h
  obtain ⟨h1,_⟩:=ifB_iff.1 h
  simp only [Bool.and_eq_true,Nat.beq_eq] at h1
  obtain ⟨h2,rfl⟩:=h1
  obtain ⟨h3,rfl,hz⟩:=is_iff.1 h2
  simp only [aa] at hv ⊢
  refine ⟨h3,hv.2.1,fun t x hx=>?_⟩
  obtain ⟨_,hx0⟩:=M6 hh hx
  obtain ⟨b,hb,hu⟩:=hv.2.2 _ _ hx0
  exact ⟨b,by simp only [bc,hz,Bool.false_eq_true,if_false];exact hb,hu⟩
theorem fi (hh:HSub0 M E hp) :∀ (xs vs:List V) (us:List Value),fA M xs vs→ab E xs us→ab (bc M E hp) vs us
 | [],[],us,_,hv=>by cases us <;> simp_all [ab]
 | [],_::_,_,h,_=>by simp [fA] at h
 | _::_,[],_,h,_=>by simp [fA] at h
 | x::xs,v::vs,us,h,hv=>by
  cases us with
  | nil=>simp [ab] at hv
  | cons u us=>
   simp only [fA] at h
   simp only [ab] at hv ⊢
   exact ⟨iX hh _ _ _ h.1 hv.1,fi hh _ _ _ h.2 hv.2⟩
end
theorem uN {tm:List (Nat×V)} :∀ {tm':List (Nat×V)} {s:Nat} {v:V},Gm M tm tm'→(s,v)∈tm'→cE M (cA tm s) v
 | [],_,_,_,hm=>by simp at hm
 |(n,x)::r,s,v,h,hm=>by
  simp only [Gm] at h
  rcases List.mem_cons.1 hm with hm|hm
  ·cases hm;exact h.1
  ·exact uN h.2 hm
structure HSub (M:Nam) (E:Env) (hp:List (Nat×Blk)):Prop extends HSub0 M E hp where
 rcells :∀ h cs cs0,find hp h=some (.cells cs)→E.H (M.at h)=some (.cells cs0)→∀ l,ab E cs0 l→ab (bc M E hp) cs l
 rgrow :∀ h ver esz cs cs0,find hp h=some (.grow ver esz cs)→E.H (M.at h)=some (.grow (M.at ver) esz cs0)→∀ l,ab E cs0 l→ab (bc M E hp) cs l
theorem HG (hh:nS M E.H hp):HSub M E hp:=by
 have h0:HSub0 M E hp:=by
  refine ⟨fun h k hf=>(dM hh (ag hf)).1,fun h ver rw t xs hf=>⟨?_,La hh (cr hf)⟩,fun h cs hf=>?_,fun h ver esz cs hf=>?_,fun h es hf=>HJ hh (cr hf),fun h k t x hf=>K9 hh (cr hf)⟩
  ·obtain ⟨_,h2⟩:=dM hh (ag hf)
   rcases h2 with ⟨_,h3⟩ |⟨_,k0,_,h4⟩
   ·simp only [rE] at h3;simpa using (ifB_iff.1 h3).1
   ·cases k0 with
    | cells=>simp [fT] at h4
    | grow=>simp [fT] at h4
    | mp=>simp [fT] at h4
    | abs=>simp [fT] at h4
    | row=>
     simp only [fT] at h4
     have:=(ifB_iff.1 h4).1
     simp only [Bool.and_eq_true] at this
     exact (vs_iff.1 this.1).1
  ·obtain ⟨hz,cs0,hx,_⟩:=uQ hh (cr hf)
   exact ⟨hz,cs0,hx⟩
  ·obtain ⟨hz,hv,cs0,hx,hs⟩:=ye hh (cr hf)
   exact ⟨hz,hv,cs0,hx,yc hs⟩
 refine ⟨h0,fun h cs cs0 hf hx l hl=>?_,fun h ver esz cs cs0 hf hx l hl=>?_⟩
 ·obtain ⟨_,cs1,hx1,hs⟩:=uQ hh (cr hf)
  rw [hx] at hx1;cases hx1
  exact fi h0 _ _ _ hs hl
 ·obtain ⟨_,_,cs1,hx1,hs⟩:=ye hh (cr hf)
  rw [hx] at hx1;cases hx1
  exact fi h0 _ _ _ hs hl
theorem CZ (hh:HSub0 M E hp) {h b:Nat} {k:Blk} (hf:find hp h=some k) (hb:Tch (bc M E hp) h k b):memN M.Z h=false∧∃ k0,E.H (M.at h)=some k0∧Tch E (M.at h) k0 b:=by
 cases ha:k.isAbs with
 | true=>
  cases k <;> cases ha
  rename_i kk t x
  obtain ⟨hz,h0⟩:=hh.abs _ _ _ _ hf
  exact ⟨hz,_,h0,Tch.mv (E':=bc M E hp) (by simp only [bc,hz,Bool.false_eq_true,if_false]) (fun _ _=>rfl) hb⟩
 | false=>
  replace hb:=hb.of ha
  have hz:memN M.Z h=false:=by
   cases hz:memN M.Z h with
   | false=>rfl
   | true=>simp only [bc,hz,if_true] at hb;cases hb
  simp only [bc,hz,Bool.false_eq_true,if_false] at hb
  refine ⟨hz,?_⟩
  cases k with
  | cells cs=>obtain ⟨_,cs0,h⟩:=hh.cells _ _ hf;exact ⟨_,h,.inl hb⟩
  | row ver rw t xs=>
   rcases (hh.row _ _ _ _ _ hf).2 with ⟨hz',_⟩ |⟨_,h⟩
   ·rw [hz] at hz';cases hz'
   ·exact ⟨_,h,.inl hb⟩
  | grow ver esz cs=>obtain ⟨_,_,cs0,h,_⟩:=hh.grow _ _ _ _ hf;exact ⟨_,h,.inl hb⟩
  | mp es=>exact (hh.nomp _ _ hf).elim
  | abs=>cases ha
theorem mI {B:Base} (hE:HRel B E) (hh:HSub M E hp) (hn:iH (((hp.map (·.1)).filter fun h=>!memN M.Z h).map M.at)=true):HRel B (bc M E hp):=by
 have hfind :∀ h k,(bc M E hp).H h=some k→find hp h=some k:=fun h k hx=>aC hx
 have old :∀ h k b,(bc M E hp).H h=some k→Tch (bc M E hp) h k b→memN M.Z h=false∧∃ k0,E.H (M.at h)=some k0∧Tch E (M.at h) k0 b:=fun h k b hx hb=>CZ hh.toHSub0 (hfind _ _ hx) hb
 refine ⟨fun h k hx=>hh.lt _ _ (hfind _ _ hx),hE.stab,fun h k b hx hb=>?_,fun h h' k k' b h1 h2 b1 b2=>?_,fun h k hx=>?_,hE.keeps,fun h k b hx hb=>?_,hE.s0,hE.sb⟩
 ·obtain ⟨_,k0,h1,h2⟩:=old h k b hx hb
  exact hE.lt' _ _ _ h1 h2
 ·obtain ⟨z1,q1,x1,y1⟩:=old h k b h1 b1
  obtain ⟨z2,q2,x2,y2⟩:=old h' k' b h2 b2
  have e:=hE.inj' _ _ _ _ _ x1 x2 y1 y2
  have nd:=nodupN_iff.1 hn
  have mem :∀ {h k},(h,k)∈hp→memN M.Z h=false→h∈((hp.map (·.1)).filter fun h=>!memN M.Z h):=fun {h k} hm hz=>by
   rw [List.mem_filter]
   exact ⟨List.mem_map.2 ⟨_,hm,rfl⟩,by simp [hz]⟩
  exact eA nd (mem (ag (hfind _ _ h1)) z1) (mem (ag (hfind _ _ h2)) z2) e
 ·cases k with
  | cells cs=>
   obtain ⟨hz,cs0,hx0⟩:=hh.cells _ _ (hfind _ _ hx)
   obtain ⟨b,c,T,fr,h1,h2,h3,h4,h5⟩:=hE.blk _ _ hx0
   exact ⟨b,c,T,fr,by simp only [bc,hz,Bool.false_eq_true,if_false];exact h1,h2,h3,h4,hh.rcells _ _ _ (hfind _ _ hx) hx0 _ h5⟩
  | row ver rw t xs=>
   obtain ⟨hv,hr⟩:=hh.row _ _ _ _ _ (hfind _ _ hx)
   refine ⟨hv,?_⟩
   rcases hr with ⟨hz,rfl⟩ |⟨hz,hx0⟩
   ·exact .inl ⟨by simp only [bc,hz,if_true],rfl⟩
   ·have e :(bc M E hp).ρ h=E.ρ (M.at h):=by simp only [bc,hz,Bool.false_eq_true,if_false]
    rw [e]
    exact (hE.blk _ _ hx0).2
  | grow ver esz cs=>
   obtain ⟨hz,hv,cs0,hx0,hl⟩:=hh.grow _ _ _ _ (hfind _ _ hx)
   obtain ⟨_,b,c,T,fr,h1,h2,h3,h4,h5⟩:=hE.blk _ _ hx0
   exact ⟨hv,b,c,T,fr,by simp only [bc,hz,Bool.false_eq_true,if_false];exact h1,h2,h3,h4,by rw [←hl];exact hh.rgrow _ _ _ _ _ (hfind _ _ hx) hx0 _ h5⟩
  | mp=>exact (hh.nomp _ _ (hfind _ _ hx)).elim
  | abs kk t x=>
   obtain ⟨hz,hx0⟩:=hh.abs _ _ _ _ (hfind _ _ hx)
   obtain ⟨b,h1,h2,h3,h4⟩:=hE.blk _ _ hx0
   exact ⟨b,by simp only [bc,hz,Bool.false_eq_true,if_false];exact h1,h2,h3,h4⟩
 ·obtain ⟨_,k0,h1,h2⟩:=old h k b hx hb
  exact hE.own' _ _ _ h1 h2
def FI (M:Nam) (n:Nat):Bool:=Nat.beq (M.at n) n&&!memN M.Z n
def Lm:Blk→Option Nat
 | .row v _ _ _=>some v
 | .grow v _ _=>some v
 | _=>none
def zZ:List (Nat×Blk)→List (Nat×Option Nat)
 | []=> []
 |(h,b)::l=>(h,Lm b)::zZ l
def uh (p:Nat) (M:Nam) (h:Nat):Option Nat→Bool
 | none=>FI M h
 | some v=>bif Nat.blt v p then FI M h&&Nat.beq (M.at v) v else true
def iL (p:Nat) (M:Nam):List (Nat×Option Nat)→Bool
 | []=>Nat.ble p M.nx
 |(h,o)::l=>bif (bif Nat.blt h p then uh p M h o else true) then iL p M l else false
theorem xP {p:Nat} {M:Nam} :∀ {l:List (Nat×Option Nat)},iL p M l=true→p≤M.nx
 | [],h=>Nat.le_of_ble_eq_true h
 |(n,o)::l,h=>by
  simp only [iL] at h
  cases hb :(bif Nat.blt n p then uh p M n o else true) with
  | true=>rw [hb] at h;exact xP (l:=l) h
  | false=>rw [hb] at h;cases h
theorem oz {p:Nat} {M:Nam} :∀ {l:List (Nat×Option Nat)},iL p M l=true→∀ {n:Nat} {o:Option Nat},(n,o)∈l→n<p→uh p M n o=true
 |(k,o')::l,h,n,o,hm,hn=>by
  simp only [iL] at h
  cases hb :(bif Nat.blt k p then uh p M k o' else true) with
  | true=>
   rw [hb] at h
   rcases List.mem_cons.1 hm with he|hm
   ·obtain ⟨h1,h2⟩:=Prod.mk.inj he
    subst h1 h2
    rw [show Nat.blt _ p=true from by simpa [Nat.blt_eq] using hn] at hb
    exact hb
   ·exact oz (l:=l) h hm hn
  | false=>rw [hb] at h;cases h
theorem qw {M:Nam} {n:Nat} (h:FI M n=true):M.at n=n∧memN M.Z n=false:=by
 simpa [FI,Nat.beq_eq] using h
theorem Cu {hp:List (Nat×Blk)} {h:Nat} {b:Blk} (hm :(h,b)∈hp) :(h,Lm b)∈zZ hp:=by
 induction hp with
 | nil=>cases hm
 | cons z l ih=>
  simp only [zZ]
  rcases List.mem_cons.1 hm with he|hm
  ·subst he;exact List.mem_cons_self
  ·exact List.mem_cons_of_mem _ (ih hm)
theorem Cx {p:Nat} {M:Nam} {hp:List (Nat×Blk)} (h:iL p M (zZ hp)=true) {n v:Nat} {b:Blk} (hm :(n,b)∈hp) (hb:Lm b=some v) (hn:n<p) (hv:v<p):M.at n=n∧memN M.Z n=false∧M.at v=v:=by
 have h1:=oz h (Cu hm) hn
 rw [hb] at h1
 simp only [uh,show Nat.blt v p=true from by simpa [Nat.blt_eq] using hv,cond_true,Bool.and_eq_true,Nat.beq_eq] at h1
 exact ⟨(qw h1.1).1,(qw h1.1).2,h1.2⟩
theorem ui {p:Nat} {M:Nam} {hp:List (Nat×Blk)} (h:iL p M (zZ hp)=true) {n:Nat} {b:Blk} (hm :(n,b)∈hp) (hb:Lm b=none) (hn:n<p):M.at n=n∧memN M.Z n=false:=by
 have h1:=oz h (Cu hm) hn
 rw [hb] at h1
 exact qw h1
def Base.pins (p:Nat) (B:Base):Prop:=∀ M E hp,iL p M (zZ hp)=true→HSub M E hp→B.G E→B.G (bc M E hp)
theorem Base.free.pins {B:Base} (h:B.free) (p:Nat):B.pins p:=fun _ _ _ _ _ _=>h _
theorem uO {B:Base} (hB:B.free) {N:Nat} {s:St} {tm:List (Nat×V)} (h:Sub M s tm hp) {a:Act} {w:World} (hs:gX B N s a w):gX B N ⟨tm,hp,fun _=>none,M.nx⟩ a w:=by
 obtain ⟨hn,ht,hh⟩:=ifB_iff.1 h
 obtain ⟨⟨E,hE,rfl,hH,_,hT⟩,hsz,hdf⟩:=hs
 rw [←hH] at hh
 have hs:=HG hh
 refine ⟨⟨bc M E hp,mI hE hs hn,rfl,rfl,⟨hB _,fun n hn=>hn⟩,fun sl v hv=>?_⟩,hsz,hdf⟩
 exact iX hs.toHSub0 _ _ _ (uN ht (ag hv)) (cw hT sl)
end
end
section
open Go.RowKit
variable {P:Program}
def mh:List (Nat×V)→List (Nat×V)
 | []=> []
 |(s,_)::r=>(s,.any)::mh r
def jE (n:Nat):List (Nat×Blk)→List (Nat×Blk)
 | []=> []
 |(h,_)::r=>(h,.row n true .unit [])::jE n r
def pn (st:St):Tr→Tr
 | .leaf e d nx=> .leaf e ⟨d.tm++mh st.tm,d.hp++jE (Nat.max nx st.nx) st.hp⟩ (Nat.max nx st.nx+1)
 | .br b t e=> .br b (pn st t) (pn st e)
 | .need p t=> .need p (pn st t)
 | .both t u=> .both (pn st t) (pn st u)
 | .when b t=> .when b (pn st t)
 | .done=> .done
 | .bad=> .bad
theorem fb {st:St} {Q:Lf→Dl→Nat→Prop} :∀ {t:Tr},(pn st t).sat Q→t.sat fun e d nx=>Q e ⟨d.tm++mh st.tm,d.hp++jE (Nat.max nx st.nx) st.hp⟩ (Nat.max nx st.nx+1)
 | .leaf _ _ _,h=>h
 | .br _ _ _,h=>⟨fun hb=>fb (h.1 hb),fun hb=>fb (h.2 hb)⟩
 | .need _ _,h=>⟨h.1,fb h.2⟩
 | .both _ _,h=>⟨fb h.1,fb h.2⟩
 | .when _ _,h=>fun hb=>fb (h hb)
 | .done,h=>h
 | .bad,h=>h
def xw (n:Nat):List (Nat×Blk)→Bool
 | []=>true
 |(h,_)::r=>Nat.blt h n&&xw n r
theorem tM {n:Nat} :∀ {l:List (Nat×Blk)} {h:Nat} {k:Blk},xw n l=true→find l h=some k→h<n
 | [],_,_,_,hf=>by simp [find] at hf
 |(x,v)::r,h,k,hl,hf=>by
  simp only [xw,Bool.and_eq_true,Nat.blt_eq] at hl
  simp only [find] at hf
  cases hb:Nat.beq x h with
  | true=>obtain rfl:=Nat.eq_of_beq_eq_true hb;exact hl.1
  | false=>rw [hb] at hf;exact tM hl.2 hf
theorem qV :∀ {l:List (Nat×V)} {s:Nat},find (mh l) s =(find l s).map fun _=> .any
 | [],s=>rfl
 |(x,v)::r,s=>by
  simp only [mh,find]
  cases Nat.beq x s with
  | true=>rfl
  | false=>exact qV
theorem qU {n:Nat} :∀ {l:List (Nat×Blk)} {s:Nat},find (jE n l) s =(find l s).map fun _=>Blk.row n true .unit []
 | [],s=>rfl
 |(x,v)::r,s=>by
  simp only [jE,find]
  cases Nat.beq x s with
  | true=>rfl
  | false=>exact qU
def cg (H:aw):Prop:=H=fun _=>none
def eE (M:Nam) (J:St) (T:Tr):LoopSum:=
 ⟨fun st=>cg st.H0∧ifB (xw st.nx st.hp) (Sub M st J.tm J.hp),fun st=>pn st T⟩
theorem FP {B:Base} {N:Nat} {st:St} (h0:st.H0=fun _=>none) (hl:xw st.nx st.hp=true) {tm:List (Nat×V)} {hp:List (Nat×Blk)} {nx:Nat} {a:Act} {w:World} (hs:gX B N ⟨tm,hp,fun _=>none,nx⟩ a w) :
  at_ B N st ⟨tm++mh st.tm,hp++jE (Nat.max nx st.nx) st.hp⟩ (Nat.max nx st.nx+1) a w:=by
 obtain ⟨⟨E,hE,rfl,hH,hU,hT⟩,hsz,hdf⟩:=hs
 let m:=Nat.max nx st.nx
 have hm1:nx≤m:=Nat.le_max_left _ _
 have hm2:st.nx≤m:=Nat.le_max_right _ _
 have hH:E.H=au (fun _=>none) hp:=hH
 have hG:=hU.1
 have hU :∀ n,E.U n→n<nx:=hU.2
 have hT :∀ s v,find tm s=some v→aa E v (a.tmps.getD s undef):=hT
 let E':Env:=⟨fun n=>n<m+1,fun h=>match find hp h with|some _=>E.ρ h|none=>none,E.S,E.w,au st.H (hp++jE m st.hp)⟩
 have hnew :∀ h,E'.H h=match find hp h with|some k=>some k|none=>(match find st.hp h with|some _=>some (.row m true .unit [])|none=>none):=fun h=>by
  show au st.H (hp++jE m st.hp) h=_
  unfold au
  rw [bR,qU]
  cases find hp h with
  | some k=>rfl
  | none=>
   simp only
   cases hf:find st.hp h with
   | some k=>rfl
   | none=>
    simp only [Option.map_none]
    unfold St.H au
    rw [hf,h0]
 have hold :∀ h k,find hp h=some k→E.H h=some k:=fun h k hf=>by rw [hH];unfold au;rw [hf]
 have cases' :∀ h k,E'.H h=some k→(find hp h=some k∧E'.ρ h=E.ρ h)∨(k = .row m true .unit []∧E'.ρ h=none∧h<st.nx):=fun h k hk=>by
  rw [hnew h] at hk
  cases hf:find hp h with
  | some k'=>
   rw [hf] at hk
   simp only [Option.some.injEq] at hk
   subst hk
   exact .inl ⟨rfl,by show (match find hp h with|some _=>E.ρ h|none=>none)=_;rw [hf]⟩
  | none=>
   rw [hf] at hk
   simp only at hk
   cases hg:find st.hp h with
   | none=>rw [hg] at hk;cases hk
   | some k'=>
    rw [hg] at hk
    simp only [Option.some.injEq] at hk
    exact .inr ⟨hk.symm,by show (match find hp h with|some _=>E.ρ h|none=>none)=_;rw [hf],tM hl hg⟩
 have X:Ext E E':=by
  refine ⟨fun n hn=>?_,fun _ h=>h,fun _ _=>rfl,fun h cs hu hx=>?_,fun h ver rw t xs hu hv hx=>?_,fun h ver esz cs hu hv hx=>?_,fun h es hu hx=>?_,fun h kk t x hu hx=>?_⟩
  case refine_6=>
   rcases cases' _ _ hx with ⟨h1,h2⟩ |⟨h1,_⟩
   ·exact ⟨⟨x,hold _ _ h1⟩,h2⟩
   ·cases h1
  ·have:=hU n hn;show n<m+1;omega
  ·rcases cases' _ _ hx with ⟨h1,h2⟩ |⟨h1,_⟩
   ·exact ⟨⟨cs,hold _ _ h1⟩,h2⟩
   ·cases h1
  ·rcases cases' _ _ hx with ⟨h1,h2⟩ |⟨h1,_⟩
   ·exact ⟨rw,xs,hold _ _ h1,rfl,h2,fun b c T fr _ hw=>⟨c,T,fr,hw,rfl⟩⟩
   ·cases h1
    have:=hU _ hv
    omega
  ·rcases cases' _ _ hx with ⟨h1,h2⟩ |⟨h1,_⟩
   ·exact ⟨cs,hold _ _ h1,rfl,h2,fun b c T fr _ hw=>⟨c,T,fr,hw,rfl⟩⟩
   ·cases h1
  ·rcases cases' _ _ hx with ⟨h1,h2⟩ |⟨h1,_⟩
   ·exact ⟨⟨es,hold _ _ h1⟩,h2⟩
   ·cases h1
 have tno :∀ {h k b},E'.ρ h=none→Tch E' h k b→False:=fun h0 ht=>by
  rcases ht with h1 |⟨b0,h1,_⟩ <;> rw [h0] at h1 <;> cases h1
 have R:HRel B E':=by
  refine ⟨fun h k hx=>?_,hE.stab,fun h k b hx hb=>?_,fun h h' k k' b h1 h2 b1 b2=>?_,fun h k hx=>?_,hE.keeps,fun h k b hx hb=>?_,hE.s0,hE.sb⟩
  ·rcases cases' _ _ hx with ⟨h1,_⟩ |⟨_,_,h3⟩
   ·exact X.u _ (hE.used _ _ (hold _ _ h1))
   ·show h<m+1;omega
  ·rcases cases' _ _ hx with ⟨h1,h2⟩ |⟨_,h2,_⟩
   ·exact hE.lt' _ _ _ (hold _ _ h1) (hb.mv h2 fun _ _=>rfl)
   ·exact (tno h2 hb).elim
  ·rcases cases' _ _ h1 with ⟨x1,x2⟩ |⟨_,x2,_⟩
   ·rcases cases' _ _ h2 with ⟨y1,y2⟩ |⟨_,y2,_⟩
    ·exact hE.inj' _ _ _ _ _ (hold _ _ x1) (hold _ _ y1) (b1.mv x2 fun _ _=>rfl) (b2.mv y2 fun _ _=>rfl)
    ·exact (tno y2 b2).elim
   ·exact (tno x2 b1).elim
  ·rcases cases' _ _ hx with ⟨h1,h2⟩ |⟨rfl,h2,_⟩
   ·exact bX X h2 (fun _ _=>rfl) (fun _ _ _ h=>h) (hE.blk _ _ (hold _ _ h1))
   ·exact ⟨Nat.lt_succ_self m,.inl ⟨h2,rfl⟩⟩
  ·rcases cases' _ _ hx with ⟨h1,h2⟩ |⟨_,h2,_⟩
   ·exact hE.own' _ _ _ (hold _ _ h1) (hb.mv h2 fun _ _=>rfl)
   ·exact (tno h2 hb).elim
 refine ⟨⟨E',R,rfl,rfl,⟨B.clo _ _ hG X,fun n hn=>hn⟩,fun s v hv=>?_⟩,hsz,hdf⟩
 simp only [List.append_assoc] at hv
 rw [bR] at hv
 cases hf:find tm s with
 | some v'=>
  rw [hf] at hv
  simp only [Option.some.injEq] at hv
  subst hv
  exact bb X _ _ (hT _ _ hf)
 | none=>
  rw [hf] at hv
  simp only at hv
  rw [bR,qV] at hv
  cases hg:find st.tm s with
  | none=>rw [hg] at hv;simp at hv
  | some v'=>
   rw [hg] at hv
   simp only [Option.map_some,Option.some.injEq] at hv
   subst hv
   simp [aa]
theorem Mb {C:Cfg} (hC:CfgOK P C) (hP:P.follows .mixedOrders=true) {body:Code} {α:Type} (I:α→St) (hI :∀ a,(I a).H0=fun _=>none) (inv:α→Prop) (μ:α→Nat) (Λ:α→Nat→Option LoopSum)
  (hΛ :∀ a,inv a→∀ b∈aU (Λ a) body,∀ L,Λ a (rid b)=some L→LoopOK P C.N b L) {T:Tr} {M0:Nam} {a0:α} (h0:inv a0) (hM:M0.nx =(I a0).nx)
  (step :∀ a,inv a→(bs C (Λ a) body (I a)).sat fun e d nx=>match e with
   | .nrm=>∃ (a':α) (M:Nam),inv a'∧μ a'<μ a∧M.nx =(I a').nx∧Sub M ((I a).app d nx) (I a').tm (I a').hp
   | e=>∃ (M:Nam) (tm:List (Nat×V)) (hp:List (Nat×Blk)),Sub M ((I a).app d nx) tm hp∧∀ Q:Lf→Dl→Nat→Prop,T.sat Q→Q e ⟨tm,hp⟩ M.nx) :
  LoopOK P C.N body (eE M0 (I a0) T):=by
 intro B hB st Q CQ hpre hT hQ a w hs
 obtain ⟨hH0,hpre⟩:=hpre
 obtain ⟨hl,hsub⟩:=ifB_iff.1 hpre
 have hT:=fb hT
 have eqI :∀ (x:α) (M:Nam),M.nx =(I x).nx→(⟨(I x).tm,(I x).hp,fun _=>none,M.nx⟩:St)=I x:=fun x M hx=>by rw [hx,←hI x]
 have start:gX B C.N (I a0) a w:=by have:=uO hB hsub hs;rw [eqI a0 M0 hM] at this;exact this
 have key :∀ n x a w,inv x→μ x<n→gX B C.N (I x) a w→Code.rounds P body CQ n a w:=by
  intro n
  induction n with
  | zero=>intro x a w _ hlt _;omega
  | succ n ih=>
   intro x a w hx hlt hs
   rw [rounds_succ]
   refine bN hC hP (B:=B) body (fun b hb L hL=>(hΛ x hx b hb L hL).at_free hB) (I x) _ _ (step x hx) (fun e d nx a w hq hat=>?_) a w hs
   have hat:=at_here.1 hat
   have out :∀ e:Lf,(∃ (M:Nam) (tm:List (Nat×V)) (hp:List (Nat×Blk)),Sub M ((I x).app d nx) tm hp∧∀ Q:Lf→Dl→Nat→Prop,T.sat Q→Q e ⟨tm,hp⟩ M.nx)→CQ (fI e) a w:=fun e ⟨M,tm,hp,h1,h2⟩=>
    hQ e _ _ a w (h2 (fun e d nx=>Q e ⟨d.tm++mh st.tm,d.hp++jE (Nat.max nx st.nx) st.hp⟩ (Nat.max nx st.nx+1)) hT) (FP hH0 hl (uO hB h1 hat))
   cases e with
   | nrm=>
    obtain ⟨x',M,h1,h2,h3,h4⟩:=hq
    have:=uO hB h4 hat
    rw [eqI x' M h3] at this
    exact ih x' a w h1 (by omega) this
   | ext id=>exact out (.ext id) hq
   | ret=>exact out .ret hq
 exact wp_loop_rounds (μ a0+1) (key _ a0 a w h0 (Nat.lt_succ_self _) start)
end
section
def T8:List (Option TD):= [
 none,
 none,
 some ⟨.int .i64,1,8,[.int .i64 0],some (.int .i64)⟩,
 some ⟨.int .i64,1,8,[.int .i64 0],some (.int .i64)⟩,
 some ⟨.bool,1,1,[.kb false],some (.bool)⟩,
 some ⟨.int .u8,1,1,[.int .u8 0],some (.int .u8)⟩,
 none,
 none,
 none,
 some ⟨.str,1,16,[.str ByteArray.empty],some (.str)⟩,
 none,
 none,
 some ⟨.int .u64,1,8,[.int .u64 0],some (.int .u64)⟩,
 none,
 none,
 none,
 none,
 none,
 none,
 none,
 none,
 some ⟨.int .i32,1,4,[.int .i32 0],some (.int .i32)⟩,
 some ⟨.slice 145,1,24,[.nilsl],some (.slice (.nm .Phase))⟩,
 some ⟨.struct [(0,9),(1,3),(2,3),(3,3),(4,3),(5,3),(6,3),(7,3),(8,4),(9,3),(10,3),(11,3),(12,3),(13,22)],14,136,[.str ByteArray.empty,.int .i64 0,.int .i64 0,.int .i64 0,.int .i64 0,.int .i64 0,.int .i64 0,.int .i64 0,.kb false,.int .i64 0,.int .i64 0,.int .i64 0,.int .i64 0,.nilsl],some (.prod (.str) (.prod (.int .i64) (.prod (.int .i64) (.prod (.int .i64) (.prod (.int .i64) (.prod (.int .i64) (.prod (.int .i64) (.prod (.int .i64) (.prod (.bool) (.prod (.int .i64) (.prod (.int .i64) (.prod (.int .i64) (.prod (.int .i64) (.prod (.slice (.nm .Phase)) (.unit)))))))))))))))⟩,
 some ⟨.struct [(0,9),(1,3),(2,3),(3,3),(4,3),(5,3),(6,3),(7,3),(8,4),(9,3),(10,3),(11,3),(12,3),(13,22)],14,136,[.str ByteArray.empty,.int .i64 0,.int .i64 0,.int .i64 0,.int .i64 0,.int .i64 0,.int .i64 0,.int .i64 0,.kb false,.int .i64 0,.int .i64 0,.int .i64 0,.int .i64 0,.nilsl],some (.nm .Rules)⟩,
 some ⟨.slice 61,1,24,[.nilsl],some (.slice (.nm .Box))⟩,
 some ⟨.slice 63,1,24,[.nilsl],some (.slice (.nm .Strip))⟩,
 some ⟨.struct [(0,3),(1,3),(2,3),(3,3),(4,3)],5,40,[.int .i64 0,.int .i64 0,.int .i64 0,.int .i64 0,.int .i64 0],some (.prod (.int .i64) (.prod (.int .i64) (.prod (.int .i64) (.prod (.int .i64) (.prod (.int .i64) (.unit))))))⟩,
 some ⟨.struct [(0,3),(1,3),(2,3),(3,3),(4,3)],5,40,[.int .i64 0,.int .i64 0,.int .i64 0,.int .i64 0,.int .i64 0],some (.nm .Extras)⟩,
 some ⟨.struct [(0,3),(1,25),(2,26),(3,28),(8,3),(9,3)],10,112,[.int .i64 0,.nilsl,.nilsl,.int .i64 0,.int .i64 0,.int .i64 0,.int .i64 0,.int .i64 0,.int .i64 0,.int .i64 0],some (.prod (.int .i64) (.prod (.slice (.nm .Box)) (.prod (.slice (.nm .Strip)) (.prod (.nm .Extras) (.prod (.int .i64) (.prod (.int .i64) (.unit)))))))⟩,
 some ⟨.struct [(0,3),(1,25),(2,26),(3,28),(8,3),(9,3)],10,112,[.int .i64 0,.nilsl,.nilsl,.int .i64 0,.int .i64 0,.int .i64 0,.int .i64 0,.int .i64 0,.int .i64 0,.int .i64 0],some (.nm .Book)⟩,
 none,
 none,
 some ⟨.int .i64,1,8,[.int .i64 0],some (.int .i64)⟩,
 none,
 none,
 some ⟨.slice 44,1,24,[.nilsl],some (.slice (.nm .BowlLine))⟩,
 none,
 none,
 some ⟨.slice 48,1,24,[.nilsl],some (.slice (.nm .BatLine))⟩,
 none,
 none,
 none,
 some ⟨.struct [(0,3),(1,3),(2,3),(3,3),(4,3),(5,3),(6,3)],7,56,[.int .i64 0,.int .i64 0,.int .i64 0,.int .i64 0,.int .i64 0,.int .i64 0,.int .i64 0],some (.prod (.int .i64) (.prod (.int .i64) (.prod (.int .i64) (.prod (.int .i64) (.prod (.int .i64) (.prod (.int .i64) (.prod (.int .i64) (.unit))))))))⟩,
 some ⟨.struct [(0,3),(1,3),(2,3),(3,3),(4,3),(5,3),(6,3)],7,56,[.int .i64 0,.int .i64 0,.int .i64 0,.int .i64 0,.int .i64 0,.int .i64 0,.int .i64 0],some (.nm .BowlLine)⟩,
 none,
 some ⟨.int .u8,1,1,[.int .u8 0],some (.int .u8)⟩,
 some ⟨.struct [(0,3),(1,3),(2,3),(3,3),(4,3),(5,4),(6,46),(7,3),(8,3),(9,4)],10,72,[.int .i64 0,.int .i64 0,.int .i64 0,.int .i64 0,.int .i64 0,.kb false,.int .u8 0,.int .i64 0,.int .i64 0,.kb false],some (.prod (.int .i64) (.prod (.int .i64) (.prod (.int .i64) (.prod (.int .i64) (.prod (.int .i64) (.prod (.bool) (.prod (.int .u8) (.prod (.int .i64) (.prod (.int .i64) (.prod (.bool) (.unit)))))))))))⟩,
 some ⟨.struct [(0,3),(1,3),(2,3),(3,3),(4,3),(5,4),(6,46),(7,3),(8,3),(9,4)],10,72,[.int .i64 0,.int .i64 0,.int .i64 0,.int .i64 0,.int .i64 0,.kb false,.int .u8 0,.int .i64 0,.int .i64 0,.kb false],some (.nm .BatLine)⟩,
 some ⟨.slice 131,1,24,[.nilsl],some (.slice (.nm .Event))⟩,
 none,
 some ⟨.slice 30,1,24,[.nilsl],some (.slice (.nm .Book))⟩,
 none,
 none,
 none,
 none,
 none,
 none,
 none,
 some ⟨.slice 9,1,24,[.nilsl],some (.slice (.str))⟩,
 some ⟨.struct [(0,3),(1,3),(2,59)],3,40,[.int .i64 0,.int .i64 0,.nilsl],some (.prod (.int .i64) (.prod (.int .i64) (.prod (.slice (.str)) (.unit))))⟩,
 some ⟨.struct [(0,3),(1,3),(2,59)],3,40,[.int .i64 0,.int .i64 0,.nilsl],some (.nm .Box)⟩,
 some ⟨.struct [(0,3),(1,59),(2,46),(3,3)],4,48,[.int .i64 0,.nilsl,.int .u8 0,.int .i64 0],some (.prod (.int .i64) (.prod (.slice (.str)) (.prod (.int .u8) (.prod (.int .i64) (.unit)))))⟩,
 some ⟨.struct [(0,3),(1,59),(2,46),(3,3)],4,48,[.int .i64 0,.nilsl,.int .u8 0,.int .i64 0],some (.nm .Strip)⟩,
 none,
 none,
 some ⟨.int .u8,1,1,[.int .u8 0],some (.int .u8)⟩,
 some ⟨.int .u8,1,1,[.int .u8 0],some (.int .u8)⟩,
 some ⟨.struct [(0,66),(1,67),(2,3),(3,3),(4,3),(5,4),(6,46),(7,3),(8,3),(9,3),(10,4),(11,3)],12,80,[.int .u8 0,.int .u8 0,.int .i64 0,.int .i64 0,.int .i64 0,.kb false,.int .u8 0,.int .i64 0,.int .i64 0,.int .i64 0,.kb false,.int .i64 0],some (.prod (.int .u8) (.prod (.int .u8) (.prod (.int .i64) (.prod (.int .i64) (.prod (.int .i64) (.prod (.bool) (.prod (.int .u8) (.prod (.int .i64) (.prod (.int .i64) (.prod (.int .i64) (.prod (.bool) (.prod (.int .i64) (.unit)))))))))))))⟩,
 some ⟨.struct [(0,66),(1,67),(2,3),(3,3),(4,3),(5,4),(6,46),(7,3),(8,3),(9,3),(10,4),(11,3)],12,80,[.int .u8 0,.int .u8 0,.int .i64 0,.int .i64 0,.int .i64 0,.kb false,.int .u8 0,.int .i64 0,.int .i64 0,.int .i64 0,.kb false,.int .i64 0],some (.nm .Delivery)⟩,
 none,
 some ⟨.slice 87,1,24,[.nilsl],some (.slice (.slice (.nm .boxbook_entry)))⟩,
 none,
 none,
 none,
 none,
 some ⟨.slice 3,1,24,[.nilsl],some (.slice (.int .i64))⟩,
 none,
 none,
 some ⟨.slice 92,1,24,[.nilsl],some (.slice (.nm .ref21_Symbol))⟩,
 none,
 none,
 none,
 none,
 none,
 none,
 some ⟨.ptr 44,1,8,[.nilptr],none⟩,
 some ⟨.slice 89,1,24,[.nilsl],some (.slice (.nm .boxbook_entry))⟩,
 some ⟨.struct [(0,5),(1,3),(2,3),(3,3),(4,5)],5,40,[.int .u8 0,.int .i64 0,.int .i64 0,.int .i64 0,.int .u8 0],some (.prod (.int .u8) (.prod (.int .i64) (.prod (.int .i64) (.prod (.int .i64) (.prod (.int .u8) (.unit))))))⟩,
 some ⟨.struct [(0,5),(1,3),(2,3),(3,3),(4,5)],5,40,[.int .u8 0,.int .i64 0,.int .i64 0,.int .i64 0,.int .u8 0],some (.nm .boxbook_entry)⟩,
 none,
 some ⟨.struct [(0,9),(1,66),(2,3),(3,3),(4,3),(5,4),(6,4)],7,56,[.str ByteArray.empty,.int .u8 0,.int .i64 0,.int .i64 0,.int .i64 0,.kb false,.kb false],some (.prod (.str) (.prod (.int .u8) (.prod (.int .i64) (.prod (.int .i64) (.prod (.int .i64) (.prod (.bool) (.prod (.bool) (.unit))))))))⟩,
 some ⟨.struct [(0,9),(1,66),(2,3),(3,3),(4,3),(5,4),(6,4)],7,56,[.str ByteArray.empty,.int .u8 0,.int .i64 0,.int .i64 0,.int .i64 0,.kb false,.kb false],some (.nm .ref21_Symbol)⟩,
 none,
 none,
 none,
 none,
 none,
 none,
 some ⟨.slice 122,1,24,[.nilsl],some (.slice (.nm .Score))⟩,
 none,
 none,
 some ⟨.slice 119,1,24,[.nilsl],some (.slice (.nm .Delivered))⟩,
 some ⟨.int .u8,1,1,[.int .u8 0],some (.int .u8)⟩,
 some ⟨.slice 184,1,24,[.nilsl],some (.slice (.nm .Innings))⟩,
 some ⟨.arr 2 3,2,16,[.int .i64 0,.int .i64 0],some (.prod (.int .i64) (.prod (.int .i64) (.unit)))⟩,
 some ⟨.int .u8,1,1,[.int .u8 0],some (.int .u8)⟩,
 some ⟨.struct [(0,106),(1,3),(2,3)],3,24,[.int .u8 0,.int .i64 0,.int .i64 0],some (.prod (.int .u8) (.prod (.int .i64) (.prod (.int .i64) (.unit))))⟩,
 some ⟨.struct [(0,106),(1,3),(2,3)],3,24,[.int .u8 0,.int .i64 0,.int .i64 0],some (.nm .Result)⟩,
 some ⟨.struct [(0,24),(14,103),(15,3),(16,4),(17,104),(18,105),(20,108)],23,224,[.str ByteArray.empty,.int .i64 0,.int .i64 0,.int .i64 0,.int .i64 0,.int .i64 0,.int .i64 0,.int .i64 0,.kb false,.int .i64 0,.int .i64 0,.int .i64 0,.int .i64 0,.nilsl,.int .u8 0,.int .i64 0,.kb false,.nilsl,.int .i64 0,.int .i64 0,.int .u8 0,.int .i64 0,.int .i64 0],some (.prod (.nm .Rules) (.prod (.int .u8) (.prod (.int .i64) (.prod (.bool) (.prod (.slice (.nm .Innings)) (.prod (.prod (.int .i64) (.prod (.int .i64) (.unit))) (.prod (.nm .Result) (.unit))))))))⟩,
 some ⟨.struct [(0,24),(14,103),(15,3),(16,4),(17,104),(18,105),(20,108)],23,224,[.str ByteArray.empty,.int .i64 0,.int .i64 0,.int .i64 0,.int .i64 0,.int .i64 0,.int .i64 0,.int .i64 0,.kb false,.int .i64 0,.int .i64 0,.int .i64 0,.int .i64 0,.nilsl,.int .u8 0,.int .i64 0,.kb false,.nilsl,.int .i64 0,.int .i64 0,.int .u8 0,.int .i64 0,.int .i64 0],some (.nm .Match)⟩,
 some ⟨.int .i64,1,8,[.int .i64 0],some (.int .i64)⟩,
 none,
 none,
 some ⟨.slice 105,1,24,[.nilsl],some (.slice (.prod (.int .i64) (.prod (.int .i64) (.unit))))⟩,
 none,
 some ⟨.struct [(0,3),(1,3),(2,3),(3,3),(4,3),(5,3),(6,4),(7,4),(8,4),(9,4)],10,56,[.int .i64 0,.int .i64 0,.int .i64 0,.int .i64 0,.int .i64 0,.int .i64 0,.kb false,.kb false,.kb false,.kb false],some (.prod (.int .i64) (.prod (.int .i64) (.prod (.int .i64) (.prod (.int .i64) (.prod (.int .i64) (.prod (.int .i64) (.prod (.bool) (.prod (.bool) (.prod (.bool) (.prod (.bool) (.unit)))))))))))⟩,
 some ⟨.struct [(0,3),(1,3),(2,3),(3,3),(4,3),(5,3),(6,4),(7,4),(8,4),(9,4)],10,56,[.int .i64 0,.int .i64 0,.int .i64 0,.int .i64 0,.int .i64 0,.int .i64 0,.kb false,.kb false,.kb false,.kb false],some (.nm .Credit)⟩,
 some ⟨.struct [(0,3),(1,3),(2,3),(3,3),(4,3),(5,3),(6,3),(7,4),(8,69),(20,117),(30,3),(31,3)],32,216,[.int .i64 0,.int .i64 0,.int .i64 0,.int .i64 0,.int .i64 0,.int .i64 0,.int .i64 0,.kb false,.int .u8 0,.int .u8 0,.int .i64 0,.int .i64 0,.int .i64 0,.kb false,.int .u8 0,.int .i64 0,.int .i64 0,.int .i64 0,.kb false,.int .i64 0,.int .i64 0,.int .i64 0,.int .i64 0,.int .i64 0,.int .i64 0,.int .i64 0,.kb false,.kb false,.kb false,.kb false,.int .i64 0,.int .i64 0],some (.prod (.int .i64) (.prod (.int .i64) (.prod (.int .i64) (.prod (.int .i64) (.prod (.int .i64) (.prod (.int .i64) (.prod (.int .i64) (.prod (.bool) (.prod (.nm .Delivery) (.prod (.nm .Credit) (.prod (.int .i64) (.prod (.int .i64) (.unit)))))))))))))⟩,
 some ⟨.struct [(0,3),(1,3),(2,3),(3,3),(4,3),(5,3),(6,3),(7,4),(8,69),(20,117),(30,3),(31,3)],32,216,[.int .i64 0,.int .i64 0,.int .i64 0,.int .i64 0,.int .i64 0,.int .i64 0,.int .i64 0,.kb false,.int .u8 0,.int .u8 0,.int .i64 0,.int .i64 0,.int .i64 0,.kb false,.int .u8 0,.int .i64 0,.int .i64 0,.int .i64 0,.kb false,.int .i64 0,.int .i64 0,.int .i64 0,.int .i64 0,.int .i64 0,.int .i64 0,.int .i64 0,.kb false,.kb false,.kb false,.kb false,.int .i64 0,.int .i64 0],some (.nm .Delivered)⟩,
 some ⟨.int .u8,1,1,[.int .u8 0],some (.int .u8)⟩,
 some ⟨.struct [(0,3),(1,3),(2,3),(3,3),(4,28),(9,120)],10,80,[.int .i64 0,.int .i64 0,.int .i64 0,.int .i64 0,.int .i64 0,.int .i64 0,.int .i64 0,.int .i64 0,.int .i64 0,.int .u8 0],some (.prod (.int .i64) (.prod (.int .i64) (.prod (.int .i64) (.prod (.int .i64) (.prod (.nm .Extras) (.prod (.int .u8) (.unit)))))))⟩,
 some ⟨.struct [(0,3),(1,3),(2,3),(3,3),(4,28),(9,120)],10,80,[.int .i64 0,.int .i64 0,.int .i64 0,.int .i64 0,.int .i64 0,.int .i64 0,.int .i64 0,.int .i64 0,.int .i64 0,.int .u8 0],some (.nm .Score)⟩,
 none,
 none,
 none,
 none,
 none,
 none,
 some ⟨.int .u8,1,1,[.int .u8 0],some (.int .u8)⟩,
 some ⟨.struct [(0,129),(1,3),(2,3),(3,3),(4,4),(5,3),(6,3),(7,69)],19,136,[.int .u8 0,.int .i64 0,.int .i64 0,.int .i64 0,.kb false,.int .i64 0,.int .i64 0,.int .u8 0,.int .u8 0,.int .i64 0,.int .i64 0,.int .i64 0,.kb false,.int .u8 0,.int .i64 0,.int .i64 0,.int .i64 0,.kb false,.int .i64 0],some (.prod (.int .u8) (.prod (.int .i64) (.prod (.int .i64) (.prod (.int .i64) (.prod (.bool) (.prod (.int .i64) (.prod (.int .i64) (.prod (.nm .Delivery) (.unit)))))))))⟩,
 some ⟨.struct [(0,129),(1,3),(2,3),(3,3),(4,4),(5,3),(6,3),(7,69)],19,136,[.int .u8 0,.int .i64 0,.int .i64 0,.int .i64 0,.kb false,.int .i64 0,.int .i64 0,.int .u8 0,.int .u8 0,.int .i64 0,.int .i64 0,.int .i64 0,.kb false,.int .u8 0,.int .i64 0,.int .i64 0,.int .i64 0,.kb false,.int .i64 0],some (.nm .Event)⟩,
 none,
 none,
 none,
 none,
 none,
 none,
 none,
 none,
 none,
 none,
 none,
 none,
 some ⟨.struct [(0,3),(1,3),(2,3)],3,24,[.int .i64 0,.int .i64 0,.int .i64 0],some (.prod (.int .i64) (.prod (.int .i64) (.prod (.int .i64) (.unit))))⟩,
 some ⟨.struct [(0,3),(1,3),(2,3)],3,24,[.int .i64 0,.int .i64 0,.int .i64 0],some (.nm .Phase)⟩,
 none,
 some ⟨.slice 4,1,24,[.nilsl],some (.slice (.bool))⟩,
 none,
 none,
 none,
 some ⟨.struct [(0,3),(1,3),(2,3),(3,3),(4,3),(5,3),(6,3),(7,76)],8,80,[.int .i64 0,.int .i64 0,.int .i64 0,.int .i64 0,.int .i64 0,.int .i64 0,.int .i64 0,.nilsl],some (.prod (.int .i64) (.prod (.int .i64) (.prod (.int .i64) (.prod (.int .i64) (.prod (.int .i64) (.prod (.int .i64) (.prod (.int .i64) (.prod (.slice (.int .i64)) (.unit)))))))))⟩,
 some ⟨.struct [(0,3),(1,3),(2,3),(3,3),(4,3),(5,3),(6,3),(7,76)],8,80,[.int .i64 0,.int .i64 0,.int .i64 0,.int .i64 0,.int .i64 0,.int .i64 0,.int .i64 0,.nilsl],some (.nm .ref21_counted)⟩,
 none,
 none,
 none,
 none,
 none,
 some ⟨.ptr 122,1,8,[.nilptr],none⟩,
 none,
 none,
 none,
 none,
 none,
 none,
 none,
 none,
 none,
 some ⟨.ptr 63,1,8,[.nilptr],none⟩,
 none,
 none,
 none,
 none,
 none,
 none,
 none,
 none,
 none,
 none,
 none,
 none,
 none,
 some ⟨.slice 285,1,24,[.nilsl],some (.slice (.int .u8))⟩,
 some ⟨.struct [(0,3),(1,3),(2,3),(3,3),(4,3),(5,28),(10,3),(11,3),(12,3),(13,3),(14,182),(15,3),(16,76),(17,76),(18,4),(19,76),(20,4),(21,3),(22,3),(23,3),(24,147),(25,105),(27,120)],28,304,[.int .i64 0,.int .i64 0,.int .i64 0,.int .i64 0,.int .i64 0,.int .i64 0,.int .i64 0,.int .i64 0,.int .i64 0,.int .i64 0,.int .i64 0,.int .i64 0,.int .i64 0,.int .i64 0,.nilsl,.int .i64 0,.nilsl,.nilsl,.kb false,.nilsl,.kb false,.int .i64 0,.int .i64 0,.int .i64 0,.nilsl,.int .i64 0,.int .i64 0,.int .u8 0],some (.prod (.int .i64) (.prod (.int .i64) (.prod (.int .i64) (.prod (.int .i64) (.prod (.int .i64) (.prod (.nm .Extras) (.prod (.int .i64) (.prod (.int .i64) (.prod (.int .i64) (.prod (.int .i64) (.prod (.slice (.int .u8)) (.prod (.int .i64) (.prod (.slice (.int .i64)) (.prod (.slice (.int .i64)) (.prod (.bool) (.prod (.slice (.int .i64)) (.prod (.bool) (.prod (.int .i64) (.prod (.int .i64) (.prod (.int .i64) (.prod (.slice (.bool)) (.prod (.prod (.int .i64) (.prod (.int .i64) (.unit))) (.prod (.int .u8) (.unit))))))))))))))))))))))))⟩,
 some ⟨.struct [(0,3),(1,3),(2,3),(3,3),(4,3),(5,28),(10,3),(11,3),(12,3),(13,3),(14,182),(15,3),(16,76),(17,76),(18,4),(19,76),(20,4),(21,3),(22,3),(23,3),(24,147),(25,105),(27,120)],28,304,[.int .i64 0,.int .i64 0,.int .i64 0,.int .i64 0,.int .i64 0,.int .i64 0,.int .i64 0,.int .i64 0,.int .i64 0,.int .i64 0,.int .i64 0,.int .i64 0,.int .i64 0,.int .i64 0,.nilsl,.int .i64 0,.nilsl,.nilsl,.kb false,.nilsl,.kb false,.int .i64 0,.int .i64 0,.int .i64 0,.nilsl,.int .i64 0,.int .i64 0,.int .u8 0],some (.nm .Innings)⟩,
 none,
 none,
 none,
 none,
 none,
 none,
 none,
 none,
 none,
 none,
 none,
 none,
 none,
 none,
 none,
 none,
 none,
 none,
 none,
 none,
 none,
 none,
 some ⟨.struct [(0,46),(1,9),(2,4),(3,4),(4,4),(5,4),(6,4)],7,32,[.int .u8 0,.str ByteArray.empty,.kb false,.kb false,.kb false,.kb false,.kb false],some (.prod (.int .u8) (.prod (.str) (.prod (.bool) (.prod (.bool) (.prod (.bool) (.prod (.bool) (.prod (.bool) (.unit))))))))⟩,
 some ⟨.struct [(0,46),(1,9),(2,4),(3,4),(4,4),(5,4),(6,4)],7,32,[.int .u8 0,.str ByteArray.empty,.kb false,.kb false,.kb false,.kb false,.kb false],some (.nm .dismissal_way)⟩,
 none,
 none,
 some ⟨.slice 46,1,24,[.nilsl],some (.slice (.int .u8))⟩,
 none,
 none,
 some ⟨.slice 5,1,24,[.nilsl],some (.slice (.int .u8))⟩,
 none,
 none,
 none,
 none,
 none,
 none,
 none,
 none,
 none,
 none,
 some ⟨.ptr 110,1,8,[.nilptr],none⟩,
 none,
 none,
 some ⟨.struct [(0,4),(1,4),(2,4),(3,4),(4,4),(5,4),(6,4)],7,7,[.kb false,.kb false,.kb false,.kb false,.kb false,.kb false,.kb false],some (.prod (.bool) (.prod (.bool) (.prod (.bool) (.prod (.bool) (.prod (.bool) (.prod (.bool) (.prod (.bool) (.unit))))))))⟩,
 some ⟨.struct [(0,4),(1,4),(2,4),(3,4),(4,4),(5,4),(6,4)],7,7,[.kb false,.kb false,.kb false,.kb false,.kb false,.kb false,.kb false],some (.nm .ref08_Uses)⟩,
 none,
 none,
 none,
 none,
 none,
 none,
 none,
 none,
 some ⟨.slice 208,1,24,[.nilsl],some (.slice (.nm .dismissal_way))⟩,
 none,
 none,
 none,
 some ⟨.int .u64,1,8,[.int .u64 0],some (.int .u64)⟩,
 none,
 some ⟨.arr 256 4,256,256,[.kb false,.kb false,.kb false,.kb false,.kb false,.kb false,.kb false,.kb false,.kb false,.kb false,.kb false,.kb false,.kb false,.kb false,.kb false,.kb false,.kb false,.kb false,.kb false,.kb false,.kb false,.kb false,.kb false,.kb false,.kb false,.kb false,.kb false,.kb false,.kb false,.kb false,.kb false,.kb false,.kb false,.kb false,.kb false,.kb false,.kb false,.kb false,.kb false,.kb false,.kb false,.kb false,.kb false,.kb false,.kb false,.kb false,.kb false,.kb false,.kb false,.kb false,.kb false,.kb false,.kb false,.kb false,.kb false,.kb false,.kb false,.kb false,.kb false,.kb false,.kb false,.kb false,.kb false,.kb false,.kb false,.kb false,.kb false,.kb false,.kb false,.kb false,.kb false,.kb false,.kb false,.kb false,.kb false,.kb false,.kb false,.kb false,.kb false,.kb false,.kb false,.kb false,.kb false,.kb false,.kb false,.kb false,.kb false,.kb false,.kb false,.kb false,.kb false,.kb false,.kb false,.kb false,.kb false,.kb false,.kb false,.kb false,.kb false,.kb false,.kb false,.kb false,.kb false,.kb false,.kb false,.kb false,.kb false,.kb false,.kb false,.kb false,.kb false,.kb false,.kb false,.kb false,.kb false,.kb false,.kb false,.kb false,.kb false,.kb false,.kb false,.kb false,.kb false,.kb false,.kb false,.kb false,.kb false,.kb false,.kb false,.kb false,.kb false,.kb false,.kb false,.kb false,.kb false,.kb false,.kb false,.kb false,.kb false,.kb false,.kb false,.kb false,.kb false,.kb false,.kb false,.kb false,.kb false,.kb false,.kb false,.kb false,.kb false,.kb false,.kb false,.kb false,.kb false,.kb false,.kb false,.kb false,.kb false,.kb false,.kb false,.kb false,.kb false,.kb false,.kb false,.kb false,.kb false,.kb false,.kb false,.kb false,.kb false,.kb false,.kb false,.kb false,.kb false,.kb false,.kb false,.kb false,.kb false,.kb false,.kb false,.kb false,.kb false,.kb false,.kb false,.kb false,.kb false,.kb false,.kb false,.kb false,.kb false,.kb false,.kb false,.kb false,.kb false,.kb false,.kb false,.kb false,.kb false,.kb false,.kb false,.kb false,.kb false,.kb false,.kb false,.kb false,.kb false,.kb false,.kb false,.kb false,.kb false,.kb false,.kb false,.kb false,.kb false,.kb false,.kb false,.kb false,.kb false,.kb false,.kb false,.kb false,.kb false,.kb false,.kb false,.kb false,.kb false,.kb false,.kb false,.kb false,.kb false,.kb false,.kb false,.kb false,.kb false,.kb false,.kb false,.kb false,.kb false,.kb false,.kb false,.kb false,.kb false,.kb false,.kb false,.kb false,.kb false,.kb false,.kb false,.kb false,.kb false,.kb false,.kb false,.kb false,.kb false,.kb false],none⟩,
 some ⟨.arr 256 4,256,256,[.kb false,.kb false,.kb false,.kb false,.kb false,.kb false,.kb false,.kb false,.kb false,.kb false,.kb false,.kb false,.kb false,.kb false,.kb false,.kb false,.kb false,.kb false,.kb false,.kb false,.kb false,.kb false,.kb false,.kb false,.kb false,.kb false,.kb false,.kb false,.kb false,.kb false,.kb false,.kb false,.kb false,.kb false,.kb false,.kb false,.kb false,.kb false,.kb false,.kb false,.kb false,.kb false,.kb false,.kb false,.kb false,.kb false,.kb false,.kb false,.kb false,.kb false,.kb false,.kb false,.kb false,.kb false,.kb false,.kb false,.kb false,.kb false,.kb false,.kb false,.kb false,.kb false,.kb false,.kb false,.kb false,.kb false,.kb false,.kb false,.kb false,.kb false,.kb false,.kb false,.kb false,.kb false,.kb false,.kb false,.kb false,.kb false,.kb false,.kb false,.kb false,.kb false,.kb false,.kb false,.kb false,.kb false,.kb false,.kb false,.kb false,.kb false,.kb false,.kb false,.kb false,.kb false,.kb false,.kb false,.kb false,.kb false,.kb false,.kb false,.kb false,.kb false,.kb false,.kb false,.kb false,.kb false,.kb false,.kb false,.kb false,.kb false,.kb false,.kb false,.kb false,.kb false,.kb false,.kb false,.kb false,.kb false,.kb false,.kb false,.kb false,.kb false,.kb false,.kb false,.kb false,.kb false,.kb false,.kb false,.kb false,.kb false,.kb false,.kb false,.kb false,.kb false,.kb false,.kb false,.kb false,.kb false,.kb false,.kb false,.kb false,.kb false,.kb false,.kb false,.kb false,.kb false,.kb false,.kb false,.kb false,.kb false,.kb false,.kb false,.kb false,.kb false,.kb false,.kb false,.kb false,.kb false,.kb false,.kb false,.kb false,.kb false,.kb false,.kb false,.kb false,.kb false,.kb false,.kb false,.kb false,.kb false,.kb false,.kb false,.kb false,.kb false,.kb false,.kb false,.kb false,.kb false,.kb false,.kb false,.kb false,.kb false,.kb false,.kb false,.kb false,.kb false,.kb false,.kb false,.kb false,.kb false,.kb false,.kb false,.kb false,.kb false,.kb false,.kb false,.kb false,.kb false,.kb false,.kb false,.kb false,.kb false,.kb false,.kb false,.kb false,.kb false,.kb false,.kb false,.kb false,.kb false,.kb false,.kb false,.kb false,.kb false,.kb false,.kb false,.kb false,.kb false,.kb false,.kb false,.kb false,.kb false,.kb false,.kb false,.kb false,.kb false,.kb false,.kb false,.kb false,.kb false,.kb false,.kb false,.kb false,.kb false,.kb false,.kb false,.kb false,.kb false,.kb false,.kb false,.kb false,.kb false,.kb false,.kb false,.kb false,.kb false,.kb false,.kb false,.kb false,.kb false,.kb false,.kb false,.kb false,.kb false,.kb false,.kb false],none⟩,
 none,
 none,
 none,
 some ⟨.ptr 245,1,8,[.nilptr],none⟩,
 none,
 none,
 none,
 some ⟨.int .u64,1,8,[.int .u64 0],some (.int .u64)⟩,
 some ⟨.ptr 274,1,8,[.nilptr],none⟩,
 none,
 none,
 none,
 some ⟨.struct [(0,5),(1,4),(2,4)],3,3,[.int .u8 0,.kb false,.kb false],some (.prod (.int .u8) (.prod (.bool) (.prod (.bool) (.unit))))⟩,
 some ⟨.slice 258,1,24,[.nilsl],some (.slice (.prod (.int .u8) (.prod (.bool) (.prod (.bool) (.unit)))))⟩,
 none,
 none,
 none,
 none,
 none,
 none,
 none,
 none,
 none,
 none,
 none,
 none,
 none,
 none,
 none,
 none,
 none,
 none,
 none,
 none,
 some ⟨.struct [(0,9),(1,9),(2,9),(3,9)],4,64,[.str ByteArray.empty,.str ByteArray.empty,.str ByteArray.empty,.str ByteArray.empty],some (.prod (.str) (.prod (.str) (.prod (.str) (.prod (.str) (.unit)))))⟩,
 some ⟨.struct [(0,9),(1,9),(2,9),(3,9)],4,64,[.str ByteArray.empty,.str ByteArray.empty,.str ByteArray.empty,.str ByteArray.empty],some (.nm .event_form)⟩,
 some ⟨.slice 281,1,24,[.nilsl],some (.slice (.nm .event_form))⟩,
 none,
 none,
 some ⟨.int .u8,1,1,[.int .u8 0],some (.int .u8)⟩,
 none,
 none,
 none,
 none,
 none,
 some ⟨.arr 24 5,24,24,[.int .u8 0,.int .u8 0,.int .u8 0,.int .u8 0,.int .u8 0,.int .u8 0,.int .u8 0,.int .u8 0,.int .u8 0,.int .u8 0,.int .u8 0,.int .u8 0,.int .u8 0,.int .u8 0,.int .u8 0,.int .u8 0,.int .u8 0,.int .u8 0,.int .u8 0,.int .u8 0,.int .u8 0,.int .u8 0,.int .u8 0,.int .u8 0],none⟩,
 none,
 none,
 none,
 none,
 none,
 some ⟨.ptr 5,1,8,[.nilptr],none⟩,
 some ⟨.ptr 300,1,8,[.nilptr],none⟩,
 some ⟨.struct [(0,9)],1,16,[.str ByteArray.empty],some (.prod (.str) (.unit))⟩,
 some ⟨.struct [(0,9)],1,16,[.str ByteArray.empty],some (.prod (.str) (.unit))⟩,
 none,
 none,
 none,
 none,
 none,
 none,
 none,
 none,
 none,
 none,
 some ⟨.arr 20 242,20,160,[.int .u64 0,.int .u64 0,.int .u64 0,.int .u64 0,.int .u64 0,.int .u64 0,.int .u64 0,.int .u64 0,.int .u64 0,.int .u64 0,.int .u64 0,.int .u64 0,.int .u64 0,.int .u64 0,.int .u64 0,.int .u64 0,.int .u64 0,.int .u64 0,.int .u64 0,.int .u64 0],none⟩,
 some ⟨.int .u32,1,4,[.int .u32 0],some (.int .u32)⟩,
 some ⟨.arr 65 5,65,65,[.int .u8 0,.int .u8 0,.int .u8 0,.int .u8 0,.int .u8 0,.int .u8 0,.int .u8 0,.int .u8 0,.int .u8 0,.int .u8 0,.int .u8 0,.int .u8 0,.int .u8 0,.int .u8 0,.int .u8 0,.int .u8 0,.int .u8 0,.int .u8 0,.int .u8 0,.int .u8 0,.int .u8 0,.int .u8 0,.int .u8 0,.int .u8 0,.int .u8 0,.int .u8 0,.int .u8 0,.int .u8 0,.int .u8 0,.int .u8 0,.int .u8 0,.int .u8 0,.int .u8 0,.int .u8 0,.int .u8 0,.int .u8 0,.int .u8 0,.int .u8 0,.int .u8 0,.int .u8 0,.int .u8 0,.int .u8 0,.int .u8 0,.int .u8 0,.int .u8 0,.int .u8 0,.int .u8 0,.int .u8 0,.int .u8 0,.int .u8 0,.int .u8 0,.int .u8 0,.int .u8 0,.int .u8 0,.int .u8 0,.int .u8 0,.int .u8 0,.int .u8 0,.int .u8 0,.int .u8 0,.int .u8 0,.int .u8 0,.int .u8 0,.int .u8 0,.int .u8 0],none⟩,
 none,
 some ⟨.arr 256 5,256,256,[.int .u8 0,.int .u8 0,.int .u8 0,.int .u8 0,.int .u8 0,.int .u8 0,.int .u8 0,.int .u8 0,.int .u8 0,.int .u8 0,.int .u8 0,.int .u8 0,.int .u8 0,.int .u8 0,.int .u8 0,.int .u8 0,.int .u8 0,.int .u8 0,.int .u8 0,.int .u8 0,.int .u8 0,.int .u8 0,.int .u8 0,.int .u8 0,.int .u8 0,.int .u8 0,.int .u8 0,.int .u8 0,.int .u8 0,.int .u8 0,.int .u8 0,.int .u8 0,.int .u8 0,.int .u8 0,.int .u8 0,.int .u8 0,.int .u8 0,.int .u8 0,.int .u8 0,.int .u8 0,.int .u8 0,.int .u8 0,.int .u8 0,.int .u8 0,.int .u8 0,.int .u8 0,.int .u8 0,.int .u8 0,.int .u8 0,.int .u8 0,.int .u8 0,.int .u8 0,.int .u8 0,.int .u8 0,.int .u8 0,.int .u8 0,.int .u8 0,.int .u8 0,.int .u8 0,.int .u8 0,.int .u8 0,.int .u8 0,.int .u8 0,.int .u8 0,.int .u8 0,.int .u8 0,.int .u8 0,.int .u8 0,.int .u8 0,.int .u8 0,.int .u8 0,.int .u8 0,.int .u8 0,.int .u8 0,.int .u8 0,.int .u8 0,.int .u8 0,.int .u8 0,.int .u8 0,.int .u8 0,.int .u8 0,.int .u8 0,.int .u8 0,.int .u8 0,.int .u8 0,.int .u8 0,.int .u8 0,.int .u8 0,.int .u8 0,.int .u8 0,.int .u8 0,.int .u8 0,.int .u8 0,.int .u8 0,.int .u8 0,.int .u8 0,.int .u8 0,.int .u8 0,.int .u8 0,.int .u8 0,.int .u8 0,.int .u8 0,.int .u8 0,.int .u8 0,.int .u8 0,.int .u8 0,.int .u8 0,.int .u8 0,.int .u8 0,.int .u8 0,.int .u8 0,.int .u8 0,.int .u8 0,.int .u8 0,.int .u8 0,.int .u8 0,.int .u8 0,.int .u8 0,.int .u8 0,.int .u8 0,.int .u8 0,.int .u8 0,.int .u8 0,.int .u8 0,.int .u8 0,.int .u8 0,.int .u8 0,.int .u8 0,.int .u8 0,.int .u8 0,.int .u8 0,.int .u8 0,.int .u8 0,.int .u8 0,.int .u8 0,.int .u8 0,.int .u8 0,.int .u8 0,.int .u8 0,.int .u8 0,.int .u8 0,.int .u8 0,.int .u8 0,.int .u8 0,.int .u8 0,.int .u8 0,.int .u8 0,.int .u8 0,.int .u8 0,.int .u8 0,.int .u8 0,.int .u8 0,.int .u8 0,.int .u8 0,.int .u8 0,.int .u8 0,.int .u8 0,.int .u8 0,.int .u8 0,.int .u8 0,.int .u8 0,.int .u8 0,.int .u8 0,.int .u8 0,.int .u8 0,.int .u8 0,.int .u8 0,.int .u8 0,.int .u8 0,.int .u8 0,.int .u8 0,.int .u8 0,.int .u8 0,.int .u8 0,.int .u8 0,.int .u8 0,.int .u8 0,.int .u8 0,.int .u8 0,.int .u8 0,.int .u8 0,.int .u8 0,.int .u8 0,.int .u8 0,.int .u8 0,.int .u8 0,.int .u8 0,.int .u8 0,.int .u8 0,.int .u8 0,.int .u8 0,.int .u8 0,.int .u8 0,.int .u8 0,.int .u8 0,.int .u8 0,.int .u8 0,.int .u8 0,.int .u8 0,.int .u8 0,.int .u8 0,.int .u8 0,.int .u8 0,.int .u8 0,.int .u8 0,.int .u8 0,.int .u8 0,.int .u8 0,.int .u8 0,.int .u8 0,.int .u8 0,.int .u8 0,.int .u8 0,.int .u8 0,.int .u8 0,.int .u8 0,.int .u8 0,.int .u8 0,.int .u8 0,.int .u8 0,.int .u8 0,.int .u8 0,.int .u8 0,.int .u8 0,.int .u8 0,.int .u8 0,.int .u8 0,.int .u8 0,.int .u8 0,.int .u8 0,.int .u8 0,.int .u8 0,.int .u8 0,.int .u8 0,.int .u8 0,.int .u8 0,.int .u8 0,.int .u8 0,.int .u8 0,.int .u8 0,.int .u8 0,.int .u8 0,.int .u8 0,.int .u8 0,.int .u8 0,.int .u8 0,.int .u8 0,.int .u8 0,.int .u8 0,.int .u8 0,.int .u8 0,.int .u8 0,.int .u8 0,.int .u8 0,.int .u8 0,.int .u8 0],none⟩,
 some ⟨.struct [(0,5),(1,5)],2,2,[.int .u8 0,.int .u8 0],some (.prod (.int .u8) (.prod (.int .u8) (.unit)))⟩,
 some ⟨.struct [(0,5),(1,5)],2,2,[.int .u8 0,.int .u8 0],some (.prod (.int .u8) (.prod (.int .u8) (.unit)))⟩,
 some ⟨.arr 16 317,32,32,[.int .u8 0,.int .u8 0,.int .u8 0,.int .u8 0,.int .u8 0,.int .u8 0,.int .u8 0,.int .u8 0,.int .u8 0,.int .u8 0,.int .u8 0,.int .u8 0,.int .u8 0,.int .u8 0,.int .u8 0,.int .u8 0,.int .u8 0,.int .u8 0,.int .u8 0,.int .u8 0,.int .u8 0,.int .u8 0,.int .u8 0,.int .u8 0,.int .u8 0,.int .u8 0,.int .u8 0,.int .u8 0,.int .u8 0,.int .u8 0,.int .u8 0,.int .u8 0],none⟩,
 none,
 none,
 none,
 none,
 none,
 none,
 none,
 none,
 none,
 none,
 none,
 none,
 none,
 none,
 none,
 none,
 none,
 none,
 some ⟨.ptr 184,1,8,[.nilptr],none⟩,
 none,
 none,
 none,
 none,
 none,
 some ⟨.arr 32 5,32,32,[.int .u8 0,.int .u8 0,.int .u8 0,.int .u8 0,.int .u8 0,.int .u8 0,.int .u8 0,.int .u8 0,.int .u8 0,.int .u8 0,.int .u8 0,.int .u8 0,.int .u8 0,.int .u8 0,.int .u8 0,.int .u8 0,.int .u8 0,.int .u8 0,.int .u8 0,.int .u8 0,.int .u8 0,.int .u8 0,.int .u8 0,.int .u8 0,.int .u8 0,.int .u8 0,.int .u8 0,.int .u8 0,.int .u8 0,.int .u8 0,.int .u8 0,.int .u8 0],none⟩,
 some ⟨.arr 64 5,64,64,[.int .u8 0,.int .u8 0,.int .u8 0,.int .u8 0,.int .u8 0,.int .u8 0,.int .u8 0,.int .u8 0,.int .u8 0,.int .u8 0,.int .u8 0,.int .u8 0,.int .u8 0,.int .u8 0,.int .u8 0,.int .u8 0,.int .u8 0,.int .u8 0,.int .u8 0,.int .u8 0,.int .u8 0,.int .u8 0,.int .u8 0,.int .u8 0,.int .u8 0,.int .u8 0,.int .u8 0,.int .u8 0,.int .u8 0,.int .u8 0,.int .u8 0,.int .u8 0,.int .u8 0,.int .u8 0,.int .u8 0,.int .u8 0,.int .u8 0,.int .u8 0,.int .u8 0,.int .u8 0,.int .u8 0,.int .u8 0,.int .u8 0,.int .u8 0,.int .u8 0,.int .u8 0,.int .u8 0,.int .u8 0,.int .u8 0,.int .u8 0,.int .u8 0,.int .u8 0,.int .u8 0,.int .u8 0,.int .u8 0,.int .u8 0,.int .u8 0,.int .u8 0,.int .u8 0,.int .u8 0,.int .u8 0,.int .u8 0,.int .u8 0,.int .u8 0],none⟩,
 some ⟨.slice 111,1,24,[.nilsl],some (.slice (.int .i64))⟩]
def tbl (t:TypeId):Option TD:=(T8[t]?).getD none
theorem AH:a6 Go.Proofs.Tryz.prog tbl:=uT T8 (by kernel_rfl)
end
section
open Go.RowKit Go.ChangeShapes Go.WideShapes
def xZ (sh:TypeId→Ty→Bool) (P:Program):List Field→Nat→Ty→Bool
 | [],_,.unit=>true
 | fd::r,o,.prod a b=>Nat.beq fd.offset o&&(Nat.beq (P.cellsOf fd.type) (sz a)&&(sh fd.type a&&xZ sh P r (o+sz a) b))
 | _,_,_=>false
def uG (sh:TypeId→Ty→Bool) (P:Program) (e:TypeId):Nat→Ty→Bool
 | 0,.unit=>true
 | n+1,.prod a b=>Nat.beq (P.cellsOf e) (sz a)&&(sh e a&&uG sh P e n b)
 | _,_=>false
def shp (P:Program):Nat→TypeId→Ty→Bool
 | 0,_,_=>false
 | f+1,T,t=>match P.underlying T,t with
  | some (.int k),.int k'=>decide (k=k')
  | some .bool,.bool=>true
  | some .string,.str=>true
  | some (.slice e),.slice t=>shp P f e t&&(Nat.beq (P.cellsOf e) (sz t)&&(Nat.blt 0 (sz t)&&Nat.blt 0 (P.bytesOf e)))
  | some (.struct fs),.nm n=>xZ (shp P f) P fs.toList 0 n.flds&&Nat.beq (P.cellsOf T) n.size
  | some (.struct fs),.prod a b=>xZ (shp P f) P fs.toList 0 (.prod a b)&&Nat.beq (P.cellsOf T) (sz (.prod a b))
  | some (.array n e),.prod a b=>uG (shp P f) P e n (.prod a b)&&Nat.beq (P.cellsOf T) (sz (.prod a b))
  | _,_=>false
def cN:Nat→(t:Ty)→Den t→Nat
 | 0,_,_=>0
 | _+1,.int _,_=>1
 | _+1,.bool,_=>1
 | _+1,.str,s=>s.size+1
 | _+1,.unit,_=>0
 | f+1,.prod a b,x=>cN f a x.1+cN f b x.2
 | f+1,.slice t,xs=>(xs.map (cN f t)).sum+1
 | f+1,.nm n,x=>cN f n.flds (n.to x)
open Go.Proofs.YtjcbhomccohklaaGreatDoor.Rows (uptoBulk uptoBulkAll)
section
variable {H:Type} {enc:TypeId×Value→H} {P:Program} {w:World}
def lL (w:World):Nat→Prop:=fun b=>b<w.heap.size
def BW (P:Program) (T:TypeId) (d:DataW H):Prop:=∀ n∈d.weights P T,n≤aA
def Sk (w:World) (t:Ty) (cs:List Value) (d:DataW H):Prop:=∃ x:Den t,Rd (lL w) w t x cs∧∀ g,cN g t x≤uptoBulk d
def yr (enc:TypeId×Value→H) (P:Program) (w:World) (f:Nat):Prop:=∀ (T:TypeId) (t:Ty) (fuel:Nat) (cs:List Value) (z:DataW H×List MemPlace),shp P f T t=true→DataW.trod enc P w 0 (fun _=>true) true fuel T cs=some z→BW P T z.1→Sk w t cs z.1
theorem nT (cs:List Value) (o a b:Nat) :(cs.drop o).take (a+b) =(cs.drop o).take a ++(cs.drop (o+a)).take b:=by
 rw [List.take_add,List.drop_drop]
theorem zU {f n:Nat} (ih:yr enc P w f) {cs:List Value} :∀ (l:List Field) (ys:List (DataW H×List MemPlace)) (o:Nat) (t:Ty),xZ (shp P f) P l o t=true→ys.length=l.length→
  (∀ (i:Nat) (fd:Field),l[i]?=some fd→DataW.trod enc P w 0 (fun _=>true) true n fd.type ((cs.drop fd.offset).take (P.cellsOf fd.type))=ys[i]?)→
  (∀ m∈DataW.weightsEach P (l.map (·.type)) (ys.map (·.1)),m≤aA)→∃ x:Den t,Rd (lL w) w t x ((cs.drop o).take (sz t))∧∀ g,cN g t x≤uptoBulkAll (ys.map (·.1))
 | [],ys,o,t,hs,hl,_,_=>by
  cases t <;> simp only [xZ,Bool.false_eq_true] at hs
  refine ⟨(),by simpa [sz] using Rd.unit,fun g=>?_⟩
  cases g <;> simp [cN]
 | fd::l,ys,o,t,hs,hl,hy,hw=>by
  cases t <;> simp only [xZ,Bool.false_eq_true] at hs
  rename_i a b
  simp only [Bool.and_eq_true,Nat.beq_eq] at hs
  obtain ⟨rfl,h2,h3,h4⟩:=hs
  cases ys with
  | nil=>simp at hl
  | cons y ys=>
   have h0:=hy 0 fd rfl
   simp only [List.getElem?_cons_zero] at h0
   simp only [List.map_cons,DataW.weightsEach,List.mem_append] at hw
   obtain ⟨x,hx,bx⟩:=ih fd.type a _ _ y h3 h0 (fun m hm=>hw m (.inl hm))
   obtain ⟨z,hz,bz⟩:=zU ih l ys (fd.offset+sz a) b h4 (by simpa using hl) (fun i f' hf=>by simpa using hy (i+1) f' (by simpa using hf)) (fun m hm=>hw m (.inr hm))
   refine ⟨(x,z),?_,fun g=>?_⟩
   ·show Rd _ _ (.prod a b) (x,z) ((cs.drop fd.offset).take (sz a+sz b))
    rw [nT]
    rw [h2] at hx
    exact .prod hx hz
   ·cases g with
    | zero=>simp [cN]
    | succ g=>simp only [cN,List.map_cons,uptoBulkAll];have:=bx g;have:=bz g;omega
theorem Cn {f n:Nat} (ih:yr enc P w f) {cs:List Value} {e:TypeId} :∀ (k j:Nat) (ys:List (DataW H×List MemPlace)) (t:Ty),uG (shp P f) P e k t=true→ys.length=k→
  (∀ i:Nat,i<k→DataW.trod enc P w 0 (fun _=>true) true n e ((cs.drop ((j+i)*P.cellsOf e)).take (P.cellsOf e))=ys[i]?)→
  (∀ m∈DataW.weightsAll P e (ys.map (·.1)),m≤aA)→∃ x:Den t,Rd (lL w) w t x ((cs.drop (j*P.cellsOf e)).take (sz t))∧∀ g,cN g t x≤uptoBulkAll (ys.map (·.1))
 | 0,j,ys,t,hs,hl,_,_=>by
  cases t <;> simp only [uG,Bool.false_eq_true] at hs
  refine ⟨(),by simpa [sz] using Rd.unit,fun g=>?_⟩
  cases g <;> simp [cN]
 | k+1,j,ys,t,hs,hl,hy,hw=>by
  cases t <;> simp only [uG,Bool.false_eq_true] at hs
  rename_i a b
  simp only [Bool.and_eq_true,Nat.beq_eq] at hs
  obtain ⟨h2,h3,h4⟩:=hs
  cases ys with
  | nil=>simp at hl
  | cons y ys=>
   have h0:=hy 0 (by omega)
   simp only [List.getElem?_cons_zero,Nat.add_zero] at h0
   simp only [List.map_cons,DataW.weightsAll,List.mem_append] at hw
   obtain ⟨x,hx,bx⟩:=ih e a _ _ y h3 h0 (fun m hm=>hw m (.inl hm))
   obtain ⟨z,hz,bz⟩:=Cn ih k (j+1) ys b h4 (by simpa using hl) (fun i hi=>by
    have:=hy (i+1) (by omega)
    simpa [Nat.add_assoc,Nat.add_comm 1 i] using this) (fun m hm=>hw m (.inr hm))
   refine ⟨(x,z),?_,fun g=>?_⟩
   ·show Rd _ _ (.prod a b) (x,z) ((cs.drop (j*P.cellsOf e)).take (sz a+sz b))
    rw [nT]
    rw [h2] at hx hz ⊢
    rw [Nat.add_mul,Nat.one_mul] at hz
    exact .prod hx hz
   ·cases g with
    | zero=>simp [cN]
    | succ g=>simp only [cN,List.map_cons,uptoBulkAll];have:=bx g;have:=bz g;omega
theorem tQ {α:Type} (f:Nat→Option α) :∀ (l:List Nat) (r:List α),l.mapM f=some r→r.length=l.length∧∀ (i j:Nat),l[i]?=some j→r[i]?=f j
 | [],r,h=>by simp at h;subst h;simp
 | x::l,r,h=>by
  rw [List.mapM_cons] at h
  cases hx:f x with
  | none=>rw [hx] at h;cases h
  | some v=>
   rw [hx] at h
   cases hl:l.mapM f with
   | none=>simp [hl] at h
   | some r'=>
    simp [hl] at h
    subst h
    obtain ⟨h1,h2⟩:=tQ f l r' hl
    refine ⟨by simp [h1],fun i j hi=>?_⟩
    cases i with
    | zero=>simp at hi;subst hi;simp [hx]
    | succ i=>simpa using h2 i j (by simpa using hi)
theorem v7 {a:Addr} {n:Nat} {r:List Value} (h:w.cells? 0 a n=some r) (hn:0<n):a.spot=none∧∃ c T fr,w.heap[a.block]?=some (.cells c T fr)∧a.off+n≤c.size∧r=seg c a.off n:=by
 unfold World.cells? at h
 rw [if_pos (Nat.zero_le _)] at h
 obtain ⟨h1,h2⟩:=tQ _ _ _ h
 simp only [List.length_range] at h1
 have h0:=h2 0 0 (by simp [hn])
 have hr0:r[0]?=some (r[0]'(by omega)):=List.getElem?_eq_getElem _
 rw [hr0] at h0
 simp only [Addr.add,if_true] at h0
 unfold World.cell? at h0
 split at h0
 case h_2=>cases h0
 rename_i c T fr hb
 split at h0
 case isTrue=>cases h0
 rename_i hsp
 have hsp:a.spot=none:=by simpa using hsp
 have get :∀ i,i<n→∃ v,r[i]?=some v∧c.toList[a.off+i]?=some v:=fun i hi=>by
  have h3:=h2 i i (by simp [hi])
  have hri:r[i]?=some (r[i]'(by omega)):=List.getElem?_eq_getElem _
  have e:a.add i =⟨a.block,a.off+i,none⟩:=by
   unfold Addr.add
   split
   ·rename_i e;subst e;cases a;simp_all
   ·rfl
  rw [e,hri] at h3
  unfold World.cell? at h3
  simp only [hb,Option.isSome_none,Bool.false_eq_true,if_false] at h3
  exact ⟨_,hri,by rw [Array.getElem?_toList];exact h3.symm⟩
 have hsz:a.off+n≤c.size:=by
  obtain ⟨v,_,hv⟩:=get (n - 1) (by omega)
  have:a.off +(n - 1)<c.toList.length:=by
   rcases Nat.lt_or_ge (a.off +(n - 1)) c.toList.length with h4|h4
   ·exact h4
   ·rw [List.getElem?_eq_none h4] at hv;cases hv
  simp at this;omega
 refine ⟨hsp,c,T,fr,hb,hsz,?_⟩
 apply List.ext_getElem?
 intro i
 by_cases hi:i<n
 ·obtain ⟨v,h3,h4⟩:=get i hi
  rw [h3]
  simp only [seg,List.getElem?_take,if_pos hi,List.getElem?_drop,h4]
 ·rw [List.getElem?_eq_none (by omega),List.getElem?_eq_none]
  simp [seg];omega
theorem xI {f n:Nat} (ih:yr enc P w f) {e:TypeId} {t:Ty} (hs:shp P f e t=true) (hc:P.cellsOf e=sz t) (hpos:0<sz t) {a:Addr} :∀ (k j:Nat) (ys:List (DataW H×List MemPlace)),ys.length=k→
  (∀ i,i<k→(w.cells? 0 (a.add ((j+i)*sz t)) (sz t)).bind (DataW.trod enc P w 0 (fun _=>true) true n e)=ys[i]?)→
  (∀ m∈DataW.weightsAll P e (ys.map (·.1)),m≤aA)→
  ∃ xs:List (Den t),xs.length=k∧(∀ (i:Nat) (hi:i<xs.length),∃ r,w.cells? 0 (a.add ((j+i)*sz t)) (sz t)=some r∧Rd (lL w) w t xs[i] r)∧∀ g,(xs.map (cN g t)).sum≤uptoBulkAll (ys.map (·.1))
 | 0,j,ys,hl,_,_=>⟨[],rfl,fun i hi=>by simp at hi,fun g=>by simp⟩
 | k+1,j,ys,hl,hy,hw=>by
  cases ys with
  | nil=>simp at hl
  | cons y ys=>
   have h0:=hy 0 (by omega)
   simp only [List.getElem?_cons_zero,Nat.add_zero] at h0
   simp only [List.map_cons,DataW.weightsAll,List.mem_append] at hw
   cases hr:w.cells? 0 (a.add (j*sz t)) (sz t) with
   | none=>rw [hr] at h0;cases h0
   | some r=>
    rw [hr] at h0
    simp only [Option.bind_some] at h0
    obtain ⟨x,hx,bx⟩:=ih e t _ _ y hs h0 (fun m hm=>hw m (.inl hm))
    obtain ⟨xs,h1,h2,h3⟩:=xI ih hs hc hpos k (j+1) ys (by simpa using hl) (fun i hi=>by
     have:=hy (i+1) (by omega)
     simpa [Nat.add_assoc,Nat.add_comm 1 i] using this) (fun m hm=>hw m (.inr hm))
    refine ⟨x::xs,by simp [h1],fun i hi=>?_,fun g=>?_⟩
    ·cases i with
     | zero=>exact ⟨r,by simpa using hr,hx⟩
     | succ i=>
      obtain ⟨r',h4,h5⟩:=h2 i (by simpa using hi)
      exact ⟨r',by rw [←h4];simp [Nat.add_assoc,Nat.add_comm 1 i],by simpa using h5⟩
    ·simp only [List.map_cons,List.sum_cons,uptoBulkAll];have:=bx g;have:=h3 g;omega
theorem FY :∀ f,yr enc P w f
 | 0=>fun T t fuel cs z hs _ _=>by simp [shp] at hs
 | f+1=>fun T t fuel cs z hs h hw=>by
  have ih:=FY f
  unfold shp at hs
  split at hs
  ·rename_i k k' hT
   obtain ⟨n,rfl,rfl,hwf⟩:=DataW.trod_int hT h
   have e:k=k':=by simpa using hs
   subst e
   refine ⟨n,.int ?_,fun g=>?_⟩
   ·simpa [Lit.wf,ok] using hwf
   ·cases g <;> simp [cN,uptoBulk]
  ·rename_i hT
   obtain ⟨b,rfl,rfl⟩:=DataW.trod_bool hT h
   refine ⟨b,.bool,fun g=>?_⟩
   cases g <;> simp [cN,uptoBulk]
  ·rename_i hT
   obtain ⟨s,rfl,rfl,hwf⟩:=DataW.trod_string hT h
   have hl:s.size≤aA:=hw _ (by show s.size∈ [s.data.toList.length];rw [Array.length_toList];exact List.mem_singleton.2 rfl)
   refine ⟨s,.str hl,fun g=>?_⟩
   cases g with
   | zero=>exact Nat.zero_le _
   | succ g=>
    show s.size+1≤s.data.toList.length+1
    rw [Array.length_toList]
    exact Nat.le_refl _
  ·rename_i e t' hT
   simp only [Bool.and_eq_true,Nat.beq_eq,Nat.blt_eq] at hs
   obtain ⟨h1,h2,h3,h4⟩:=hs
   rcases DataW.trod_slice hT h with ⟨rfl,rfl⟩ |⟨a,len,cap,elems,rest,n,rfl,rfl,rfl,hb,hl,hm,hlen,hel,hsp,_⟩
   ·refine ⟨[],.nil,fun g=>?_⟩
    cases g <;> simp [cN,uptoBulk]
   ·simp only [BW,DataW.weights,hT] at hw
    rw [h2] at hel
    obtain ⟨xs,k1,k2,k3⟩:=xI ih h1 h2 h3 len 0 elems hlen (fun i hi=>by simpa using hel i hi) (fun m hm=>hw m (List.mem_cons_of_mem _ (List.mem_append_left _ hm)))
    have hlb:xs.length≤aA:=by
     have hw0:=hw _ List.mem_cons_self
     rw [List.length_map,List.length_map] at hw0
     have h5 :(elems.length+rest.length)*1≤(elems.length+rest.length)*P.bytesOf e:=Nat.mul_le_mul_left _ h4
     omega
    refine ⟨xs,?_,fun g=>?_⟩
    ·cases hx:len with
     | zero=>
      have:xs=[]:=List.eq_nil_of_length_eq_zero (by omega)
      subst this
      exact .nil
     | succ len'=>
      obtain ⟨r0,q1,q2⟩:=k2 0 (by omega)
      simp only [Nat.zero_add,Nat.zero_mul] at q1
      have ha0:a.add 0=a:=rfl
      rw [ha0] at q1
      obtain ⟨hspot,c,T0,fr,hblk,hsz0,_⟩:=v7 q1 h3
      have hat :∀ i,a.add (i*sz t') =⟨a.block,a.off+i*sz t',none⟩:=fun i=>by
       unfold Addr.add
       split
       ·rename_i e0;cases a;simp_all
       ·rfl
      have hread :∀ (i:Nat) (hi:i<xs.length),a.off+i*sz t'+sz t'≤c.size∧Rd (lL w) w t' xs[i] (seg c (a.off+i*sz t') (sz t')):=fun i hi=>by
       obtain ⟨r,q3,q4⟩:=k2 i hi
       rw [Nat.zero_add,hat] at q3
       obtain ⟨_,c',T',fr',hblk',hsz',rfl⟩:=v7 q3 h3
       simp only at hblk' hsz' q4
       rw [hblk] at hblk'
       cases hblk'
       exact ⟨hsz',q4⟩
      have ea:a =⟨a.block,a.off,none⟩:=by cases a;simp_all
      rw [ea,←hx,←k1]
      have hlast:=(hread (xs.length - 1) (by omega)).1
      have hmul :(xs.length - 1)*sz t'+sz t'=xs.length*sz t':=by
       rw [←Nat.succ_mul];congr 1;omega
      refine .slice ?_ hblk (by omega) (by omega) hlb (fun i hi=>(hread i hi).2)
      show a.block<w.heap.size
      rcases Nat.lt_or_ge a.block w.heap.size with h6|h6
      ·exact h6
      ·rw [Array.getElem?_eq_none h6] at hblk;cases hblk
    ·cases g with
     | zero=>simp [cN]
     | succ g=>simp only [cN,uptoBulk];have:=k3 g;omega
  ·rename_i fs n hT
   simp only [Bool.and_eq_true,Nat.beq_eq] at hs
   obtain ⟨xs,m,rfl,rfl,hlen,hl,hx⟩:=DataW.trod_struct hT h
   simp only [BW,DataW.weights,hT] at hw
   obtain ⟨x,h1,h2⟩:=zU ih (cs:=cs) fs.toList xs 0 n.flds hs.1 (by simpa using hl) (fun i fd hf=>hx i fd (by simpa using hf)) hw
   have hsz:sz n.flds=n.size:=n.size_flds
   rw [hsz,List.drop_zero,List.take_of_length_le (by omega)] at h1
   refine ⟨n.of x,.nm (by rw [n.to_of];exact h1),fun g=>?_⟩
   cases g with
   | zero=>simp [cN]
   | succ g=>simp only [cN,uptoBulk,n.to_of];have:=h2 g;omega
  ·rename_i fs a b hT
   simp only [Bool.and_eq_true,Nat.beq_eq] at hs
   obtain ⟨xs,m,rfl,rfl,hlen,hl,hx⟩:=DataW.trod_struct hT h
   simp only [BW,DataW.weights,hT] at hw
   obtain ⟨x,h1,h2⟩:=zU ih (cs:=cs) fs.toList xs 0 (.prod a b) hs.1 (by simpa using hl) (fun i fd hf=>hx i fd (by simpa using hf)) hw
   rw [List.drop_zero,List.take_of_length_le (by omega)] at h1
   refine ⟨x,h1,fun g=>?_⟩
   have:=h2 g;simp only [uptoBulk];omega
  ·rename_i n e a b hT
   simp only [Bool.and_eq_true,Nat.beq_eq] at hs
   obtain ⟨xs,m,rfl,rfl,hlen,hl,hx⟩:=DataW.trod_array hT h
   simp only [BW,DataW.weights,hT] at hw
   obtain ⟨x,h1,h2⟩:=Cn ih (cs:=cs) n 0 xs (.prod a b) hs.1 hl (fun i hi=>by simpa using hx i hi) hw
   rw [Nat.zero_mul,List.drop_zero,List.take_of_length_le (by omega)] at h1
   refine ⟨x,h1,fun g=>?_⟩
   have:=h2 g;simp only [uptoBulk];omega
  ·cases hs
end
end
section
open Go.RowKit Go.ChangeShapes Go.WideShapes
open Go.Proofs.YtjcbhomccohklaaGreatDoor.Rows (uptoBulk uptoBulkAll)
section
variable {H:Type} {enc:TypeId×Value→H} {P:Program} {w:World}
def uF (P:Program):List TypeId→Ty→Bool
 | [],.unit=>true
 | T::Ts,.prod a b=>shp P 32 T a&&uF P Ts b
 | _,_=>false
theorem KZ {f:Nat} {T:TypeId} {t:Ty} (hs:shp P f T t=true) {r:Reach} {b:Nat} {v:Value} (hv:Value.okWide P w r b T v) :(fB t=true∧∃ l,v = .agg l)∨(fB t=false∧v.cells.toList=[v]):=by
 cases f with
 | zero=>simp [shp] at hs
 | succ f=>
  unfold shp at hs
  split at hs
  ·rename_i k k' hT
   obtain ⟨n,rfl⟩:=okWide_int hT hv
   exact .inr ⟨rfl,rfl⟩
  ·rename_i hT
   obtain ⟨n,rfl⟩:=okWide_bool hT hv
   exact .inr ⟨rfl,rfl⟩
  ·rename_i hT
   obtain ⟨n,rfl⟩:=okWide_string hT hv
   exact .inr ⟨rfl,rfl⟩
  ·rename_i hT
   obtain ⟨a,l,c,rfl⟩:=okWide_slice hT hv
   exact .inr ⟨rfl,rfl⟩
  ·rename_i fs n hT
   obtain ⟨cs,rfl,_⟩:=okWide_struct hT hv
   exact .inl ⟨rfl,cs,rfl⟩
  ·rename_i fs a b hT
   obtain ⟨cs,rfl,_⟩:=okWide_struct hT hv
   exact .inl ⟨rfl,cs,rfl⟩
  ·rename_i n e a b hT
   simp only [Value.okWide,hT] at hv
   obtain ⟨cs,rfl,_⟩:=hv
   exact .inl ⟨rfl,cs,rfl⟩
  ·cases hs
def LM (w:World):Env:=⟨fun _=>False,fun _=>none,lL w,w,fun _=>none⟩
def No (w:World) (g:nV w fun _=>False):Base:=A2 w (fun _=>False) (lL w) g
theorem ID (w:World) (g:nV w fun _=>False):HRel (No w g) (LM w):=by
 refine ⟨fun h b hx=>?_,fun b hb=>hb,fun h k b hx=>?_,fun h h' k k' b hx=>?_,fun h k hx=>?_,Keeps.refl _ _,fun h k b hx=>?_,fun _ h=>h,fun _ h=> .inl h⟩ <;> cases hx
theorem pV :∀ {Ts:List TypeId} {vs:List Value} {ds:List (DataW H)} {p:List MemPlace} {ps:Ty},DataW.TrodAll enc P w 0 (fun _=>true) true Ts vs ds p→uF P Ts ps=true→
  (∀ (j:Nat) (t:TypeId) (v:Value),Ts[j]?=some t→vs[j]?=some v→∃ r b,Value.okWide P w r b t v)→(∀ m∈DataW.weightsEach P Ts ds,m≤aA)→
  ∃ x:Den ps,ab (LM w) (dy ps x) vs∧(∃ cs,Rd (lL w) w ps x cs)∧(∀ g,cN g ps x≤uptoBulkAll ds)∧vs.length=Ts.length∧ds.length=Ts.length
 | [],vs,ds,p,ps,ht,hs,_,_=>by
  cases ps <;> simp only [uF,Bool.false_eq_true] at hs
  cases vs with
  | cons=>cases ds <;> simp [DataW.TrodAll] at ht
  | nil=>
   cases ds with
   | cons=>simp [DataW.TrodAll] at ht
   | nil=>exact ⟨(),trivial,⟨[],.unit⟩,fun g=>by cases g <;> simp [cN],rfl,rfl⟩
 | T::Ts,vs,ds,p,ps,ht,hs,hv,hw=>by
  cases ps <;> simp only [uF,Bool.false_eq_true] at hs
  rename_i a b
  simp only [Bool.and_eq_true] at hs
  cases vs with
  | nil=>cases ds <;> simp [DataW.TrodAll] at ht
  | cons v vs=>
   cases ds with
   | nil=>simp [DataW.TrodAll] at ht
   | cons d ds=>
    simp only [DataW.TrodAll] at ht
    obtain ⟨p1,q,⟨fuel,h1⟩,h2,_⟩:=ht
    simp only [DataW.weightsEach,List.mem_append] at hw
    obtain ⟨x,hx,bx⟩:=FY 32 T a fuel _ _ hs.1 h1 (fun m hm=>hw m (.inl hm))
    obtain ⟨y,k1,⟨cs,k2⟩,k3,k4,k5⟩:=pV h2 hs.2 (fun j t v h3 h4=>hv (j+1) t v (by simpa using h3) (by simpa using h4)) (fun m hm=>hw m (.inr hm))
    obtain ⟨r,b0,hok⟩:=hv 0 T v rfl rfl
    refine ⟨(x,y),?_,⟨_,.prod hx k2⟩,fun g=>?_,by simp [k4],by simp [k5]⟩
    ·simp only [dy,ab]
     exact ⟨oG (E:=LM w) hx (KZ hs.1 hok),k1⟩
    ·cases g with
     | zero=>simp [cN]
     | succ g=>
      simp only [cN,uptoBulkAll]
      have h1:cN g a x≤uptoBulk d:=bx g
      have:=k3 g
      omega
def isTrue:V→Prop
 | .bool b=>b=true
 | .kb b=>b=true
 | _=>False
theorem DY {w':World} (h:Keeps w (fun _=>False) w') (may:MemPlace→Prop):w.keptBut w' may:=by
 refine ⟨h.os,h.output,fun i hi=>?_⟩
 rw [h.block i hi (fun h=>h)]
 split
 ·rename_i a b c d e f h1 h2
  rw [h1] at h2;cases h2
  exact ⟨rfl,rfl,rfl,fun _ _=>rfl⟩
 ·rename_i h1 h2
  rw [h1] at h2;cases h2
  exact .inr ⟨rfl,rfl⟩
 ·rfl
theorem nU (hl:laidOutB P=true) {w':World} (hk:Keeps w (fun _=>False) w') {sp:Nat→Bool} :∀ {Ts:List TypeId} {vs:List Value} {ds:List (DataW H)} {p:List MemPlace},DataW.TrodAll enc P w 0 (fun _=>true) true Ts vs ds p→
  (∀ t∈Ts,P.readableRec t=true∧t<P.types.size)→(∀ x∈p,x.block<w.heap.size)→(∀ x∈p,sp x.block=true)→DataW.TrodAll enc P w' 0 sp true Ts vs ds p
 | [],vs,ds,p,h,_,_,_=>by cases vs <;> cases ds <;> simp_all [DataW.TrodAll]
 | T::Ts,vs,ds,p,h,hr,hp,hs=>by
  cases vs with
  | nil=>cases ds <;> simp [DataW.TrodAll] at h
  | cons v vs=>
   cases ds with
   | nil=>simp [DataW.TrodAll] at h
   | cons d ds=>
    simp only [DataW.TrodAll] at h ⊢
    obtain ⟨p1,q,h1,h2,rfl⟩:=h
    have hb:Below w.heap.size w w':=⟨hk.os,hk.tape,hk.output,hk.size,fun k hk'=>hk.block k hk' (fun h=>h)⟩
    refine ⟨p1,q,?_,nU hl hk h2 (fun t ht=>hr t (by simp [ht])) (fun x hx=>hp x (by simp [hx])) (fun x hx=>hs x (by simp [hx])),rfl⟩
    exact WideElems.Trod_stays hl (hr T (by simp)).1 (hr T (by simp)).2 h1 (fun x hx=>hb.same (hp x (by simp [hx]))) (fun x hx=>hs x (by simp [hx]))
theorem Jl (hl:laidOutB P=true) {fn:Func} {s:ChangeSpec} {TB:TypeId} (hres:fn.resultTypes=#[TB]) (hTB:P.underlying TB=some .bool) (hread :∀ t∈fn.params.toList,P.readableRec t=true∧t<P.types.size)
  (hsv:s.vars=[]) {args:Array Value} {ds gs:List (DataW H)} {before:List MemPlace} (hW:DataW.Whole enc P fn.params.toList s.vars false w args.toList ds gs before)
  (hs :(s.fn H (ds++gs)).results=[.lit (.bool true)]∧(s.fn H (ds++gs)).args=ds∧(s.fn H (ds++gs)).vars=[]) {w':World} (hk:Keeps w (fun _=>False) w') :
  s.post enc P fn false true false false w args (.bool true) w':=by
 have hlt:=hW.lt
 have hW':=hW
 obtain ⟨p,q,hA,hV,rfl,hfz,hnd⟩:=hW
 rw [hsv] at hV
 obtain ⟨rfl,rfl⟩:=trodVars_none hV
 simp only [List.append_nil] at hlt hW' hs ⊢
 refine ⟨ds,[],p,[],p,[],by simpa using hW',?_,?_,?_,DY hk _,fun h=>by cases h⟩
 ·rw [List.append_nil,hs.1,hres]
  exact trodAll_mk1 (shut_bool hTB true)
 ·rw [List.append_nil,hs.2.1]
  exact nU hl hk hA hread hlt (fun x hx=>by simpa using hlt x hx)
 ·rw [List.append_nil,hs.2.2,hsv]
  rfl
end
end
section
open Go.RowKit
variable {P:Program}
inductive Lspec (α:Type) where
 | next (a:α) (σ:List (Nat×Nat)) (Z:List Nat)
 | out (path:List Bool) (σ:List (Nat×Nat)) (Z:List Nat)
def D1:Lf→Lf→Bool
 | .nrm,.nrm=>true
 | .ret,.ret=>true
 | .ext n,.ext m=>Nat.beq n m
 | _,_=>false
theorem tK {e e':Lf} (h:D1 e e'=true):e=e':=by
 cases e <;> cases e' <;> simp only [D1,Bool.false_eq_true,Nat.beq_eq] at h
 ·rfl
 ·subst h;rfl
 ·rfl
def LI:List Prop→Prop
 | []=>True
 | [p]=>p
 | p::q::r=>p∧LI (q::r)
theorem A8 :∀ {l:List Prop},LI l→∀ p∈l,p
 | [],_,p,hp=>by simp at hp
 | [q],h,p,hp=>by rw [List.mem_singleton] at hp;subst hp;exact h
 | q::q'::r,h,p,hp=>by
  rcases List.mem_cons.1 hp with rfl|hp
  ·exact h.1
  ·exact A8 h.2 p hp
def Tr.walk:Tr→List Bool→Option (List Prop×Lf×Dl×Nat)
 | .leaf e d nx,_=>some ([],e,d,nx)
 | .br b t u,p=>match p with
  | true::p=>(match t.walk p with|some (ps,z)=>some ((b=true)::ps,z)|none=>none)
  | false::p=>(match u.walk p with|some (ps,z)=>some ((b=false)::ps,z)|none=>none)
  | []=>none
 | .need _ t,p=>t.walk p
 | .both t u,p=>match p with
  | true::p=>t.walk p
  | false::p=>u.walk p
  | []=>none
 | .when b t,p=>match t.walk p with|some (ps,z)=>some ((b=true)::ps,z)|none=>none
 | .done,_=>none
 | .bad,_=>none
theorem jb {Q:Lf→Dl→Nat→Prop} :∀ {t:Tr} {p:List Bool} {ps:List Prop} {e:Lf} {d:Dl} {nx:Nat},t.walk p=some (ps,e,d,nx)→(∀ q∈ps,q)→t.sat Q→Q e d nx
 | .leaf e d nx,p,ps,e',d',nx',h,_,hs=>by simp only [Tr.walk,Option.some.injEq,Prod.mk.injEq] at h;obtain ⟨_,rfl,rfl,rfl⟩:=h;exact hs
 | .br b t u,p,ps,e',d',nx',h,hp,hs=>by
  cases p with
  | nil=>simp [Tr.walk] at h
  | cons x p=>
   cases x with
   | true=>
    simp only [Tr.walk] at h
    split at h
    case h_2=>cases h
    rename_i ps' z hz
    simp only [Option.some.injEq,Prod.mk.injEq] at h
    obtain ⟨rfl,rfl⟩:=h
    exact jb hz (fun q hq=>hp q (by simp [hq])) (hs.1 (hp _ (by simp)))
   | false=>
    simp only [Tr.walk] at h
    split at h
    case h_2=>cases h
    rename_i ps' z hz
    simp only [Option.some.injEq,Prod.mk.injEq] at h
    obtain ⟨rfl,rfl⟩:=h
    exact jb hz (fun q hq=>hp q (by simp [hq])) (hs.2 (hp _ (by simp)))
 | .need q t,p,ps,e',d',nx',h,hp,hs=>jb (t:=t) h hp hs.2
 | .both t u,p,ps,e',d',nx',h,hp,hs=>by
  cases p with
  | nil=>simp [Tr.walk] at h
  | cons x p=>
   cases x with
   | true=>exact jb (t:=t) h hp hs.1
   | false=>exact jb (t:=u) h hp hs.2
 | .when b t,p,ps,e',d',nx',h,hp,hs=>by
  simp only [Tr.walk] at h
  split at h
  case h_2=>cases h
  rename_i ps' z hz
  simp only [Option.some.injEq,Prod.mk.injEq] at h
  obtain ⟨rfl,rfl⟩:=h
  exact jb hz (fun q hq=>hp q (by simp [hq])) (hs (hp _ (by simp)))
 | .done,p,_,_,_,_,h,_,_=>by simp [Tr.walk] at h
 | .bad,p,_,_,_,_,h,_,_=>by simp [Tr.walk] at h
section
variable {α:Type} (I:α→St) (inv:α→Prop) (μ:α→Nat) (a:α) (T:Tr)
def FM (e:Lf) (d:Dl) (nx:Nat):Lspec α→Prop
 | .next a' σ Z=>match e with
  | .nrm=>inv a'∧μ a'<μ a∧Sub ⟨σ,Z,(I a').nx⟩ ((I a).app d nx) (I a').tm (I a').hp
  | _=>False
 | .out p σ Z=>match e with
  | .nrm=>False
  | e=>match T.walk p with
   | some (ps,e',d',nx')=>ifB (D1 e e') (LI ps∧Sub ⟨σ,Z,nx'⟩ ((I a).app d nx) d'.tm d'.hp)
   | none=>False
def stepObl:Tr→List (Lspec α)→Prop×List (Lspec α)
 | .leaf e d nx,l=>match l with
  | []=>(False,[])
  | s::r=>(FM I inv μ a T e d nx s,r)
 | .br b t u,l=>((b=true→(stepObl t l).1)∧(b=false→(stepObl u (stepObl t l).2).1),(stepObl u (stepObl t l).2).2)
 | .need p t,l=>(p∧(stepObl t l).1,(stepObl t l).2)
 | .both t u,l=>((stepObl t l).1∧(stepObl u (stepObl t l).2).1,(stepObl u (stepObl t l).2).2)
 | .when b t,l=>((b=true→(stepObl t l).1),(stepObl t l).2)
 | .done,l=>(True,l)
 | .bad,l=>(False,l)
def Od:Lf→Dl→Nat→Prop:=fun e d nx=>match e with
 | .nrm=>∃ (a':α) (M:Nam),inv a'∧μ a'<μ a∧M.nx =(I a').nx∧Sub M ((I a).app d nx) (I a').tm (I a').hp
 | e=>∃ (M:Nam) (tm:List (Nat×V)) (hp:List (Nat×Blk)),Sub M ((I a).app d nx) tm hp∧∀ Q:Lf→Dl→Nat→Prop,T.sat Q→Q e ⟨tm,hp⟩ M.nx
variable {I inv μ a T}
theorem BV {e:Lf} {d:Dl} {nx:Nat} :∀ {s:Lspec α},FM I inv μ a T e d nx s→Od I inv μ a T e d nx
 | .next a' σ Z,h=>by
  cases e with
  | nrm=>exact ⟨a',⟨σ,Z,(I a').nx⟩,h.1,h.2.1,rfl,h.2.2⟩
  | ext id=>exact h.elim
  | ret=>exact h.elim
 | .out p σ Z,h=>by
  have key :∀ e:Lf,(match T.walk p with
   | some (ps,e',d',nx')=>ifB (D1 e e') (LI ps∧Sub ⟨σ,Z,nx'⟩ ((I a).app d nx) d'.tm d'.hp)
   | none=>False)→∃ (M:Nam) (tm:List (Nat×V)) (hp:List (Nat×Blk)),Sub M ((I a).app d nx) tm hp∧∀ Q:Lf→Dl→Nat→Prop,T.sat Q→Q e ⟨tm,hp⟩ M.nx:=fun e h=>by
   split at h
   case h_2=>exact h.elim
   rename_i ps e' d' nx' hw
   obtain ⟨h1,h2,h3⟩:=ifB_iff.1 h
   obtain rfl:=tK h1
   exact ⟨⟨σ,Z,nx'⟩,d'.tm,d'.hp,h3,fun Q hT=>jb hw (A8 h2) hT⟩
  cases e with
  | nrm=>exact h.elim
  | ext id=>exact key _ h
  | ret=>exact key _ h
theorem dL :∀ {t:Tr} {l:List (Lspec α)},(stepObl I inv μ a T t l).1→t.sat (Od I inv μ a T)
 | .leaf e d nx,l,h=>by
  cases l with
  | nil=>exact h.elim
  | cons s r=>exact BV h
 | .br b t u,l,h=>⟨fun hb=>dL (h.1 hb),fun hb=>dL (h.2 hb)⟩
 | .need p t,l,h=>⟨h.1,dL h.2⟩
 | .both t u,l,h=>⟨dL h.1,dL h.2⟩
 | .when b t,l,h=>fun hb=>dL (h hb)
 | .done,_,h=>h
 | .bad,_,h=>h.elim
end
theorem pj {C:Cfg} (hC:CfgOK P C) (hP:P.follows .mixedOrders=true) {body:Code} {α:Type} (I:α→St) (hI :∀ a,(I a).H0=fun _=>none) (inv:α→Prop) (μ:α→Nat) (Λ:α→Nat→Option LoopSum)
  (hΛ :∀ a,inv a→∀ b∈aU (Λ a) body,∀ L,Λ a (rid b)=some L→LoopOK P C.N b L) (T:Tr) (σ:List (Nat×Nat)) (Z:List Nat) (a0:α) (h0:inv a0) (L:α→List (Lspec α))
  (step :∀ a,inv a→(stepObl I inv μ a T (bs C (Λ a) body (I a)) (L a)).1) :
  LoopOK P C.N body (eE ⟨σ,Z,(I a0).nx⟩ (I a0) T):=
 Mb hC hP I hI inv μ Λ hΛ h0 rfl fun a ha=>dL (step a ha)
def LoopSum.under (p:Prop) (L:LoopSum):LoopSum:=⟨fun st=>p∧L.pre st,L.T⟩
theorem LoopOK.under {N:Nat} {b:Code} {L:LoopSum} {p:Prop} (h:p→LoopOK P N b L):LoopOK P N b (L.under p):=fun B hB st Q CQ hp=>h hp.1 B hB st Q CQ hp.2
def LoopsOK (P:Program) (N:Nat) (l:List Code) (Λ:Nat→Option LoopSum):Prop:=∀ b∈l,∀ L,Λ (rid b)=some L→LoopOK P N b L
theorem LoopsOK.nil {N:Nat} {Λ:Nat→Option LoopSum}:LoopsOK P N [] Λ:=fun b hb=>by simp at hb
theorem LoopsOK.cons {N:Nat} {b:Code} {l:List Code} {Λ:Nat→Option LoopSum} {L:LoopSum} (h0:Λ (rid b)=some L) (h1:LoopOK P N b L) (h2:LoopsOK P N l Λ):LoopsOK P N (b::l) Λ:=fun b' hb L' hL=>by
 rcases List.mem_cons.1 hb with rfl|hb
 ·rw [h0] at hL;cases hL;exact h1
 ·exact h2 b' hb L' hL
theorem LoopsOK.skip {N:Nat} {b:Code} {l:List Code} {Λ:Nat→Option LoopSum} (h0:Λ (rid b)=none) (h2:LoopsOK P N l Λ):LoopsOK P N (b::l) Λ:=fun b' hb L' hL=>by
 rcases List.mem_cons.1 hb with rfl|hb
 ·rw [h0] at hL;cases hL
 ·exact h2 b' hb L' hL
def nX (fn:Func):Code:=match fn.body with|some c=>c|none=> .skip
def aq (fn:Func) (k:Nat):Code:=match (kO (nX fn))[k]? with|some c=>c|none=> .skip
def bA (fn:Func) (k j:Nat):Code:=match (kO (aq fn k))[j]? with|some c=>c|none=> .skip
theorem LoopsOK.at {N:Nat} {fn:Func} {l:List Code} {Λ:Nat→Option LoopSum} (he:aU Λ (nX fn)=l) (h:LoopsOK P N l Λ) :∀ c,fn.body=some c→∀ b∈aU Λ c,∀ L,Λ (rid b)=some L→LoopOK P N b L:=fun c hc=>by
 have:nX fn=c:=by unfold nX;rw [hc]
 rw [←this,he]
 exact h
def RT.chk (Q:V→List RowD→Prop):RT→List Prop
 | .ret v rows=> [Q v rows]
 | .br b t e=>match b with|true=>t.chk Q|false=>e.chk Q
 | .need p t=>p::t.chk Q
 | .both t u=>t.chk Q++u.chk Q
 | .when b t=>match b with|true=>t.chk Q|false=> []
 | .done=> []
 | .bad=> [False]
abbrev so:=List (FuncId×Ctr)
def CtrsOK (P:Program) (K:Nat) (l:so):Prop:=∀ f c,find l f=some c→CtrOK P K f c
theorem CtrsOK.nil {K:Nat}:CtrsOK P K []:=fun f c h=>by simp [find] at h
theorem CtrsOK.cons {K:Nat} {f:FuncId} {c:Ctr} {l:so} (h:CtrOK P K f c) (hl:CtrsOK P K l):CtrsOK P K ((f,c)::l):=fun g c' hg=>by
 simp only [find] at hg
 cases hb:Nat.beq f g with
 | true=>rw [hb] at hg;obtain rfl:=Nat.eq_of_beq_eq_true hb;simp only [cond_true,Option.some.injEq] at hg;subst hg;exact h
 | false=>rw [hb] at hg;exact hl g c' hg
end
section
open Go.RowKit
variable {P:Program}
theorem SO {B:Base} {E:Env} (hE:HRel B E) (w':World) (hk:Keeps E.w (fun _=>False) w'):HRel B { E with w:=w' }∧Ext E { E with w:=w' }:=by
 have hb :∀ b,b<E.w.heap.size→w'.heap[b]?=E.w.heap[b]?:=fun b h=>hk.block b h fun h=>h
 have hs :∀ {b:Nat} {o:Obj},E.w.heap[b]?=some o→b<E.w.heap.size:=fun {b o} h=>by
  rcases Nat.lt_or_ge b E.w.heap.size with h1|h1
  ·exact h1
  ·rw [Array.getElem?_eq_none h1] at h;cases h
 have X:Ext E { E with w:=w' }:=
  ⟨fun _ h=>h,fun _ h=>h,fun b h=>hb b (hE.stab b h),fun h cs _ hx=>⟨⟨cs,hx⟩,rfl⟩,fun h ver rw t xs _ _ hx=>⟨rw,xs,hx,rfl,rfl,fun b c T fr _ hw=>⟨c,T,fr,(hb b (hs hw)).trans hw,rfl⟩⟩,
   fun h ver esz cs _ _ hx=>⟨cs,hx,rfl,rfl,fun b c T fr _ hw=>⟨c,T,fr,(hb b (hs hw)).trans hw,rfl⟩⟩,fun h es _ hx=>⟨⟨es,hx⟩,rfl⟩,fun h k t x _ hx=>⟨⟨x,hx⟩,rfl⟩⟩
 have tm :∀ {h k b},E.H h=some k→Tch { E with w:=w' } h k b→Tch E h k b:=fun hx ht=>Tch.mv (E:=E) (E':={ E with w:=w' }) rfl (fun b hb'=>hb b (hE.lt _ _ _ hx hb')) ht
 refine ⟨⟨hE.used,fun b h=>Nat.lt_of_lt_of_le (hE.stab b h) hk.size,fun h k b a1 a2=>Nat.lt_of_lt_of_le (hE.lt' h k b a1 (tm a1 a2)) hk.size,fun h h' k k' b a1 a2 a3 a4=>hE.inj' h h' k k' b a1 a2 (tm a1 a3) (tm a2 a4),fun h k a1=>bX X rfl (fun b hb'=>hb b (hE.lt' h k b a1 hb')) (fun _ _ _ h=>h) (hE.blk h k a1),?_,fun h k b a1 a2=>hE.own' h k b a1 (tm a1 a2),hE.s0,hE.sb⟩,X⟩
 exact hE.keeps.trans (G:=fun _=>False) ⟨hk.os,hk.tape,hk.output,hk.size,hk.block⟩ (fun _ h=>h.elim)
theorem pY {K:Nat} {f:FuncId} {fn:Func} (hf:P.funcs[f]?=some fn) (hbody:fn.body.isSome=true) (hname :(fn.name == "runtime.NumGoroutine")=false) {ps:Ty} {spec:Den ps→PRes} (hfl :∀ x,(spec x).rows=[]∧(spec x).v.noF=true)
  (h :∀ (x:Den ps) (av:List Value) (w:World) (E:Env),wfD ps x→(∀ p∈(spec x).needs,p)→nV w (fun _=>False)→ab E (dy ps x) av→Calls P f av.toArray w fun e w'=>∃ v',e = .returned v'∧Keeps w (fun _=>False) w'∧∀ E':Env,aa E' ((spec x).v.shift 0) v') (hsh :∀ x m,(spec x).v.shift m =(spec x).v.shift 0):CtrOK P K f (aK K ps spec):=by
 refine ⟨⟨fn,hf,hbody,hname⟩,fun B E hE args av hav m hm ps' v dh hct hps=>?_⟩
 unfold aK at hct
 simp only at hct
 split at hct
 case h_2=>cases hct
 rename_i x hx
 obtain ⟨hr,hn⟩:=hfl x
 have hflat :(spec x).flat=true:=by unfold PRes.flat;rw [hn,hr];rfl
 rw [hr,hflat] at hct
 simp only [List.length_nil,iV,cond_true,List.append_nil] at hct
 cases hle:Nat.ble 0 K with
 | false=>rw [hle] at hct;cases hct
 | true=>
  rw [hle] at hct
  simp only [cond_true,Option.some.injEq,Prod.mk.injEq] at hct
  obtain ⟨rfl,rfl,rfl⟩:=hct
  obtain ⟨hSE,XS⟩:=cx hE (hss args)
  obtain ⟨hav0,cs,hrd⟩:=iK hSE (Ec:=bh E (hss args)) rfl rfl (aR XS _ _ hav) hx
  refine (h x av E.w _ ⟨_,_,_,hrd⟩ hps hE.glob0 hav0).mono fun e w' ⟨v',h1,h2,h3⟩=>?_
  obtain ⟨hE',X⟩:=SO hE w' h2
  refine ⟨{ E with w:=w' },v',h1,⟨hE',X,rfl,by funext z;simp [au,find],fun n hn=> .inl hn⟩,?_⟩
  rw [hsh x m]
  exact h3 _
end
section
open Go.RowKit
variable {P:Program}
inductive PC0 where
 | c (v:V)
 | h (t:Ty)
 | d (t:Ty)
inductive PC where
 | c (v:V)
 | h (t:Ty)
 | a (l:List PC0)
 | p (t:Ty)
 | r (h ver:Nat)
inductive PB where
 | cells (l:List PC0)
 | dat (t:Ty)
 | row (ver:Nat) (t:Ty)
 | abs (k:Nat) (t:Ty)
structure Pat where
 tm:List (Nat×PC)
 hp:List (Nat×PB)
 nx:Nat
def C7:PC0→Ty→Ty
 | .c _,r=>r
 | .h t,r=> .prod t r
 | .d t,r=> .prod t r
def kr:List PC0→Ty→Ty
 | [],r=>r
 | p::l,r=>C7 p (kr l r)
def tyC:PC→Ty→Ty
 | .c _,r=>r
 | .h t,r=> .prod t r
 | .a l,r=>kr l r
 | .p t,r=> .prod t r
 | .r _ _,r=> .prod (.int .i64) r
def tyB:PB→Ty→Ty
 | .cells l,r=>kr l r
 | .dat t,r=> .prod t r
 | .row _ t,r=> .prod (.slice t) r
 | .abs _ t,r=> .prod t r
def pQ:List (Nat×PC)→Ty→Ty
 | [],r=>r
 |(_,p)::l,r=>tyC p (pQ l r)
def dW:List (Nat×PB)→Ty→Ty
 | [],r=>r
 |(_,b)::l,r=>tyB b (dW l r)
def tyP (p:Pat):Ty:=pQ p.tm (dW p.hp .unit)
def mo :(p:PC0)→(r:Ty)→Den (C7 p r)→List V×Den r
 | .c v,_,x=>([v],x)
 | .h t,_,x=>([bD t x.1],x.2)
 | .d t,_,x=>(flat dx t x.1,x.2)
def kc :(l:List PC0)→(r:Ty)→Den (kr l r)→List V×Den r
 | [],_,x=>([],x)
 | p::l,r,x=>((mo p (kr l r) x).1 ++(kc l r (mo p (kr l r) x).2).1,(kc l r (mo p (kr l r) x).2).2)
def Aa :(p:PC)→(r:Ty)→Den (tyC p r)→V×Den r
 | .c v,_,x=>(v,x)
 | .h t,_,x=>(bD t x.1,x.2)
 | .a l,r,x=>(.agg (kc l r x).1,(kc l r x).2)
 | .p t,_,x=>(.fp t [x.1] 0 0,x.2)
 | .r h ver,_,x=>(.rp h ver x.1 0,x.2)
def iM :(b:PB)→(r:Ty)→Den (tyB b r)→Blk×Den r
 | .cells l,r,x=>(.cells (kc l r x).1,(kc l r x).2)
 | .dat t,_,x=>(.cells (flat dx t x.1),x.2)
 | .row ver t,_,x=>(.row ver true t x.1,x.2)
 | .abs k t,_,x=>(.abs k t x.1,x.2)
def gR :(l:List (Nat×PC))→(r:Ty)→Den (pQ l r)→List (Nat×V)×Den r
 | [],_,x=>([],x)
 |(s,p)::l,r,x=>((s,(Aa p (pQ l r) x).1) ::(gR l r (Aa p (pQ l r) x).2).1,(gR l r (Aa p (pQ l r) x).2).2)
def bL :(l:List (Nat×PB))→(r:Ty)→Den (dW l r)→List (Nat×Blk)×Den r
 | [],_,x=>([],x)
 |(h,b)::l,r,x=>((h,(iM b (dW l r) x).1) ::(bL l r (iM b (dW l r) x).2).1,(bL l r (iM b (dW l r) x).2).2)
def Pat.tmOf (p:Pat) (x:Den (tyP p)):List (Nat×V):=(gR p.tm (dW p.hp .unit) x).1
def Pat.hpOf (p:Pat) (x:Den (tyP p)):List (Nat×Blk):=(bL p.hp .unit (gR p.tm (dW p.hp .unit) x).2).1
def put (p:Pat) (x:Den (tyP p)):St:=⟨p.tmOf x,p.hpOf x,fun _=>none,p.nx⟩
mutual
def eqN (M:Nam):V→V→Bool
 | _,.any=>true
 | .nilptr,.nilptr=>true
 | .nilfn,.nilfn=>true
 | .nilmap,.nilmap=>true
 | .nilsl,.nilsl=>true
 | .esl,.esl=>true
 | .nilsl,.esl=>true
 | .kb a,.kb b=>a==b
 | .ptr h off,.ptr h' off'=>M.is h' h&&Nat.beq off off'
 | .osl h ver,.osl h' ver'=>M.is h' h&&M.vs ver' ver
 | .nilsl,.osl h' ver'=>memN M.Z h'&&Nat.blt h' M.nx&&Nat.blt ver' M.nx
 | .esl,.osl h' ver'=>memN M.Z h'&&Nat.blt h' M.nx&&Nat.blt ver' M.nx
 | .av k h,.av k' h'=>M.is h' h&&Nat.beq k k'
 | .fn f cs,.fn f' cs'=>Nat.beq f f'&&Bf M cs cs'
 | .agg cs,.agg cs'=>Bf M cs cs'
 | .tup cs,.tup cs'=>Bf M cs cs'
 | _,_=>false
def Bf (M:Nam):List V→List V→Bool
 | [],[]=>true
 | x::xs,y::ys=>eqN M x y&&Bf M xs ys
 | _,_=>false
end
def jf {α β:Type}:Option α→Option β→Option (α×β)
 | some x,some y=>some (x,y)
 | _,_=>none
def dY {α:Type} (b:Bool) (x:Option α):Option α:=bif b then x else none
def PC0.n:PC0→Nat
 | .d t=>sz t
 | _=>1
def tq (M:Nam) (H:aw) :(p:PC0)→(r:Ty)→List V→Option (Den r)→Option (Den (C7 p r))
 | .c v0,_,[v],k=>dY (eqN M v v0) k
 | .h t,_,[v],k=>jf (qt H t v) k
 | .d t,_,vs,k=>jf (pE H t vs) k
 | _,_,_,_=>none
def lz (M:Nam) (H:aw) :(l:List PC0)→(r:Ty)→List V→Option (Den r)→Option (Den (kr l r))
 | [],_,[],k=>k
 | p::l,r,vs,k=>tq M H p (kr l r) (vs.take p.n) (lz M H l r (vs.drop p.n) k)
 | [],_,_::_,_=>none
def Nx (b:Option Blk) (v:Nat):Bool:=match b with
 | some (.row v0 _ _ _)=>Nat.beq v0 v
 | _=>false
def A7 {t' t:Ty} (x:Den t'):Option (Den t):=if e:t'=t then some (e▸x:Den t) else none
def LW (M:Nam) (H:aw) :(p:PC)→(r:Ty)→V→Option (Den r)→Option (Den (tyC p r))
 | .c v0,_,v,k=>dY (eqN M v v0) k
 | .h t,_,v,k=>jf (qt H t v) k
 | .a l,r,v,k=>match v with
  | .agg cs=>lz M H l r cs k
  | _=>none
 | .p _,_,v,k=>match v with
  | .fp t' xs i off=>dY (Nat.beq off 0) (jf (A7 (xs.getD i.toNat (dflt t'))) k)
  | _=>none
 | .r h ver,_,v,k=>match v with
  | .rp h' ver' i off=>dY (M.is h h'&&(M.vs ver ver'&&(Nat.beq off 0&&Nx (H h') ver'))) (jf (some i) k)
  | _=>none
def Il {t' t:Ty} (xs:List (Den t')):Option (List (Den t)):=if e:t'=t then some (e▸xs:List (Den t)) else none
def o9 (M:Nam) (H:aw) (h:Nat) :(b:PB)→(r:Ty)→Option (Den r)→Option (Den (tyB b r))
 | .cells l,r,k=>match H (M.at h) with
  | some (.cells cs)=>dY (!memN M.Z h) (lz M H l r cs k)
  | _=>none
 | .dat t,_,k=>match H (M.at h) with
  | some (.cells cs)=>dY (!memN M.Z h) (jf (pE H t cs) k)
  | _=>none
 | .row ver _,_,k=>match memN M.Z h with
  | true=>dY (Nat.blt ver M.nx) (jf (some []) k)
  | false=>match H (M.at h) with
   | some (.row ver0 true _ xs)=>dY (M.vs ver ver0) (jf (Il xs) k)
   | _=>none
 | .abs k0 _,_,k=>match H (M.at h) with
  | some (.abs k1 _ x)=>dY (!memN M.Z h&&Nat.beq k0 k1) (jf (A7 x) k)
  | _=>none
def rb (M:Nam) (H:aw) (tm:List (Nat×V)) :(l:List (Nat×PC))→(r:Ty)→Option (Den r)→Option (Den (pQ l r))
 | [],_,k=>k
 |(s,p)::l,r,k=>LW M H p (pQ l r) (cA tm s) (rb M H tm l r k)
def lY (M:Nam) (H:aw) :(l:List (Nat×PB))→(r:Ty)→Option (Den r)→Option (Den (dW l r))
 | [],_,k=>k
 |(h,b)::l,r,k=>dY (Nat.blt h M.nx) (o9 M H h b (dW l r) (lY M H l r k))
def GB (n k:Nat) (A:List (Nat×Nat)):List (Nat×Nat):=match find A n with|some _=>A|none=>(n,k)::A
abbrev Nm2:=List (Nat×Nat)×List Nat
mutual
def mtV:V→V→Nm2→Nm2
 | .ptr h _,.ptr h' _,A=>(GB h' h A.1,A.2)
 | .av _ h,.av _ h',A=>(GB h' h A.1,A.2)
 | .osl h ver,.osl h' ver',A=>(GB ver' ver (GB h' h A.1),A.2)
 | .nilsl,.osl h' _,A=>(A.1,h'::A.2)
 | .esl,.osl h' _,A=>(A.1,h'::A.2)
 | .fn _ cs,.fn _ cs',A=>Mh cs cs' A
 | .agg cs,.agg cs',A=>Mh cs cs' A
 | .tup cs,.tup cs',A=>Mh cs cs' A
 | _,_,A=>A
def Mh:List V→List V→Nm2→Nm2
 | x::xs,y::ys,A=>Mh xs ys (mtV x y A)
 | _,_,A=>A
end
def UQ:PC0→List V→Nm2→Nm2
 | .c v0,[v],A=>mtV v v0 A
 | _,_,A=>A
def Qn:List PC0→List V→Nm2→Nm2
 | p::l,vs,A=>Qn l (vs.drop p.n) (UQ p (vs.take p.n) A)
 | _,_,A=>A
def mtC:PC→V→Nm2→Nm2
 | .c v0,v,A=>mtV v v0 A
 | .h _,_,A=>A
 | .a l,v,A=>match v with
  | .agg cs=>Qn l cs A
  | _=>A
 | .p _,_,A=>A
 | .r h ver,v,A=>match v with
  | .rp h' ver' _ _=>(GB ver ver' (GB h h' A.1),A.2)
  | _=>A
def Ta (tm:List (Nat×V)):List (Nat×PC)→Nm2→Nm2
 | [],A=>A
 |(s,p)::l,A=>Ta tm l (mtC p (cA tm s) A)
def atL (A:List (Nat×Nat)) (n:Nat):Nat:=match find A n with|some k=>k|none=>n
def Jw (H:aw):List (Nat×PB)→Nm2→Nm2
 | [],A=>A
 |(h,.cells l)::r,A=>Jw H r (match H (atL A.1 h) with|some (.cells cs)=>Qn l cs A|_=>A)
 |(_,.dat _)::r,A=>Jw H r A
 |(_,.row _ _)::r,A=>Jw H r A
 |(_,.abs _ _)::r,A=>Jw H r A
def UL:PC0→List V→List Nat
 | .c _,_=> []
 | _,vs=>hss vs
def Pq:List PC0→List V→List Nat
 | p::l,vs=>UL p (vs.take p.n)++Pq l (vs.drop p.n)
 | _,_=> []
def hsC:PC→V→List Nat
 | .c _,_=> []
 | .h _,v=>v.hs
 | .a l,v=>match v with
  | .agg cs=>Pq l cs
  | _=> []
 | .p _,_=> []
 | .r _ _,_=> []
def SW (tm:List (Nat×V)):List (Nat×PC)→List Nat
 | []=> []
 |(s,p)::l=>hsC p (cA tm s)++SW tm l
def I6 (A:List (Nat×Nat)) (H:aw):List (Nat×PB)→List Nat
 | []=> []
 |(h,.cells l)::r=>(match H (atL A h) with|some (.cells cs)=>Pq l cs|_=> [])++I6 A H r
 |(h,.dat _)::r=>(match H (atL A h) with|some (.cells cs)=>hss cs|_=> [])++I6 A H r
 |(_,.row _ _)::r=>I6 A H r
 |(_,.abs _ _)::r=>I6 A H r
def jd (p:Pat) (st:St):Nam:=let A:=Jw st.H p.hp (Ta st.tm p.tm ([],[]));⟨A.1,A.2,p.nx⟩
def hsP (p:Pat) (st:St):List Nat:=SW st.tm p.tm++I6 (jd p st).σ st.H p.hp
def BB (p:Pat) (st:St):Option (Den (tyP p)):=
 dY (iH (((p.hp.map (·.1)).filter fun h=>!memN (jd p st).Z h).map (jd p st).at))
  (rb (jd p st) (roL st.H (hsP p st)) st.tm p.tm (dW p.hp .unit) (lY (jd p st) (roL st.H (hsP p st)) p.hp .unit (some ())))
mutual
theorem yW (M:Nam) :∀ (x v:V),eqN M x v=true→cE M x v
 | x,.any,h=>by cases x <;> simp [cE]
 | x,.nilptr,h=>by cases x <;> simp only [eqN,Bool.false_eq_true] at h;simp [cE]
 | x,.nilfn,h=>by cases x <;> simp only [eqN,Bool.false_eq_true] at h;simp [cE]
 | x,.nilmap,h=>by cases x <;> simp only [eqN,Bool.false_eq_true] at h;simp [cE]
 | x,.nilsl,h=>by cases x <;> simp only [eqN,Bool.false_eq_true] at h;simp [cE]
 | x,.esl,h=>by cases x <;> simp only [eqN,Bool.false_eq_true] at h <;> simp [cE]
 | x,.kb b,h=>by cases x <;> simp only [eqN,Bool.false_eq_true] at h;simpa [cE] using h
 | x,.ptr h' off',h=>by cases x <;> simp only [eqN,Bool.false_eq_true] at h;simp only [cE];exact ifB_iff.2 ⟨h,trivial⟩
 | x,.osl h' ver',h=>by
  cases x <;> simp only [eqN,Bool.false_eq_true] at h <;> simp only [cE] <;> exact ifB_iff.2 ⟨h,trivial⟩
 | x,.fn f' cs',h=>by
  cases x <;> simp only [eqN,Bool.false_eq_true] at h
  simp only [Bool.and_eq_true] at h
  simp only [cE]
  exact ifB_iff.2 ⟨h.1,oP M _ _ h.2⟩
 | x,.agg cs',h=>by
  cases x <;> simp only [eqN,Bool.false_eq_true] at h
  simp only [cE];exact oP M _ _ h
 | x,.tup cs',h=>by
  cases x <;> simp only [eqN,Bool.false_eq_true] at h
  simp only [cE];exact oP M _ _ h
 | x,.int _ _,h=>by cases x <;> simp [eqN] at h
 | x,.bool _,h=>by cases x <;> simp [eqN] at h
 | x,.hint _ _,h=>by cases x <;> simp [eqN] at h
 | x,.str _,h=>by cases x <;> simp [eqN] at h
 | x,.fp _ _ _ _,h=>by cases x <;> simp [eqN] at h
 | x,.rp _ _ _ _,h=>by cases x <;> simp [eqN] at h
 | x,.fsl _ _,h=>by cases x <;> simp [eqN] at h
 | x,.gsl _ _ _ _ _,h=>by cases x <;> simp [eqN] at h
 | x,.gp _ _ _,h=>by cases x <;> simp [eqN] at h
 | x,.mpv _,h=>by cases x <;> simp [eqN] at h
 | x,.av k h',h=>by
  cases x <;> simp only [eqN,Bool.false_eq_true] at h
  simp only [cE];exact ifB_iff.2 ⟨h,trivial⟩
theorem oP (M:Nam) :∀ (xs vs:List V),Bf M xs vs=true→fA M xs vs
 | [],[],_=>by simp [fA]
 | [],_::_,h=>by simp [Bf] at h
 | _::_,[],h=>by simp [Bf] at h
 | x::xs,v::vs,h=>by
  simp only [Bf,Bool.and_eq_true] at h
  simp only [fA]
  exact ⟨yW M _ _ h.1,oP M _ _ h.2⟩
end
theorem ak {α:Type} {b:Bool} {x:Option α} {y:α} (h:dY b x=some y):b=true∧x=some y:=by
 cases b with
 | true=>exact ⟨rfl,h⟩
 | false=>cases h
theorem aF {α β:Type} {x:Option α} {y:Option β} {z:α×β} (h:jf x y=some z) :∃ a b,x=some a∧y=some b∧z =(a,b):=by
 cases x <;> cases y <;> simp only [jf,reduceCtorEq,Option.some.injEq] at h
 exact ⟨_,_,rfl,rfl,h.symm⟩
theorem AZ {E E':Env} (hS:E'.S=E.S) (hw:E'.w=E.w) {t:Ty} {x:Den t} {u:Value} (h:aa E (bD t x) u):aa E' (bD t x) u:=by
 have :∀ (f:Nat) (t:Ty) (x:Den t) (l:List Value),ab E (flat f t x) l→ab E' (flat f t x) l:=by
  intro f
  induction f with
  | zero=>
   intro t x l h
   have hl:=aI h
   rw [show flat 0 t x=List.replicate (sz t) .any from by unfold flat;rfl] at h hl ⊢
   exact dZ _ (by simpa using hl.symm)
  | succ f ih=>
   intro t x l h
   cases t with
   | int k=>simp only [flat] at h ⊢;cases l with|nil=>simp [ab] at h|cons a l=>simp only [ab,aa] at h ⊢;cases l <;> simp_all [ab]
   | bool=>simp only [flat] at h ⊢;cases l with|nil=>simp [ab] at h|cons a l=>simp only [ab,aa] at h ⊢;cases l <;> simp_all [ab]
   | str=>simp only [flat] at h ⊢;cases l with|nil=>simp [ab] at h|cons a l=>simp only [ab,aa] at h ⊢;cases l <;> simp_all [ab]
   | unit=>simp only [flat] at h ⊢;cases l <;> simp_all [ab]
   | prod a b=>
    simp only [flat] at h ⊢
    have :∃ l1 l2,l=l1++l2∧ab E (flat f a x.1) l1∧ab E (flat f b x.2) l2:=by
     clear ih
     generalize flat f a x.1=p at h
     generalize flat f b x.2=q at h
     induction p generalizing l with
     | nil=>exact ⟨[],l,rfl,by simp [ab],by simpa using h⟩
     | cons y p ihp=>
      cases l with
      | nil=>simp [ab] at h
      | cons c l=>
       simp only [List.cons_append,ab] at h
       obtain ⟨l1,l2,e,h1,h2⟩:=ihp l h.2
       exact ⟨c::l1,l2,by simp [e],by simp only [ab];exact ⟨h.1,h1⟩,h2⟩
    obtain ⟨l1,l2,rfl,h1,h2⟩:=this
    exact bk (ih a x.1 l1 h1) (ih b x.2 l2 h2)
   | slice t=>
    simp only [flat] at h ⊢
    cases l with
    | nil=>simp [ab] at h
    | cons a l=>
     simp only [ab,aa] at h ⊢
     exact ⟨by rw [hS,hw];exact h.1,by cases l <;> simp_all [ab]⟩
   | nm n=>simp only [flat] at h ⊢;exact ih _ _ l h
 cases t with
 | int k=>simpa only [bD,aa] using h
 | bool=>simpa only [bD,aa] using h
 | str=>simpa only [bD,aa] using h
 | slice t=>simp only [bD,aa] at h ⊢;rw [hS,hw];exact h
 | unit=>simp only [bD,aa] at h ⊢;obtain ⟨l,hl,hr⟩:=h;exact ⟨l,hl,by cases hq:l.toList <;> simp_all [ab]⟩
 | prod a b=>simp only [bD,aa] at h ⊢;obtain ⟨l,hl,hr⟩:=h;exact ⟨l,hl,this _ _ _ _ hr⟩
 | nm n=>simp only [bD,aa] at h ⊢;obtain ⟨l,hl,hr⟩:=h;exact ⟨l,hl,this _ _ _ _ hr⟩
theorem Fx {M:Nam} {H:aw} {p:PC0} {r:Ty} {vs:List V} {k:Option (Den r)} {x:Den (C7 p r)} (h:tq M H p r vs k=some x):k=some (mo p r x).2:=by
 cases p with
 | c v0=>
  match vs,h with
  | [v],h=>exact (ak h).2
 | h t=>
  match vs,h with
  | [v],h=>obtain ⟨a,b,h1,h2,rfl⟩:=aF h;exact h2
 | d t=>obtain ⟨a,b,h1,h2,rfl⟩:=aF (show jf (pE H t vs) k=some x from h);exact h2
theorem zr {M:Nam} {H:aw} :∀ {l:List PC0} {r:Ty} {vs:List V} {k:Option (Den r)} {x:Den (kr l r)},lz M H l r vs k=some x→k=some (kc l r x).2
 | [],_,[],_,_,h=>h
 | [],_,_::_,_,_,h=>by simp [lz] at h
 | p::l,r,vs,k,x,h=>by
  have h:tq M H p (kr l r) (vs.take p.n) (lz M H l r (vs.drop p.n) k)=some x:=h
  exact zr (l:=l) (Fx h)
theorem Pm {M:Nam} {H:aw} {p:PC} {r:Ty} {v:V} {k:Option (Den r)} {x:Den (tyC p r)} (h:LW M H p r v k=some x):k=some (Aa p r x).2:=by
 cases p with
 | c v0=>exact (ak h).2
 | h t=>obtain ⟨a,b,h1,h2,rfl⟩:=aF h;exact h2
 | a l=>cases v with
  | agg cs=>exact zr (l:=l) (r:=r) (vs:=cs) h
  | _=>exact absurd (show (none:Option (Den (kr l r)))=some x from h) (fun h'=>by cases h')
 | p t=>cases v with
  | fp t' xs i off=>
   obtain ⟨a,b,h1,h2,rfl⟩:=aF (ak h).2
   exact h2
  | _=>exact absurd (show (none:Option (Den (tyC (.p t) r)))=some x from h) (fun h'=>by cases h')
 | r h0 v0=>cases v with
  | rp h' ver' i off=>
   obtain ⟨a,b,h1,h2,rfl⟩:=aF (ak h).2
   exact h2
  | _=>exact absurd (show (none:Option (Den (tyC (.r h0 v0) r)))=some x from h) (fun h'=>by cases h')
theorem zt {M:Nam} {H:aw} {tm:List (Nat×V)} :∀ {l:List (Nat×PC)} {r:Ty} {k:Option (Den r)} {x:Den (pQ l r)},rb M H tm l r k=some x→k=some (gR l r x).2
 | [],_,_,_,h=>h
 |(s,p)::l,r,k,x,h=>by
  simp only [rb] at h
  exact zt (l:=l) (Pm h)
section
variable {M:Nam} {E:Env} {hp:List (Nat×Blk)} {B:Base}
theorem qM {E:Env} :∀ (n:Nat) {xs:List V} {us:List Value},ab E xs us→ab E (xs.take n) (us.take n)∧ab E (xs.drop n) (us.drop n)
 | 0,_,_,h=>⟨by simp [ab],h⟩
 | n+1,[],[],_=>⟨by simp [ab],by simp [ab]⟩
 | n+1,x::xs,u::us,h=>by
  simp only [ab] at h
  obtain ⟨h1,h2⟩:=qM n h.2
  exact ⟨by simp only [List.take_succ_cons,ab];exact ⟨h.1,h1⟩,by simpa using h2⟩
 | n+1,[],_::_,h=>by simp [ab] at h
 | n+1,_::_,[],h=>by simp [ab] at h
theorem Bz (hE:HRel B E) (hh:HSub0 M E hp) {p:PC0} {r:Ty} {vs:List V} {k:Option (Den r)} {x:Den (C7 p r)} (h:tq M E.H p r vs k=some x) {us:List Value} (hv:ab E vs us):ab (bc M E hp) (mo p r x).1 us∧k=some (mo p r x).2:=by
 cases p with
 | c v0=>
  match vs,us,h,hv with
  | [v],[u],h,hv=>
   simp only [ab] at hv
   obtain ⟨h1,h2⟩:=ak h
   exact ⟨by simp only [mo,ab];exact ⟨iX hh _ _ _ (yW M _ _ h1) hv.1,trivial⟩,h2⟩
  | [_],[],_,hv=>simp [ab] at hv
  | [_],_::_::_,_,hv=>simp [ab] at hv
 | h t=>
  match vs,us,h,hv with
  | [v],[u],h,hv=>
   simp only [ab] at hv
   obtain ⟨a,b,h1,h2,rfl⟩:=aF h
   refine ⟨?_,h2⟩
   simp only [mo,ab]
   exact ⟨AZ (E:=E) (E':=bc M E hp) rfl rfl (iB hE h1 hv.1),trivial⟩
  | [_],[],_,hv=>simp [ab] at hv
  | [_],_::_::_,_,hv=>simp [ab] at hv
 | d t=>
  obtain ⟨a,b,h1,h2,rfl⟩:=aF (show jf (pE E.H t vs) k=some x from h)
  refine ⟨?_,h2⟩
  have hrd:=bI hE h1 hv
  exact Rd.flat (E:=bc M E hp) dx hrd
theorem jh (hE:HRel B E) (hh:HSub0 M E hp) :∀ {l:List PC0} {r:Ty} {vs:List V} {k:Option (Den r)} {x:Den (kr l r)},lz M E.H l r vs k=some x→(∀ us,ab E vs us→ab (bc M E hp) (kc l r x).1 us)∧k=some (kc l r x).2
 | [],r,[],k,x,h=>⟨fun us hu=>by cases us <;> simp_all [kc,ab],h⟩
 | [],_,_::_,_,_,h=>by simp [lz] at h
 | p::l,r,vs,k,x,h=>by
  have h:tq M E.H p (kr l r) (vs.take p.n) (lz M E.H l r (vs.drop p.n) k)=some x:=h
  obtain ⟨i1,i2⟩:=jh hE hh (Fx h)
  refine ⟨fun us hu=>?_,i2⟩
  obtain ⟨a1,a2⟩:=qM p.n hu
  have:=bk (Bz hE hh h a1).1 (i1 _ a2)
  rw [List.take_append_drop] at this
  exact this
theorem wv {α:Type} {xs:List α} {n:Nat} (d:α) (h:n<xs.length):xs.getD n d=xs[n]:=by
 rw [List.getD_eq_getElem?_getD,List.getElem?_eq_getElem h]
 rfl
theorem DN (hE:HRel B E) (hh:HSub0 M E hp) {p:PC} {r:Ty} {v:V} {k:Option (Den r)} {x:Den (tyC p r)} (h:LW M E.H p r v k=some x) {u:Value} (hv:aa E v u):aa (bc M E hp) (Aa p r x).1 u∧k=some (Aa p r x).2:=by
 cases p with
 | c v0=>
  obtain ⟨h1,h2⟩:=ak h
  exact ⟨iX hh _ _ _ (yW M _ _ h1) hv,h2⟩
 | h t=>
  obtain ⟨a,b,h1,h2,rfl⟩:=aF h
  refine ⟨?_,h2⟩
  simp only [Aa]
  exact AZ (E:=E) (E':=bc M E hp) rfl rfl (iB hE h1 hv)
 | a l=>cases v with
  | agg cs=>
   obtain ⟨i1,i2⟩:=jh (l:=l) (r:=r) (vs:=cs) hE hh h
   refine ⟨?_,i2⟩
   simp only [aa] at hv
   obtain ⟨us,hl,hr⟩:=hv
   show aa (bc M E hp) (.agg (kc l r x).1) u
   simp only [aa]
   exact ⟨us,hl,i1 _ hr⟩
  | _=>exact absurd (show (none:Option (Den (kr l r)))=some x from h) (fun h'=>by cases h')
 | p t=>cases v with
  | fp t' xs i off=>
   obtain ⟨hz,h⟩:=ak h
   obtain ⟨a,b,h1,h2,rfl⟩:=aF h
   refine ⟨?_,h2⟩
   have hz:=Nat.eq_of_beq_eq_true hz
   subst hz
   unfold A7 at h1
   split at h1
   case isFalse=>cases h1
   rename_i e
   subst e
   obtain rfl:=Option.some.inj h1
   simp only [aa] at hv
   obtain ⟨b',o,c,T,fr,k1,k2,k3,k4,k5,k6,k7⟩:=hv
   have hm :(i.toNat+1)*sz t'≤xs.length*sz t':=Nat.mul_le_mul_right _ k6
   rw [Nat.add_mul] at hm
   show aa (bc M E hp) (.fp t' [xs.getD i.toNat (dflt t')] 0 0) u
   simp only [aa]
   refine ⟨b',o+i.toNat*sz t',c,T,fr,k1,k2,by simp only [List.length_singleton];omega,fun j hj=>?_,Int.le_refl _,by simp,?_⟩
   ·have:j=0:=by simpa using hj
    subst this
    simp only [Nat.zero_mul,Nat.add_zero,List.getElem_cons_zero]
    rw [wv _ k6]
    exact k4 _ k6
   ·rw [k7];simp
  | _=>exact absurd (show (none:Option (Den (tyC (.p t) r)))=some x from h) (fun h'=>by cases h')
 | r h0 v0=>cases v with
  | rp h' ver' i off=>
   obtain ⟨hz,h⟩:=ak h
   obtain ⟨a,b,h1,h2,rfl⟩:=aF h
   obtain rfl:=Option.some.inj h1
   simp only [Bool.and_eq_true] at hz
   refine ⟨?_,h2⟩
   have hs:cE M (.rp h' ver' i off) (.rp h0 v0 i 0):=by
    simp only [cE]
    exact ifB_iff.2 ⟨by simp only [Bool.and_eq_true];exact ⟨⟨hz.1,hz.2.1⟩,hz.2.2.1⟩,trivial⟩
   exact iX hh _ _ _ hs hv
  | _=>exact absurd (show (none:Option (Den (tyC (.r h0 v0) r)))=some x from h) (fun h'=>by cases h')
theorem mb (hE:HRel B E) (hh:HSub0 M E hp) {tm:List (Nat×V)} {a:Act} (hT:eJ E (find tm) a) :∀ {l:List (Nat×PC)} {r:Ty} {k:Option (Den r)} {x:Den (pQ l r)},rb M E.H tm l r k=some x→(∀ s v,(s,v)∈(gR l r x).1→aa (bc M E hp) v (a.tmps.getD s undef))∧k=some (gR l r x).2
 | [],r,k,x,h=>⟨fun s v hm=>by simp [gR] at hm,h⟩
 |(s,p)::l,r,k,x,h=>by
  simp only [rb] at h
  obtain ⟨h1,h2⟩:=DN hE hh h (cw hT s)
  obtain ⟨i1,i2⟩:=mb hE hh hT h2
  refine ⟨fun s' v hm=>?_,i2⟩
  simp only [gR,List.mem_cons,Prod.mk.injEq] at hm
  rcases hm with ⟨rfl,rfl⟩|hm
  ·exact h1
  ·exact i1 _ _ hm
end
theorem ma {M:Nam} {E:Env} :∀ {l:List (Nat×PB)} {r:Ty} {k:Option (Den r)} {x:Den (dW l r)},lY M E.H l r k=some x→k=some (bL l r x).2∧
  ∀ h b,(h,b)∈(bL l r x).1→h<M.nx∧match b with
   | .cells _=>memN M.Z h=false∧∃ cs0,E.H (M.at h)=some (.cells cs0)
   | .row ver rw t xs=>ver<M.nx∧((memN M.Z h=true∧xs=[])∨(memN M.Z h=false∧E.H (M.at h)=some (.row (M.at ver) rw t xs)))
   | .abs k t x=>memN M.Z h=false∧E.H (M.at h)=some (.abs k t x)
   | _=>False
 | [],r,k,x,h=>⟨h,fun h b hm=>by simp [bL] at hm⟩
 |(h0,b0)::l,r,k,x,h=>by
  simp only [lY] at h
  obtain ⟨hlt,h⟩:=ak h
  have hlt:h0<M.nx:=by simpa using hlt
  have key:lY M E.H l r k=some (iM b0 (dW l r) x).2∧match (iM b0 (dW l r) x).1 with
   | .cells _=>memN M.Z h0=false∧∃ cs0,E.H (M.at h0)=some (.cells cs0)
   | .row ver rw t xs=>ver<M.nx∧((memN M.Z h0=true∧xs=[])∨(memN M.Z h0=false∧E.H (M.at h0)=some (.row (M.at ver) rw t xs)))
   | .abs k t x=>memN M.Z h0=false∧E.H (M.at h0)=some (.abs k t x)
   | _=>False:=by
   cases b0 with
   | abs k0 t=>
    simp only [o9] at h
    split at h
    case h_2=>cases h
    rename_i k1 t1 x1 hx
    obtain ⟨hz,h⟩:=ak h
    obtain ⟨a,b,h1,h2,rfl⟩:=aF h
    simp only [Bool.and_eq_true,Bool.not_eq_true',Nat.beq_eq] at hz
    obtain ⟨hz,rfl⟩:=hz
    unfold A7 at h1
    split at h1
    case isFalse=>cases h1
    rename_i e
    subst e
    obtain rfl:=Option.some.inj h1
    exact ⟨h2,hz,hx⟩
   | cells cl=>
    simp only [o9] at h
    split at h
    case h_2=>cases h
    rename_i cs hcs
    obtain ⟨hz,h⟩:=ak h
    refine ⟨?_,by simpa using hz,_,hcs⟩
    exact zr h
   | dat t=>
    simp only [o9] at h
    split at h
    case h_2=>cases h
    rename_i cs hcs
    obtain ⟨hz,h⟩:=ak h
    obtain ⟨a,b,h1,h2,rfl⟩:=aF h
    exact ⟨h2,by simpa using hz,_,hcs⟩
   | row ver t=>
    simp only [o9] at h
    cases hz:memN M.Z h0 with
    | true=>
     rw [hz] at h
     obtain ⟨hv,h⟩:=ak h
     obtain ⟨a,b,h1,h2,rfl⟩:=aF h
     cases h1
     exact ⟨h2,by simpa using hv,.inl ⟨rfl,rfl⟩⟩
    | false=>
     rw [hz] at h
     simp only at h
     split at h
     case h_2=>cases h
     rename_i ver0 t0 xs0 hx
     obtain ⟨hv,h⟩:=ak h
     obtain ⟨a,b,h1,h2,rfl⟩:=aF h
     obtain ⟨hv1,hv2⟩:=vs_iff.1 hv
     unfold Il at h1
     split at h1
     case isFalse=>cases h1
     rename_i e
     subst e
     obtain rfl:=Option.some.inj h1
     refine ⟨h2,hv1,.inr ⟨rfl,?_⟩⟩
     rw [hx,hv2]
  obtain ⟨k1,k2⟩:=key
  obtain ⟨i1,i2⟩:=ma k1
  refine ⟨i1,fun h' b hm=>?_⟩
  simp only [bL,List.mem_cons,Prod.mk.injEq] at hm
  rcases hm with ⟨rfl,rfl⟩|hm
  ·exact ⟨hlt,k2⟩
  ·exact i2 _ _ hm
theorem lZ {M:Nam} {E:Env} {hp:List (Nat×Blk)} {B:Base} (hE:HRel B E) (hh:HSub0 M E hp) :∀ {l:List (Nat×PB)} {r:Ty} {k:Option (Den r)} {x:Den (dW l r)},lY M E.H l r k=some x→
  ∀ h cs cs0,(h,.cells cs)∈(bL l r x).1→E.H (M.at h)=some (.cells cs0)→∀ us,ab E cs0 us→ab (bc M E hp) cs us
 | [],r,k,x,h,h',cs,cs0,hm,_,_,_=>by simp [bL] at hm
 |(h0,b0)::l,r,k,x,h,h',cs,cs0,hm,hx,us,hu=>by
  have hk:=h
  simp only [lY] at h
  obtain ⟨hlt,h⟩:=ak h
  simp only [bL,List.mem_cons,Prod.mk.injEq] at hm
  rcases hm with ⟨rfl,hm⟩|hm
  ·cases b0 with
   | cells cl=>
    simp only [o9] at h
    rw [hx] at h
    simp only at h
    obtain ⟨hz,h⟩:=ak h
    simp only [iM,Blk.cells.injEq] at hm
    subst hm
    exact (jh hE hh h).1 us hu
   | dat t=>
    simp only [o9] at h
    rw [hx] at h
    simp only at h
    obtain ⟨hz,h⟩:=ak h
    obtain ⟨a,b,h1,h2,rfl⟩:=aF h
    simp only [iM,Blk.cells.injEq] at hm
    subst hm
    have hrd:=bI hE h1 hu
    exact Rd.flat (E:=bc M E hp) dx hrd
   | row ver t=>simp [iM] at hm
   | abs k0 t=>simp [iM] at hm
  ·have key:lY M E.H l r k=some (iM b0 (dW l r) x).2:=by
    cases b0 with
    | cells cl=>
     simp only [o9] at h
     split at h
     case h_2=>cases h
     obtain ⟨_,h⟩:=ak h
     exact (jh hE hh h).2
    | dat t=>
     simp only [o9] at h
     split at h
     case h_2=>cases h
     obtain ⟨_,h⟩:=ak h
     obtain ⟨a,b,h1,h2,rfl⟩:=aF h
     exact h2
    | abs k0 t=>
     simp only [o9] at h
     split at h
     case h_2=>cases h
     obtain ⟨_,h⟩:=ak h
     obtain ⟨a,b,h1,h2,rfl⟩:=aF h
     exact h2
    | row ver t=>
     simp only [o9] at h
     split at h
     ·obtain ⟨hv,h⟩:=ak h
      obtain ⟨a,b,h1,h2,rfl⟩:=aF h
      exact h2
     ·split at h
      case h_2=>cases h
      obtain ⟨hv,h⟩:=ak h
      obtain ⟨a,b,h1,h2,rfl⟩:=aF h
      exact h2
   exact lZ hE hh key _ _ _ hm hx us hu
def ON:PB→Option Nat
 | .row v _=>some v
 | _=>none
def Eu:List (Nat×PB)→List (Nat×Option Nat)
 | []=> []
 |(h,b)::l=>(h,ON b)::Eu l
theorem Cv :∀ {l:List (Nat×PB)} {r:Ty} (x:Den (dW l r)),zZ (bL l r x).1=Eu l
 | [],_,_=>rfl
 |(h,b)::l,r,x=>by
  have e:Lm (iM b (dW l r) x).1=ON b:=by cases b <;> rfl
  simp only [bL,zZ,Eu,Cv,e]
theorem jS {B:Base} {q N:Nat} (hB:B.pins q) {p:Pat} {st:St} {x:Den (tyP p)} (hg:BB p st=some x) (hpin:iL q (jd p st) (Eu p.hp)=true) {a:Act} {w:World} (hs:gX B N st a w):gX B N (put p x) a w:=by
 unfold BB at hg
 obtain ⟨hn,hg⟩:=ak hg
 obtain ⟨⟨E0,hE0,rfl,hH,⟨hG,_⟩,hT0⟩,hsz,hdf⟩:=hs
 obtain ⟨hE,X⟩:=cx hE0 (hsP p st)
 have hH' :(bh E0 (hsP p st)).H=roL st.H (hsP p st):=by rw [←hH];rfl
 have hT:eJ (bh E0 (hsP p st)) (find st.tm) a:=fun s v hv=>bb X _ _ (hT0 s v hv)
 rw [←hH'] at hg
 have hw :(bh E0 (hsP p st)).w=E0.w:=rfl
 have hnx :(jd p st).nx=p.nx:=rfl
 generalize bh E0 (hsP p st)=E at *
 generalize jd p st=M at *
 have hk:=zt hg
 obtain ⟨_,hnames⟩:=ma hk
 have hh:HSub0 M E (p.hpOf x):=by
  refine ⟨fun h k hf=>(hnames h k (ag hf)).1,fun h ver rw t xs hf=>?_,fun h cs hf=>?_,fun h ver esz cs hf=>?_,fun h es hf=>?_,fun h k t x hf=>?_⟩
  ·exact (hnames _ _ (ag hf)).2
  ·exact (hnames _ _ (ag hf)).2
  ·exact ((hnames _ _ (ag hf)).2).elim
  ·exact ((hnames _ _ (ag hf)).2).elim
  ·exact (hnames _ _ (ag hf)).2
 have hs:HSub M E (p.hpOf x):=by
  refine ⟨hh,fun h cs cs0 hf hx=>?_,fun h ver esz cs cs0 hf _=>?_⟩
  ·exact lZ hE hh hk h cs cs0 (ag hf) hx
  ·exact ((hnames _ _ (ag hf)).2).elim
 have keys :∀ {l:List (Nat×PB)} {r:Ty} (x:Den (dW l r)),(bL l r x).1.map (·.1)=l.map (·.1):=by
  intro l
  induction l with
  | nil=>intro r x;rfl
  | cons q l ih=>intro r x;obtain ⟨h,b⟩:=q;simp only [bL,List.map_cons,ih]
 have hkeys :(p.hpOf x).map (·.1)=p.hp.map (·.1):=keys _
 refine ⟨⟨bc M E (p.hpOf x),mI hE hs (by rw [hkeys];exact hn),hw,rfl,⟨hB M E _ (by rw [show zZ (p.hpOf x)=Eu p.hp from Cv _];exact hpin) hs (B.clo _ _ hG X),fun n hn=>by have:n<M.nx:=hn;rw [hnx] at this;exact this⟩,fun s v hv=>?_⟩,hsz,hdf⟩
 exact (mb hE hh hT hg).1 s v (ag hv)
end
section
open Go.RowKit
variable {P:Program}
def mi:Tr→Prop
 | .leaf _ _ _=>False
 | .br b t e=>(b=true→mi t)∧(b=false→mi e)
 | .need p t=>p∧mi t
 | .both t u=>mi t∧mi u
 | .when b t=>b=true→mi t
 | .done=>True
 | .bad=>False
def dJ:Tr→Bool
 | .leaf _ _ _=>false
 | .br _ t e=>dJ t&&dJ e
 | .need _ t=>dJ t
 | .both t u=>dJ t&&dJ u
 | .when _ t=>dJ t
 | .done=>true
 | .bad=>true
theorem fe {Q:Lf→Dl→Nat→Prop} :∀ {t:Tr},mi t→t.sat Q
 | .leaf _ _ _,h=>h.elim
 | .br _ _ _,h=>⟨fun hb=>fe (h.1 hb),fun hb=>fe (h.2 hb)⟩
 | .need _ _,h=>⟨h.1,fe h.2⟩
 | .both _ _,h=>⟨fe h.1,fe h.2⟩
 | .when _ _,h=>fun hb=>fe (h hb)
 | .done,_=>trivial
 | .bad,h=>h.elim
section
variable {β:Type} (d:β) (hd:Lf→Dl→Nat→β) (ok:Lf→Dl→Nat→Prop)
def evT:Tr→β
 | .leaf e dl nx=>hd e dl nx
 | .br b t e=>cond b (evT t) (evT e)
 | .need _ t=>evT t
 | .both t u=>match t with
  | .when _ _=>evT u
  | t=>match u with
   | .when b u=>bif dJ t then evT u else cond b (evT u) (evT t)
   | _=>d
 | .when _ t=>evT t
 | .done=>d
 | .bad=>d
def ji:Tr→Prop
 | .leaf e dl nx=>ok e dl nx
 | .br b t e=>(b=true→ji t)∧(b=false→ji e)
 | .need p t=>p∧ji t
 | .both t u=>match t with
  | .when q x=>(q=true→ji x∧evT d hd x=evT d hd u)∧ji u
  | t=>match u with
   | .when b u=>match dJ t with
    | true=>mi t∧(b=true→ji u)
    | false=>(b=true→mi t∧ji u)∧(b=false→ji t)
   | _=>False
 | .when b t=>b=true→ji t
 | .done=>True
 | .bad=>False
theorem fJ :∀ (t:Tr),ji d hd ok t→t.sat fun e dl nx=>ok e dl nx∧hd e dl nx=evT d hd t
 | .leaf e dl nx,h=>⟨h,rfl⟩
 | .br b t e,h=>by
  refine ⟨fun hb=>?_,fun hb=>?_⟩
  ·exact Tr.sat_mono (fun e dl nx hq=>⟨hq.1,by rw [hq.2];simp only [evT,hb,cond_true]⟩) (fJ t (h.1 hb))
  ·exact Tr.sat_mono (fun e dl nx hq=>⟨hq.1,by rw [hq.2];simp only [evT,hb,cond_false]⟩) (fJ e (h.2 hb))
 | .need p t,h=>⟨h.1,fJ t h.2⟩
 | .when b t,h=>fun hb=>fJ t (h hb)
 | .done,_=>trivial
 | .bad,h=>h.elim
 | .both t u,h=>by
  have ihT:=fJ t
  have ihU:=fJ u
  have seq :∀ (b:Bool) (u':Tr),u = .when b u'→(match dJ t with
    | true=>mi t∧(b=true→ji d hd ok u')
    | false=>(b=true→mi t∧ji d hd ok u')∧(b=false→ji d hd ok t))→
    evT d hd (.both t u) =(bif dJ t then evT d hd u' else cond b (evT d hd u') (evT d hd t))→(Tr.both t u).sat fun e dl nx=>ok e dl nx∧hd e dl nx=evT d hd (.both t u):=fun b u' hu k he=>by
   subst hu
   rw [he]
   cases hl:dJ t with
   | true=>
    rw [hl] at k
    exact ⟨fe k.1,fun hb=>Tr.sat_mono (fun e dl nx hq=>⟨hq.1,by rw [hq.2];rfl⟩) (ihU k.2 hb)⟩
   | false=>
    rw [hl] at k
    refine ⟨?_,fun hb=>Tr.sat_mono (fun e dl nx hq=>⟨hq.1,by rw [hq.2];simp only [evT,hb,cond_true,cond_false]⟩) (ihU (fun hb=>(k.1 hb).2) hb)⟩
    cases b with
    | true=>exact fe (k.1 rfl).1
    | false=>exact Tr.sat_mono (fun e dl nx hq=>⟨hq.1,by rw [hq.2];rfl⟩) (ihT (k.2 rfl))
  cases t with
  | when q x=>
   refine ⟨fun hq=>Tr.sat_mono (fun e dl nx hr=>⟨hr.1,by rw [hr.2];exact (h.1 hq).2⟩) (ihT (fun hq=>(h.1 hq).1) hq),?_⟩
   exact Tr.sat_mono (fun e dl nx hr=>⟨hr.1,by rw [hr.2];rfl⟩) (ihU h.2)
  | leaf=>cases u with|when b u'=>exact seq b u' rfl h rfl|_=>exact h.elim
  | br=>cases u with|when b u'=>exact seq b u' rfl h rfl|_=>exact h.elim
  | need=>cases u with|when b u'=>exact seq b u' rfl h rfl|_=>exact h.elim
  | both=>cases u with|when b u'=>exact seq b u' rfl h rfl|_=>exact h.elim
  | done=>cases u with|when b u'=>exact seq b u' rfl h rfl|_=>exact h.elim
  | bad=>cases u with|when b u'=>exact seq b u' rfl h rfl|_=>exact h.elim
end
def pD:List (Lf×Pat)→Type
 | []=>Unit
 | q::r=>match r with
  | []=>Den (tyP q.2)
  | _::_=>Sum (Den (tyP q.2)) (pD r)
def wb :(X:List (Lf×Pat))→pD X
 | []=>()
 | [q]=>dflt (tyP q.2)
 | q::_::_=> .inl (dflt (tyP q.2))
def isL {α β:Type}:Sum α β→Bool
 | .inl _=>true
 | .inr _=>false
def oc {α β:Type} (d:α):Sum α β→α
 | .inl x=>x
 | .inr _=>d
def jT {α β:Type} (d:β):Sum α β→β
 | .inl _=>d
 | .inr x=>x
def gB (p:Nat) (q:Pat) (st:St):Option (Den (tyP q)):=dY (iL p (jd q st) (Eu q.hp)) (BB q st)
def Pt {α β:Type}:Option α→Option (Sum α β)→Option (Sum α β)
 | some x,_=>some (.inl x)
 | none,y=>y
def SZ {α β:Type}:Option β→Option (Sum α β)
 | some x=>some (.inr x)
 | none=>none
def fC (p:Nat) :(X:List (Lf×Pat))→Lf→St→Option (pD X)
 | [],_,_=>none
 | [q],e,st=>dY (D1 q.1 e) (gB p q.2 st)
 | q::q'::r,e,st=>Pt (dY (D1 q.1 e) (gB p q.2 st)) (SZ (fC p (q'::r) e st))
def TX :(X:List (Lf×Pat))→pD X→Tr
 | [],_=> .bad
 | [q],y=> .leaf q.1 ⟨q.2.tmOf y,q.2.hpOf y⟩ q.2.nx
 | q::q'::r,o=> .br (isL o) (.leaf q.1 ⟨q.2.tmOf (oc (dflt (tyP q.2)) o),q.2.hpOf (oc (dflt (tyP q.2)) o)⟩ q.2.nx) (TX (q'::r) (jT (wb (q'::r)) o))
theorem iQ {p:Nat} {q:Pat} {st:St} {y:Den (tyP q)} (h:gB p q st=some y):iL p (jd q st) (Eu q.hp)=true∧BB q st=some y:=ak h
theorem HS {p:Nat} {e:Lf} {st:St} {Q:Lf→Dl→Nat→Prop} :∀ {X:List (Lf×Pat)} {o:pD X},fC p X e st=some o→(TX X o).sat Q→∃ (q:Pat) (y:Den (tyP q)),gB p q st=some y∧Q e ⟨q.tmOf y,q.hpOf y⟩ q.nx
 | [],_,h,_=>by simp [fC] at h
 | [q],o,h,hs=>by
  obtain ⟨h1,h2⟩:=ak h
  have:=tK h1
  subst this
  exact ⟨q.2,o,h2,hs⟩
 | q::q'::r,o,h,hs=>by
  simp only [fC] at h
  cases hg:dY (D1 q.1 e) (gB p q.2 st) with
  | some y=>
   rw [hg] at h
   simp only [Pt] at h
   obtain rfl:=Option.some.inj h
   obtain ⟨h1,h2⟩:=ak hg
   have:=tK h1
   subst this
   exact ⟨q.2,y,h2,hs.1 rfl⟩
  | none=>
   rw [hg] at h
   simp only [Pt] at h
   cases ho:fC p (q'::r) e st with
   | none=>rw [ho] at h;cases h
   | some o'=>
    rw [ho] at h
    simp only [SZ] at h
    obtain rfl:=Option.some.inj h
    exact HS ho (hs.2 rfl)
structure Lp where
 p:Nat
 C:Cfg
 Λ:Nat→Option LoopSum
 body:Code
 q:Pat
 X:List (Lf×Pat)
section
variable (L:Lp) (res:Den (tyP L.q)→pD L.X)
def hdL (st:St):Lf→Dl→Nat→pD L.X
 | .nrm,d,nx=>match BB L.q (st.app d nx) with
  | some y=>res y
  | none=>wb L.X
 | e,d,nx=>match fC L.p L.X e (st.app d nx) with
  | some o=>o
  | none=>wb L.X
def okL (inv:Den (tyP L.q)→Prop) (st:St):Lf→Dl→Nat→Prop
 | .nrm,d,nx=>match gB L.p L.q (st.app d nx) with
  | some y=>inv y
  | none=>False
 | e,d,nx=>match fC L.p L.X e (st.app d nx) with
  | some _=>True
  | none=>False
def stepE (x:Den (tyP L.q)):pD L.X:=evT (wb L.X) (hdL L res (put L.q x)) (bs L.C L.Λ L.body (put L.q x))
def stepG (inv:Den (tyP L.q)→Prop) (x:Den (tyP L.q)):Prop:=ji (wb L.X) (hdL L res (put L.q x)) (okL L inv (put L.q x)) (bs L.C L.Λ L.body (put L.q x))
def ai (ok:Den (tyP L.q)→Prop):LoopSum:=
 ⟨fun st=>cg st.H0∧ifB (xw st.nx st.hp) (match gB L.p L.q st with|some x=>ok x|none=>False),
  fun st=>match gB L.p L.q st with|some x=>pn st (TX L.X (res x))|none=> .bad⟩
end
def LoopOKp (P:Program) (p N:Nat) (body:Code) (L:LoopSum):Prop:=∀ (B:Base),B.pins p→sq P N B body L
theorem LoopOKp.ok {p N:Nat} {body:Code} {L:LoopSum} (h:LoopOKp P p N body L):LoopOK P N body L:=fun B hB=>h B (hB.pins p)
theorem ax (L:Lp) (hC:CfgOK P L.C) (hP:P.follows .mixedOrders=true) (hΛ :∀ b∈aU L.Λ L.body,∀ S,L.Λ (rid b)=some S→LoopOKp P L.p L.C.N b S)
  (res:Den (tyP L.q)→pD L.X) (inv:Den (tyP L.q)→Prop) (μ:Den (tyP L.q)→Nat)
  (step :∀ x,inv x→stepG L res (fun y=>inv y∧μ y<μ x) x∧stepE L res x=res x):LoopOKp P L.p L.C.N L.body (ai L res inv):=by
 intro B hB st Q CQ hpre hT hQ a w hs
 simp only [ai] at hpre hT
 obtain ⟨hH0,hpre⟩:=hpre
 obtain ⟨hl,hpre⟩:=ifB_iff.1 hpre
 cases hr:gB L.p L.q st with
 | none=>rw [hr] at hpre;exact hpre.elim
 | some x0=>
 rw [hr] at hpre hT
 simp only at hpre hT
 have hT:=fb hT
 obtain ⟨hp0,hg0⟩:=iQ hr
 have start:gX B L.C.N (put L.q x0) a w:=jS hB hg0 hp0 hs
 have key :∀ n x a w,inv x→μ x<n→(TX L.X (res x)).sat (fun e d nx=>Q e ⟨d.tm++mh st.tm,d.hp++jE (Nat.max nx st.nx) st.hp⟩ (Nat.max nx st.nx+1))→gX B L.C.N (put L.q x) a w→Code.rounds P L.body CQ n a w:=by
  intro n
  induction n with
  | zero=>intro x a w _ hlt;omega
  | succ n ih=>
   intro x a w hx hlt hTx hs
   rw [rounds_succ]
   obtain ⟨hG,hE⟩:=step x hx
   refine bN hC hP (B:=B) L.body (fun b hb S hS=>hΛ b hb S hS B hB) (put L.q x) _ _ (fJ _ _ _ _ hG) (fun e d nx a w hq hat=>?_) a w hs
   have hat:=at_here.1 hat
   obtain ⟨hok,hv⟩:=hq
   change hdL L res (put L.q x) e d nx=stepE L res x at hv
   rw [hE] at hv
   have out :∀ e:Lf,(match fC L.p L.X e ((put L.q x).app d nx) with|some _=>True|none=>False)→(match fC L.p L.X e ((put L.q x).app d nx) with|some o=>o|none=>wb L.X)=res x→CQ (fI e) a w:=fun e hok hv=>by
    cases ho:fC L.p L.X e ((put L.q x).app d nx) with
    | none=>rw [ho] at hok;exact hok.elim
    | some o=>
     rw [ho] at hv
     simp only at hv
     subst hv
     obtain ⟨q,y,h1,h2⟩:=HS ho hTx
     obtain ⟨h3,h4⟩:=iQ h1
     have h5:=jS hB h4 h3 hat
     exact hQ e _ _ a w h2 (FP hH0 hl h5)
   cases e with
   | nrm=>
    simp only [okL] at hok
    simp only [hdL] at hv
    cases hr2:gB L.p L.q ((put L.q x).app d nx) with
    | none=>rw [hr2] at hok;exact hok.elim
    | some y=>
     rw [hr2] at hok
     obtain ⟨h3,h4⟩:=iQ hr2
     rw [h4] at hv
     simp only at hok hv
     exact ih y a w hok.1 (by omega) (by rw [hv];exact hTx) (jS hB h4 h3 hat)
   | ext id=>exact out (.ext id) hok hv
   | ret=>exact out .ret hok hv
 exact wp_loop_rounds (μ x0+1) (key _ x0 a w hpre (Nat.lt_succ_self _) hT start)
end
end Go.Mir
