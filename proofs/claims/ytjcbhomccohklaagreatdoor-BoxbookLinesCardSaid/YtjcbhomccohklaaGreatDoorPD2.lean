/- Texts of the mirror and contracts, put together. -/
import Derived.Test.YtjcbhomccohklaaGreatDoorPD1
import Derived.LoopN
import Derived.Test.YtjcbhomccohklaaGreatDoorPD0
import Derived.Test.YtjcbhomccohklaaGreatDoorChecked
import Derived.Test.YtjcbhomccohklaaGreatDoorRows
import Derived.ProofKit
import Derived.OpenShut
import Derived.RangeFuncLeaves
import Derived.RangeFuncRecord
import Derived.Shelf.Strconv.Itoa4
import Derived.Lib.ItoaLen
namespace Go.aa
section
open Go.RowKit
variable {P:Program}
structure gF where
 σ:List (Nat×Nat)
 Z:List Nat
 nx:Nat
def gF.at (M:gF) (n:Nat):Nat:=match find M.σ n with|some k=>k|none=>n
def gF.is (M:gF) (n k:Nat):Bool:=Nat.blt n M.nx&&(Nat.beq (M.at n) k&&!aX M.Z n)
def gF.vs (M:gF) (n k:Nat):Bool:=Nat.blt n M.nx&&Nat.beq (M.at n) k
mutual
def dQ (M:gF):V->V->Prop
 | _,.any=>True
 | .int k n,.int k' n'=>wQ (decide (k=k')) (n=n')
 | .bool b,.bool b'=>b=b'
 | .bool b,.kb b'=>b=b'
 | .kb b,.bool b'=>b=b'
 | .kb b,.kb b'=>b=b'
 | .str s,.str s'=>s=s'
 | .nilptr,.nilptr=>True
 | .nilfn,.nilfn=>True
 | .nilmap,.nilmap=>True
 | .nilsl,.nilsl=>True
 | .esl,.esl=>True
 | .nilsl,.esl=>True
 | .nilsl,.fsl _ xs=>xs=[]
 | .esl,.fsl _ xs=>xs=[]
 | .fsl t xs,.fsl t' xs'=>RowD.mk t xs=RowD.mk t' xs'
 | .ptr h off,.ptr h' off'=>wQ (M.is h' h&&Nat.beq off off') True
 | .fp t xs i off,.fp t' xs' i' off'=>wQ (Nat.beq off off') (RowD.mk t xs=RowD.mk t' xs'/\i=i')
 | .rp h ver i off,.rp h' ver' i' off'=>wQ (M.is h' h&&M.vs ver' ver&&Nat.beq off off') (i=i')
 | .osl h ver,.osl h' ver'=>wQ (M.is h' h&&M.vs ver' ver) True
 | .gsl h ver e o l,.gsl h' ver' e' o' l'=>wQ (M.is h' h&&M.vs ver' ver&&(Nat.beq e e'&&Nat.beq o o'&&Nat.beq l l')) True
 | .nilsl,.osl h' ver'=>wQ (aX M.Z h'&&Nat.blt h' M.nx&&Nat.blt ver' M.nx) True
 | .esl,.osl h' ver'=>wQ (aX M.Z h'&&Nat.blt h' M.nx&&Nat.blt ver' M.nx) True
 | .av k h,.av k' h'=>wQ (M.is h' h&&Nat.beq k k') True
 | .fn f cs,.fn f' cs'=>wQ (Nat.beq f f') (ij M cs cs')
 | .agg cs,.agg cs'=>ij M cs cs'
 | .tup cs,.tup cs'=>ij M cs cs'
 | _,_=>False
def ij (M:gF):List V->List V->Prop
 | [],[]=>True
 | x::xs,y::ys=>dQ M x y/\ij M xs ys
 | _,_=>False
end
def iK (M:gF):bd->bd->Prop
 | .cells cs,.cells cs'=>ij M cs cs'
 | .row ver rw t xs,.row ver' rw' t' xs'=>wQ (M.vs ver' ver&&(rw==rw')) (RowD.mk t xs=RowD.mk t' xs')
 | .grow ver e cs,.grow ver' e' cs'=>wQ (M.vs ver' ver&&Nat.beq e e') (ij M cs cs')
 | .abs k t x,.abs k' t' x'=>wQ (Nat.beq k k') (AbsD.mk t x=AbsD.mk t' x')
 | _,_=>False
def Kx (M:gF) (tm:List (Nat×V)):List (Nat×V)->Prop
 | []=>True
 |(s,v)::r=>dQ M (dL tm s) v/\Kx M tm r
def ve (M:gF):bd->Prop
 | .row ver _ _ xs=>wQ (Nat.blt ver M.nx) (xs=[])
 | _=>False
def qD (M:gF) (H:a6):List (Nat×bd)->Prop
 | []=>True
 |(h,k)::r=>wQ (Nat.blt h M.nx) (match aX M.Z h with
   | true=>ve M k
   | false=>match H (M.at h) with
    | some k0=>iK M k0 k
    | none=>False)/\qD M H r
def kn:List Nat->Bool
 | []=>true
 | x::xs=>!aX xs x&&kn xs
theorem iG {l:List Nat}:kn l=true↔l.Nodup:=by
 induction l with
 | nil=>simp [kn]
 | cons x xs ih=>
  simp only [kn,Bool.and_eq_true,ih,List.nodup_cons,Bool.not_eq_true'];constructor
  ·rintro ⟨h1,h2⟩;exact ⟨(fun h=>by rw [bp.2 h] at h1;cases h1),h2⟩
  ·rintro ⟨h1,h2⟩;exact ⟨by cases h:aX xs x with|true=>exact absurd (bp.1 h) h1|false=>rfl,h2⟩
theorem gk {α β:Type} {f:α->β} :∀ {l:List α},(l.map f).Nodup->∀ {x y:α},x∈l->y∈l->f x=f y->x=y
 | [],_,_,_,hx,_,_=>by simp at hx
 | a::l,h,x,y,hx,hy,e=>by
  simp only [List.map_cons,List.nodup_cons,List.mem_map,not_exists,not_and] at h;rcases List.mem_cons.1 hx with h1|h1
  ·rcases List.mem_cons.1 hy with h2|h2
   ·rw [h1,h2]
   ·exact absurd (by rw [<-e,h1]) (h.1 y h2)
  ·rcases List.mem_cons.1 hy with h2|h2
   ·exact absurd (by rw [e,h2]) (h.1 x h1)
   ·exact gk h.2 h1 h2 e
def Sub (M:gF) (s:St) (tm:List (Nat×V)) (hp:List (Nat×bd)):Prop:=
 wQ (kn (((hp.map (·.1)).filter fun h=>!aX M.Z h).map M.at)) (Kx M s.tm tm/\qD M s.H hp)
def bX (M:gF) (E:Env) (hp:List (Nat×bd)):Env:=⟨fun n=>n<M.nx,fun h=>if aX M.Z h then none else E.ρ (M.at h),E.S,E.w,aQ (fun _=>none) hp⟩
theorem fI {M:gF} {H:a6} :∀ {hp:List (Nat×bd)} {h:Nat} {k:bd},qD M H hp->(h,k)∈hp->h<M.nx/\((aX M.Z h=true/\ve M k)\/(aX M.Z h=false/\∃ k0,H (M.at h)=some k0/\iK M k0 k))
 | [],_,_,_,hm=>by simp at hm
 |(n,v)::r,h,k,hs,hm=>by
  simp only [qD] at hs;rcases List.mem_cons.1 hm with hm|hm
  ·cases hm;obtain ⟨h1,h2⟩:=b7.1 hs.1;refine ⟨by simpa using h1,?_⟩
   cases hz:aX M.Z n with
   | true=>rw [hz] at h2;exact .inl ⟨rfl,h2⟩
   | false=>
    rw [hz] at h2;simp only at h2;split at h2
    ·rename_i k0 hk;exact .inr ⟨rfl,k0,hk,h2⟩
    ·exact h2.elim
  ·exact fI hs.2 hm
section
variable {M:gF} {E:Env} {hp:List (Nat×bd)}
theorem wX {n k:Nat}:M.is n k=true↔n<M.nx/\M.at n=k/\aX M.Z n=false:=by simp only [gF.is,Bool.and_eq_true,Nat.blt_eq,Nat.beq_eq,Bool.not_eq_true']
theorem ry {n k:Nat}:M.vs n k=true↔n<M.nx/\M.at n=k:=by simp only [gF.vs,Bool.and_eq_true,Nat.blt_eq,Nat.beq_eq]
theorem QS (hh:qD M E.H hp) {h ver:Nat} {rw:Bool} {t:Ty} {xs:List (Den t)} (hx:aQ (fun _=>none) hp h=some (.row ver rw t xs)) :
  (aX M.Z h=true/\xs=[])\/(aX M.Z h=false/\E.H (M.at h)=some (.row (M.at ver) rw t xs)):=by
 have hf:find hp h=some (.row ver rw t xs):=by unfold aQ at hx;cases hf:find hp h with|some k=>rw [hf] at hx;exact hx|none=>rw [hf] at hx;cases hx
 obtain ⟨_,h2⟩:=fI hh (aB hf);rcases h2 with ⟨hz,h3⟩ |⟨hz,k0,h3,h4⟩
 ·simp only [ve] at h3;exact .inl ⟨hz,(b7.1 h3).2⟩
 ·cases k0 with
  | cells=>simp [iK] at h4
  | grow=>simp [iK] at h4
  | mp=>simp [iK] at h4
  | abs=>simp [iK] at h4
  | row ver0 rw0 t0 xs0=>simp only [iK] at h4;obtain ⟨h5,h6⟩:=b7.1 h4;simp only [Bool.and_eq_true,beq_iff_eq] at h5;obtain ⟨_,h7⟩:=ry.1 h5.1;cases h6;rw [h3,<-h7,h5.2];exact .inr ⟨hz,rfl⟩
theorem yh (hh:qD M E.H hp) {h:Nat} {cs:List V} (hx:aQ (fun _=>none) hp h=some (.cells cs)):aX M.Z h=false/\∃ cs0,E.H (M.at h)=some (.cells cs0)/\ij M cs0 cs:=by
 have hf:find hp h=some (.cells cs):=by unfold aQ at hx;cases hf:find hp h with|some k=>rw [hf] at hx;exact hx|none=>rw [hf] at hx;cases hx
 obtain ⟨_,h2⟩:=fI hh (aB hf);rcases h2 with ⟨hz,h3⟩ |⟨hz,k0,h3,h4⟩
 ·simp [ve] at h3
 ·cases k0 with
  | cells cs0=>exact ⟨hz,cs0,h3,h4⟩
  | row=>simp [iK] at h4
  | grow=>simp [iK] at h4
  | mp=>simp [iK] at h4
  | abs=>simp [iK] at h4
theorem QR (hh:qD M E.H hp) {h k:Nat} {t:Ty} {x:Den t} (hx:aQ (fun _=>none) hp h=some (.abs k t x)):aX M.Z h=false/\E.H (M.at h)=some (.abs k t x):=by
 have hf:find hp h=some (.abs k t x):=by unfold aQ at hx;cases hf:find hp h with|some k=>rw [hf] at hx;exact hx|none=>rw [hf] at hx;cases hx
 obtain ⟨_,h2⟩:=fI hh (aB hf);rcases h2 with ⟨_,h3⟩ |⟨hz,k0,h3,h4⟩
 ·simp [ve] at h3
 ·cases k0 with
  | cells=>simp [iK] at h4
  | row=>simp [iK] at h4
  | grow=>simp [iK] at h4
  | mp=>simp [iK] at h4
  | abs k0 t0 x0=>simp only [iK] at h4;obtain ⟨h5,h6⟩:=b7.1 h4;simp only [Nat.beq_eq] at h5;subst h5;cases h6;exact ⟨hz,h3⟩
theorem MM (hh:qD M E.H hp) {h:Nat} {es:List (V×V)} (hx:aQ (fun _=>none) hp h=some (.mp es)):False:=by
 have hf:find hp h=some (.mp es):=by unfold aQ at hx;cases hf:find hp h with|some k=>rw [hf] at hx;exact hx|none=>rw [hf] at hx;cases hx
 obtain ⟨_,h2⟩:=fI hh (aB hf);rcases h2 with ⟨_,h3⟩ |⟨_,k0,_,h4⟩
 ·simp [ve] at h3
 ·cases k0 <;> simp [iK] at h4
theorem BK (hh:qD M E.H hp) {h ver esz:Nat} {cs:List V} (hx:aQ (fun _=>none) hp h=some (.grow ver esz cs)):aX M.Z h=false/\ver<M.nx/\∃ cs0,E.H (M.at h)=some (.grow (M.at ver) esz cs0)/\ij M cs0 cs:=by
 have hf:find hp h=some (.grow ver esz cs):=by unfold aQ at hx;cases hf:find hp h with|some k=>rw [hf] at hx;exact hx|none=>rw [hf] at hx;cases hx
 obtain ⟨_,h2⟩:=fI hh (aB hf);rcases h2 with ⟨hz,h3⟩ |⟨hz,k0,h3,h4⟩
 ·simp [ve] at h3
 ·cases k0 with
  | cells=>simp [iK] at h4
  | row=>simp [iK] at h4
  | mp=>simp [iK] at h4
  | abs=>simp [iK] at h4
  | grow ver0 esz0 cs0=>simp only [iK] at h4;obtain ⟨h5,h6⟩:=b7.1 h4;simp only [Bool.and_eq_true,Nat.beq_eq] at h5;obtain ⟨h7,h8⟩:=ry.1 h5.1;rw [h3,h8,<-h5.2];exact ⟨hz,h7,cs0,rfl,h6⟩
structure HSub0 (M:gF) (E:Env) (hp:List (Nat×bd)):Prop where
 lt :∀ h k,find hp h=some k->h<M.nx
 row :∀ (h ver:Nat) (rw:Bool) (t:Ty) (xs:List (Den t)),find hp h=some (.row ver rw t xs)->ver<M.nx/\((aX M.Z h=true/\xs=[])\/(aX M.Z h=false/\E.H (M.at h)=some (.row (M.at ver) rw t xs)))
 cells :∀ h cs,find hp h=some (.cells cs)->aX M.Z h=false/\∃ cs0,E.H (M.at h)=some (.cells cs0)
 grow :∀ h ver esz cs,find hp h=some (.grow ver esz cs)->aX M.Z h=false/\ver<M.nx/\∃ cs0,E.H (M.at h)=some (.grow (M.at ver) esz cs0)/\cs0.length=cs.length
 nomp :∀ h es,find hp h=some (.mp es)->False
 abs :∀ (h k:Nat) (t:Ty) (x:Den t),find hp h=some (.abs k t x)->aX M.Z h=false/\E.H (M.at h)=some (.abs k t x)
theorem bc {hp:List (Nat×bd)} {h:Nat} {k:bd} (hx:aQ (fun _=>none) hp h=some k):find hp h=some k:=by unfold aQ at hx;cases hf:find hp h with|some k=>rw [hf] at hx;exact hx|none=>rw [hf] at hx;cases hx
theorem dE {hp:List (Nat×bd)} {h:Nat} {k:bd} (hx:find hp h=some k):aQ (fun _=>none) hp h=some k:=by unfold aQ;rw [hx]
theorem Ky (hh:HSub0 M E hp) {h ver:Nat} {rw:Bool} {t:Ty} {xs:List (Den t)} (hx:aQ (fun _=>none) hp h=some (.row ver rw t xs)) :
  (aX M.Z h=true/\xs=[])\/(aX M.Z h=false/\E.H (M.at h)=some (.row (M.at ver) rw t xs)):=(hh.row _ _ _ _ _ (bc hx)).2
theorem MJ (hh:HSub0 M E hp) {h:Nat} {cs:List V} (hx:aQ (fun _=>none) hp h=some (.cells cs)):aX M.Z h=false/\∃ cs0,E.H (M.at h)=some (.cells cs0):=hh.cells _ _ (bc hx)
theorem Ua (hh:HSub0 M E hp) {h k:Nat} {t:Ty} {x:Den t} (hx:aQ (fun _=>none) hp h=some (.abs k t x)):aX M.Z h=false/\E.H (M.at h)=some (.abs k t x):=hh.abs _ _ _ _ (bc hx)
theorem QD (hh:HSub0 M E hp) {h ver esz:Nat} {cs:List V} (hx:aQ (fun _=>none) hp h=some (.grow ver esz cs)):aX M.Z h=false/\ver<M.nx/\∃ cs0,E.H (M.at h)=some (.grow (M.at ver) esz cs0)/\cs0.length=cs.length:=hh.grow _ _ _ _ (bc hx)
theorem BI {M:gF} :∀ {xs ys:List V},ij M xs ys->xs.length=ys.length
 | [],[],_=>rfl
 | _::_,[],h=>by simp [ij] at h
 | [],_::_,h=>by simp [ij] at h
 | x::xs,y::ys,h=>by simp only [ij] at h;simp [BI h.2]
mutual
theorem kG (hh:HSub0 M E hp) :∀ (x v:V) (u:Value),dQ M x v->ae E x u->ae (bX M E hp) v u
 | x,.any,u,_,_=>by simp [ae]
 | x,.int k n,u,h,hv=>by cases x <;> simp only [dQ] at h;obtain ⟨h1,rfl⟩:=b7.1 h;obtain rfl:=of_decide_eq_true h1;simpa [ae] using hv
 | x,.bool b,u,h,hv=>by
  cases x <;> simp only [dQ] at h
  all_goals subst h;simpa [ae] using hv
 | x,.kb b,u,h,hv=>by
  cases x <;> simp only [dQ] at h
  all_goals subst h;simpa [ae] using hv
 | x,.str s,u,h,hv=>by cases x <;> simp only [dQ] at h;subst h;simpa [ae] using hv
 | x,.nilptr,u,h,hv=>by cases x <;> simp only [dQ] at h;simpa [ae] using hv
 | x,.hint _ _,u,h,hv=>by cases x <;> simp only [dQ] at h
 | x,.nilfn,u,h,hv=>by cases x <;> simp only [dQ] at h;simpa [ae] using hv
 | x,.nilmap,u,h,hv=>by cases x <;> simp only [dQ] at h;simpa [ae] using hv
 | x,.nilsl,u,h,hv=>by cases x <;> simp only [dQ] at h;simpa [ae] using hv
 | x,.esl,u,h,hv=>by
  cases x <;> simp only [dQ] at h
  ·simp only [ae] at hv ⊢;exact ⟨_,hv⟩
  ·simpa [ae] using hv
 | x,.fsl t xs,u,h,hv=>by
  cases x <;> simp only [dQ] at h
  ·subst h;simp only [ae] at hv ⊢;subst hv;exact .nil
  ·subst h;simp only [ae] at hv ⊢;obtain ⟨a,rfl⟩:=hv;exact .nil
  ·cases h;simpa [ae,bX] using hv
 | x,.ptr h0 off,u,h,hv=>by cases x <;> simp only [dQ] at h;obtain ⟨h1,_⟩:=b7.1 h;simp only [Bool.and_eq_true,Nat.beq_eq] at h1;obtain ⟨h2,rfl⟩:=h1;obtain ⟨h3,rfl,hz⟩:=wX.1 h2;simp only [ae] at hv ⊢;refine ⟨h3,hv.2.1,fun cs hx=>?_⟩;obtain ⟨_,cs0,hx0⟩:=MJ hh hx;obtain ⟨b,hb,hu⟩:=hv.2.2 _ hx0;exact ⟨b,by simp only [bX,hz,Bool.false_eq_true,if_false];exact hb,hu⟩
 | x,.fp t xs i off,u,h,hv=>by cases x <;> simp only [dQ] at h;obtain ⟨h1,h2,rfl⟩:=b7.1 h;simp only [Nat.beq_eq] at h1;subst h1;cases h2;simpa [ae,bX] using hv
 | x,.rp h0 ver i off,u,h,hv=>by
  cases x <;> simp only [dQ] at h;obtain ⟨h1,rfl⟩:=b7.1 h;simp only [Bool.and_eq_true,Nat.beq_eq] at h1;obtain ⟨⟨h2,h4⟩,rfl⟩:=h1;obtain ⟨h3,rfl,hz⟩:=wX.1 h2;obtain ⟨h5,rfl⟩:=ry.1 h4;simp only [ae] at hv ⊢;refine ⟨h3,h5,hv.2.2.1,fun rw t xs hx=>?_⟩;rcases Ky hh hx with ⟨hz',_⟩ |⟨_,hx0⟩
  ·rw [hz] at hz';cases hz'
  ·obtain ⟨b,hb,hu⟩:=hv.2.2.2 _ _ _ hx0;exact ⟨b,by simp only [bX,hz,Bool.false_eq_true,if_false];exact hb,hu⟩
 | x,.osl h0 ver,u,h,hv=>by
  have zero :∀ (a:Option Addr),u = .slice a 0 0->(aX M.Z h0&&Nat.blt h0 M.nx&&Nat.blt ver M.nx)=true->ae (bX M E hp) (.osl h0 ver) u:=fun a hu h1=>by simp only [Bool.and_eq_true,Nat.blt_eq] at h1;simp only [ae];refine ⟨h1.1.2,h1.2,⟨_,_,_,hu⟩,fun rw t xs hx=> .inl ⟨by simp only [bX,h1.1.1,if_true],a,hu⟩⟩
  cases x <;> simp only [dQ] at h
  ·simp only [ae] at hv;exact zero none hv (b7.1 h).1
  ·simp only [ae] at hv;obtain ⟨a,hv⟩:=hv;exact zero a hv (b7.1 h).1
  ·obtain ⟨h1,_⟩:=b7.1 h;simp only [Bool.and_eq_true] at h1;obtain ⟨h3,rfl,hz⟩:=wX.1 h1.1;obtain ⟨h5,rfl⟩:=ry.1 h1.2;simp only [ae] at hv ⊢;refine ⟨h3,h5,hv.2.2.1,fun rw t xs hx=>?_⟩;rcases Ky hh hx with ⟨hz',_⟩ |⟨_,hx0⟩
   ·rw [hz] at hz';cases hz'
   ·have e :(bX M E hp).ρ h0=E.ρ (M.at h0):=by simp only [bX,hz,Bool.false_eq_true,if_false]
    rw [e];exact hv.2.2.2 _ _ _ hx0
 | x,.fn f cs,u,h,hv=>by cases x <;> simp only [dQ] at h;obtain ⟨h1,h2⟩:=b7.1 h;simp only [Nat.beq_eq] at h1;subst h1;simp only [ae] at hv ⊢;obtain ⟨l,rfl,hl⟩:=hv;exact ⟨l,rfl,gS hh _ _ _ h2 hl⟩
 | x,.agg cs,u,h,hv=>by cases x <;> simp only [dQ] at h;simp only [ae] at hv ⊢;obtain ⟨l,rfl,hl⟩:=hv;exact ⟨l,rfl,gS hh _ _ _ h hl⟩
 | x,.tup cs,u,h,hv=>by cases x <;> simp only [dQ] at h;simp only [ae] at hv ⊢;obtain ⟨l,rfl,hl⟩:=hv;exact ⟨l,rfl,gS hh _ _ _ h hl⟩
 | x,.gsl h0 ver e o l,u,h,hv=>by cases x <;> simp only [dQ] at h;obtain ⟨h1,_⟩:=b7.1 h;simp only [Bool.and_eq_true,Nat.beq_eq] at h1;obtain ⟨⟨h2,h4⟩,⟨rfl,rfl⟩,rfl⟩:=h1;obtain ⟨h3,rfl,hz⟩:=wX.1 h2;obtain ⟨h5,rfl⟩:=ry.1 h4;simp only [ae] at hv ⊢;refine ⟨h3,h5,hv.2.2.1,fun cs hx=>?_⟩;obtain ⟨_,_,cs0,hx0,hs⟩:=QD hh hx;obtain ⟨b,cap,c,T,fr,q1,q2,q3,q4,q5,q6⟩:=hv.2.2.2 _ hx0;exact ⟨b,cap,c,T,fr,by simp only [bX,hz,Bool.false_eq_true,if_false];exact q1,q2,q3,q4,q5,by rw [<-hs];exact q6⟩
 | x,.gp _ _ _,u,h,hv=>by cases x <;> simp only [dQ] at h
 | x,.mpv _,u,h,hv=>by cases x <;> simp only [dQ] at h
 | x,.av k h0,u,h,hv=>by cases x <;> simp only [dQ] at h;obtain ⟨h1,_⟩:=b7.1 h;simp only [Bool.and_eq_true,Nat.beq_eq] at h1;obtain ⟨h2,rfl⟩:=h1;obtain ⟨h3,rfl,hz⟩:=wX.1 h2;simp only [ae] at hv ⊢;refine ⟨h3,hv.2.1,fun t x hx=>?_⟩;obtain ⟨_,hx0⟩:=Ua hh hx;obtain ⟨b,hb,hu⟩:=hv.2.2 _ _ hx0;exact ⟨b,by simp only [bX,hz,Bool.false_eq_true,if_false];exact hb,hu⟩
theorem gS (hh:HSub0 M E hp) :∀ (xs vs:List V) (us:List Value),ij M xs vs->ai E xs us->ai (bX M E hp) vs us
 | [],[],us,_,hv=>by cases us <;> simp_all [ai]
 | [],_::_,_,h,_=>by simp [ij] at h
 | _::_,[],_,h,_=>by simp [ij] at h
 | x::xs,v::vs,us,h,hv=>by
  cases us with
  | nil=>simp [ai] at hv
  | cons u us=>simp only [ij] at h;simp only [ai] at hv ⊢;exact ⟨kG hh _ _ _ h.1 hv.1,gS hh _ _ _ h.2 hv.2⟩
end
theorem yd {tm:List (Nat×V)} :∀ {tm':List (Nat×V)} {s:Nat} {v:V},Kx M tm tm'->(s,v)∈tm'->dQ M (dL tm s) v
 | [],_,_,_,hm=>by simp at hm
 |(n,x)::r,s,v,h,hm=>by
  simp only [Kx] at h;rcases List.mem_cons.1 hm with hm|hm
  ·cases hm;exact h.1
  ·exact yd h.2 hm
structure HSub (M:gF) (E:Env) (hp:List (Nat×bd)):Prop extends HSub0 M E hp where
 rcells :∀ h cs cs0,find hp h=some (.cells cs)->E.H (M.at h)=some (.cells cs0)->∀ l,ai E cs0 l->ai (bX M E hp) cs l
 rgrow :∀ h ver esz cs cs0,find hp h=some (.grow ver esz cs)->E.H (M.at h)=some (.grow (M.at ver) esz cs0)->∀ l,ai E cs0 l->ai (bX M E hp) cs l
theorem MI (hh:qD M E.H hp):HSub M E hp:=by
 have h0:HSub0 M E hp:=by
  refine ⟨fun h k hf=>(fI hh (aB hf)).1,fun h ver rw t xs hf=>⟨?_,QS hh (dE hf)⟩,fun h cs hf=>?_,fun h ver esz cs hf=>?_,fun h es hf=>MM hh (dE hf),fun h k t x hf=>QR hh (dE hf)⟩
  ·obtain ⟨_,h2⟩:=fI hh (aB hf);rcases h2 with ⟨_,h3⟩ |⟨_,k0,_,h4⟩
   ·simp only [ve] at h3;simpa using (b7.1 h3).1
   ·cases k0 with
    | cells=>simp [iK] at h4
    | grow=>simp [iK] at h4
    | mp=>simp [iK] at h4
    | abs=>simp [iK] at h4
    | row=>
     simp only [iK] at h4
     have:=(b7.1 h4).1
     simp only [Bool.and_eq_true] at this;exact (ry.1 this.1).1
  ·obtain ⟨hz,cs0,hx,_⟩:=yh hh (dE hf);exact ⟨hz,cs0,hx⟩
  ·obtain ⟨hz,hv,cs0,hx,hs⟩:=BK hh (dE hf);exact ⟨hz,hv,cs0,hx,BI hs⟩
 refine ⟨h0,fun h cs cs0 hf hx l hl=>?_,fun h ver esz cs cs0 hf hx l hl=>?_⟩
 ·obtain ⟨_,cs1,hx1,hs⟩:=yh hh (dE hf);rw [hx] at hx1;cases hx1;exact gS h0 _ _ _ hs hl
 ·obtain ⟨_,_,cs1,hx1,hs⟩:=BK hh (dE hf);rw [hx] at hx1;cases hx1;exact gS h0 _ _ _ hs hl
theorem GW (hh:HSub0 M E hp) {h b:Nat} {k:bd} (hf:find hp h=some k) (hb:fJ (bX M E hp) h k b):aX M.Z h=false/\∃ k0,E.H (M.at h)=some k0/\fJ E (M.at h) k0 b:=by
 cases ha:k.Fh with
 | true=>cases k <;> cases ha;rename_i kk t x;obtain ⟨hz,h0⟩:=hh.abs _ _ _ _ hf;exact ⟨hz,_,h0,fJ.mv (E':=bX M E hp) (by simp only [bX,hz,Bool.false_eq_true,if_false]) (fun _ _=>rfl) hb⟩
 | false=>
  replace hb:=hb.of ha
  have hz:aX M.Z h=false:=by
   cases hz:aX M.Z h with
   | false=>rfl
   | true=>simp only [bX,hz,if_true] at hb;cases hb
  simp only [bX,hz,Bool.false_eq_true,if_false] at hb;refine ⟨hz,?_⟩
  cases k with
  | cells cs=>obtain ⟨_,cs0,h⟩:=hh.cells _ _ hf;exact ⟨_,h,.inl hb⟩
  | row ver rw t xs=>
   rcases (hh.row _ _ _ _ _ hf).2 with ⟨hz',_⟩ |⟨_,h⟩
   ·rw [hz] at hz';cases hz'
   ·exact ⟨_,h,.inl hb⟩
  | grow ver esz cs=>obtain ⟨_,_,cs0,h,_⟩:=hh.grow _ _ _ _ hf;exact ⟨_,h,.inl hb⟩
  | mp es=>exact (hh.nomp _ _ hf).elim
  | abs=>cases ha
theorem pz {B:aK} (hE:aM B E) (hh:HSub M E hp) (hn:kn (((hp.map (·.1)).filter fun h=>!aX M.Z h).map M.at)=true):aM B (bX M E hp):=by
 have hfind :∀ h k,(bX M E hp).H h=some k->find hp h=some k:=fun h k hx=>bc hx;have old :∀ h k b,(bX M E hp).H h=some k->fJ (bX M E hp) h k b->aX M.Z h=false/\∃ k0,E.H (M.at h)=some k0/\fJ E (M.at h) k0 b:=fun h k b hx hb=>GW hh.toHSub0 (hfind _ _ hx) hb;refine ⟨fun h k hx=>hh.lt _ _ (hfind _ _ hx),hE.stab,fun h k b hx hb=>?_,fun h h' k k' b h1 h2 b1 b2=>?_,fun h k hx=>?_,hE.keeps,fun h k b hx hb=>?_,hE.s0,hE.sb⟩
 ·obtain ⟨_,k0,h1,h2⟩:=old h k b hx hb;exact hE.lt' _ _ _ h1 h2
 ·obtain ⟨z1,q1,x1,y1⟩:=old h k b h1 b1;obtain ⟨z2,q2,x2,y2⟩:=old h' k' b h2 b2;have e:=hE.inj' _ _ _ _ _ x1 x2 y1 y2;have nd:=iG.1 hn
  have mem :∀ {h k},(h,k)∈hp->aX M.Z h=false->h∈((hp.map (·.1)).filter fun h=>!aX M.Z h):=fun {h k} hm hz=>by rw [List.mem_filter];exact ⟨List.mem_map.2 ⟨_,hm,rfl⟩,by simp [hz]⟩
  exact gk nd (mem (aB (hfind _ _ h1)) z1) (mem (aB (hfind _ _ h2)) z2) e
 ·cases k with
  | cells cs=>obtain ⟨hz,cs0,hx0⟩:=hh.cells _ _ (hfind _ _ hx);obtain ⟨b,c,T,fr,h1,h2,h3,h4,h5⟩:=hE.blk _ _ hx0;exact ⟨b,c,T,fr,by simp only [bX,hz,Bool.false_eq_true,if_false];exact h1,h2,h3,h4,hh.rcells _ _ _ (hfind _ _ hx) hx0 _ h5⟩
  | row ver rw t xs=>
   obtain ⟨hv,hr⟩:=hh.row _ _ _ _ _ (hfind _ _ hx);refine ⟨hv,?_⟩;rcases hr with ⟨hz,rfl⟩ |⟨hz,hx0⟩
   ·exact .inl ⟨by simp only [bX,hz,if_true],rfl⟩
   ·have e :(bX M E hp).ρ h=E.ρ (M.at h):=by simp only [bX,hz,Bool.false_eq_true,if_false]
    rw [e];exact (hE.blk _ _ hx0).2
  | grow ver esz cs=>obtain ⟨hz,hv,cs0,hx0,hl⟩:=hh.grow _ _ _ _ (hfind _ _ hx);obtain ⟨_,b,c,T,fr,h1,h2,h3,h4,h5⟩:=hE.blk _ _ hx0;exact ⟨hv,b,c,T,fr,by simp only [bX,hz,Bool.false_eq_true,if_false];exact h1,h2,h3,h4,by rw [<-hl];exact hh.rgrow _ _ _ _ _ (hfind _ _ hx) hx0 _ h5⟩
  | mp=>exact (hh.nomp _ _ (hfind _ _ hx)).elim
  | abs kk t x=>obtain ⟨hz,hx0⟩:=hh.abs _ _ _ _ (hfind _ _ hx);obtain ⟨b,h1,h2,h3,h4⟩:=hE.blk _ _ hx0;exact ⟨b,by simp only [bX,hz,Bool.false_eq_true,if_false];exact h1,h2,h3,h4⟩
 ·obtain ⟨_,k0,h1,h2⟩:=old h k b hx hb;exact hE.own' _ _ _ h1 h2
def JP (M:gF) (n:Nat):Bool:=Nat.beq (M.at n) n&&!aX M.Z n
def Q7:bd->Option Nat
 | .row v _ _ _=>some v
 | .grow v _ _=>some v
 | _=>none
def Dp:List (Nat×bd)->List (Nat×Option Nat)
 | []=> []
 |(h,b)::l=>(h,Q7 b)::Dp l
def xF (p:Nat) (M:gF) (h:Nat):Option Nat->Bool
 | none=>JP M h
 | some v=>bif Nat.blt v p then JP M h&&Nat.beq (M.at v) v else true
def ku (p:Nat) (M:gF):List (Nat×Option Nat)->Bool
 | []=>Nat.ble p M.nx
 |(h,o)::l=>bif (bif Nat.blt h p then xF p M h o else true) then ku p M l else false
theorem Bu {p:Nat} {M:gF} :∀ {l:List (Nat×Option Nat)},ku p M l=true->p<=M.nx
 | [],h=>Nat.le_of_ble_eq_true h
 |(n,o)::l,h=>by
  simp only [ku] at h
  cases hb :(bif Nat.blt n p then xF p M n o else true) with
  | true=>rw [hb] at h;exact Bu (l:=l) h
  | false=>rw [hb] at h;cases h
theorem rk {p:Nat} {M:gF} :∀ {l:List (Nat×Option Nat)},ku p M l=true->∀ {n:Nat} {o:Option Nat},(n,o)∈l->n<p->xF p M n o=true
 |(k,o')::l,h,n,o,hm,hn=>by
  simp only [ku] at h
  cases hb :(bif Nat.blt k p then xF p M k o' else true) with
  | true=>
   rw [hb] at h;rcases List.mem_cons.1 hm with he|hm
   ·obtain ⟨h1,h2⟩:=Prod.mk.inj he;subst h1 h2;rw [show Nat.blt _ p=true from by simpa [Nat.blt_eq] using hn] at hb;exact hb
   ·exact rk (l:=l) h hm hn
  | false=>rw [hb] at h;cases h
theorem tZ {M:gF} {n:Nat} (h:JP M n=true):M.at n=n/\aX M.Z n=false:=by simpa [JP,Nat.beq_eq] using h
theorem Gn {hp:List (Nat×bd)} {h:Nat} {b:bd} (hm :(h,b)∈hp) :(h,Q7 b)∈Dp hp:=by
 induction hp with
 | nil=>cases hm
 | cons z l ih=>
  simp only [Dp];rcases List.mem_cons.1 hm with he|hm
  ·subst he;exact List.mem_cons_self
  ·exact List.mem_cons_of_mem _ (ih hm)
theorem Gr {p:Nat} {M:gF} {hp:List (Nat×bd)} (h:ku p M (Dp hp)=true) {n v:Nat} {b:bd} (hm :(n,b)∈hp) (hb:Q7 b=some v) (hn:n<p) (hv:v<p):M.at n=n/\aX M.Z n=false/\M.at v=v:=by have h1:=rk h (Gn hm) hn;rw [hb] at h1;simp only [xF,show Nat.blt v p=true from by simpa [Nat.blt_eq] using hv,cond_true,Bool.and_eq_true,Nat.beq_eq] at h1;exact ⟨(tZ h1.1).1,(tZ h1.1).2,h1.2⟩
theorem xG {p:Nat} {M:gF} {hp:List (Nat×bd)} (h:ku p M (Dp hp)=true) {n:Nat} {b:bd} (hm :(n,b)∈hp) (hb:Q7 b=none) (hn:n<p):M.at n=n/\aX M.Z n=false:=by have h1:=rk h (Gn hm) hn;rw [hb] at h1;exact tZ h1
def aK.pins (p:Nat) (B:aK):Prop:=∀ M E hp,ku p M (Dp hp)=true->HSub M E hp->B.G E->B.G (bX M E hp)
theorem aK.free.pins {B:aK} (h:B.free) (p:Nat):B.pins p:=fun _ _ _ _ _ _=>h _
theorem ye {B:aK} (hB:B.free) {N:Nat} {s:St} {tm:List (Nat×V)} (h:Sub M s tm hp) {a:Act} {w:World} (hs:jM B N s a w):jM B N ⟨tm,hp,fun _=>none,M.nx⟩ a w:=by obtain ⟨hn,ht,hh⟩:=b7.1 h;obtain ⟨⟨E,hE,rfl,hH,_,hT⟩,hsz,hdf⟩:=hs;rw [<-hH] at hh;have hs:=MI hh;refine ⟨⟨bX M E hp,pz hE hs hn,rfl,rfl,⟨hB _,fun n hn=>hn⟩,fun sl v hv=>?_⟩,hsz,hdf⟩;exact kG hs.toHSub0 _ _ _ (yd ht (aB hv)) (dG hT sl)
end
end
section
open Go.RowKit
variable {P:Program}
def oO:List (Nat×V)->List (Nat×V)
 | []=> []
 |(s,_)::r=>(s,.any)::oO r
def lJ (n:Nat):List (Nat×bd)->List (Nat×bd)
 | []=> []
 |(h,_)::r=>(h,.row n true .unit [])::lJ n r
def rZ (st:St):Tr->Tr
 | .leaf e d nx=> .leaf e ⟨d.tm++oO st.tm,d.hp++lJ (Nat.max nx st.nx) st.hp⟩ (Nat.max nx st.nx+1)
 | .br b t e=> .br b (rZ st t) (rZ st e)
 | .need p t=> .need p (rZ st t)
 | .both t u=> .both (rZ st t) (rZ st u)
 | .when b t=> .when b (rZ st t)
 | .done=> .done
 | .bad=> .bad
theorem gN {st:St} {Q:Lf->Dl->Nat->Prop} :∀ {t:Tr},(rZ st t).sat Q->t.sat fun e d nx=>Q e ⟨d.tm++oO st.tm,d.hp++lJ (Nat.max nx st.nx) st.hp⟩ (Nat.max nx st.nx+1)
 | .leaf _ _ _,h=>h
 | .br _ _ _,h=>⟨fun hb=>gN (h.1 hb),fun hb=>gN (h.2 hb)⟩
 | .need _ _,h=>⟨h.1,gN h.2⟩
 | .both _ _,h=>⟨gN h.1,gN h.2⟩
 | .when _ _,h=>fun hb=>gN (h hb)
 | .done,h=>h
 | .bad,h=>h
def Ba (n:Nat):List (Nat×bd)->Bool
 | []=>true
 |(h,_)::r=>Nat.blt h n&&Ba n r
theorem xh {n:Nat} :∀ {l:List (Nat×bd)} {h:Nat} {k:bd},Ba n l=true->find l h=some k->h<n
 | [],_,_,_,hf=>by simp [find] at hf
 |(x,v)::r,h,k,hl,hf=>by
  simp only [Ba,Bool.and_eq_true,Nat.blt_eq] at hl;simp only [find] at hf
  cases hb:Nat.beq x h with
  | true=>obtain rfl:=Nat.eq_of_beq_eq_true hb;exact hl.1
  | false=>rw [hb] at hf;exact xh hl.2 hf
theorem uD :∀ {l:List (Nat×V)} {s:Nat},find (oO l) s =(find l s).map fun _=> .any
 | [],s=>rfl
 |(x,v)::r,s=>by
  simp only [oO,find]
  cases Nat.beq x s with
  | true=>rfl
  | false=>exact uD
theorem uB {n:Nat} :∀ {l:List (Nat×bd)} {s:Nat},find (lJ n l) s =(find l s).map fun _=>bd.row n true .unit []
 | [],s=>rfl
 |(x,v)::r,s=>by
  simp only [lJ,find]
  cases Nat.beq x s with
  | true=>rfl
  | false=>exact uB
def cq (H:a6):Prop:=H=fun _=>none
def gr (M:gF) (J:St) (T:Tr):aw:=
 ⟨fun st=>cq st.H0/\wQ (Ba st.nx st.hp) (Sub M st J.tm J.hp),fun st=>rZ st T⟩
theorem JY {B:aK} {N:Nat} {st:St} (h0:st.H0=fun _=>none) (hl:Ba st.nx st.hp=true) {tm:List (Nat×V)} {hp:List (Nat×bd)} {nx:Nat} {a:Act} {w:World} (hs:jM B N ⟨tm,hp,fun _=>none,nx⟩ a w) :
  at_ B N st ⟨tm++oO st.tm,hp++lJ (Nat.max nx st.nx) st.hp⟩ (Nat.max nx st.nx+1) a w:=by
 obtain ⟨⟨E,hE,rfl,hH,hU,hT⟩,hsz,hdf⟩:=hs
 let m:=Nat.max nx st.nx
 have hm1:nx<=m:=Nat.le_max_left _ _;have hm2:st.nx<=m:=Nat.le_max_right _ _;have hH:E.H=aQ (fun _=>none) hp:=hH;have hG:=hU.1;have hU :∀ n,E.U n->n<nx:=hU.2;have hT :∀ s v,find tm s=some v->ae E v (a.tmps.getD s undef):=hT
 let E':Env:=⟨fun n=>n<m+1,fun h=>match find hp h with|some _=>E.ρ h|none=>none,E.S,E.w,aQ st.H (hp++lJ m st.hp)⟩
 have hnew :∀ h,E'.H h=match find hp h with|some k=>some k|none=>(match find st.hp h with|some _=>some (.row m true .unit [])|none=>none):=fun h=>by
  show aQ st.H (hp++lJ m st.hp) h=_;unfold aQ;rw [cX,uB]
  cases find hp h with
  | some k=>rfl
  | none=>
   simp only
   cases hf:find st.hp h with
   | some k=>rfl
   | none=>simp only [Option.map_none];unfold St.H aQ;rw [hf,h0]
 have hold :∀ h k,find hp h=some k->E.H h=some k:=fun h k hf=>by rw [hH];unfold aQ;rw [hf]
 have cases' :∀ h k,E'.H h=some k->(find hp h=some k/\E'.ρ h=E.ρ h)\/(k = .row m true .unit []/\E'.ρ h=none/\h<st.nx):=fun h k hk=>by
  rw [hnew h] at hk
  cases hf:find hp h with
  | some k'=>rw [hf] at hk;simp only [Option.some.injEq] at hk;subst hk;exact .inl ⟨rfl,by show (match find hp h with|some _=>E.ρ h|none=>none)=_;rw [hf]⟩
  | none=>
   rw [hf] at hk;simp only at hk
   cases hg:find st.hp h with
   | none=>rw [hg] at hk;cases hk
   | some k'=>rw [hg] at hk;simp only [Option.some.injEq] at hk;exact .inr ⟨hk.symm,by show (match find hp h with|some _=>E.ρ h|none=>none)=_;rw [hf],xh hl hg⟩
 have X:Ext E E':=by
  refine ⟨fun n hn=>?_,fun _ h=>h,fun _ _=>rfl,fun h cs hu hx=>?_,fun h ver rw t xs hu hv hx=>?_,fun h ver esz cs hu hv hx=>?_,fun h es hu hx=>?_,fun h kk t x hu hx=>?_⟩
  case refine_6=>
   rcases cases' _ _ hx with ⟨h1,h2⟩ |⟨h1,_⟩
   ·exact ⟨⟨x,hold _ _ h1⟩,h2⟩
   ·cases h1
  ·have:=hU n hn;show n<m+1;omega
  ·rcases cases' _ _ hx with ⟨h1,h2⟩ |⟨h1,_⟩
   ·exact ⟨⟨cs,hold _ _ h1⟩,h2⟩
   ·cases h1
  ·rcases cases' _ _ hx with ⟨h1,h2⟩ |⟨h1,_⟩
   ·exact ⟨rw,xs,hold _ _ h1,rfl,h2,fun b c T fr _ hw=>⟨c,T,fr,hw,rfl⟩⟩
   ·cases h1
    have:=hU _ hv
    omega
  ·rcases cases' _ _ hx with ⟨h1,h2⟩ |⟨h1,_⟩
   ·exact ⟨cs,hold _ _ h1,rfl,h2,fun b c T fr _ hw=>⟨c,T,fr,hw,rfl⟩⟩
   ·cases h1
  ·rcases cases' _ _ hx with ⟨h1,h2⟩ |⟨h1,_⟩
   ·exact ⟨⟨es,hold _ _ h1⟩,h2⟩
   ·cases h1
 have tno :∀ {h k b},E'.ρ h=none->fJ E' h k b->False:=fun h0 ht=>by rcases ht with h1 |⟨b0,h1,_⟩ <;> rw [h0] at h1 <;> cases h1
 have R:aM B E':=by
  refine ⟨fun h k hx=>?_,hE.stab,fun h k b hx hb=>?_,fun h h' k k' b h1 h2 b1 b2=>?_,fun h k hx=>?_,hE.keeps,fun h k b hx hb=>?_,hE.s0,hE.sb⟩
  ·rcases cases' _ _ hx with ⟨h1,_⟩ |⟨_,_,h3⟩
   ·exact X.u _ (hE.used _ _ (hold _ _ h1))
   ·show h<m+1;omega
  ·rcases cases' _ _ hx with ⟨h1,h2⟩ |⟨_,h2,_⟩
   ·exact hE.lt' _ _ _ (hold _ _ h1) (hb.mv h2 fun _ _=>rfl)
   ·exact (tno h2 hb).elim
  ·rcases cases' _ _ h1 with ⟨x1,x2⟩ |⟨_,x2,_⟩
   ·rcases cases' _ _ h2 with ⟨y1,y2⟩ |⟨_,y2,_⟩
    ·exact hE.inj' _ _ _ _ _ (hold _ _ x1) (hold _ _ y1) (b1.mv x2 fun _ _=>rfl) (b2.mv y2 fun _ _=>rfl)
    ·exact (tno y2 b2).elim
   ·exact (tno x2 b1).elim
  ·rcases cases' _ _ hx with ⟨h1,h2⟩ |⟨rfl,h2,_⟩
   ·exact di X h2 (fun _ _=>rfl) (fun _ _ _ h=>h) (hE.blk _ _ (hold _ _ h1))
   ·exact ⟨Nat.lt_succ_self m,.inl ⟨h2,rfl⟩⟩
  ·rcases cases' _ _ hx with ⟨h1,h2⟩ |⟨_,h2,_⟩
   ·exact hE.own' _ _ _ (hold _ _ h1) (hb.mv h2 fun _ _=>rfl)
   ·exact (tno h2 hb).elim
 refine ⟨⟨E',R,rfl,rfl,⟨B.clo _ _ hG X,fun n hn=>hn⟩,fun s v hv=>?_⟩,hsz,hdf⟩;simp only [List.append_assoc] at hv;rw [cX] at hv
 cases hf:find tm s with
 | some v'=>rw [hf] at hv;simp only [Option.some.injEq] at hv;subst hv;exact ca X _ _ (hT _ _ hf)
 | none=>
  rw [hf] at hv;simp only at hv;rw [cX,uD] at hv
  cases hg:find st.tm s with
  | none=>rw [hg] at hv;simp at hv
  | some v'=>rw [hg] at hv;simp only [Option.map_some,Option.some.injEq] at hv;subst hv;simp [ae]
theorem SG {C:Cfg} (hC:CfgOK P C) (hP:P.follows .mixedOrders=true) {body:Code} {α:Type} (I:α->St) (hI :∀ a,(I a).H0=fun _=>none) (inv:α->Prop) (μ:α->Nat) (Λ:α->Nat->Option aw)
  (hΛ :∀ a,inv a->∀ b∈bF (Λ a) body,∀ L,Λ a (fo b)=some L->dU P C.N b L) {T:Tr} {M0:gF} {a0:α} (h0:inv a0) (hM:M0.nx =(I a0).nx)
  (step :∀ a,inv a->(cw C (Λ a) body (I a)).sat fun e d nx=>match e with
   | .nrm=>∃ (a':α) (M:gF),inv a'/\μ a'<μ a/\M.nx =(I a').nx/\Sub M ((I a).app d nx) (I a').tm (I a').hp
   | e=>∃ (M:gF) (tm:List (Nat×V)) (hp:List (Nat×bd)),Sub M ((I a).app d nx) tm hp/\∀ Q:Lf->Dl->Nat->Prop,T.sat Q->Q e ⟨tm,hp⟩ M.nx) :
  dU P C.N body (gr M0 (I a0) T):=by
 intro B hB st Q CQ hpre hT hQ a w hs;obtain ⟨hH0,hpre⟩:=hpre;obtain ⟨hl,hsub⟩:=b7.1 hpre;have hT:=gN hT;have eqI :∀ (x:α) (M:gF),M.nx =(I x).nx->(⟨(I x).tm,(I x).hp,fun _=>none,M.nx⟩:St)=I x:=fun x M hx=>by rw [hx,<-hI x]
 have start:jM B C.N (I a0) a w:=by have:=ye hB hsub hs;rw [eqI a0 M0 hM] at this;exact this
 have key :∀ n x a w,inv x->μ x<n->jM B C.N (I x) a w->Code.rounds P body CQ n a w:=by
  intro n
  induction n with
  | zero=>intro x a w _ hlt _;omega
  | succ n ih=>
   intro x a w hx hlt hs;rw [rounds_succ];refine cS hC hP (B:=B) body (fun b hb L hL=>(hΛ x hx b hb L hL).Ji hB) (I x) _ _ (step x hx) (fun e d nx a w hq hat=>?_) a w hs;have hat:=pC.1 hat
   have out :∀ e:Lf,(∃ (M:gF) (tm:List (Nat×V)) (hp:List (Nat×bd)),Sub M ((I x).app d nx) tm hp/\∀ Q:Lf->Dl->Nat->Prop,T.sat Q->Q e ⟨tm,hp⟩ M.nx)->CQ (iw e) a w:=fun e ⟨M,tm,hp,h1,h2⟩=>
    hQ e _ _ a w (h2 (fun e d nx=>Q e ⟨d.tm++oO st.tm,d.hp++lJ (Nat.max nx st.nx) st.hp⟩ (Nat.max nx st.nx+1)) hT) (JY hH0 hl (ye hB h1 hat))
   cases e with
   | nrm=>
    obtain ⟨x',M,h1,h2,h3,h4⟩:=hq
    have:=ye hB h4 hat
    rw [eqI x' M h3] at this;exact ih x' a w h1 (by omega) this
   | ext id=>exact out (.ext id) hq
   | ret=>exact out .ret hq
 exact wp_loop_rounds (μ a0+1) (key _ a0 a w h0 (Nat.lt_succ_self _) start)
end
section
def ab6:List (Option TD):= [
 none,
 none,
 some ⟨.int .i64,1,8,[.int .i64 0],some (.int .i64)⟩,
 some ⟨.int .i64,1,8,[.int .i64 0],some (.int .i64)⟩,
 some ⟨.bool,1,1,[.kb false],some (.bool)⟩,
 some ⟨.int .u8,1,1,[.int .u8 0],some (.int .u8)⟩,
 none,
 none,
 none,
 some ⟨.str,1,16,[.str ByteArray.empty],some (.str)⟩,
 none,
 none,
 some ⟨.int .u64,1,8,[.int .u64 0],some (.int .u64)⟩,
 none,
 none,
 none,
 none,
 none,
 none,
 none,
 none,
 some ⟨.int .i32,1,4,[.int .i32 0],some (.int .i32)⟩,
 some ⟨.slice 145,1,24,[.nilsl],some (.slice (.nm .Phase))⟩,
 some ⟨.struct [(0,9),(1,3),(2,3),(3,3),(4,3),(5,3),(6,3),(7,3),(8,4),(9,3),(10,3),(11,3),(12,3),(13,22)],14,136,[.str ByteArray.empty,.int .i64 0,.int .i64 0,.int .i64 0,.int .i64 0,.int .i64 0,.int .i64 0,.int .i64 0,.kb false,.int .i64 0,.int .i64 0,.int .i64 0,.int .i64 0,.nilsl],some (.prod (.str) (.prod (.int .i64) (.prod (.int .i64) (.prod (.int .i64) (.prod (.int .i64) (.prod (.int .i64) (.prod (.int .i64) (.prod (.int .i64) (.prod (.bool) (.prod (.int .i64) (.prod (.int .i64) (.prod (.int .i64) (.prod (.int .i64) (.prod (.slice (.nm .Phase)) (.unit)))))))))))))))⟩,
 some ⟨.struct [(0,9),(1,3),(2,3),(3,3),(4,3),(5,3),(6,3),(7,3),(8,4),(9,3),(10,3),(11,3),(12,3),(13,22)],14,136,[.str ByteArray.empty,.int .i64 0,.int .i64 0,.int .i64 0,.int .i64 0,.int .i64 0,.int .i64 0,.int .i64 0,.kb false,.int .i64 0,.int .i64 0,.int .i64 0,.int .i64 0,.nilsl],some (.nm .aj)⟩,
 some ⟨.slice 61,1,24,[.nilsl],some (.slice (.nm .aH))⟩,
 some ⟨.slice 63,1,24,[.nilsl],some (.slice (.nm .ak))⟩,
 some ⟨.struct [(0,3),(1,3),(2,3),(3,3),(4,3)],5,40,[.int .i64 0,.int .i64 0,.int .i64 0,.int .i64 0,.int .i64 0],some (.prod (.int .i64) (.prod (.int .i64) (.prod (.int .i64) (.prod (.int .i64) (.prod (.int .i64) (.unit))))))⟩,
 some ⟨.struct [(0,3),(1,3),(2,3),(3,3),(4,3)],5,40,[.int .i64 0,.int .i64 0,.int .i64 0,.int .i64 0,.int .i64 0],some (.nm .an)⟩,
 some ⟨.struct [(0,3),(1,25),(2,26),(3,28),(8,3),(9,3)],10,112,[.int .i64 0,.nilsl,.nilsl,.int .i64 0,.int .i64 0,.int .i64 0,.int .i64 0,.int .i64 0,.int .i64 0,.int .i64 0],some (.prod (.int .i64) (.prod (.slice (.nm .aH)) (.prod (.slice (.nm .ak)) (.prod (.nm .an) (.prod (.int .i64) (.prod (.int .i64) (.unit)))))))⟩,
 some ⟨.struct [(0,3),(1,25),(2,26),(3,28),(8,3),(9,3)],10,112,[.int .i64 0,.nilsl,.nilsl,.int .i64 0,.int .i64 0,.int .i64 0,.int .i64 0,.int .i64 0,.int .i64 0,.int .i64 0],some (.nm .ay)⟩,
 none,
 none,
 some ⟨.int .i64,1,8,[.int .i64 0],some (.int .i64)⟩,
 none,
 none,
 some ⟨.slice 44,1,24,[.nilsl],some (.slice (.nm .ah))⟩,
 none,
 none,
 some ⟨.slice 48,1,24,[.nilsl],some (.slice (.nm .aF))⟩,
 none,
 none,
 none,
 some ⟨.struct [(0,3),(1,3),(2,3),(3,3),(4,3),(5,3),(6,3)],7,56,[.int .i64 0,.int .i64 0,.int .i64 0,.int .i64 0,.int .i64 0,.int .i64 0,.int .i64 0],some (.prod (.int .i64) (.prod (.int .i64) (.prod (.int .i64) (.prod (.int .i64) (.prod (.int .i64) (.prod (.int .i64) (.prod (.int .i64) (.unit))))))))⟩,
 some ⟨.struct [(0,3),(1,3),(2,3),(3,3),(4,3),(5,3),(6,3)],7,56,[.int .i64 0,.int .i64 0,.int .i64 0,.int .i64 0,.int .i64 0,.int .i64 0,.int .i64 0],some (.nm .ah)⟩,
 none,
 some ⟨.int .u8,1,1,[.int .u8 0],some (.int .u8)⟩,
 some ⟨.struct [(0,3),(1,3),(2,3),(3,3),(4,3),(5,4),(6,46),(7,3),(8,3),(9,4)],10,72,[.int .i64 0,.int .i64 0,.int .i64 0,.int .i64 0,.int .i64 0,.kb false,.int .u8 0,.int .i64 0,.int .i64 0,.kb false],some (.prod (.int .i64) (.prod (.int .i64) (.prod (.int .i64) (.prod (.int .i64) (.prod (.int .i64) (.prod (.bool) (.prod (.int .u8) (.prod (.int .i64) (.prod (.int .i64) (.prod (.bool) (.unit)))))))))))⟩,
 some ⟨.struct [(0,3),(1,3),(2,3),(3,3),(4,3),(5,4),(6,46),(7,3),(8,3),(9,4)],10,72,[.int .i64 0,.int .i64 0,.int .i64 0,.int .i64 0,.int .i64 0,.kb false,.int .u8 0,.int .i64 0,.int .i64 0,.kb false],some (.nm .aF)⟩,
 some ⟨.slice 131,1,24,[.nilsl],some (.slice (.nm .Event))⟩,
 none,
 some ⟨.slice 30,1,24,[.nilsl],some (.slice (.nm .ay))⟩,
 none,
 none,
 none,
 none,
 none,
 none,
 none,
 some ⟨.slice 9,1,24,[.nilsl],some (.slice (.str))⟩,
 some ⟨.struct [(0,3),(1,3),(2,59)],3,40,[.int .i64 0,.int .i64 0,.nilsl],some (.prod (.int .i64) (.prod (.int .i64) (.prod (.slice (.str)) (.unit))))⟩,
 some ⟨.struct [(0,3),(1,3),(2,59)],3,40,[.int .i64 0,.int .i64 0,.nilsl],some (.nm .aH)⟩,
 some ⟨.struct [(0,3),(1,59),(2,46),(3,3)],4,48,[.int .i64 0,.nilsl,.int .u8 0,.int .i64 0],some (.prod (.int .i64) (.prod (.slice (.str)) (.prod (.int .u8) (.prod (.int .i64) (.unit)))))⟩,
 some ⟨.struct [(0,3),(1,59),(2,46),(3,3)],4,48,[.int .i64 0,.nilsl,.int .u8 0,.int .i64 0],some (.nm .ak)⟩,
 none,
 none,
 some ⟨.int .u8,1,1,[.int .u8 0],some (.int .u8)⟩,
 some ⟨.int .u8,1,1,[.int .u8 0],some (.int .u8)⟩,
 some ⟨.struct [(0,66),(1,67),(2,3),(3,3),(4,3),(5,4),(6,46),(7,3),(8,3),(9,3),(10,4),(11,3)],12,80,[.int .u8 0,.int .u8 0,.int .i64 0,.int .i64 0,.int .i64 0,.kb false,.int .u8 0,.int .i64 0,.int .i64 0,.int .i64 0,.kb false,.int .i64 0],some (.prod (.int .u8) (.prod (.int .u8) (.prod (.int .i64) (.prod (.int .i64) (.prod (.int .i64) (.prod (.bool) (.prod (.int .u8) (.prod (.int .i64) (.prod (.int .i64) (.prod (.int .i64) (.prod (.bool) (.prod (.int .i64) (.unit)))))))))))))⟩,
 some ⟨.struct [(0,66),(1,67),(2,3),(3,3),(4,3),(5,4),(6,46),(7,3),(8,3),(9,3),(10,4),(11,3)],12,80,[.int .u8 0,.int .u8 0,.int .i64 0,.int .i64 0,.int .i64 0,.kb false,.int .u8 0,.int .i64 0,.int .i64 0,.int .i64 0,.kb false,.int .i64 0],some (.nm .b8)⟩,
 none,
 some ⟨.slice 87,1,24,[.nilsl],some (.slice (.slice (.nm .ab)))⟩,
 none,
 none,
 none,
 none,
 some ⟨.slice 3,1,24,[.nilsl],some (.slice (.int .i64))⟩,
 none,
 none,
 some ⟨.slice 92,1,24,[.nilsl],some (.slice (.nm .ag))⟩,
 none,
 none,
 none,
 none,
 none,
 none,
 some ⟨.ptr 44,1,8,[.nilptr],none⟩,
 some ⟨.slice 89,1,24,[.nilsl],some (.slice (.nm .ab))⟩,
 some ⟨.struct [(0,5),(1,3),(2,3),(3,3),(4,5)],5,40,[.int .u8 0,.int .i64 0,.int .i64 0,.int .i64 0,.int .u8 0],some (.prod (.int .u8) (.prod (.int .i64) (.prod (.int .i64) (.prod (.int .i64) (.prod (.int .u8) (.unit))))))⟩,
 some ⟨.struct [(0,5),(1,3),(2,3),(3,3),(4,5)],5,40,[.int .u8 0,.int .i64 0,.int .i64 0,.int .i64 0,.int .u8 0],some (.nm .ab)⟩,
 none,
 some ⟨.struct [(0,9),(1,66),(2,3),(3,3),(4,3),(5,4),(6,4)],7,56,[.str ByteArray.empty,.int .u8 0,.int .i64 0,.int .i64 0,.int .i64 0,.kb false,.kb false],some (.prod (.str) (.prod (.int .u8) (.prod (.int .i64) (.prod (.int .i64) (.prod (.int .i64) (.prod (.bool) (.prod (.bool) (.unit))))))))⟩,
 some ⟨.struct [(0,9),(1,66),(2,3),(3,3),(4,3),(5,4),(6,4)],7,56,[.str ByteArray.empty,.int .u8 0,.int .i64 0,.int .i64 0,.int .i64 0,.kb false,.kb false],some (.nm .ag)⟩,
 none,
 none,
 none,
 none,
 none,
 none,
 some ⟨.slice 122,1,24,[.nilsl],some (.slice (.nm .Score))⟩,
 none,
 none,
 some ⟨.slice 119,1,24,[.nilsl],some (.slice (.nm .cA))⟩,
 some ⟨.int .u8,1,1,[.int .u8 0],some (.int .u8)⟩,
 some ⟨.slice 184,1,24,[.nilsl],some (.slice (.nm .Innings))⟩,
 some ⟨.arr 2 3,2,16,[.int .i64 0,.int .i64 0],some (.prod (.int .i64) (.prod (.int .i64) (.unit)))⟩,
 some ⟨.int .u8,1,1,[.int .u8 0],some (.int .u8)⟩,
 some ⟨.struct [(0,106),(1,3),(2,3)],3,24,[.int .u8 0,.int .i64 0,.int .i64 0],some (.prod (.int .u8) (.prod (.int .i64) (.prod (.int .i64) (.unit))))⟩,
 some ⟨.struct [(0,106),(1,3),(2,3)],3,24,[.int .u8 0,.int .i64 0,.int .i64 0],some (.nm .Result)⟩,
 some ⟨.struct [(0,24),(14,103),(15,3),(16,4),(17,104),(18,105),(20,108)],23,224,[.str ByteArray.empty,.int .i64 0,.int .i64 0,.int .i64 0,.int .i64 0,.int .i64 0,.int .i64 0,.int .i64 0,.kb false,.int .i64 0,.int .i64 0,.int .i64 0,.int .i64 0,.nilsl,.int .u8 0,.int .i64 0,.kb false,.nilsl,.int .i64 0,.int .i64 0,.int .u8 0,.int .i64 0,.int .i64 0],some (.prod (.nm .aj) (.prod (.int .u8) (.prod (.int .i64) (.prod (.bool) (.prod (.slice (.nm .Innings)) (.prod (.prod (.int .i64) (.prod (.int .i64) (.unit))) (.prod (.nm .Result) (.unit))))))))⟩,
 some ⟨.struct [(0,24),(14,103),(15,3),(16,4),(17,104),(18,105),(20,108)],23,224,[.str ByteArray.empty,.int .i64 0,.int .i64 0,.int .i64 0,.int .i64 0,.int .i64 0,.int .i64 0,.int .i64 0,.kb false,.int .i64 0,.int .i64 0,.int .i64 0,.int .i64 0,.nilsl,.int .u8 0,.int .i64 0,.kb false,.nilsl,.int .i64 0,.int .i64 0,.int .u8 0,.int .i64 0,.int .i64 0],some (.nm .Match)⟩,
 some ⟨.int .i64,1,8,[.int .i64 0],some (.int .i64)⟩,
 none,
 none,
 some ⟨.slice 105,1,24,[.nilsl],some (.slice (.prod (.int .i64) (.prod (.int .i64) (.unit))))⟩,
 none,
 some ⟨.struct [(0,3),(1,3),(2,3),(3,3),(4,3),(5,3),(6,4),(7,4),(8,4),(9,4)],10,56,[.int .i64 0,.int .i64 0,.int .i64 0,.int .i64 0,.int .i64 0,.int .i64 0,.kb false,.kb false,.kb false,.kb false],some (.prod (.int .i64) (.prod (.int .i64) (.prod (.int .i64) (.prod (.int .i64) (.prod (.int .i64) (.prod (.int .i64) (.prod (.bool) (.prod (.bool) (.prod (.bool) (.prod (.bool) (.unit)))))))))))⟩,
 some ⟨.struct [(0,3),(1,3),(2,3),(3,3),(4,3),(5,3),(6,4),(7,4),(8,4),(9,4)],10,56,[.int .i64 0,.int .i64 0,.int .i64 0,.int .i64 0,.int .i64 0,.int .i64 0,.kb false,.kb false,.kb false,.kb false],some (.nm .eU)⟩,
 some ⟨.struct [(0,3),(1,3),(2,3),(3,3),(4,3),(5,3),(6,3),(7,4),(8,69),(20,117),(30,3),(31,3)],32,216,[.int .i64 0,.int .i64 0,.int .i64 0,.int .i64 0,.int .i64 0,.int .i64 0,.int .i64 0,.kb false,.int .u8 0,.int .u8 0,.int .i64 0,.int .i64 0,.int .i64 0,.kb false,.int .u8 0,.int .i64 0,.int .i64 0,.int .i64 0,.kb false,.int .i64 0,.int .i64 0,.int .i64 0,.int .i64 0,.int .i64 0,.int .i64 0,.int .i64 0,.kb false,.kb false,.kb false,.kb false,.int .i64 0,.int .i64 0],some (.prod (.int .i64) (.prod (.int .i64) (.prod (.int .i64) (.prod (.int .i64) (.prod (.int .i64) (.prod (.int .i64) (.prod (.int .i64) (.prod (.bool) (.prod (.nm .b8) (.prod (.nm .eU) (.prod (.int .i64) (.prod (.int .i64) (.unit)))))))))))))⟩,
 some ⟨.struct [(0,3),(1,3),(2,3),(3,3),(4,3),(5,3),(6,3),(7,4),(8,69),(20,117),(30,3),(31,3)],32,216,[.int .i64 0,.int .i64 0,.int .i64 0,.int .i64 0,.int .i64 0,.int .i64 0,.int .i64 0,.kb false,.int .u8 0,.int .u8 0,.int .i64 0,.int .i64 0,.int .i64 0,.kb false,.int .u8 0,.int .i64 0,.int .i64 0,.int .i64 0,.kb false,.int .i64 0,.int .i64 0,.int .i64 0,.int .i64 0,.int .i64 0,.int .i64 0,.int .i64 0,.kb false,.kb false,.kb false,.kb false,.int .i64 0,.int .i64 0],some (.nm .cA)⟩,
 some ⟨.int .u8,1,1,[.int .u8 0],some (.int .u8)⟩,
 some ⟨.struct [(0,3),(1,3),(2,3),(3,3),(4,28),(9,120)],10,80,[.int .i64 0,.int .i64 0,.int .i64 0,.int .i64 0,.int .i64 0,.int .i64 0,.int .i64 0,.int .i64 0,.int .i64 0,.int .u8 0],some (.prod (.int .i64) (.prod (.int .i64) (.prod (.int .i64) (.prod (.int .i64) (.prod (.nm .an) (.prod (.int .u8) (.unit)))))))⟩,
 some ⟨.struct [(0,3),(1,3),(2,3),(3,3),(4,28),(9,120)],10,80,[.int .i64 0,.int .i64 0,.int .i64 0,.int .i64 0,.int .i64 0,.int .i64 0,.int .i64 0,.int .i64 0,.int .i64 0,.int .u8 0],some (.nm .Score)⟩,
 none,
 none,
 none,
 none,
 none,
 none,
 some ⟨.int .u8,1,1,[.int .u8 0],some (.int .u8)⟩,
 some ⟨.struct [(0,129),(1,3),(2,3),(3,3),(4,4),(5,3),(6,3),(7,69)],19,136,[.int .u8 0,.int .i64 0,.int .i64 0,.int .i64 0,.kb false,.int .i64 0,.int .i64 0,.int .u8 0,.int .u8 0,.int .i64 0,.int .i64 0,.int .i64 0,.kb false,.int .u8 0,.int .i64 0,.int .i64 0,.int .i64 0,.kb false,.int .i64 0],some (.prod (.int .u8) (.prod (.int .i64) (.prod (.int .i64) (.prod (.int .i64) (.prod (.bool) (.prod (.int .i64) (.prod (.int .i64) (.prod (.nm .b8) (.unit)))))))))⟩,
 some ⟨.struct [(0,129),(1,3),(2,3),(3,3),(4,4),(5,3),(6,3),(7,69)],19,136,[.int .u8 0,.int .i64 0,.int .i64 0,.int .i64 0,.kb false,.int .i64 0,.int .i64 0,.int .u8 0,.int .u8 0,.int .i64 0,.int .i64 0,.int .i64 0,.kb false,.int .u8 0,.int .i64 0,.int .i64 0,.int .i64 0,.kb false,.int .i64 0],some (.nm .Event)⟩,
 none,
 none,
 none,
 none,
 none,
 none,
 none,
 none,
 none,
 none,
 none,
 none,
 some ⟨.struct [(0,3),(1,3),(2,3)],3,24,[.int .i64 0,.int .i64 0,.int .i64 0],some (.prod (.int .i64) (.prod (.int .i64) (.prod (.int .i64) (.unit))))⟩,
 some ⟨.struct [(0,3),(1,3),(2,3)],3,24,[.int .i64 0,.int .i64 0,.int .i64 0],some (.nm .Phase)⟩,
 none,
 some ⟨.slice 4,1,24,[.nilsl],some (.slice (.bool))⟩,
 none,
 none,
 none,
 some ⟨.struct [(0,3),(1,3),(2,3),(3,3),(4,3),(5,3),(6,3),(7,76)],8,80,[.int .i64 0,.int .i64 0,.int .i64 0,.int .i64 0,.int .i64 0,.int .i64 0,.int .i64 0,.nilsl],some (.prod (.int .i64) (.prod (.int .i64) (.prod (.int .i64) (.prod (.int .i64) (.prod (.int .i64) (.prod (.int .i64) (.prod (.int .i64) (.prod (.slice (.int .i64)) (.unit)))))))))⟩,
 some ⟨.struct [(0,3),(1,3),(2,3),(3,3),(4,3),(5,3),(6,3),(7,76)],8,80,[.int .i64 0,.int .i64 0,.int .i64 0,.int .i64 0,.int .i64 0,.int .i64 0,.int .i64 0,.nilsl],some (.nm .bW)⟩,
 none,
 none,
 none,
 none,
 none,
 some ⟨.ptr 122,1,8,[.nilptr],none⟩,
 none,
 none,
 none,
 none,
 none,
 none,
 none,
 none,
 none,
 some ⟨.ptr 63,1,8,[.nilptr],none⟩,
 none,
 none,
 none,
 none,
 none,
 none,
 none,
 none,
 none,
 none,
 none,
 none,
 none,
 some ⟨.slice 285,1,24,[.nilsl],some (.slice (.int .u8))⟩,
 some ⟨.struct [(0,3),(1,3),(2,3),(3,3),(4,3),(5,28),(10,3),(11,3),(12,3),(13,3),(14,182),(15,3),(16,76),(17,76),(18,4),(19,76),(20,4),(21,3),(22,3),(23,3),(24,147),(25,105),(27,120)],28,304,[.int .i64 0,.int .i64 0,.int .i64 0,.int .i64 0,.int .i64 0,.int .i64 0,.int .i64 0,.int .i64 0,.int .i64 0,.int .i64 0,.int .i64 0,.int .i64 0,.int .i64 0,.int .i64 0,.nilsl,.int .i64 0,.nilsl,.nilsl,.kb false,.nilsl,.kb false,.int .i64 0,.int .i64 0,.int .i64 0,.nilsl,.int .i64 0,.int .i64 0,.int .u8 0],some (.prod (.int .i64) (.prod (.int .i64) (.prod (.int .i64) (.prod (.int .i64) (.prod (.int .i64) (.prod (.nm .an) (.prod (.int .i64) (.prod (.int .i64) (.prod (.int .i64) (.prod (.int .i64) (.prod (.slice (.int .u8)) (.prod (.int .i64) (.prod (.slice (.int .i64)) (.prod (.slice (.int .i64)) (.prod (.bool) (.prod (.slice (.int .i64)) (.prod (.bool) (.prod (.int .i64) (.prod (.int .i64) (.prod (.int .i64) (.prod (.slice (.bool)) (.prod (.prod (.int .i64) (.prod (.int .i64) (.unit))) (.prod (.int .u8) (.unit))))))))))))))))))))))))⟩,
 some ⟨.struct [(0,3),(1,3),(2,3),(3,3),(4,3),(5,28),(10,3),(11,3),(12,3),(13,3),(14,182),(15,3),(16,76),(17,76),(18,4),(19,76),(20,4),(21,3),(22,3),(23,3),(24,147),(25,105),(27,120)],28,304,[.int .i64 0,.int .i64 0,.int .i64 0,.int .i64 0,.int .i64 0,.int .i64 0,.int .i64 0,.int .i64 0,.int .i64 0,.int .i64 0,.int .i64 0,.int .i64 0,.int .i64 0,.int .i64 0,.nilsl,.int .i64 0,.nilsl,.nilsl,.kb false,.nilsl,.kb false,.int .i64 0,.int .i64 0,.int .i64 0,.nilsl,.int .i64 0,.int .i64 0,.int .u8 0],some (.nm .Innings)⟩,
 none,
 none,
 none,
 none,
 none,
 none,
 none,
 none,
 none,
 none,
 none,
 none,
 none,
 none,
 none,
 none,
 none,
 none,
 none,
 none,
 none,
 none,
 some ⟨.struct [(0,46),(1,9),(2,4),(3,4),(4,4),(5,4),(6,4)],7,32,[.int .u8 0,.str ByteArray.empty,.kb false,.kb false,.kb false,.kb false,.kb false],some (.prod (.int .u8) (.prod (.str) (.prod (.bool) (.prod (.bool) (.prod (.bool) (.prod (.bool) (.prod (.bool) (.unit))))))))⟩,
 some ⟨.struct [(0,46),(1,9),(2,4),(3,4),(4,4),(5,4),(6,4)],7,32,[.int .u8 0,.str ByteArray.empty,.kb false,.kb false,.kb false,.kb false,.kb false],some (.nm .ao)⟩,
 none,
 none,
 some ⟨.slice 46,1,24,[.nilsl],some (.slice (.int .u8))⟩,
 none,
 none,
 some ⟨.slice 5,1,24,[.nilsl],some (.slice (.int .u8))⟩,
 none,
 none,
 none,
 none,
 none,
 none,
 none,
 none,
 none,
 none,
 some ⟨.ptr 110,1,8,[.nilptr],none⟩,
 none,
 none,
 some ⟨.struct [(0,4),(1,4),(2,4),(3,4),(4,4),(5,4),(6,4)],7,7,[.kb false,.kb false,.kb false,.kb false,.kb false,.kb false,.kb false],some (.prod (.bool) (.prod (.bool) (.prod (.bool) (.prod (.bool) (.prod (.bool) (.prod (.bool) (.prod (.bool) (.unit))))))))⟩,
 some ⟨.struct [(0,4),(1,4),(2,4),(3,4),(4,4),(5,4),(6,4)],7,7,[.kb false,.kb false,.kb false,.kb false,.kb false,.kb false,.kb false],some (.nm .cH)⟩,
 none,
 none,
 none,
 none,
 none,
 none,
 none,
 none,
 some ⟨.slice 208,1,24,[.nilsl],some (.slice (.nm .ao))⟩,
 none,
 none,
 none,
 some ⟨.int .u64,1,8,[.int .u64 0],some (.int .u64)⟩,
 none,
 some ⟨.arr 256 4,256,256,[.kb false,.kb false,.kb false,.kb false,.kb false,.kb false,.kb false,.kb false,.kb false,.kb false,.kb false,.kb false,.kb false,.kb false,.kb false,.kb false,.kb false,.kb false,.kb false,.kb false,.kb false,.kb false,.kb false,.kb false,.kb false,.kb false,.kb false,.kb false,.kb false,.kb false,.kb false,.kb false,.kb false,.kb false,.kb false,.kb false,.kb false,.kb false,.kb false,.kb false,.kb false,.kb false,.kb false,.kb false,.kb false,.kb false,.kb false,.kb false,.kb false,.kb false,.kb false,.kb false,.kb false,.kb false,.kb false,.kb false,.kb false,.kb false,.kb false,.kb false,.kb false,.kb false,.kb false,.kb false,.kb false,.kb false,.kb false,.kb false,.kb false,.kb false,.kb false,.kb false,.kb false,.kb false,.kb false,.kb false,.kb false,.kb false,.kb false,.kb false,.kb false,.kb false,.kb false,.kb false,.kb false,.kb false,.kb false,.kb false,.kb false,.kb false,.kb false,.kb false,.kb false,.kb false,.kb false,.kb false,.kb false,.kb false,.kb false,.kb false,.kb false,.kb false,.kb false,.kb false,.kb false,.kb false,.kb false,.kb false,.kb false,.kb false,.kb false,.kb false,.kb false,.kb false,.kb false,.kb false,.kb false,.kb false,.kb false,.kb false,.kb false,.kb false,.kb false,.kb false,.kb false,.kb false,.kb false,.kb false,.kb false,.kb false,.kb false,.kb false,.kb false,.kb false,.kb false,.kb false,.kb false,.kb false,.kb false,.kb false,.kb false,.kb false,.kb false,.kb false,.kb false,.kb false,.kb false,.kb false,.kb false,.kb false,.kb false,.kb false,.kb false,.kb false,.kb false,.kb false,.kb false,.kb false,.kb false,.kb false,.kb false,.kb false,.kb false,.kb false,.kb false,.kb false,.kb false,.kb false,.kb false,.kb false,.kb false,.kb false,.kb false,.kb false,.kb false,.kb false,.kb false,.kb false,.kb false,.kb false,.kb false,.kb false,.kb false,.kb false,.kb false,.kb false,.kb false,.kb false,.kb false,.kb false,.kb false,.kb false,.kb false,.kb false,.kb false,.kb false,.kb false,.kb false,.kb false,.kb false,.kb false,.kb false,.kb false,.kb false,.kb false,.kb false,.kb false,.kb false,.kb false,.kb false,.kb false,.kb false,.kb false,.kb false,.kb false,.kb false,.kb false,.kb false,.kb false,.kb false,.kb false,.kb false,.kb false,.kb false,.kb false,.kb false,.kb false,.kb false,.kb false,.kb false,.kb false,.kb false,.kb false,.kb false,.kb false,.kb false,.kb false,.kb false,.kb false,.kb false,.kb false,.kb false,.kb false,.kb false,.kb false,.kb false,.kb false,.kb false,.kb false,.kb false,.kb false,.kb false,.kb false,.kb false,.kb false,.kb false],none⟩,
 some ⟨.arr 256 4,256,256,[.kb false,.kb false,.kb false,.kb false,.kb false,.kb false,.kb false,.kb false,.kb false,.kb false,.kb false,.kb false,.kb false,.kb false,.kb false,.kb false,.kb false,.kb false,.kb false,.kb false,.kb false,.kb false,.kb false,.kb false,.kb false,.kb false,.kb false,.kb false,.kb false,.kb false,.kb false,.kb false,.kb false,.kb false,.kb false,.kb false,.kb false,.kb false,.kb false,.kb false,.kb false,.kb false,.kb false,.kb false,.kb false,.kb false,.kb false,.kb false,.kb false,.kb false,.kb false,.kb false,.kb false,.kb false,.kb false,.kb false,.kb false,.kb false,.kb false,.kb false,.kb false,.kb false,.kb false,.kb false,.kb false,.kb false,.kb false,.kb false,.kb false,.kb false,.kb false,.kb false,.kb false,.kb false,.kb false,.kb false,.kb false,.kb false,.kb false,.kb false,.kb false,.kb false,.kb false,.kb false,.kb false,.kb false,.kb false,.kb false,.kb false,.kb false,.kb false,.kb false,.kb false,.kb false,.kb false,.kb false,.kb false,.kb false,.kb false,.kb false,.kb false,.kb false,.kb false,.kb false,.kb false,.kb false,.kb false,.kb false,.kb false,.kb false,.kb false,.kb false,.kb false,.kb false,.kb false,.kb false,.kb false,.kb false,.kb false,.kb false,.kb false,.kb false,.kb false,.kb false,.kb false,.kb false,.kb false,.kb false,.kb false,.kb false,.kb false,.kb false,.kb false,.kb false,.kb false,.kb false,.kb false,.kb false,.kb false,.kb false,.kb false,.kb false,.kb false,.kb false,.kb false,.kb false,.kb false,.kb false,.kb false,.kb false,.kb false,.kb false,.kb false,.kb false,.kb false,.kb false,.kb false,.kb false,.kb false,.kb false,.kb false,.kb false,.kb false,.kb false,.kb false,.kb false,.kb false,.kb false,.kb false,.kb false,.kb false,.kb false,.kb false,.kb false,.kb false,.kb false,.kb false,.kb false,.kb false,.kb false,.kb false,.kb false,.kb false,.kb false,.kb false,.kb false,.kb false,.kb false,.kb false,.kb false,.kb false,.kb false,.kb false,.kb false,.kb false,.kb false,.kb false,.kb false,.kb false,.kb false,.kb false,.kb false,.kb false,.kb false,.kb false,.kb false,.kb false,.kb false,.kb false,.kb false,.kb false,.kb false,.kb false,.kb false,.kb false,.kb false,.kb false,.kb false,.kb false,.kb false,.kb false,.kb false,.kb false,.kb false,.kb false,.kb false,.kb false,.kb false,.kb false,.kb false,.kb false,.kb false,.kb false,.kb false,.kb false,.kb false,.kb false,.kb false,.kb false,.kb false,.kb false,.kb false,.kb false,.kb false,.kb false,.kb false,.kb false,.kb false,.kb false,.kb false,.kb false,.kb false,.kb false,.kb false,.kb false,.kb false],none⟩,
 none,
 none,
 none,
 some ⟨.ptr 245,1,8,[.nilptr],none⟩,
 none,
 none,
 none,
 some ⟨.int .u64,1,8,[.int .u64 0],some (.int .u64)⟩,
 some ⟨.ptr 274,1,8,[.nilptr],none⟩,
 none,
 none,
 none,
 some ⟨.struct [(0,5),(1,4),(2,4)],3,3,[.int .u8 0,.kb false,.kb false],some (.prod (.int .u8) (.prod (.bool) (.prod (.bool) (.unit))))⟩,
 some ⟨.slice 258,1,24,[.nilsl],some (.slice (.prod (.int .u8) (.prod (.bool) (.prod (.bool) (.unit)))))⟩,
 none,
 none,
 none,
 none,
 none,
 none,
 none,
 none,
 none,
 none,
 none,
 none,
 none,
 none,
 none,
 none,
 none,
 none,
 none,
 none,
 some ⟨.struct [(0,9),(1,9),(2,9),(3,9)],4,64,[.str ByteArray.empty,.str ByteArray.empty,.str ByteArray.empty,.str ByteArray.empty],some (.prod (.str) (.prod (.str) (.prod (.str) (.prod (.str) (.unit)))))⟩,
 some ⟨.struct [(0,9),(1,9),(2,9),(3,9)],4,64,[.str ByteArray.empty,.str ByteArray.empty,.str ByteArray.empty,.str ByteArray.empty],some (.nm .cB)⟩,
 some ⟨.slice 281,1,24,[.nilsl],some (.slice (.nm .cB))⟩,
 none,
 none,
 some ⟨.int .u8,1,1,[.int .u8 0],some (.int .u8)⟩,
 none,
 none,
 none,
 none,
 none,
 some ⟨.arr 24 5,24,24,[.int .u8 0,.int .u8 0,.int .u8 0,.int .u8 0,.int .u8 0,.int .u8 0,.int .u8 0,.int .u8 0,.int .u8 0,.int .u8 0,.int .u8 0,.int .u8 0,.int .u8 0,.int .u8 0,.int .u8 0,.int .u8 0,.int .u8 0,.int .u8 0,.int .u8 0,.int .u8 0,.int .u8 0,.int .u8 0,.int .u8 0,.int .u8 0],none⟩,
 none,
 none,
 none,
 none,
 none,
 some ⟨.ptr 5,1,8,[.nilptr],none⟩,
 some ⟨.ptr 300,1,8,[.nilptr],none⟩,
 some ⟨.struct [(0,9)],1,16,[.str ByteArray.empty],some (.prod (.str) (.unit))⟩,
 some ⟨.struct [(0,9)],1,16,[.str ByteArray.empty],some (.prod (.str) (.unit))⟩,
 none,
 none,
 none,
 none,
 none,
 none,
 none,
 none,
 none,
 none,
 some ⟨.arr 20 242,20,160,[.int .u64 0,.int .u64 0,.int .u64 0,.int .u64 0,.int .u64 0,.int .u64 0,.int .u64 0,.int .u64 0,.int .u64 0,.int .u64 0,.int .u64 0,.int .u64 0,.int .u64 0,.int .u64 0,.int .u64 0,.int .u64 0,.int .u64 0,.int .u64 0,.int .u64 0,.int .u64 0],none⟩,
 some ⟨.int .u32,1,4,[.int .u32 0],some (.int .u32)⟩,
 some ⟨.arr 65 5,65,65,[.int .u8 0,.int .u8 0,.int .u8 0,.int .u8 0,.int .u8 0,.int .u8 0,.int .u8 0,.int .u8 0,.int .u8 0,.int .u8 0,.int .u8 0,.int .u8 0,.int .u8 0,.int .u8 0,.int .u8 0,.int .u8 0,.int .u8 0,.int .u8 0,.int .u8 0,.int .u8 0,.int .u8 0,.int .u8 0,.int .u8 0,.int .u8 0,.int .u8 0,.int .u8 0,.int .u8 0,.int .u8 0,.int .u8 0,.int .u8 0,.int .u8 0,.int .u8 0,.int .u8 0,.int .u8 0,.int .u8 0,.int .u8 0,.int .u8 0,.int .u8 0,.int .u8 0,.int .u8 0,.int .u8 0,.int .u8 0,.int .u8 0,.int .u8 0,.int .u8 0,.int .u8 0,.int .u8 0,.int .u8 0,.int .u8 0,.int .u8 0,.int .u8 0,.int .u8 0,.int .u8 0,.int .u8 0,.int .u8 0,.int .u8 0,.int .u8 0,.int .u8 0,.int .u8 0,.int .u8 0,.int .u8 0,.int .u8 0,.int .u8 0,.int .u8 0,.int .u8 0],none⟩,
 none,
 some ⟨.arr 256 5,256,256,[.int .u8 0,.int .u8 0,.int .u8 0,.int .u8 0,.int .u8 0,.int .u8 0,.int .u8 0,.int .u8 0,.int .u8 0,.int .u8 0,.int .u8 0,.int .u8 0,.int .u8 0,.int .u8 0,.int .u8 0,.int .u8 0,.int .u8 0,.int .u8 0,.int .u8 0,.int .u8 0,.int .u8 0,.int .u8 0,.int .u8 0,.int .u8 0,.int .u8 0,.int .u8 0,.int .u8 0,.int .u8 0,.int .u8 0,.int .u8 0,.int .u8 0,.int .u8 0,.int .u8 0,.int .u8 0,.int .u8 0,.int .u8 0,.int .u8 0,.int .u8 0,.int .u8 0,.int .u8 0,.int .u8 0,.int .u8 0,.int .u8 0,.int .u8 0,.int .u8 0,.int .u8 0,.int .u8 0,.int .u8 0,.int .u8 0,.int .u8 0,.int .u8 0,.int .u8 0,.int .u8 0,.int .u8 0,.int .u8 0,.int .u8 0,.int .u8 0,.int .u8 0,.int .u8 0,.int .u8 0,.int .u8 0,.int .u8 0,.int .u8 0,.int .u8 0,.int .u8 0,.int .u8 0,.int .u8 0,.int .u8 0,.int .u8 0,.int .u8 0,.int .u8 0,.int .u8 0,.int .u8 0,.int .u8 0,.int .u8 0,.int .u8 0,.int .u8 0,.int .u8 0,.int .u8 0,.int .u8 0,.int .u8 0,.int .u8 0,.int .u8 0,.int .u8 0,.int .u8 0,.int .u8 0,.int .u8 0,.int .u8 0,.int .u8 0,.int .u8 0,.int .u8 0,.int .u8 0,.int .u8 0,.int .u8 0,.int .u8 0,.int .u8 0,.int .u8 0,.int .u8 0,.int .u8 0,.int .u8 0,.int .u8 0,.int .u8 0,.int .u8 0,.int .u8 0,.int .u8 0,.int .u8 0,.int .u8 0,.int .u8 0,.int .u8 0,.int .u8 0,.int .u8 0,.int .u8 0,.int .u8 0,.int .u8 0,.int .u8 0,.int .u8 0,.int .u8 0,.int .u8 0,.int .u8 0,.int .u8 0,.int .u8 0,.int .u8 0,.int .u8 0,.int .u8 0,.int .u8 0,.int .u8 0,.int .u8 0,.int .u8 0,.int .u8 0,.int .u8 0,.int .u8 0,.int .u8 0,.int .u8 0,.int .u8 0,.int .u8 0,.int .u8 0,.int .u8 0,.int .u8 0,.int .u8 0,.int .u8 0,.int .u8 0,.int .u8 0,.int .u8 0,.int .u8 0,.int .u8 0,.int .u8 0,.int .u8 0,.int .u8 0,.int .u8 0,.int .u8 0,.int .u8 0,.int .u8 0,.int .u8 0,.int .u8 0,.int .u8 0,.int .u8 0,.int .u8 0,.int .u8 0,.int .u8 0,.int .u8 0,.int .u8 0,.int .u8 0,.int .u8 0,.int .u8 0,.int .u8 0,.int .u8 0,.int .u8 0,.int .u8 0,.int .u8 0,.int .u8 0,.int .u8 0,.int .u8 0,.int .u8 0,.int .u8 0,.int .u8 0,.int .u8 0,.int .u8 0,.int .u8 0,.int .u8 0,.int .u8 0,.int .u8 0,.int .u8 0,.int .u8 0,.int .u8 0,.int .u8 0,.int .u8 0,.int .u8 0,.int .u8 0,.int .u8 0,.int .u8 0,.int .u8 0,.int .u8 0,.int .u8 0,.int .u8 0,.int .u8 0,.int .u8 0,.int .u8 0,.int .u8 0,.int .u8 0,.int .u8 0,.int .u8 0,.int .u8 0,.int .u8 0,.int .u8 0,.int .u8 0,.int .u8 0,.int .u8 0,.int .u8 0,.int .u8 0,.int .u8 0,.int .u8 0,.int .u8 0,.int .u8 0,.int .u8 0,.int .u8 0,.int .u8 0,.int .u8 0,.int .u8 0,.int .u8 0,.int .u8 0,.int .u8 0,.int .u8 0,.int .u8 0,.int .u8 0,.int .u8 0,.int .u8 0,.int .u8 0,.int .u8 0,.int .u8 0,.int .u8 0,.int .u8 0,.int .u8 0,.int .u8 0,.int .u8 0,.int .u8 0,.int .u8 0,.int .u8 0,.int .u8 0,.int .u8 0,.int .u8 0,.int .u8 0,.int .u8 0,.int .u8 0,.int .u8 0,.int .u8 0,.int .u8 0,.int .u8 0,.int .u8 0,.int .u8 0,.int .u8 0,.int .u8 0,.int .u8 0,.int .u8 0,.int .u8 0,.int .u8 0,.int .u8 0],none⟩,
 some ⟨.struct [(0,5),(1,5)],2,2,[.int .u8 0,.int .u8 0],some (.prod (.int .u8) (.prod (.int .u8) (.unit)))⟩,
 some ⟨.struct [(0,5),(1,5)],2,2,[.int .u8 0,.int .u8 0],some (.prod (.int .u8) (.prod (.int .u8) (.unit)))⟩,
 some ⟨.arr 16 317,32,32,[.int .u8 0,.int .u8 0,.int .u8 0,.int .u8 0,.int .u8 0,.int .u8 0,.int .u8 0,.int .u8 0,.int .u8 0,.int .u8 0,.int .u8 0,.int .u8 0,.int .u8 0,.int .u8 0,.int .u8 0,.int .u8 0,.int .u8 0,.int .u8 0,.int .u8 0,.int .u8 0,.int .u8 0,.int .u8 0,.int .u8 0,.int .u8 0,.int .u8 0,.int .u8 0,.int .u8 0,.int .u8 0,.int .u8 0,.int .u8 0,.int .u8 0,.int .u8 0],none⟩,
 none,
 none,
 none,
 none,
 none,
 none,
 none,
 none,
 none,
 none,
 none,
 none,
 none,
 none,
 none,
 none,
 none,
 none,
 some ⟨.ptr 184,1,8,[.nilptr],none⟩,
 none,
 none,
 none,
 none,
 none,
 some ⟨.arr 32 5,32,32,[.int .u8 0,.int .u8 0,.int .u8 0,.int .u8 0,.int .u8 0,.int .u8 0,.int .u8 0,.int .u8 0,.int .u8 0,.int .u8 0,.int .u8 0,.int .u8 0,.int .u8 0,.int .u8 0,.int .u8 0,.int .u8 0,.int .u8 0,.int .u8 0,.int .u8 0,.int .u8 0,.int .u8 0,.int .u8 0,.int .u8 0,.int .u8 0,.int .u8 0,.int .u8 0,.int .u8 0,.int .u8 0,.int .u8 0,.int .u8 0,.int .u8 0,.int .u8 0],none⟩,
 some ⟨.arr 64 5,64,64,[.int .u8 0,.int .u8 0,.int .u8 0,.int .u8 0,.int .u8 0,.int .u8 0,.int .u8 0,.int .u8 0,.int .u8 0,.int .u8 0,.int .u8 0,.int .u8 0,.int .u8 0,.int .u8 0,.int .u8 0,.int .u8 0,.int .u8 0,.int .u8 0,.int .u8 0,.int .u8 0,.int .u8 0,.int .u8 0,.int .u8 0,.int .u8 0,.int .u8 0,.int .u8 0,.int .u8 0,.int .u8 0,.int .u8 0,.int .u8 0,.int .u8 0,.int .u8 0,.int .u8 0,.int .u8 0,.int .u8 0,.int .u8 0,.int .u8 0,.int .u8 0,.int .u8 0,.int .u8 0,.int .u8 0,.int .u8 0,.int .u8 0,.int .u8 0,.int .u8 0,.int .u8 0,.int .u8 0,.int .u8 0,.int .u8 0,.int .u8 0,.int .u8 0,.int .u8 0,.int .u8 0,.int .u8 0,.int .u8 0,.int .u8 0,.int .u8 0,.int .u8 0,.int .u8 0,.int .u8 0,.int .u8 0,.int .u8 0,.int .u8 0,.int .u8 0],none⟩,
 some ⟨.slice 111,1,24,[.nilsl],some (.slice (.int .i64))⟩]
def VZ (t:TypeId):Option TD:=(ab6[t]?).getD none
theorem D1:cn Go.Proofs.Tryz.prog VZ:=yl ab6 (by kernel_rfl)
end
section
open Go.RowKit Go.ChangeShapes Go.WideShapes
def BE (sh:TypeId->Ty->Bool) (P:Program):List Field->Nat->Ty->Bool
 | [],_,.unit=>true
 | fd::r,o,.prod a b=>Nat.beq fd.offset o&&(Nat.beq (P.cellsOf fd.type) (sz a)&&(sh fd.type a&&BE sh P r (o+sz a) b))
 | _,_,_=>false
def xV (sh:TypeId->Ty->Bool) (P:Program) (e:TypeId):Nat->Ty->Bool
 | 0,.unit=>true
 | n+1,.prod a b=>Nat.beq (P.cellsOf e) (sz a)&&(sh e a&&xV sh P e n b)
 | _,_=>false
def Kq (P:Program):Nat->TypeId->Ty->Bool
 | 0,_,_=>false
 | f+1,T,t=>match P.underlying T,t with
  | some (.int k),.int k'=>decide (k=k')
  | some .bool,.bool=>true
  | some .string,.str=>true
  | some (.slice e),.slice t=>Kq P f e t&&(Nat.beq (P.cellsOf e) (sz t)&&(Nat.blt 0 (sz t)&&Nat.blt 0 (P.bytesOf e)))
  | some (.struct fs),.nm n=>BE (Kq P f) P fs.toList 0 n.n7&&Nat.beq (P.cellsOf T) n.size
  | some (.struct fs),.prod a b=>BE (Kq P f) P fs.toList 0 (.prod a b)&&Nat.beq (P.cellsOf T) (sz (.prod a b))
  | some (.array n e),.prod a b=>xV (Kq P f) P e n (.prod a b)&&Nat.beq (P.cellsOf T) (sz (.prod a b))
  | _,_=>false
def eu:Nat->(t:Ty)->Den t->Nat
 | 0,_,_=>0
 | _+1,.int _,_=>1
 | _+1,.bool,_=>1
 | _+1,.str,s=>s.size+1
 | _+1,.unit,_=>0
 | f+1,.prod a b,x=>eu f a x.1+eu f b x.2
 | f+1,.slice t,xs=>(xs.map (eu f t)).sum+1
 | f+1,.nm n,x=>eu f n.n7 (n.to x)
open Go.Proofs.YtjcbhomccohklaaGreatDoor.Rows (uptoBulk uptoBulkAll)
section
variable {H:Type} {enc:TypeId×Value->H} {P:Program} {w:World}
def oc (w:World):Nat->Prop:=fun b=>b<w.heap.size
def FB (P:Program) (T:TypeId) (d:DataW H):Prop:=∀ n∈d.weights P T,n<=aW
def aar (w:World) (t:Ty) (cs:List Value) (d:DataW H):Prop:=∃ x:Den t,Rd (oc w) w t x cs/\∀ g,eu g t x<=uptoBulk d
def BW (enc:TypeId×Value->H) (P:Program) (w:World) (f:Nat):Prop:=∀ (T:TypeId) (t:Ty) (fuel:Nat) (cs:List Value) (z:DataW H×List MemPlace),Kq P f T t=true->DataW.trod enc P w 0 (fun _=>true) true fuel T cs=some z->FB P T z.1->aar w t cs z.1
theorem qE (cs:List Value) (o a b:Nat) :(cs.drop o).take (a+b) =(cs.drop o).take a ++(cs.drop (o+a)).take b:=by rw [List.take_add,List.drop_drop]
theorem Dj {f n:Nat} (ih:BW enc P w f) {cs:List Value} :∀ (l:List Field) (ys:List (DataW H×List MemPlace)) (o:Nat) (t:Ty),BE (Kq P f) P l o t=true->ys.length=l.length->
  (∀ (i:Nat) (fd:Field),l[i]?=some fd->DataW.trod enc P w 0 (fun _=>true) true n fd.type ((cs.drop fd.offset).take (P.cellsOf fd.type))=ys[i]?)->
  (∀ m∈DataW.weightsEach P (l.map (·.type)) (ys.map (·.1)),m<=aW)->∃ x:Den t,Rd (oc w) w t x ((cs.drop o).take (sz t))/\∀ g,eu g t x<=uptoBulkAll (ys.map (·.1))
 | [],ys,o,t,hs,hl,_,_=>by cases t <;> simp only [BE,Bool.false_eq_true] at hs;refine ⟨(),by simpa [sz] using Rd.unit,fun g=>?_⟩;cases g <;> simp [eu]
 | fd::l,ys,o,t,hs,hl,hy,hw=>by
  cases t <;> simp only [BE,Bool.false_eq_true] at hs;rename_i a b;simp only [Bool.and_eq_true,Nat.beq_eq] at hs;obtain ⟨rfl,h2,h3,h4⟩:=hs
  cases ys with
  | nil=>simp at hl
  | cons y ys=>
   have h0:=hy 0 fd rfl;simp only [List.getElem?_cons_zero] at h0;simp only [List.map_cons,DataW.weightsEach,List.mem_append] at hw;obtain ⟨x,hx,bx⟩:=ih fd.type a _ _ y h3 h0 (fun m hm=>hw m (.inl hm));obtain ⟨z,hz,bz⟩:=Dj ih l ys (fd.offset+sz a) b h4 (by simpa using hl) (fun i f' hf=>by simpa using hy (i+1) f' (by simpa using hf)) (fun m hm=>hw m (.inr hm));refine ⟨(x,z),?_,fun g=>?_⟩
   ·show Rd _ _ (.prod a b) (x,z) ((cs.drop fd.offset).take (sz a+sz b));rw [qE];rw [h2] at hx;exact .prod hx hz
   ·cases g with
    | zero=>simp [eu]
    | succ g=>simp only [eu,List.map_cons,uptoBulkAll];have:=bx g;have:=bz g;omega
theorem Gf {f n:Nat} (ih:BW enc P w f) {cs:List Value} {e:TypeId} :∀ (k j:Nat) (ys:List (DataW H×List MemPlace)) (t:Ty),xV (Kq P f) P e k t=true->ys.length=k->
  (∀ i:Nat,i<k->DataW.trod enc P w 0 (fun _=>true) true n e ((cs.drop ((j+i)*P.cellsOf e)).take (P.cellsOf e))=ys[i]?)->
  (∀ m∈DataW.weightsAll P e (ys.map (·.1)),m<=aW)->∃ x:Den t,Rd (oc w) w t x ((cs.drop (j*P.cellsOf e)).take (sz t))/\∀ g,eu g t x<=uptoBulkAll (ys.map (·.1))
 | 0,j,ys,t,hs,hl,_,_=>by cases t <;> simp only [xV,Bool.false_eq_true] at hs;refine ⟨(),by simpa [sz] using Rd.unit,fun g=>?_⟩;cases g <;> simp [eu]
 | k+1,j,ys,t,hs,hl,hy,hw=>by
  cases t <;> simp only [xV,Bool.false_eq_true] at hs;rename_i a b;simp only [Bool.and_eq_true,Nat.beq_eq] at hs;obtain ⟨h2,h3,h4⟩:=hs
  cases ys with
  | nil=>simp at hl
  | cons y ys=>
   have h0:=hy 0 (by omega);simp only [List.getElem?_cons_zero,Nat.add_zero] at h0;simp only [List.map_cons,DataW.weightsAll,List.mem_append] at hw;obtain ⟨x,hx,bx⟩:=ih e a _ _ y h3 h0 (fun m hm=>hw m (.inl hm))
   obtain ⟨z,hz,bz⟩:=Gf ih k (j+1) ys b h4 (by simpa using hl) (fun i hi=>by
    have:=hy (i+1) (by omega)
    simpa [Nat.add_assoc,Nat.add_comm 1 i] using this) (fun m hm=>hw m (.inr hm))
   refine ⟨(x,z),?_,fun g=>?_⟩
   ·show Rd _ _ (.prod a b) (x,z) ((cs.drop (j*P.cellsOf e)).take (sz a+sz b));rw [qE];rw [h2] at hx hz ⊢;rw [Nat.add_mul,Nat.one_mul] at hz;exact .prod hx hz
   ·cases g with
    | zero=>simp [eu]
    | succ g=>simp only [eu,List.map_cons,uptoBulkAll];have:=bx g;have:=bz g;omega
theorem xi {α:Type} (f:Nat->Option α) :∀ (l:List Nat) (r:List α),l.mapM f=some r->r.length=l.length/\∀ (i j:Nat),l[i]?=some j->r[i]?=f j
 | [],r,h=>by simp at h;subst h;simp
 | x::l,r,h=>by
  rw [List.mapM_cons] at h
  cases hx:f x with
  | none=>rw [hx] at h;cases h
  | some v=>
   rw [hx] at h
   cases hl:l.mapM f with
   | none=>simp [hl] at h
   | some r'=>
    simp [hl] at h;subst h;obtain ⟨h1,h2⟩:=xi f l r' hl;refine ⟨by simp [h1],fun i j hi=>?_⟩
    cases i with
    | zero=>simp at hi;subst hi;simp [hx]
    | succ i=>simpa using h2 i j (by simpa using hi)
theorem zA {a:Addr} {n:Nat} {r:List Value} (h:w.cells? 0 a n=some r) (hn:0<n):a.spot=none/\∃ c T fr,w.heap[a.block]?=some (.cells c T fr)/\a.off+n<=c.size/\r=gR c a.off n:=by
 unfold World.cells? at h;rw [if_pos (Nat.zero_le _)] at h;obtain ⟨h1,h2⟩:=xi _ _ _ h;simp only [List.length_range] at h1;have h0:=h2 0 0 (by simp [hn]);have hr0:r[0]?=some (r[0]'(by omega)):=List.getElem?_eq_getElem _;rw [hr0] at h0;simp only [Addr.add,if_true] at h0;unfold World.cell? at h0;split at h0
 case h_2=>cases h0
 rename_i c T fr hb;split at h0
 case isTrue=>cases h0
 rename_i hsp;have hsp:a.spot=none:=by simpa using hsp
 have get :∀ i,i<n->∃ v,r[i]?=some v/\c.toList[a.off+i]?=some v:=fun i hi=>by
  have h3:=h2 i i (by simp [hi]);have hri:r[i]?=some (r[i]'(by omega)):=List.getElem?_eq_getElem _
  have e:a.add i =⟨a.block,a.off+i,none⟩:=by
   unfold Addr.add;split
   ·rename_i e;subst e;cases a;simp_all
   ·rfl
  rw [e,hri] at h3;unfold World.cell? at h3;simp only [hb,Option.isSome_none,Bool.false_eq_true,if_false] at h3;exact ⟨_,hri,by rw [Array.getElem?_toList];exact h3.symm⟩
 have hsz:a.off+n<=c.size:=by
  obtain ⟨v,_,hv⟩:=get (n - 1) (by omega)
  have:a.off +(n - 1)<c.toList.length:=by
   rcases Nat.lt_or_ge (a.off +(n - 1)) c.toList.length with h4|h4
   ·exact h4
   ·rw [List.getElem?_eq_none h4] at hv;cases hv
  simp at this;omega
 refine ⟨hsp,c,T,fr,hb,hsz,?_⟩;apply List.ext_getElem?;intro i;by_cases hi:i<n
 ·obtain ⟨v,h3,h4⟩:=get i hi;rw [h3];simp only [gR,List.getElem?_take,if_pos hi,List.getElem?_drop,h4]
 ·rw [List.getElem?_eq_none (by omega),List.getElem?_eq_none];simp [gR];omega
theorem Bn {f n:Nat} (ih:BW enc P w f) {e:TypeId} {t:Ty} (hs:Kq P f e t=true) (hc:P.cellsOf e=sz t) (hpos:0<sz t) {a:Addr} :∀ (k j:Nat) (ys:List (DataW H×List MemPlace)),ys.length=k->
  (∀ i,i<k->(w.cells? 0 (a.add ((j+i)*sz t)) (sz t)).bind (DataW.trod enc P w 0 (fun _=>true) true n e)=ys[i]?)->
  (∀ m∈DataW.weightsAll P e (ys.map (·.1)),m<=aW)->
  ∃ xs:List (Den t),xs.length=k/\(∀ (i:Nat) (hi:i<xs.length),∃ r,w.cells? 0 (a.add ((j+i)*sz t)) (sz t)=some r/\Rd (oc w) w t xs[i] r)/\∀ g,(xs.map (eu g t)).sum<=uptoBulkAll (ys.map (·.1))
 | 0,j,ys,hl,_,_=>⟨[],rfl,fun i hi=>by simp at hi,fun g=>by simp⟩
 | k+1,j,ys,hl,hy,hw=>by
  cases ys with
  | nil=>simp at hl
  | cons y ys=>
   have h0:=hy 0 (by omega);simp only [List.getElem?_cons_zero,Nat.add_zero] at h0;simp only [List.map_cons,DataW.weightsAll,List.mem_append] at hw
   cases hr:w.cells? 0 (a.add (j*sz t)) (sz t) with
   | none=>rw [hr] at h0;cases h0
   | some r=>
    rw [hr] at h0;simp only [Option.bind_some] at h0;obtain ⟨x,hx,bx⟩:=ih e t _ _ y hs h0 (fun m hm=>hw m (.inl hm))
    obtain ⟨xs,h1,h2,h3⟩:=Bn ih hs hc hpos k (j+1) ys (by simpa using hl) (fun i hi=>by
     have:=hy (i+1) (by omega)
     simpa [Nat.add_assoc,Nat.add_comm 1 i] using this) (fun m hm=>hw m (.inr hm))
    refine ⟨x::xs,by simp [h1],fun i hi=>?_,fun g=>?_⟩
    ·cases i with
     | zero=>exact ⟨r,by simpa using hr,hx⟩
     | succ i=>obtain ⟨r',h4,h5⟩:=h2 i (by simpa using hi);exact ⟨r',by rw [<-h4];simp [Nat.add_assoc,Nat.add_comm 1 i],by simpa using h5⟩
    ·simp only [List.map_cons,List.sum_cons,uptoBulkAll];have:=bx g;have:=h3 g;omega
theorem J6 :∀ f,BW enc P w f
 | 0=>fun T t fuel cs z hs _ _=>by simp [Kq] at hs
 | f+1=>fun T t fuel cs z hs h hw=>by
  have ih:=J6 f;unfold Kq at hs;split at hs
  ·rename_i k k' hT;obtain ⟨n,rfl,rfl,hwf⟩:=DataW.trod_int hT h;have e:k=k':=by simpa using hs
   subst e;refine ⟨n,.int ?_,fun g=>?_⟩
   ·simpa [Lit.wf,ok] using hwf
   ·cases g <;> simp [eu,uptoBulk]
  ·rename_i hT;obtain ⟨b,rfl,rfl⟩:=DataW.trod_bool hT h;refine ⟨b,.bool,fun g=>?_⟩;cases g <;> simp [eu,uptoBulk]
  ·rename_i hT;obtain ⟨s,rfl,rfl,hwf⟩:=DataW.trod_string hT h;have hl:s.size<=aW:=hw _ (by show s.size∈ [s.data.toList.length];rw [Array.length_toList];exact List.mem_singleton.2 rfl);refine ⟨s,.str hl,fun g=>?_⟩
   cases g with
   | zero=>exact Nat.zero_le _
   | succ g=>
    show s.size+1<=s.data.toList.length+1;rw [Array.length_toList];exact Nat.le_refl _
  ·rename_i e t' hT;simp only [Bool.and_eq_true,Nat.beq_eq,Nat.blt_eq] at hs;obtain ⟨h1,h2,h3,h4⟩:=hs;rcases DataW.trod_slice hT h with ⟨rfl,rfl⟩ |⟨a,len,cap,elems,rest,n,rfl,rfl,rfl,hb,hl,hm,hlen,hel,hsp,_⟩
   ·refine ⟨[],.nil,fun g=>?_⟩;cases g <;> simp [eu,uptoBulk]
   ·simp only [FB,DataW.weights,hT] at hw;rw [h2] at hel;obtain ⟨xs,k1,k2,k3⟩:=Bn ih h1 h2 h3 len 0 elems hlen (fun i hi=>by simpa using hel i hi) (fun m hm=>hw m (List.mem_cons_of_mem _ (List.mem_append_left _ hm)))
    have hlb:xs.length<=aW:=by have hw0:=hw _ List.mem_cons_self;rw [List.length_map,List.length_map] at hw0;have h5 :(elems.length+rest.length)*1<=(elems.length+rest.length)*P.bytesOf e:=Nat.mul_le_mul_left _ h4;omega
    refine ⟨xs,?_,fun g=>?_⟩
    ·cases hx:len with
     | zero=>
      have:xs=[]:=List.eq_nil_of_length_eq_zero (by omega)
      subst this;exact .nil
     | succ len'=>
      obtain ⟨r0,q1,q2⟩:=k2 0 (by omega);simp only [Nat.zero_add,Nat.zero_mul] at q1;have ha0:a.add 0=a:=rfl;rw [ha0] at q1;obtain ⟨hspot,c,T0,fr,hblk,hsz0,_⟩:=zA q1 h3
      have hat :∀ i,a.add (i*sz t') =⟨a.block,a.off+i*sz t',none⟩:=fun i=>by
       unfold Addr.add;split
       ·rename_i e0;cases a;simp_all
       ·rfl
      have hread :∀ (i:Nat) (hi:i<xs.length),a.off+i*sz t'+sz t'<=c.size/\Rd (oc w) w t' xs[i] (gR c (a.off+i*sz t') (sz t')):=fun i hi=>by obtain ⟨r,q3,q4⟩:=k2 i hi;rw [Nat.zero_add,hat] at q3;obtain ⟨_,c',T',fr',hblk',hsz',rfl⟩:=zA q3 h3;simp only at hblk' hsz' q4;rw [hblk] at hblk';cases hblk';exact ⟨hsz',q4⟩
      have ea:a =⟨a.block,a.off,none⟩:=by cases a;simp_all
      rw [ea,<-hx,<-k1];have hlast:=(hread (xs.length - 1) (by omega)).1
      have hmul :(xs.length - 1)*sz t'+sz t'=xs.length*sz t':=by rw [<-Nat.succ_mul];congr 1;omega
      refine .slice ?_ hblk (by omega) (by omega) hlb (fun i hi=>(hread i hi).2);show a.block<w.heap.size;rcases Nat.lt_or_ge a.block w.heap.size with h6|h6
      ·exact h6
      ·rw [Array.getElem?_eq_none h6] at hblk;cases hblk
    ·cases g with
     | zero=>simp [eu]
     | succ g=>simp only [eu,uptoBulk];have:=k3 g;omega
  ·rename_i fs n hT;simp only [Bool.and_eq_true,Nat.beq_eq] at hs;obtain ⟨xs,m,rfl,rfl,hlen,hl,hx⟩:=DataW.trod_struct hT h;simp only [FB,DataW.weights,hT] at hw;obtain ⟨x,h1,h2⟩:=Dj ih (cs:=cs) fs.toList xs 0 n.n7 hs.1 (by simpa using hl) (fun i fd hf=>hx i fd (by simpa using hf)) hw;have hsz:sz n.n7=n.size:=n.BF;rw [hsz,List.drop_zero,List.take_of_length_le (by omega)] at h1;refine ⟨n.of x,.nm (by rw [n.KD];exact h1),fun g=>?_⟩
   cases g with
   | zero=>simp [eu]
   | succ g=>simp only [eu,uptoBulk,n.KD];have:=h2 g;omega
  ·rename_i fs a b hT;simp only [Bool.and_eq_true,Nat.beq_eq] at hs;obtain ⟨xs,m,rfl,rfl,hlen,hl,hx⟩:=DataW.trod_struct hT h;simp only [FB,DataW.weights,hT] at hw;obtain ⟨x,h1,h2⟩:=Dj ih (cs:=cs) fs.toList xs 0 (.prod a b) hs.1 (by simpa using hl) (fun i fd hf=>hx i fd (by simpa using hf)) hw;rw [List.drop_zero,List.take_of_length_le (by omega)] at h1;refine ⟨x,h1,fun g=>?_⟩
   have:=h2 g;simp only [uptoBulk];omega
  ·rename_i n e a b hT;simp only [Bool.and_eq_true,Nat.beq_eq] at hs;obtain ⟨xs,m,rfl,rfl,hlen,hl,hx⟩:=DataW.trod_array hT h;simp only [FB,DataW.weights,hT] at hw;obtain ⟨x,h1,h2⟩:=Gf ih (cs:=cs) n 0 xs (.prod a b) hs.1 hl (fun i hi=>by simpa using hx i hi) hw;rw [Nat.zero_mul,List.drop_zero,List.take_of_length_le (by omega)] at h1;refine ⟨x,h1,fun g=>?_⟩
   have:=h2 g;simp only [uptoBulk];omega
  ·cases hs
end
end
section
open Go.RowKit Go.ChangeShapes Go.WideShapes
open Go.Proofs.YtjcbhomccohklaaGreatDoor.Rows (uptoBulk uptoBulkAll)
section
variable {H:Type} {enc:TypeId×Value->H} {P:Program} {w:World}
def xU (P:Program):List TypeId->Ty->Bool
 | [],.unit=>true
 | T::Ts,.prod a b=>Kq P 32 T a&&xU P Ts b
 | _,_=>false
theorem Qz {f:Nat} {T:TypeId} {t:Ty} (hs:Kq P f T t=true) {r:Reach} {b:Nat} {v:Value} (hv:Value.okWide P w r b T v) :(lQ t=true/\∃ l,v = .agg l)\/(lQ t=false/\v.cells.toList=[v]):=by
 cases f with
 | zero=>simp [Kq] at hs
 | succ f=>
  unfold Kq at hs;split at hs
  ·rename_i k k' hT;obtain ⟨n,rfl⟩:=okWide_int hT hv;exact .inr ⟨rfl,rfl⟩
  ·rename_i hT;obtain ⟨n,rfl⟩:=okWide_bool hT hv;exact .inr ⟨rfl,rfl⟩
  ·rename_i hT;obtain ⟨n,rfl⟩:=okWide_string hT hv;exact .inr ⟨rfl,rfl⟩
  ·rename_i hT;obtain ⟨a,l,c,rfl⟩:=okWide_slice hT hv;exact .inr ⟨rfl,rfl⟩
  ·rename_i fs n hT;obtain ⟨cs,rfl,_⟩:=okWide_struct hT hv;exact .inl ⟨rfl,cs,rfl⟩
  ·rename_i fs a b hT;obtain ⟨cs,rfl,_⟩:=okWide_struct hT hv;exact .inl ⟨rfl,cs,rfl⟩
  ·rename_i n e a b hT;simp only [Value.okWide,hT] at hv;obtain ⟨cs,rfl,_⟩:=hv;exact .inl ⟨rfl,cs,rfl⟩
  ·cases hs
def RO (w:World):Env:=⟨fun _=>False,fun _=>none,oc w,w,fun _=>none⟩
def Uv (w:World) (g:qG w fun _=>False):aK:=Eu w (fun _=>False) (oc w) g
theorem NR (w:World) (g:qG w fun _=>False):aM (Uv w g) (RO w):=by refine ⟨fun h b hx=>?_,fun b hb=>hb,fun h k b hx=>?_,fun h h' k k' b hx=>?_,fun h k hx=>?_,dA.refl _ _,fun h k b hx=>?_,fun _ h=>h,fun _ h=> .inl h⟩ <;> cases hx
theorem sW :∀ {Ts:List TypeId} {vs:List Value} {ds:List (DataW H)} {p:List MemPlace} {ps:Ty},DataW.TrodAll enc P w 0 (fun _=>true) true Ts vs ds p->xU P Ts ps=true->
  (∀ (j:Nat) (t:TypeId) (v:Value),Ts[j]?=some t->vs[j]?=some v->∃ r b,Value.okWide P w r b t v)->(∀ m∈DataW.weightsEach P Ts ds,m<=aW)->
  ∃ x:Den ps,ai (RO w) (fq ps x) vs/\(∃ cs,Rd (oc w) w ps x cs)/\(∀ g,eu g ps x<=uptoBulkAll ds)/\vs.length=Ts.length/\ds.length=Ts.length
 | [],vs,ds,p,ps,ht,hs,_,_=>by
  cases ps <;> simp only [xU,Bool.false_eq_true] at hs
  cases vs with
  | cons=>cases ds <;> simp [DataW.TrodAll] at ht
  | nil=>
   cases ds with
   | cons=>simp [DataW.TrodAll] at ht
   | nil=>exact ⟨(),trivial,⟨[],.unit⟩,fun g=>by cases g <;> simp [eu],rfl,rfl⟩
 | T::Ts,vs,ds,p,ps,ht,hs,hv,hw=>by
  cases ps <;> simp only [xU,Bool.false_eq_true] at hs;rename_i a b;simp only [Bool.and_eq_true] at hs
  cases vs with
  | nil=>cases ds <;> simp [DataW.TrodAll] at ht
  | cons v vs=>
   cases ds with
   | nil=>simp [DataW.TrodAll] at ht
   | cons d ds=>
    simp only [DataW.TrodAll] at ht;obtain ⟨p1,q,⟨fuel,h1⟩,h2,_⟩:=ht;simp only [DataW.weightsEach,List.mem_append] at hw;obtain ⟨x,hx,bx⟩:=J6 32 T a fuel _ _ hs.1 h1 (fun m hm=>hw m (.inl hm));obtain ⟨y,k1,⟨cs,k2⟩,k3,k4,k5⟩:=sW h2 hs.2 (fun j t v h3 h4=>hv (j+1) t v (by simpa using h3) (by simpa using h4)) (fun m hm=>hw m (.inr hm));obtain ⟨r,b0,hok⟩:=hv 0 T v rfl rfl;refine ⟨(x,y),?_,⟨_,.prod hx k2⟩,fun g=>?_,by simp [k4],by simp [k5]⟩
    ·simp only [fq,ai];exact ⟨vR (E:=RO w) hx (Qz hs.1 hok),k1⟩
    ·cases g with
     | zero=>simp [eu]
     | succ g=>
      simp only [eu,uptoBulkAll];have h1:eu g a x<=uptoBulk d:=bx g
      have:=k3 g
      omega
def isTrue:V->Prop
 | .bool b=>b=true
 | .kb b=>b=true
 | _=>False
theorem HY {w':World} (h:dA w (fun _=>False) w') (may:MemPlace->Prop):w.keptBut w' may:=by
 refine ⟨h.os,h.output,fun i hi=>?_⟩;rw [h.block i hi (fun h=>h)];split
 ·rename_i a b c d e f h1 h2;rw [h1] at h2;cases h2;exact ⟨rfl,rfl,rfl,fun _ _=>rfl⟩
 ·rename_i h1 h2;rw [h1] at h2;cases h2;exact .inr ⟨rfl,rfl⟩
 ·rfl
theorem qF (hl:laidOutB P=true) {w':World} (hk:dA w (fun _=>False) w') {sp:Nat->Bool} :∀ {Ts:List TypeId} {vs:List Value} {ds:List (DataW H)} {p:List MemPlace},DataW.TrodAll enc P w 0 (fun _=>true) true Ts vs ds p->
  (∀ t∈Ts,P.readableRec t=true/\t<P.types.size)->(∀ x∈p,x.block<w.heap.size)->(∀ x∈p,sp x.block=true)->DataW.TrodAll enc P w' 0 sp true Ts vs ds p
 | [],vs,ds,p,h,_,_,_=>by cases vs <;> cases ds <;> simp_all [DataW.TrodAll]
 | T::Ts,vs,ds,p,h,hr,hp,hs=>by
  cases vs with
  | nil=>cases ds <;> simp [DataW.TrodAll] at h
  | cons v vs=>
   cases ds with
   | nil=>simp [DataW.TrodAll] at h
   | cons d ds=>simp only [DataW.TrodAll] at h ⊢;obtain ⟨p1,q,h1,h2,rfl⟩:=h;have hb:Below w.heap.size w w':=⟨hk.os,hk.tape,hk.output,hk.size,fun k hk'=>hk.block k hk' (fun h=>h)⟩;refine ⟨p1,q,?_,qF hl hk h2 (fun t ht=>hr t (by simp [ht])) (fun x hx=>hp x (by simp [hx])) (fun x hx=>hs x (by simp [hx])),rfl⟩;exact WideElems.Trod_stays hl (hr T (by simp)).1 (hr T (by simp)).2 h1 (fun x hx=>hb.same (hp x (by simp [hx]))) (fun x hx=>hs x (by simp [hx]))
theorem OD (hl:laidOutB P=true) {fn:Func} {s:ChangeSpec} {TB:TypeId} (hres:fn.resultTypes=#[TB]) (hTB:P.underlying TB=some .bool) (hread :∀ t∈fn.params.toList,P.readableRec t=true/\t<P.types.size)
  (hsv:s.vars=[]) {args:Array Value} {ds gs:List (DataW H)} {before:List MemPlace} (hW:DataW.Whole enc P fn.params.toList s.vars false w args.toList ds gs before)
  (hs :(s.fn H (ds++gs)).results=[.lit (.bool true)]/\(s.fn H (ds++gs)).args=ds/\(s.fn H (ds++gs)).vars=[]) {w':World} (hk:dA w (fun _=>False) w') :
  s.post enc P fn false true false false w args (.bool true) w':=by
 have hlt:=hW.lt;have hW':=hW;obtain ⟨p,q,hA,hV,rfl,hfz,hnd⟩:=hW;rw [hsv] at hV;obtain ⟨rfl,rfl⟩:=trodVars_none hV;simp only [List.append_nil] at hlt hW' hs ⊢;refine ⟨ds,[],p,[],p,[],by simpa using hW',?_,?_,?_,HY hk _,fun h=>by cases h⟩
 ·rw [List.append_nil,hs.1,hres];exact trodAll_mk1 (shut_bool hTB true)
 ·rw [List.append_nil,hs.2.1];exact qF hl hk hA hread hlt (fun x hx=>by simpa using hlt x hx)
 ·rw [List.append_nil,hs.2.2,hsv];rfl
end
end
section
open Go.RowKit
variable {P:Program}
inductive Lspec (α:Type) where
 | next (a:α) (σ:List (Nat×Nat)) (Z:List Nat)
 | out (path:List Bool) (σ:List (Nat×Nat)) (Z:List Nat)
def H5:Lf->Lf->Bool
 | .nrm,.nrm=>true
 | .ret,.ret=>true
 | .ext n,.ext m=>Nat.beq n m
 | _,_=>false
theorem xf {e e':Lf} (h:H5 e e'=true):e=e':=by
 cases e <;> cases e' <;> simp only [H5,Bool.false_eq_true,Nat.beq_eq] at h
 ·rfl
 ·subst h;rfl
 ·rfl
def RK:List Prop->Prop
 | []=>True
 | [p]=>p
 | p::q::r=>p/\RK (q::r)
theorem EF :∀ {l:List Prop},RK l->∀ p∈l,p
 | [],_,p,hp=>by simp at hp
 | [q],h,p,hp=>by rw [List.mem_singleton] at hp;subst hp;exact h
 | q::q'::r,h,p,hp=>by
  rcases List.mem_cons.1 hp with rfl|hp
  ·exact h.1
  ·exact EF h.2 p hp
def Tr.walk:Tr->List Bool->Option (List Prop×Lf×Dl×Nat)
 | .leaf e d nx,_=>some ([],e,d,nx)
 | .br b t u,p=>match p with
  | true::p=>(match t.walk p with|some (ps,z)=>some ((b=true)::ps,z)|none=>none)
  | false::p=>(match u.walk p with|some (ps,z)=>some ((b=false)::ps,z)|none=>none)
  | []=>none
 | .need _ t,p=>t.walk p
 | .both t u,p=>match p with
  | true::p=>t.walk p
  | false::p=>u.walk p
  | []=>none
 | .when b t,p=>match t.walk p with|some (ps,z)=>some ((b=true)::ps,z)|none=>none
 | .done,_=>none
 | .bad,_=>none
theorem kL {Q:Lf->Dl->Nat->Prop} :∀ {t:Tr} {p:List Bool} {ps:List Prop} {e:Lf} {d:Dl} {nx:Nat},t.walk p=some (ps,e,d,nx)->(∀ q∈ps,q)->t.sat Q->Q e d nx
 | .leaf e d nx,p,ps,e',d',nx',h,_,hs=>by simp only [Tr.walk,Option.some.injEq,Prod.mk.injEq] at h;obtain ⟨_,rfl,rfl,rfl⟩:=h;exact hs
 | .br b t u,p,ps,e',d',nx',h,hp,hs=>by
  cases p with
  | nil=>simp [Tr.walk] at h
  | cons x p=>
   cases x with
   | true=>
    simp only [Tr.walk] at h;split at h
    case h_2=>cases h
    rename_i ps' z hz;simp only [Option.some.injEq,Prod.mk.injEq] at h;obtain ⟨rfl,rfl⟩:=h;exact kL hz (fun q hq=>hp q (by simp [hq])) (hs.1 (hp _ (by simp)))
   | false=>
    simp only [Tr.walk] at h;split at h
    case h_2=>cases h
    rename_i ps' z hz;simp only [Option.some.injEq,Prod.mk.injEq] at h;obtain ⟨rfl,rfl⟩:=h;exact kL hz (fun q hq=>hp q (by simp [hq])) (hs.2 (hp _ (by simp)))
 | .need q t,p,ps,e',d',nx',h,hp,hs=>kL (t:=t) h hp hs.2
 | .both t u,p,ps,e',d',nx',h,hp,hs=>by
  cases p with
  | nil=>simp [Tr.walk] at h
  | cons x p=>
   cases x with
   | true=>exact kL (t:=t) h hp hs.1
   | false=>exact kL (t:=u) h hp hs.2
 | .when b t,p,ps,e',d',nx',h,hp,hs=>by
  simp only [Tr.walk] at h;split at h
  case h_2=>cases h
  rename_i ps' z hz;simp only [Option.some.injEq,Prod.mk.injEq] at h;obtain ⟨rfl,rfl⟩:=h;exact kL hz (fun q hq=>hp q (by simp [hq])) (hs (hp _ (by simp)))
 | .done,p,_,_,_,_,h,_,_=>by simp [Tr.walk] at h
 | .bad,p,_,_,_,_,h,_,_=>by simp [Tr.walk] at h
section
variable {α:Type} (I:α->St) (inv:α->Prop) (μ:α->Nat) (a:α) (T:Tr)
def JS (e:Lf) (d:Dl) (nx:Nat):Lspec α->Prop
 | .next a' σ Z=>match e with
  | .nrm=>inv a'/\μ a'<μ a/\Sub ⟨σ,Z,(I a').nx⟩ ((I a).app d nx) (I a').tm (I a').hp
  | _=>False
 | .out p σ Z=>match e with
  | .nrm=>False
  | e=>match T.walk p with
   | some (ps,e',d',nx')=>wQ (H5 e e') (RK ps/\Sub ⟨σ,Z,nx'⟩ ((I a).app d nx) d'.tm d'.hp)
   | none=>False
def bT:Tr->List (Lspec α)->Prop×List (Lspec α)
 | .leaf e d nx,l=>match l with
  | []=>(False,[])
  | s::r=>(JS I inv μ a T e d nx s,r)
 | .br b t u,l=>((b=true->(bT t l).1)/\(b=false->(bT u (bT t l).2).1),(bT u (bT t l).2).2)
 | .need p t,l=>(p/\(bT t l).1,(bT t l).2)
 | .both t u,l=>((bT t l).1/\(bT u (bT t l).2).1,(bT u (bT t l).2).2)
 | .when b t,l=>((b=true->(bT t l).1),(bT t l).2)
 | .done,l=>(True,l)
 | .bad,l=>(False,l)
def Vu:Lf->Dl->Nat->Prop:=fun e d nx=>match e with
 | .nrm=>∃ (a':α) (M:gF),inv a'/\μ a'<μ a/\M.nx =(I a').nx/\Sub M ((I a).app d nx) (I a').tm (I a').hp
 | e=>∃ (M:gF) (tm:List (Nat×V)) (hp:List (Nat×bd)),Sub M ((I a).app d nx) tm hp/\∀ Q:Lf->Dl->Nat->Prop,T.sat Q->Q e ⟨tm,hp⟩ M.nx
variable {I inv μ a T}
theorem FA {e:Lf} {d:Dl} {nx:Nat} :∀ {s:Lspec α},JS I inv μ a T e d nx s->Vu I inv μ a T e d nx
 | .next a' σ Z,h=>by
  cases e with
  | nrm=>exact ⟨a',⟨σ,Z,(I a').nx⟩,h.1,h.2.1,rfl,h.2.2⟩
  | ext id=>exact h.elim
  | ret=>exact h.elim
 | .out p σ Z,h=>by
  have key :∀ e:Lf,(match T.walk p with
   | some (ps,e',d',nx')=>wQ (H5 e e') (RK ps/\Sub ⟨σ,Z,nx'⟩ ((I a).app d nx) d'.tm d'.hp)
   | none=>False)->∃ (M:gF) (tm:List (Nat×V)) (hp:List (Nat×bd)),Sub M ((I a).app d nx) tm hp/\∀ Q:Lf->Dl->Nat->Prop,T.sat Q->Q e ⟨tm,hp⟩ M.nx:=fun e h=>by
   split at h
   case h_2=>exact h.elim
   rename_i ps e' d' nx' hw;obtain ⟨h1,h2,h3⟩:=b7.1 h;obtain rfl:=xf h1;exact ⟨⟨σ,Z,nx'⟩,d'.tm,d'.hp,h3,fun Q hT=>kL hw (EF h2) hT⟩
  cases e with
  | nrm=>exact h.elim
  | ext id=>exact key _ h
  | ret=>exact key _ h
theorem fH :∀ {t:Tr} {l:List (Lspec α)},(bT I inv μ a T t l).1->t.sat (Vu I inv μ a T)
 | .leaf e d nx,l,h=>by
  cases l with
  | nil=>exact h.elim
  | cons s r=>exact FA h
 | .br b t u,l,h=>⟨fun hb=>fH (h.1 hb),fun hb=>fH (h.2 hb)⟩
 | .need p t,l,h=>⟨h.1,fH h.2⟩
 | .both t u,l,h=>⟨fH h.1,fH h.2⟩
 | .when b t,l,h=>fun hb=>fH (h hb)
 | .done,_,h=>h
 | .bad,_,h=>h.elim
end
theorem rX {C:Cfg} (hC:CfgOK P C) (hP:P.follows .mixedOrders=true) {body:Code} {α:Type} (I:α->St) (hI :∀ a,(I a).H0=fun _=>none) (inv:α->Prop) (μ:α->Nat) (Λ:α->Nat->Option aw)
  (hΛ :∀ a,inv a->∀ b∈bF (Λ a) body,∀ L,Λ a (fo b)=some L->dU P C.N b L) (T:Tr) (σ:List (Nat×Nat)) (Z:List Nat) (a0:α) (h0:inv a0) (L:α->List (Lspec α))
  (step :∀ a,inv a->(bT I inv μ a T (cw C (Λ a) body (I a)) (L a)).1) :
  dU P C.N body (gr ⟨σ,Z,(I a0).nx⟩ (I a0) T):=
 SG hC hP I hI inv μ Λ hΛ h0 rfl fun a ha=>fH (step a ha)
def aw.under (p:Prop) (L:aw):aw:=⟨fun st=>p/\L.pre st,L.T⟩
theorem dU.under {N:Nat} {b:Code} {L:aw} {p:Prop} (h:p->dU P N b L):dU P N b (L.under p):=fun B hB st Q CQ hp=>h hp.1 B hB st Q CQ hp.2
def dS (P:Program) (N:Nat) (l:List Code) (Λ:Nat->Option aw):Prop:=∀ b∈l,∀ L,Λ (fo b)=some L->dU P N b L
theorem dS.nil {N:Nat} {Λ:Nat->Option aw}:dS P N [] Λ:=fun b hb=>by simp at hb
theorem dS.cons {N:Nat} {b:Code} {l:List Code} {Λ:Nat->Option aw} {L:aw} (h0:Λ (fo b)=some L) (h1:dU P N b L) (h2:dS P N l Λ):dS P N (b::l) Λ:=fun b' hb L' hL=>by
 rcases List.mem_cons.1 hb with rfl|hb
 ·rw [h0] at hL;cases hL;exact h1
 ·exact h2 b' hb L' hL
theorem dS.skip {N:Nat} {b:Code} {l:List Code} {Λ:Nat->Option aw} (h0:Λ (fo b)=none) (h2:dS P N l Λ):dS P N (b::l) Λ:=fun b' hb L' hL=>by
 rcases List.mem_cons.1 hb with rfl|hb
 ·rw [h0] at hL;cases hL
 ·exact h2 b' hb L' hL
def qJ (fn:Func):Code:=match fn.body with|some c=>c|none=> .skip
def aC (fn:Func) (k:Nat):Code:=match (ni (qJ fn))[k]? with|some c=>c|none=> .skip
def bA (fn:Func) (k j:Nat):Code:=match (ni (aC fn k))[j]? with|some c=>c|none=> .skip
theorem dS.at {N:Nat} {fn:Func} {l:List Code} {Λ:Nat->Option aw} (he:bF Λ (qJ fn)=l) (h:dS P N l Λ) :∀ c,fn.body=some c->∀ b∈bF Λ c,∀ L,Λ (fo b)=some L->dU P N b L:=fun c hc=>by
 have:qJ fn=c:=by unfold qJ;rw [hc]
 rw [<-this,he];exact h
def RT.B7 (Q:V->List RowD->Prop):RT->List Prop
 | .ret v rows=> [Q v rows]
 | .br b t e=>match b with|true=>t.B7 Q|false=>e.B7 Q
 | .need p t=>p::t.B7 Q
 | .both t u=>t.B7 Q++u.B7 Q
 | .when b t=>match b with|true=>t.B7 Q|false=> []
 | .done=> []
 | .bad=> [False]
abbrev vN:=List (FuncId×dR)
def aZ (P:Program) (K:Nat) (l:vN):Prop:=∀ f c,find l f=some c->aR P K f c
theorem aZ.nil {K:Nat}:aZ P K []:=fun f c h=>by simp [find] at h
theorem aZ.cons {K:Nat} {f:FuncId} {c:dR} {l:vN} (h:aR P K f c) (hl:aZ P K l):aZ P K ((f,c)::l):=fun g c' hg=>by
 simp only [find] at hg
 cases hb:Nat.beq f g with
 | true=>rw [hb] at hg;obtain rfl:=Nat.eq_of_beq_eq_true hb;simp only [cond_true,Option.some.injEq] at hg;subst hg;exact h
 | false=>rw [hb] at hg;exact hl g c' hg
end
section
open Go.RowKit
variable {P:Program}
theorem aaX {B:aK} {E:Env} (hE:aM B E) (w':World) (hk:dA E.w (fun _=>False) w'):aM B { E with w:=w' }/\Ext E { E with w:=w' }:=by
 have hb :∀ b,b<E.w.heap.size->w'.heap[b]?=E.w.heap[b]?:=fun b h=>hk.block b h fun h=>h
 have hs :∀ {b:Nat} {o:Obj},E.w.heap[b]?=some o->b<E.w.heap.size:=fun {b o} h=>by
  rcases Nat.lt_or_ge b E.w.heap.size with h1|h1
  ·exact h1
  ·rw [Array.getElem?_eq_none h1] at h;cases h
 have X:Ext E { E with w:=w' }:=
  ⟨fun _ h=>h,fun _ h=>h,fun b h=>hb b (hE.stab b h),fun h cs _ hx=>⟨⟨cs,hx⟩,rfl⟩,fun h ver rw t xs _ _ hx=>⟨rw,xs,hx,rfl,rfl,fun b c T fr _ hw=>⟨c,T,fr,(hb b (hs hw)).trans hw,rfl⟩⟩,
   fun h ver esz cs _ _ hx=>⟨cs,hx,rfl,rfl,fun b c T fr _ hw=>⟨c,T,fr,(hb b (hs hw)).trans hw,rfl⟩⟩,fun h es _ hx=>⟨⟨es,hx⟩,rfl⟩,fun h k t x _ hx=>⟨⟨x,hx⟩,rfl⟩⟩
 have tm :∀ {h k b},E.H h=some k->fJ { E with w:=w' } h k b->fJ E h k b:=fun hx ht=>fJ.mv (E:=E) (E':={ E with w:=w' }) rfl (fun b hb'=>hb b (hE.lt _ _ _ hx hb')) ht;refine ⟨⟨hE.used,fun b h=>Nat.lt_of_lt_of_le (hE.stab b h) hk.size,fun h k b a1 a2=>Nat.lt_of_lt_of_le (hE.lt' h k b a1 (tm a1 a2)) hk.size,fun h h' k k' b a1 a2 a3 a4=>hE.inj' h h' k k' b a1 a2 (tm a1 a3) (tm a2 a4),fun h k a1=>di X rfl (fun b hb'=>hb b (hE.lt' h k b a1 hb')) (fun _ _ _ h=>h) (hE.blk h k a1),?_,fun h k b a1 a2=>hE.own' h k b a1 (tm a1 a2),hE.s0,hE.sb⟩,X⟩;exact hE.keeps.trans (G:=fun _=>False) ⟨hk.os,hk.tape,hk.output,hk.size,hk.block⟩ (fun _ h=>h.elim)
theorem s7 {K:Nat} {f:FuncId} {fn:Func} (hf:P.funcs[f]?=some fn) (hbody:fn.body.isSome=true) (hname :(fn.name == "runtime.NumGoroutine")=false) {ps:Ty} {spec:Den ps->mL} (hfl :∀ x,(spec x).rows=[]/\(spec x).v.Ml=true)
  (h :∀ (x:Den ps) (av:List Value) (w:World) (E:Env),zg ps x->(∀ p∈(spec x).sn,p)->qG w (fun _=>False)->ai E (fq ps x) av->Calls P f av.toArray w fun e w'=>∃ v',e = .returned v'/\dA w (fun _=>False) w'/\∀ E':Env,ae E' ((spec x).v.shift 0) v') (hsh :∀ x m,(spec x).v.shift m =(spec x).v.shift 0):aR P K f (bq K ps spec):=by
 refine ⟨⟨fn,hf,hbody,hname⟩,fun B E hE args av hav m hm ps' v dh hct hps=>?_⟩;unfold bq at hct;simp only at hct;split at hct
 case h_2=>cases hct
 rename_i x hx;obtain ⟨hr,hn⟩:=hfl x;have hflat :(spec x).flat=true:=by unfold mL.flat;rw [hn,hr];rfl
 rw [hr,hflat] at hct;simp only [List.length_nil,kD,cond_true,List.append_nil] at hct
 cases hle:Nat.ble 0 K with
 | false=>rw [hle] at hct;cases hct
 | true=>rw [hle] at hct;simp only [cond_true,Option.some.injEq,Prod.mk.injEq] at hct;obtain ⟨rfl,rfl,rfl⟩:=hct;obtain ⟨hSE,XS⟩:=dI hE (tG args);obtain ⟨hav0,cs,hrd⟩:=kr hSE (Ec:=cb E (tG args)) rfl rfl (bD XS _ _ hav) hx;refine (h x av E.w _ ⟨_,_,_,hrd⟩ hps hE.JD hav0).mono fun e w' ⟨v',h1,h2,h3⟩=>?_;obtain ⟨hE',X⟩:=aaX hE w' h2;refine ⟨{ E with w:=w' },v',h1,⟨hE',X,rfl,by funext z;simp [aQ,find],fun n hn=> .inl hn⟩,?_⟩;rw [hsh x m];exact h3 _
end
section
open Go.RowKit
variable {P:Program}
inductive vg where
 | c (v:V)
 | h (t:Ty)
 | d (t:Ty)
inductive PC where
 | c (v:V)
 | h (t:Ty)
 | a (l:List vg)
 | p (t:Ty)
 | r (h ver:Nat)
inductive PB where
 | cells (l:List vg)
 | dat (t:Ty)
 | row (ver:Nat) (t:Ty)
 | abs (k:Nat) (t:Ty)
structure bl where
 tm:List (Nat×PC)
 hp:List (Nat×PB)
 nx:Nat
def G3:vg->Ty->Ty
 | .c _,r=>r
 | .h t,r=> .prod t r
 | .d t,r=> .prod t r
def mF:List vg->Ty->Ty
 | [],r=>r
 | p::l,r=>G3 p (mF l r)
def KF:PC->Ty->Ty
 | .c _,r=>r
 | .h t,r=> .prod t r
 | .a l,r=>mF l r
 | .p t,r=> .prod t r
 | .r _ _,r=> .prod (.int .i64) r
def tyB:PB->Ty->Ty
 | .cells l,r=>mF l r
 | .dat t,r=> .prod t r
 | .row _ t,r=> .prod (.slice t) r
 | .abs _ t,r=> .prod t r
def sO:List (Nat×PC)->Ty->Ty
 | [],r=>r
 |(_,p)::l,r=>KF p (sO l r)
def fS:List (Nat×PB)->Ty->Ty
 | [],r=>r
 |(_,b)::l,r=>tyB b (fS l r)
def bj (p:bl):Ty:=sO p.tm (fS p.hp .unit)
def oW :(p:vg)->(r:Ty)->Den (G3 p r)->List V×Den r
 | .c v,_,x=>([v],x)
 | .h t,_,x=>([gz t x.1],x.2)
 | .d t,_,x=>(flat gb t x.1,x.2)
def mq :(l:List vg)->(r:Ty)->Den (mF l r)->List V×Den r
 | [],_,x=>([],x)
 | p::l,r,x=>((oW p (mF l r) x).1 ++(mq l r (oW p (mF l r) x).2).1,(mq l r (oW p (mF l r) x).2).2)
def Dq :(p:PC)->(r:Ty)->Den (KF p r)->V×Den r
 | .c v,_,x=>(v,x)
 | .h t,_,x=>(gz t x.1,x.2)
 | .a l,r,x=>(.agg (mq l r x).1,(mq l r x).2)
 | .p t,_,x=>(.fp t [x.1] 0 0,x.2)
 | .r h ver,_,x=>(.rp h ver x.1 0,x.2)
def kx :(b:PB)->(r:Ty)->Den (tyB b r)->bd×Den r
 | .cells l,r,x=>(.cells (mq l r x).1,(mq l r x).2)
 | .dat t,_,x=>(.cells (flat gb t x.1),x.2)
 | .row ver t,_,x=>(.row ver true t x.1,x.2)
 | .abs k t,_,x=>(.abs k t x.1,x.2)
def jF :(l:List (Nat×PC))->(r:Ty)->Den (sO l r)->List (Nat×V)×Den r
 | [],_,x=>([],x)
 |(s,p)::l,r,x=>((s,(Dq p (sO l r) x).1) ::(jF l r (Dq p (sO l r) x).2).1,(jF l r (Dq p (sO l r) x).2).2)
def cN :(l:List (Nat×PB))->(r:Ty)->Den (fS l r)->List (Nat×bd)×Den r
 | [],_,x=>([],x)
 |(h,b)::l,r,x=>((h,(kx b (fS l r) x).1) ::(cN l r (kx b (fS l r) x).2).1,(cN l r (kx b (fS l r) x).2).2)
def bl.gV (p:bl) (x:Den (bj p)):List (Nat×V):=(jF p.tm (fS p.hp .unit) x).1
def bl.dy (p:bl) (x:Den (bj p)):List (Nat×bd):=(cN p.hp .unit (jF p.tm (fS p.hp .unit) x).2).1
def put (p:bl) (x:Den (bj p)):St:=⟨p.gV x,p.dy x,fun _=>none,p.nx⟩
mutual
def uA (M:gF):V->V->Bool
 | _,.any=>true
 | .nilptr,.nilptr=>true
 | .nilfn,.nilfn=>true
 | .nilmap,.nilmap=>true
 | .nilsl,.nilsl=>true
 | .esl,.esl=>true
 | .nilsl,.esl=>true
 | .kb a,.kb b=>a==b
 | .ptr h off,.ptr h' off'=>M.is h' h&&Nat.beq off off'
 | .osl h ver,.osl h' ver'=>M.is h' h&&M.vs ver' ver
 | .nilsl,.osl h' ver'=>aX M.Z h'&&Nat.blt h' M.nx&&Nat.blt ver' M.nx
 | .esl,.osl h' ver'=>aX M.Z h'&&Nat.blt h' M.nx&&Nat.blt ver' M.nx
 | .av k h,.av k' h'=>M.is h' h&&Nat.beq k k'
 | .fn f cs,.fn f' cs'=>Nat.beq f f'&&EP M cs cs'
 | .agg cs,.agg cs'=>EP M cs cs'
 | .tup cs,.tup cs'=>EP M cs cs'
 | _,_=>false
def EP (M:gF):List V->List V->Bool
 | [],[]=>true
 | x::xs,y::ys=>uA M x y&&EP M xs ys
 | _,_=>false
end
def kS {α β:Type}:Option α->Option β->Option (α×β)
 | some x,some y=>some (x,y)
 | _,_=>none
def fW {α:Type} (b:Bool) (x:Option α):Option α:=bif b then x else none
def vg.n:vg->Nat
 | .d t=>sz t
 | _=>1
def wN (M:gF) (H:a6) :(p:vg)->(r:Ty)->List V->Option (Den r)->Option (Den (G3 p r))
 | .c v0,_,[v],k=>fW (uA M v v0) k
 | .h t,_,[v],k=>kS (Ly H t v) k
 | .d t,_,vs,k=>kS (xA H t vs) k
 | _,_,_,_=>none
def nP (M:gF) (H:a6) :(l:List vg)->(r:Ty)->List V->Option (Den r)->Option (Den (mF l r))
 | [],_,[],k=>k
 | p::l,r,vs,k=>wN M H p (mF l r) (vs.take p.n) (nP M H l r (vs.drop p.n) k)
 | [],_,_::_,_=>none
def UG (b:Option bd) (v:Nat):Bool:=match b with
 | some (.row v0 _ _ _)=>Nat.beq v0 v
 | _=>false
def EB {t' t:Ty} (x:Den t'):Option (Den t):=if e:t'=t then some (e▸x:Den t) else none
def R4 (M:gF) (H:a6) :(p:PC)->(r:Ty)->V->Option (Den r)->Option (Den (KF p r))
 | .c v0,_,v,k=>fW (uA M v v0) k
 | .h t,_,v,k=>kS (Ly H t v) k
 | .a l,r,v,k=>match v with
  | .agg cs=>nP M H l r cs k
  | _=>none
 | .p _,_,v,k=>match v with
  | .fp t' xs i off=>fW (Nat.beq off 0) (kS (EB (xs.getD i.toNat (af t'))) k)
  | _=>none
 | .r h ver,_,v,k=>match v with
  | .rp h' ver' i off=>fW (M.is h h'&&(M.vs ver ver'&&(Nat.beq off 0&&UG (H h') ver'))) (kS (some i) k)
  | _=>none
def Nz {t' t:Ty} (xs:List (Den t')):Option (List (Den t)):=if e:t'=t then some (e▸xs:List (Den t)) else none
def rS (M:gF) (H:a6) (h:Nat) :(b:PB)->(r:Ty)->Option (Den r)->Option (Den (tyB b r))
 | .cells l,r,k=>match H (M.at h) with
  | some (.cells cs)=>fW (!aX M.Z h) (nP M H l r cs k)
  | _=>none
 | .dat t,_,k=>match H (M.at h) with
  | some (.cells cs)=>fW (!aX M.Z h) (kS (xA H t cs) k)
  | _=>none
 | .row ver _,_,k=>match aX M.Z h with
  | true=>fW (Nat.blt ver M.nx) (kS (some []) k)
  | false=>match H (M.at h) with
   | some (.row ver0 true _ xs)=>fW (M.vs ver ver0) (kS (Nz xs) k)
   | _=>none
 | .abs k0 _,_,k=>match H (M.at h) with
  | some (.abs k1 _ x)=>fW (!aX M.Z h&&Nat.beq k0 k1) (kS (EB x) k)
  | _=>none
def uI (M:gF) (H:a6) (tm:List (Nat×V)) :(l:List (Nat×PC))->(r:Ty)->Option (Den r)->Option (Den (sO l r))
 | [],_,k=>k
 |(s,p)::l,r,k=>R4 M H p (sO l r) (dL tm s) (uI M H tm l r k)
def oE (M:gF) (H:a6) :(l:List (Nat×PB))->(r:Ty)->Option (Den r)->Option (Den (fS l r))
 | [],_,k=>k
 |(h,b)::l,r,k=>fW (Nat.blt h M.nx) (rS M H h b (fS l r) (oE M H l r k))
def KS (n k:Nat) (A:List (Nat×Nat)):List (Nat×Nat):=match find A n with|some _=>A|none=>(n,k)::A
abbrev Jd:=List (Nat×Nat)×List Nat
mutual
def mtV:V->V->Jd->Jd
 | .ptr h _,.ptr h' _,A=>(KS h' h A.1,A.2)
 | .av _ h,.av _ h',A=>(KS h' h A.1,A.2)
 | .osl h ver,.osl h' ver',A=>(KS ver' ver (KS h' h A.1),A.2)
 | .nilsl,.osl h' _,A=>(A.1,h'::A.2)
 | .esl,.osl h' _,A=>(A.1,h'::A.2)
 | .fn _ cs,.fn _ cs',A=>SL cs cs' A
 | .agg cs,.agg cs',A=>SL cs cs' A
 | .tup cs,.tup cs',A=>SL cs cs' A
 | _,_,A=>A
def SL:List V->List V->Jd->Jd
 | x::xs,y::ys,A=>SL xs ys (mtV x y A)
 | _,_,A=>A
end
def aeu:vg->List V->Jd->Jd
 | .c v0,[v],A=>mtV v v0 A
 | _,_,A=>A
def X3:List vg->List V->Jd->Jd
 | p::l,vs,A=>X3 l (vs.drop p.n) (aeu p (vs.take p.n) A)
 | _,_,A=>A
def mtC:PC->V->Jd->Jd
 | .c v0,v,A=>mtV v v0 A
 | .h _,_,A=>A
 | .a l,v,A=>match v with
  | .agg cs=>X3 l cs A
  | _=>A
 | .p _,_,A=>A
 | .r h ver,v,A=>match v with
  | .rp h' ver' _ _=>(KS ver ver' (KS h h' A.1),A.2)
  | _=>A
def abo (tm:List (Nat×V)):List (Nat×PC)->Jd->Jd
 | [],A=>A
 |(s,p)::l,A=>abo tm l (mtC p (dL tm s) A)
def atL (A:List (Nat×Nat)) (n:Nat):Nat:=match find A n with|some k=>k|none=>n
def OP (H:a6):List (Nat×PB)->Jd->Jd
 | [],A=>A
 |(h,.cells l)::r,A=>OP H r (match H (atL A.1 h) with|some (.cells cs)=>X3 l cs A|_=>A)
 |(_,.dat _)::r,A=>OP H r A
 |(_,.row _ _)::r,A=>OP H r A
 |(_,.abs _ _)::r,A=>OP H r A
def ael:vg->List V->List Nat
 | .c _,_=> []
 | _,vs=>tG vs
def W4:List vg->List V->List Nat
 | p::l,vs=>ael p (vs.take p.n)++W4 l (vs.drop p.n)
 | _,_=> []
def hsC:PC->V->List Nat
 | .c _,_=> []
 | .h _,v=>v.hs
 | .a l,v=>match v with
  | .agg cs=>W4 l cs
  | _=> []
 | .p _,_=> []
 | .r _ _,_=> []
def aa6 (tm:List (Nat×V)):List (Nat×PC)->List Nat
 | []=> []
 |(s,p)::l=>hsC p (dL tm s)++aa6 tm l
def Ok (A:List (Nat×Nat)) (H:a6):List (Nat×PB)->List Nat
 | []=> []
 |(h,.cells l)::r=>(match H (atL A h) with|some (.cells cs)=>W4 l cs|_=> [])++Ok A H r
 |(h,.dat _)::r=>(match H (atL A h) with|some (.cells cs)=>tG cs|_=> [])++Ok A H r
 |(_,.row _ _)::r=>Ok A H r
 |(_,.abs _ _)::r=>Ok A H r
def kO (p:bl) (st:St):gF:=let A:=OP st.H p.hp (abo st.tm p.tm ([],[]));⟨A.1,A.2,p.nx⟩
def zQ (p:bl) (st:St):List Nat:=aa6 st.tm p.tm++Ok (kO p st).σ st.H p.hp
def Fb (p:bl) (st:St):Option (Den (bj p)):=
 fW (kn (((p.hp.map (·.1)).filter fun h=>!aX (kO p st).Z h).map (kO p st).at))
  (uI (kO p st) (vb st.H (zQ p st)) st.tm p.tm (fS p.hp .unit) (oE (kO p st) (vb st.H (zQ p st)) p.hp .unit (some ())))
mutual
theorem Cw (M:gF) :∀ (x v:V),uA M x v=true->dQ M x v
 | x,.any,h=>by cases x <;> simp [dQ]
 | x,.nilptr,h=>by cases x <;> simp only [uA,Bool.false_eq_true] at h;simp [dQ]
 | x,.nilfn,h=>by cases x <;> simp only [uA,Bool.false_eq_true] at h;simp [dQ]
 | x,.nilmap,h=>by cases x <;> simp only [uA,Bool.false_eq_true] at h;simp [dQ]
 | x,.nilsl,h=>by cases x <;> simp only [uA,Bool.false_eq_true] at h;simp [dQ]
 | x,.esl,h=>by cases x <;> simp only [uA,Bool.false_eq_true] at h <;> simp [dQ]
 | x,.kb b,h=>by cases x <;> simp only [uA,Bool.false_eq_true] at h;simpa [dQ] using h
 | x,.ptr h' off',h=>by cases x <;> simp only [uA,Bool.false_eq_true] at h;simp only [dQ];exact b7.2 ⟨h,trivial⟩
 | x,.osl h' ver',h=>by cases x <;> simp only [uA,Bool.false_eq_true] at h <;> simp only [dQ] <;> exact b7.2 ⟨h,trivial⟩
 | x,.fn f' cs',h=>by cases x <;> simp only [uA,Bool.false_eq_true] at h;simp only [Bool.and_eq_true] at h;simp only [dQ];exact b7.2 ⟨h.1,rK M _ _ h.2⟩
 | x,.agg cs',h=>by cases x <;> simp only [uA,Bool.false_eq_true] at h;simp only [dQ];exact rK M _ _ h
 | x,.tup cs',h=>by cases x <;> simp only [uA,Bool.false_eq_true] at h;simp only [dQ];exact rK M _ _ h
 | x,.int _ _,h=>by cases x <;> simp [uA] at h
 | x,.bool _,h=>by cases x <;> simp [uA] at h
 | x,.hint _ _,h=>by cases x <;> simp [uA] at h
 | x,.str _,h=>by cases x <;> simp [uA] at h
 | x,.fp _ _ _ _,h=>by cases x <;> simp [uA] at h
 | x,.rp _ _ _ _,h=>by cases x <;> simp [uA] at h
 | x,.fsl _ _,h=>by cases x <;> simp [uA] at h
 | x,.gsl _ _ _ _ _,h=>by cases x <;> simp [uA] at h
 | x,.gp _ _ _,h=>by cases x <;> simp [uA] at h
 | x,.mpv _,h=>by cases x <;> simp [uA] at h
 | x,.av k h',h=>by cases x <;> simp only [uA,Bool.false_eq_true] at h;simp only [dQ];exact b7.2 ⟨h,trivial⟩
theorem rK (M:gF) :∀ (xs vs:List V),EP M xs vs=true->ij M xs vs
 | [],[],_=>by simp [ij]
 | [],_::_,h=>by simp [EP] at h
 | _::_,[],h=>by simp [EP] at h
 | x::xs,v::vs,h=>by simp only [EP,Bool.and_eq_true] at h;simp only [ij];exact ⟨Cw M _ _ h.1,rK M _ _ h.2⟩
end
theorem aG {α:Type} {b:Bool} {x:Option α} {y:α} (h:fW b x=some y):b=true/\x=some y:=by
 cases b with
 | true=>exact ⟨rfl,h⟩
 | false=>cases h
theorem bg {α β:Type} {x:Option α} {y:Option β} {z:α×β} (h:kS x y=some z) :∃ a b,x=some a/\y=some b/\z =(a,b):=by cases x <;> cases y <;> simp only [kS,reduceCtorEq,Option.some.injEq] at h;exact ⟨_,_,rfl,rfl,h.symm⟩
theorem Ep {E E':Env} (hS:E'.S=E.S) (hw:E'.w=E.w) {t:Ty} {x:Den t} {u:Value} (h:ae E (gz t x) u):ae E' (gz t x) u:=by
 have :∀ (f:Nat) (t:Ty) (x:Den t) (l:List Value),ai E (flat f t x) l->ai E' (flat f t x) l:=by
  intro f
  induction f with
  | zero=>intro t x l h;have hl:=bk h;rw [show flat 0 t x=List.replicate (sz t) .any from by unfold flat;rfl] at h hl ⊢;exact fZ _ (by simpa using hl.symm)
  | succ f ih=>
   intro t x l h
   cases t with
   | int k=>simp only [flat] at h ⊢;cases l with|nil=>simp [ai] at h|cons a l=>simp only [ai,ae] at h ⊢;cases l <;> simp_all [ai]
   | bool=>simp only [flat] at h ⊢;cases l with|nil=>simp [ai] at h|cons a l=>simp only [ai,ae] at h ⊢;cases l <;> simp_all [ai]
   | str=>simp only [flat] at h ⊢;cases l with|nil=>simp [ai] at h|cons a l=>simp only [ai,ae] at h ⊢;cases l <;> simp_all [ai]
   | unit=>simp only [flat] at h ⊢;cases l <;> simp_all [ai]
   | prod a b=>
    simp only [flat] at h ⊢
    have :∃ l1 l2,l=l1++l2/\ai E (flat f a x.1) l1/\ai E (flat f b x.2) l2:=by
     clear ih;generalize flat f a x.1=p at h;generalize flat f b x.2=q at h
     induction p generalizing l with
     | nil=>exact ⟨[],l,rfl,by simp [ai],by simpa using h⟩
     | cons y p ihp=>
      cases l with
      | nil=>simp [ai] at h
      | cons c l=>simp only [List.cons_append,ai] at h;obtain ⟨l1,l2,e,h1,h2⟩:=ihp l h.2;exact ⟨c::l1,l2,by simp [e],by simp only [ai];exact ⟨h.1,h1⟩,h2⟩
    obtain ⟨l1,l2,rfl,h1,h2⟩:=this;exact cj (ih a x.1 l1 h1) (ih b x.2 l2 h2)
   | slice t=>
    simp only [flat] at h ⊢
    cases l with
    | nil=>simp [ai] at h
    | cons a l=>simp only [ai,ae] at h ⊢;exact ⟨by rw [hS,hw];exact h.1,by cases l <;> simp_all [ai]⟩
   | nm n=>simp only [flat] at h ⊢;exact ih _ _ l h
 cases t with
 | int k=>simpa only [gz,ae] using h
 | bool=>simpa only [gz,ae] using h
 | str=>simpa only [gz,ae] using h
 | slice t=>simp only [gz,ae] at h ⊢;rw [hS,hw];exact h
 | unit=>simp only [gz,ae] at h ⊢;obtain ⟨l,hl,hr⟩:=h;exact ⟨l,hl,by cases hq:l.toList <;> simp_all [ai]⟩
 | prod a b=>simp only [gz,ae] at h ⊢;obtain ⟨l,hl,hr⟩:=h;exact ⟨l,hl,this _ _ _ _ hr⟩
 | nm n=>simp only [gz,ae] at h ⊢;obtain ⟨l,hl,hr⟩:=h;exact ⟨l,hl,this _ _ _ _ hr⟩
theorem JB {M:gF} {H:a6} {p:vg} {r:Ty} {vs:List V} {k:Option (Den r)} {x:Den (G3 p r)} (h:wN M H p r vs k=some x):k=some (oW p r x).2:=by
 cases p with
 | c v0=>
  match vs,h with
  | [v],h=>exact (aG h).2
 | h t=>
  match vs,h with
  | [v],h=>obtain ⟨a,b,h1,h2,rfl⟩:=bg h;exact h2
 | d t=>obtain ⟨a,b,h1,h2,rfl⟩:=bg (show kS (xA H t vs) k=some x from h);exact h2
theorem CP {M:gF} {H:a6} :∀ {l:List vg} {r:Ty} {vs:List V} {k:Option (Den r)} {x:Den (mF l r)},nP M H l r vs k=some x->k=some (mq l r x).2
 | [],_,[],_,_,h=>h
 | [],_,_::_,_,_,h=>by simp [nP] at h
 | p::l,r,vs,k,x,h=>by have h:wN M H p (mF l r) (vs.take p.n) (nP M H l r (vs.drop p.n) k)=some x:=h;exact CP (l:=l) (JB h)
theorem WX {M:gF} {H:a6} {p:PC} {r:Ty} {v:V} {k:Option (Den r)} {x:Den (KF p r)} (h:R4 M H p r v k=some x):k=some (Dq p r x).2:=by
 cases p with
 | c v0=>exact (aG h).2
 | h t=>obtain ⟨a,b,h1,h2,rfl⟩:=bg h;exact h2
 | a l=>cases v with
  | agg cs=>exact CP (l:=l) (r:=r) (vs:=cs) h
  | _=>exact absurd (show (none:Option (Den (mF l r)))=some x from h) (fun h'=>by cases h')
 | p t=>cases v with
  | fp t' xs i off=>obtain ⟨a,b,h1,h2,rfl⟩:=bg (aG h).2;exact h2
  | _=>exact absurd (show (none:Option (Den (KF (.p t) r)))=some x from h) (fun h'=>by cases h')
 | r h0 v0=>cases v with
  | rp h' ver' i off=>obtain ⟨a,b,h1,h2,rfl⟩:=bg (aG h).2;exact h2
  | _=>exact absurd (show (none:Option (Den (KF (.r h0 v0) r)))=some x from h) (fun h'=>by cases h')
theorem CR {M:gF} {H:a6} {tm:List (Nat×V)} :∀ {l:List (Nat×PC)} {r:Ty} {k:Option (Den r)} {x:Den (sO l r)},uI M H tm l r k=some x->k=some (jF l r x).2
 | [],_,_,_,h=>h
 |(s,p)::l,r,k,x,h=>by simp only [uI] at h;exact CR (l:=l) (WX h)
section
variable {M:gF} {E:Env} {hp:List (Nat×bd)} {B:aK}
theorem ur {E:Env} :∀ (n:Nat) {xs:List V} {us:List Value},ai E xs us->ai E (xs.take n) (us.take n)/\ai E (xs.drop n) (us.drop n)
 | 0,_,_,h=>⟨by simp [ai],h⟩
 | n+1,[],[],_=>⟨by simp [ai],by simp [ai]⟩
 | n+1,x::xs,u::us,h=>by simp only [ai] at h;obtain ⟨h1,h2⟩:=ur n h.2;exact ⟨by simp only [List.take_succ_cons,ai];exact ⟨h.1,h1⟩,by simpa using h2⟩
 | n+1,[],_::_,h=>by simp [ai] at h
 | n+1,_::_,[],h=>by simp [ai] at h
theorem E9 (hE:aM B E) (hh:HSub0 M E hp) {p:vg} {r:Ty} {vs:List V} {k:Option (Den r)} {x:Den (G3 p r)} (h:wN M E.H p r vs k=some x) {us:List Value} (hv:ai E vs us):ai (bX M E hp) (oW p r x).1 us/\k=some (oW p r x).2:=by
 cases p with
 | c v0=>
  match vs,us,h,hv with
  | [v],[u],h,hv=>simp only [ai] at hv;obtain ⟨h1,h2⟩:=aG h;exact ⟨by simp only [oW,ai];exact ⟨kG hh _ _ _ (Cw M _ _ h1) hv.1,trivial⟩,h2⟩
  | [_],[],_,hv=>simp [ai] at hv
  | [_],_::_::_,_,hv=>simp [ai] at hv
 | h t=>
  match vs,us,h,hv with
  | [v],[u],h,hv=>simp only [ai] at hv;obtain ⟨a,b,h1,h2,rfl⟩:=bg h;refine ⟨?_,h2⟩;simp only [oW,ai];exact ⟨Ep (E:=E) (E':=bX M E hp) rfl rfl (wP hE h1 hv.1),trivial⟩
  | [_],[],_,hv=>simp [ai] at hv
  | [_],_::_::_,_,hv=>simp [ai] at hv
 | d t=>obtain ⟨a,b,h1,h2,rfl⟩:=bg (show kS (xA E.H t vs) k=some x from h);refine ⟨?_,h2⟩;have hrd:=dK hE h1 hv;exact Rd.flat (E:=bX M E hp) gb hrd
theorem kW (hE:aM B E) (hh:HSub0 M E hp) :∀ {l:List vg} {r:Ty} {vs:List V} {k:Option (Den r)} {x:Den (mF l r)},nP M E.H l r vs k=some x->(∀ us,ai E vs us->ai (bX M E hp) (mq l r x).1 us)/\k=some (mq l r x).2
 | [],r,[],k,x,h=>⟨fun us hu=>by cases us <;> simp_all [mq,ai],h⟩
 | [],_,_::_,_,_,h=>by simp [nP] at h
 | p::l,r,vs,k,x,h=>by
  have h:wN M E.H p (mF l r) (vs.take p.n) (nP M E.H l r (vs.drop p.n) k)=some x:=h;obtain ⟨i1,i2⟩:=kW hE hh (JB h);refine ⟨fun us hu=>?_,i2⟩;obtain ⟨a1,a2⟩:=ur p.n hu
  have:=cj (E9 hE hh h a1).1 (i1 _ a2)
  rw [List.take_append_drop] at this;exact this
theorem zO {α:Type} {xs:List α} {n:Nat} (d:α) (h:n<xs.length):xs.getD n d=xs[n]:=by rw [List.getD_eq_getElem?_getD,List.getElem?_eq_getElem h];rfl
theorem HN (hE:aM B E) (hh:HSub0 M E hp) {p:PC} {r:Ty} {v:V} {k:Option (Den r)} {x:Den (KF p r)} (h:R4 M E.H p r v k=some x) {u:Value} (hv:ae E v u):ae (bX M E hp) (Dq p r x).1 u/\k=some (Dq p r x).2:=by
 cases p with
 | c v0=>obtain ⟨h1,h2⟩:=aG h;exact ⟨kG hh _ _ _ (Cw M _ _ h1) hv,h2⟩
 | h t=>obtain ⟨a,b,h1,h2,rfl⟩:=bg h;refine ⟨?_,h2⟩;simp only [Dq];exact Ep (E:=E) (E':=bX M E hp) rfl rfl (wP hE h1 hv)
 | a l=>cases v with
  | agg cs=>obtain ⟨i1,i2⟩:=kW (l:=l) (r:=r) (vs:=cs) hE hh h;refine ⟨?_,i2⟩;simp only [ae] at hv;obtain ⟨us,hl,hr⟩:=hv;show ae (bX M E hp) (.agg (mq l r x).1) u;simp only [ae];exact ⟨us,hl,i1 _ hr⟩
  | _=>exact absurd (show (none:Option (Den (mF l r)))=some x from h) (fun h'=>by cases h')
 | p t=>cases v with
  | fp t' xs i off=>
   obtain ⟨hz,h⟩:=aG h;obtain ⟨a,b,h1,h2,rfl⟩:=bg h;refine ⟨?_,h2⟩;have hz:=Nat.eq_of_beq_eq_true hz;subst hz;unfold EB at h1;split at h1
   case isFalse=>cases h1
   rename_i e;subst e;obtain rfl:=Option.some.inj h1;simp only [ae] at hv;obtain ⟨b',o,c,T,fr,k1,k2,k3,k4,k5,k6,k7⟩:=hv;have hm :(i.toNat+1)*sz t'<=xs.length*sz t':=Nat.mul_le_mul_right _ k6;rw [Nat.add_mul] at hm;show ae (bX M E hp) (.fp t' [xs.getD i.toNat (af t')] 0 0) u;simp only [ae];refine ⟨b',o+i.toNat*sz t',c,T,fr,k1,k2,by simp only [List.length_singleton];omega,fun j hj=>?_,Int.le_refl _,by simp,?_⟩
   ·have:j=0:=by simpa using hj
    subst this;simp only [Nat.zero_mul,Nat.add_zero,List.getElem_cons_zero];rw [zO _ k6];exact k4 _ k6
   ·rw [k7];simp
  | _=>exact absurd (show (none:Option (Den (KF (.p t) r)))=some x from h) (fun h'=>by cases h')
 | r h0 v0=>cases v with
  | rp h' ver' i off=>
   obtain ⟨hz,h⟩:=aG h;obtain ⟨a,b,h1,h2,rfl⟩:=bg h;obtain rfl:=Option.some.inj h1;simp only [Bool.and_eq_true] at hz;refine ⟨?_,h2⟩
   have hs:dQ M (.rp h' ver' i off) (.rp h0 v0 i 0):=by simp only [dQ];exact b7.2 ⟨by simp only [Bool.and_eq_true];exact ⟨⟨hz.1,hz.2.1⟩,hz.2.2.1⟩,trivial⟩
   exact kG hh _ _ _ hs hv
  | _=>exact absurd (show (none:Option (Den (KF (.r h0 v0) r)))=some x from h) (fun h'=>by cases h')
theorem oI (hE:aM B E) (hh:HSub0 M E hp) {tm:List (Nat×V)} {a:Act} (hT:gC E (find tm) a) :∀ {l:List (Nat×PC)} {r:Ty} {k:Option (Den r)} {x:Den (sO l r)},uI M E.H tm l r k=some x->(∀ s v,(s,v)∈(jF l r x).1->ae (bX M E hp) v (a.tmps.getD s undef))/\k=some (jF l r x).2
 | [],r,k,x,h=>⟨fun s v hm=>by simp [jF] at hm,h⟩
 |(s,p)::l,r,k,x,h=>by
  simp only [uI] at h;obtain ⟨h1,h2⟩:=HN hE hh h (dG hT s);obtain ⟨i1,i2⟩:=oI hE hh hT h2;refine ⟨fun s' v hm=>?_,i2⟩;simp only [jF,List.mem_cons,Prod.mk.injEq] at hm;rcases hm with ⟨rfl,rfl⟩|hm
  ·exact h1
  ·exact i1 _ _ hm
end
theorem oH {M:gF} {E:Env} :∀ {l:List (Nat×PB)} {r:Ty} {k:Option (Den r)} {x:Den (fS l r)},oE M E.H l r k=some x->k=some (cN l r x).2/\
  ∀ h b,(h,b)∈(cN l r x).1->h<M.nx/\match b with
   | .cells _=>aX M.Z h=false/\∃ cs0,E.H (M.at h)=some (.cells cs0)
   | .row ver rw t xs=>ver<M.nx/\((aX M.Z h=true/\xs=[])\/(aX M.Z h=false/\E.H (M.at h)=some (.row (M.at ver) rw t xs)))
   | .abs k t x=>aX M.Z h=false/\E.H (M.at h)=some (.abs k t x)
   | _=>False
 | [],r,k,x,h=>⟨h,fun h b hm=>by simp [cN] at hm⟩
 |(h0,b0)::l,r,k,x,h=>by
  simp only [oE] at h;obtain ⟨hlt,h⟩:=aG h;have hlt:h0<M.nx:=by simpa using hlt
  have key:oE M E.H l r k=some (kx b0 (fS l r) x).2/\match (kx b0 (fS l r) x).1 with
   | .cells _=>aX M.Z h0=false/\∃ cs0,E.H (M.at h0)=some (.cells cs0)
   | .row ver rw t xs=>ver<M.nx/\((aX M.Z h0=true/\xs=[])\/(aX M.Z h0=false/\E.H (M.at h0)=some (.row (M.at ver) rw t xs)))
   | .abs k t x=>aX M.Z h0=false/\E.H (M.at h0)=some (.abs k t x)
   | _=>False:=by
   cases b0 with
   | abs k0 t=>
    simp only [rS] at h;split at h
    case h_2=>cases h
    rename_i k1 t1 x1 hx;obtain ⟨hz,h⟩:=aG h;obtain ⟨a,b,h1,h2,rfl⟩:=bg h;simp only [Bool.and_eq_true,Bool.not_eq_true',Nat.beq_eq] at hz;obtain ⟨hz,rfl⟩:=hz;unfold EB at h1;split at h1
    case isFalse=>cases h1
    rename_i e;subst e;obtain rfl:=Option.some.inj h1;exact ⟨h2,hz,hx⟩
   | cells cl=>
    simp only [rS] at h;split at h
    case h_2=>cases h
    rename_i cs hcs;obtain ⟨hz,h⟩:=aG h;refine ⟨?_,by simpa using hz,_,hcs⟩;exact CP h
   | dat t=>
    simp only [rS] at h;split at h
    case h_2=>cases h
    rename_i cs hcs;obtain ⟨hz,h⟩:=aG h;obtain ⟨a,b,h1,h2,rfl⟩:=bg h;exact ⟨h2,by simpa using hz,_,hcs⟩
   | row ver t=>
    simp only [rS] at h
    cases hz:aX M.Z h0 with
    | true=>rw [hz] at h;obtain ⟨hv,h⟩:=aG h;obtain ⟨a,b,h1,h2,rfl⟩:=bg h;cases h1;exact ⟨h2,by simpa using hv,.inl ⟨rfl,rfl⟩⟩
    | false=>
     rw [hz] at h;simp only at h;split at h
     case h_2=>cases h
     rename_i ver0 t0 xs0 hx;obtain ⟨hv,h⟩:=aG h;obtain ⟨a,b,h1,h2,rfl⟩:=bg h;obtain ⟨hv1,hv2⟩:=ry.1 hv;unfold Nz at h1;split at h1
     case isFalse=>cases h1
     rename_i e;subst e;obtain rfl:=Option.some.inj h1;refine ⟨h2,hv1,.inr ⟨rfl,?_⟩⟩;rw [hx,hv2]
  obtain ⟨k1,k2⟩:=key;obtain ⟨i1,i2⟩:=oH k1;refine ⟨i1,fun h' b hm=>?_⟩;simp only [cN,List.mem_cons,Prod.mk.injEq] at hm;rcases hm with ⟨rfl,rfl⟩|hm
  ·exact ⟨hlt,k2⟩
  ·exact i2 _ _ hm
theorem oG {M:gF} {E:Env} {hp:List (Nat×bd)} {B:aK} (hE:aM B E) (hh:HSub0 M E hp) :∀ {l:List (Nat×PB)} {r:Ty} {k:Option (Den r)} {x:Den (fS l r)},oE M E.H l r k=some x->
  ∀ h cs cs0,(h,.cells cs)∈(cN l r x).1->E.H (M.at h)=some (.cells cs0)->∀ us,ai E cs0 us->ai (bX M E hp) cs us
 | [],r,k,x,h,h',cs,cs0,hm,_,_,_=>by simp [cN] at hm
 |(h0,b0)::l,r,k,x,h,h',cs,cs0,hm,hx,us,hu=>by
  have hk:=h;simp only [oE] at h;obtain ⟨hlt,h⟩:=aG h;simp only [cN,List.mem_cons,Prod.mk.injEq] at hm;rcases hm with ⟨rfl,hm⟩|hm
  ·cases b0 with
   | cells cl=>simp only [rS] at h;rw [hx] at h;simp only at h;obtain ⟨hz,h⟩:=aG h;simp only [kx,bd.cells.injEq] at hm;subst hm;exact (kW hE hh h).1 us hu
   | dat t=>simp only [rS] at h;rw [hx] at h;simp only at h;obtain ⟨hz,h⟩:=aG h;obtain ⟨a,b,h1,h2,rfl⟩:=bg h;simp only [kx,bd.cells.injEq] at hm;subst hm;have hrd:=dK hE h1 hu;exact Rd.flat (E:=bX M E hp) gb hrd
   | row ver t=>simp [kx] at hm
   | abs k0 t=>simp [kx] at hm
  ·have key:oE M E.H l r k=some (kx b0 (fS l r) x).2:=by
    cases b0 with
    | cells cl=>
     simp only [rS] at h;split at h
     case h_2=>cases h
     obtain ⟨_,h⟩:=aG h;exact (kW hE hh h).2
    | dat t=>
     simp only [rS] at h;split at h
     case h_2=>cases h
     obtain ⟨_,h⟩:=aG h;obtain ⟨a,b,h1,h2,rfl⟩:=bg h;exact h2
    | abs k0 t=>
     simp only [rS] at h;split at h
     case h_2=>cases h
     obtain ⟨_,h⟩:=aG h;obtain ⟨a,b,h1,h2,rfl⟩:=bg h;exact h2
    | row ver t=>
     simp only [rS] at h;split at h
     ·obtain ⟨hv,h⟩:=aG h;obtain ⟨a,b,h1,h2,rfl⟩:=bg h;exact h2
     ·split at h
      case h_2=>cases h
      obtain ⟨hv,h⟩:=aG h;obtain ⟨a,b,h1,h2,rfl⟩:=bg h;exact h2
   exact oG hE hh key _ _ _ hm hx us hu
def V4:PB->Option Nat
 | .row v _=>some v
 | _=>none
def Iy:List (Nat×PB)->List (Nat×Option Nat)
 | []=> []
 |(h,b)::l=>(h,V4 b)::Iy l
theorem Gp :∀ {l:List (Nat×PB)} {r:Ty} (x:Den (fS l r)),Dp (cN l r x).1=Iy l
 | [],_,_=>rfl
 |(h,b)::l,r,x=>by
  have e:Q7 (kx b (fS l r) x).1=V4 b:=by cases b <;> rfl
  simp only [cN,Dp,Iy,Gp,e]
theorem me {B:aK} {q N:Nat} (hB:B.pins q) {p:bl} {st:St} {x:Den (bj p)} (hg:Fb p st=some x) (hpin:ku q (kO p st) (Iy p.hp)=true) {a:Act} {w:World} (hs:jM B N st a w):jM B N (put p x) a w:=by
 unfold Fb at hg;obtain ⟨hn,hg⟩:=aG hg;obtain ⟨⟨E0,hE0,rfl,hH,⟨hG,_⟩,hT0⟩,hsz,hdf⟩:=hs;obtain ⟨hE,X⟩:=dI hE0 (zQ p st);have hH' :(cb E0 (zQ p st)).H=vb st.H (zQ p st):=by rw [<-hH];rfl
 have hT:gC (cb E0 (zQ p st)) (find st.tm) a:=fun s v hv=>ca X _ _ (hT0 s v hv);rw [<-hH'] at hg;have hw :(cb E0 (zQ p st)).w=E0.w:=rfl;have hnx :(kO p st).nx=p.nx:=rfl;generalize cb E0 (zQ p st)=E at *;generalize kO p st=M at *;have hk:=CR hg;obtain ⟨_,hnames⟩:=oH hk
 have hh:HSub0 M E (p.dy x):=by
  refine ⟨fun h k hf=>(hnames h k (aB hf)).1,fun h ver rw t xs hf=>?_,fun h cs hf=>?_,fun h ver esz cs hf=>?_,fun h es hf=>?_,fun h k t x hf=>?_⟩
  ·exact (hnames _ _ (aB hf)).2
  ·exact (hnames _ _ (aB hf)).2
  ·exact ((hnames _ _ (aB hf)).2).elim
  ·exact ((hnames _ _ (aB hf)).2).elim
  ·exact (hnames _ _ (aB hf)).2
 have hs:HSub M E (p.dy x):=by
  refine ⟨hh,fun h cs cs0 hf hx=>?_,fun h ver esz cs cs0 hf _=>?_⟩
  ·exact oG hE hh hk h cs cs0 (aB hf) hx
  ·exact ((hnames _ _ (aB hf)).2).elim
 have keys :∀ {l:List (Nat×PB)} {r:Ty} (x:Den (fS l r)),(cN l r x).1.map (·.1)=l.map (·.1):=by
  intro l
  induction l with
  | nil=>intro r x;rfl
  | cons q l ih=>intro r x;obtain ⟨h,b⟩:=q;simp only [cN,List.map_cons,ih]
 have hkeys :(p.dy x).map (·.1)=p.hp.map (·.1):=keys _;refine ⟨⟨bX M E (p.dy x),pz hE hs (by rw [hkeys];exact hn),hw,rfl,⟨hB M E _ (by rw [show Dp (p.dy x)=Iy p.hp from Gp _];exact hpin) hs (B.clo _ _ hG X),fun n hn=>by have:n<M.nx:=hn;rw [hnx] at this;exact this⟩,fun s v hv=>?_⟩,hsz,hdf⟩;exact (oI hE hh hT hg).1 s v (aB hv)
end
section
open Go.RowKit
variable {P:Program}
def oQ:Tr->Prop
 | .leaf _ _ _=>False
 | .br b t e=>(b=true->oQ t)/\(b=false->oQ e)
 | .need p t=>p/\oQ t
 | .both t u=>oQ t/\oQ u
 | .when b t=>b=true->oQ t
 | .done=>True
 | .bad=>False
def fC:Tr->Bool
 | .leaf _ _ _=>false
 | .br _ t e=>fC t&&fC e
 | .need _ t=>fC t
 | .both t u=>fC t&&fC u
 | .when _ t=>fC t
 | .done=>true
 | .bad=>true
theorem gO {Q:Lf->Dl->Nat->Prop} :∀ {t:Tr},oQ t->t.sat Q
 | .leaf _ _ _,h=>h.elim
 | .br _ _ _,h=>⟨fun hb=>gO (h.1 hb),fun hb=>gO (h.2 hb)⟩
 | .need _ _,h=>⟨h.1,gO h.2⟩
 | .both _ _,h=>⟨gO h.1,gO h.2⟩
 | .when _ _,h=>fun hb=>gO (h hb)
 | .done,_=>trivial
 | .bad,h=>h.elim
section
variable {β:Type} (d:β) (hd:Lf->Dl->Nat->β) (ok:Lf->Dl->Nat->Prop)
def zI:Tr->β
 | .leaf e dl nx=>hd e dl nx
 | .br b t e=>cond b (zI t) (zI e)
 | .need _ t=>zI t
 | .both t u=>match t with
  | .when _ _=>zI u
  | t=>match u with
   | .when b u=>bif fC t then zI u else cond b (zI u) (zI t)
   | _=>d
 | .when _ t=>zI t
 | .done=>d
 | .bad=>d
def kY:Tr->Prop
 | .leaf e dl nx=>ok e dl nx
 | .br b t e=>(b=true->kY t)/\(b=false->kY e)
 | .need p t=>p/\kY t
 | .both t u=>match t with
  | .when q x=>(q=true->kY x/\zI d hd x=zI d hd u)/\kY u
  | t=>match u with
   | .when b u=>match fC t with
    | true=>oQ t/\(b=true->kY u)
    | false=>(b=true->oQ t/\kY u)/\(b=false->kY t)
   | _=>False
 | .when b t=>b=true->kY t
 | .done=>True
 | .bad=>False
theorem iz :∀ (t:Tr),kY d hd ok t->t.sat fun e dl nx=>ok e dl nx/\hd e dl nx=zI d hd t
 | .leaf e dl nx,h=>⟨h,rfl⟩
 | .br b t e,h=>by
  refine ⟨fun hb=>?_,fun hb=>?_⟩
  ·exact Tr.dH (fun e dl nx hq=>⟨hq.1,by rw [hq.2];simp only [zI,hb,cond_true]⟩) (iz t (h.1 hb))
  ·exact Tr.dH (fun e dl nx hq=>⟨hq.1,by rw [hq.2];simp only [zI,hb,cond_false]⟩) (iz e (h.2 hb))
 | .need p t,h=>⟨h.1,iz t h.2⟩
 | .when b t,h=>fun hb=>iz t (h hb)
 | .done,_=>trivial
 | .bad,h=>h.elim
 | .both t u,h=>by
  have ihT:=iz t;have ihU:=iz u
  have seq :∀ (b:Bool) (u':Tr),u = .when b u'->(match fC t with
    | true=>oQ t/\(b=true->kY d hd ok u')
    | false=>(b=true->oQ t/\kY d hd ok u')/\(b=false->kY d hd ok t))->
    zI d hd (.both t u) =(bif fC t then zI d hd u' else cond b (zI d hd u') (zI d hd t))->(Tr.both t u).sat fun e dl nx=>ok e dl nx/\hd e dl nx=zI d hd (.both t u):=fun b u' hu k he=>by
   subst hu;rw [he]
   cases hl:fC t with
   | true=>rw [hl] at k;exact ⟨gO k.1,fun hb=>Tr.dH (fun e dl nx hq=>⟨hq.1,by rw [hq.2];rfl⟩) (ihU k.2 hb)⟩
   | false=>
    rw [hl] at k;refine ⟨?_,fun hb=>Tr.dH (fun e dl nx hq=>⟨hq.1,by rw [hq.2];simp only [zI,hb,cond_true,cond_false]⟩) (ihU (fun hb=>(k.1 hb).2) hb)⟩
    cases b with
    | true=>exact gO (k.1 rfl).1
    | false=>exact Tr.dH (fun e dl nx hq=>⟨hq.1,by rw [hq.2];rfl⟩) (ihT (k.2 rfl))
  cases t with
  | when q x=>refine ⟨fun hq=>Tr.dH (fun e dl nx hr=>⟨hr.1,by rw [hr.2];exact (h.1 hq).2⟩) (ihT (fun hq=>(h.1 hq).1) hq),?_⟩;exact Tr.dH (fun e dl nx hr=>⟨hr.1,by rw [hr.2];rfl⟩) (ihU h.2)
  | leaf=>cases u with|when b u'=>exact seq b u' rfl h rfl|_=>exact h.elim
  | br=>cases u with|when b u'=>exact seq b u' rfl h rfl|_=>exact h.elim
  | need=>cases u with|when b u'=>exact seq b u' rfl h rfl|_=>exact h.elim
  | both=>cases u with|when b u'=>exact seq b u' rfl h rfl|_=>exact h.elim
  | done=>cases u with|when b u'=>exact seq b u' rfl h rfl|_=>exact h.elim
  | bad=>cases u with|when b u'=>exact seq b u' rfl h rfl|_=>exact h.elim
end
def sC:List (Lf×bl)->Type
 | []=>Unit
 | q::r=>match r with
  | []=>Den (bj q.2)
  | _::_=>Sum (Den (bj q.2)) (sC r)
def zD :(X:List (Lf×bl))->sC X
 | []=>()
 | [q]=>af (bj q.2)
 | q::_::_=> .inl (af (bj q.2))
def wV {α β:Type}:Sum α β->Bool
 | .inl _=>true
 | .inr _=>false
def mV {α β:Type} (d:α):Sum α β->α
 | .inl x=>x
 | .inr _=>d
def jL {α β:Type} (d:β):Sum α β->β
 | .inl _=>d
 | .inr x=>x
def jk (p:Nat) (q:bl) (st:St):Option (Den (bj q)):=fW (ku p (kO q st) (Iy q.hp)) (Fb q st)
def W8 {α β:Type}:Option α->Option (Sum α β)->Option (Sum α β)
 | some x,_=>some (.inl x)
 | none,y=>y
def aba {α β:Type}:Option β->Option (Sum α β)
 | some x=>some (.inr x)
 | none=>none
def fO (p:Nat) :(X:List (Lf×bl))->Lf->St->Option (sC X)
 | [],_,_=>none
 | [q],e,st=>fW (H5 q.1 e) (jk p q.2 st)
 | q::q'::r,e,st=>W8 (fW (H5 q.1 e) (jk p q.2 st)) (aba (fO p (q'::r) e st))
def TX :(X:List (Lf×bl))->sC X->Tr
 | [],_=> .bad
 | [q],y=> .leaf q.1 ⟨q.2.gV y,q.2.dy y⟩ q.2.nx
 | q::q'::r,o=> .br (wV o) (.leaf q.1 ⟨q.2.gV (mV (af (bj q.2)) o),q.2.dy (mV (af (bj q.2)) o)⟩ q.2.nx) (TX (q'::r) (jL (zD (q'::r)) o))
theorem kz {p:Nat} {q:bl} {st:St} {y:Den (bj q)} (h:jk p q st=some y):ku p (kO q st) (Iy q.hp)=true/\Fb q st=some y:=aG h
theorem M7 {p:Nat} {e:Lf} {st:St} {Q:Lf->Dl->Nat->Prop} :∀ {X:List (Lf×bl)} {o:sC X},fO p X e st=some o->(TX X o).sat Q->∃ (q:bl) (y:Den (bj q)),jk p q st=some y/\Q e ⟨q.gV y,q.dy y⟩ q.nx
 | [],_,h,_=>by simp [fO] at h
 | [q],o,h,hs=>by
  obtain ⟨h1,h2⟩:=aG h
  have:=xf h1
  subst this;exact ⟨q.2,o,h2,hs⟩
 | q::q'::r,o,h,hs=>by
  simp only [fO] at h
  cases hg:fW (H5 q.1 e) (jk p q.2 st) with
  | some y=>
   rw [hg] at h;simp only [W8] at h;obtain rfl:=Option.some.inj h;obtain ⟨h1,h2⟩:=aG hg
   have:=xf h1
   subst this;exact ⟨q.2,y,h2,hs.1 rfl⟩
  | none=>
   rw [hg] at h;simp only [W8] at h
   cases ho:fO p (q'::r) e st with
   | none=>rw [ho] at h;cases h
   | some o'=>rw [ho] at h;simp only [aba] at h;obtain rfl:=Option.some.inj h;exact M7 ho (hs.2 rfl)
structure Lp where
 p:Nat
 C:Cfg
 Λ:Nat->Option aw
 body:Code
 q:bl
 X:List (Lf×bl)
section
variable (L:Lp) (res:Den (bj L.q)->sC L.X)
def hdL (st:St):Lf->Dl->Nat->sC L.X
 | .nrm,d,nx=>match Fb L.q (st.app d nx) with
  | some y=>res y
  | none=>zD L.X
 | e,d,nx=>match fO L.p L.X e (st.app d nx) with
  | some o=>o
  | none=>zD L.X
def MW (inv:Den (bj L.q)->Prop) (st:St):Lf->Dl->Nat->Prop
 | .nrm,d,nx=>match jk L.p L.q (st.app d nx) with
  | some y=>inv y
  | none=>False
 | e,d,nx=>match fO L.p L.X e (st.app d nx) with
  | some _=>True
  | none=>False
def bB (x:Den (bj L.q)):sC L.X:=zI (zD L.X) (hdL L res (put L.q x)) (cw L.C L.Λ L.body (put L.q x))
def stepG (inv:Den (bj L.q)->Prop) (x:Den (bj L.q)):Prop:=kY (zD L.X) (hdL L res (put L.q x)) (MW L inv (put L.q x)) (cw L.C L.Λ L.body (put L.q x))
def aq (ok:Den (bj L.q)->Prop):aw:=
 ⟨fun st=>cq st.H0/\wQ (Ba st.nx st.hp) (match jk L.p L.q st with|some x=>ok x|none=>False),
  fun st=>match jk L.p L.q st with|some x=>rZ st (TX L.X (res x))|none=> .bad⟩
end
def aJ (P:Program) (p N:Nat) (body:Code) (L:aw):Prop:=∀ (B:aK),B.pins p->vO P N B body L
theorem aJ.ok {p N:Nat} {body:Code} {L:aw} (h:aJ P p N body L):dU P N body L:=fun B hB=>h B (hB.pins p)
theorem aD (L:Lp) (hC:CfgOK P L.C) (hP:P.follows .mixedOrders=true) (hΛ :∀ b∈bF L.Λ L.body,∀ S,L.Λ (fo b)=some S->aJ P L.p L.C.N b S)
  (res:Den (bj L.q)->sC L.X) (inv:Den (bj L.q)->Prop) (μ:Den (bj L.q)->Nat)
  (step :∀ x,inv x->stepG L res (fun y=>inv y/\μ y<μ x) x/\bB L res x=res x):aJ P L.p L.C.N L.body (aq L res inv):=by
 intro B hB st Q CQ hpre hT hQ a w hs;simp only [aq] at hpre hT;obtain ⟨hH0,hpre⟩:=hpre;obtain ⟨hl,hpre⟩:=b7.1 hpre
 cases hr:jk L.p L.q st with
 | none=>rw [hr] at hpre;exact hpre.elim
 | some x0=>
 rw [hr] at hpre hT;simp only at hpre hT;have hT:=gN hT;obtain ⟨jN,hg0⟩:=kz hr;have start:jM B L.C.N (put L.q x0) a w:=me hB hg0 jN hs
 have key :∀ n x a w,inv x->μ x<n->(TX L.X (res x)).sat (fun e d nx=>Q e ⟨d.tm++oO st.tm,d.hp++lJ (Nat.max nx st.nx) st.hp⟩ (Nat.max nx st.nx+1))->jM B L.C.N (put L.q x) a w->Code.rounds P L.body CQ n a w:=by
  intro n
  induction n with
  | zero=>intro x a w _ hlt;omega
  | succ n ih=>
   intro x a w hx hlt hTx hs;rw [rounds_succ];obtain ⟨hG,hE⟩:=step x hx;refine cS hC hP (B:=B) L.body (fun b hb S hS=>hΛ b hb S hS B hB) (put L.q x) _ _ (iz _ _ _ _ hG) (fun e d nx a w hq hat=>?_) a w hs;have hat:=pC.1 hat;obtain ⟨hok,hv⟩:=hq;change hdL L res (put L.q x) e d nx=bB L res x at hv;rw [hE] at hv
   have out :∀ e:Lf,(match fO L.p L.X e ((put L.q x).app d nx) with|some _=>True|none=>False)->(match fO L.p L.X e ((put L.q x).app d nx) with|some o=>o|none=>zD L.X)=res x->CQ (iw e) a w:=fun e hok hv=>by
    cases ho:fO L.p L.X e ((put L.q x).app d nx) with
    | none=>rw [ho] at hok;exact hok.elim
    | some o=>rw [ho] at hv;simp only at hv;subst hv;obtain ⟨q,y,h1,h2⟩:=M7 ho hTx;obtain ⟨h3,h4⟩:=kz h1;have h5:=me hB h4 h3 hat;exact hQ e _ _ a w h2 (JY hH0 hl h5)
   cases e with
   | nrm=>
    simp only [MW] at hok;simp only [hdL] at hv
    cases hr2:jk L.p L.q ((put L.q x).app d nx) with
    | none=>rw [hr2] at hok;exact hok.elim
    | some y=>rw [hr2] at hok;obtain ⟨h3,h4⟩:=kz hr2;rw [h4] at hv;simp only at hok hv;exact ih y a w hok.1 (by omega) (by rw [hv];exact hTx) (me hB h4 h3 hat)
   | ext id=>exact out (.ext id) hok hv
   | ret=>exact out .ret hok hv
 exact wp_loop_rounds (μ x0+1) (key _ x0 a w hpre (Nat.lt_succ_self _) hT start)
end
section
open Go.RowKit
variable {P:Program}
inductive DT (α:Type) where
 | ret (y:α)
 | br (b:Bool) (t e:DT α)
 | need (p:Prop) (t:DT α)
 | both (t u:DT α)
 | when (b:Bool) (t:DT α)
 | done
 | bad
def DT.sat {α:Type} (Q:α->Prop):DT α->Prop
 | .ret y=>Q y
 | .br b t e=>(b=true->t.sat Q)/\(b=false->e.sat Q)
 | .need p t=>p/\t.sat Q
 | .both t u=>t.sat Q/\u.sat Q
 | .when b t=>b=true->t.sat Q
 | .done=>True
 | .bad=>False
def mB (n:Nat) (v:V):List (Nat×V):=bif Nat.beq n 1 then [(0,v)] else match v with
 | .tup vs=>dz 0 vs
 | _=> []
def Gj (tm:List (Nat×V)):V:=match tm with
 | []=> .tup []
 | x::r=>match r with
  | []=>x.2
  | _::_=> .tup (tm.map (·.2))
def vq (tb:bG) (rs:List ResultVar) (p:Nat) (q':bl) (st:St):Tr->DT (Den (bj q'))
 | .leaf (.ext _) _ _=> .bad
 | .leaf _ d nx=>match sI tb (d.tm++st.tm) (aQ st.H d.hp) rs with
  | some v=>match jk p q' ⟨mB rs.length v,d.hp++st.hp,st.H0,nx⟩ with
   | some y=> .ret y
   | none=> .bad
  | none=> .bad
 | .br b t e=> .br b (vq tb rs p q' st t) (vq tb rs p q' st e)
 | .need pr t=> .need pr (vq tb rs p q' st t)
 | .both t u=> .both (vq tb rs p q' st t) (vq tb rs p q' st u)
 | .when b t=> .when b (vq tb rs p q' st t)
 | .done=> .done
 | .bad=> .bad
def a8 (C:Cfg) (Λ:Nat->Option aw) (fn:Func) (q q':bl) (x:Den (bj q)):DT (Den (bj q')):=
 match fn.body with
 | some c=>vq C.tb fn.results.toList q.nx q' (put q x) (cw C Λ c (put q x))
 | none=> .bad
mutual
def jz (ν:Nat->Nat):V->V
 | .ptr h o=> .ptr (ν h) o
 | .osl h v=> .osl (ν h) (ν v)
 | .fn a cs=> .fn a (pc ν cs)
 | .agg cs=> .agg (pc ν cs)
 | .tup cs=> .tup (pc ν cs)
 | v=>v
def pc (ν:Nat->Nat):List V->List V
 | []=> []
 | v::vs=>jz ν v::pc ν vs
end
def jy (ν:Nat->Nat):bd->bd
 | .cells cs=> .cells (pc ν cs)
 | .row ver rw t xs=> .row (ν ver) rw t xs
 | b=>b
def jl (ν:Nat->Nat):List (Nat×bd)->List (Nat×bd)
 | []=> []
 |(h,b)::l=>(ν h,jy ν b)::jl ν l
def gP (M:gF) (m n:Nat):Nat:=bif Nat.blt n M.nx&&!aX M.Z n then (match find M.σ n with|some k=>k|none=>m+n) else m+n
mutual
def okV (fl:Bool) (hl vl:List Nat):V->Bool
 | .ptr h _=>aX hl h
 | .osl h v=>aX hl h&&aX vl v
 | .fn _ cs=>fD fl hl vl cs
 | .agg cs=>fD fl hl vl cs
 | .tup cs=>fD fl hl vl cs
 | .fsl _ _=>!fl
 | .fp _ _ _ _=>!fl
 | .rp _ _ _ _ | .gsl _ _ _ _ _ | .gp _ _ _ | .mpv _ | .av _ _=>false
 | _=>true
def fD (fl:Bool) (hl vl:List Nat):List V->Bool
 | []=>true
 | v::vs=>okV fl hl vl v&&fD fl hl vl vs
end
def CJ:vg->Bool
 | .c _=>true
 | .h t=>t.fh
 | .d t=>t.fh
def E6:PC->Bool
 | .c _=>true
 | .h t=>t.fh
 | .a l=>l.all CJ
 | .p _=>false
 | .r _ _=>false
def CK:PB->Bool
 | .cells l=>l.all CJ
 | .dat t=>t.fh
 | .row _ t=>t.fh
 | .abs _ _=>true
def rb:PB->Bool
 | .abs _ _=>false
 | _=>true
def cV (q:bl):Bool:=(q.tm.all fun x=>E6 x.2)&&q.hp.all fun x=>CK x.2
def J4 (hl vl:List Nat):vg->Bool
 | .c v=>okV true hl vl v
 | .h _=>true
 | .d _=>true
def Yh (hl vl:List Nat):PC->Bool
 | .c v=>okV true hl vl v
 | .h _=>true
 | .a l=>l.all (J4 hl vl)
 | .p _=>false
 | .r _ _=>false
def Yg (hl vl:List Nat):PB->Bool
 | .cells l=>l.all (J4 hl vl)
 | .abs _ _=>false
 | _=>true
def jq:List (Nat×PB)->List Nat
 | []=> []
 |(_,.row v _)::l=>v::jq l
 | _::l=>jq l
def xQ {α:Type}:Nat->List (Nat×α)->Bool
 | _,[]=>true
 | n,(k,_)::l=>Nat.beq k n&&xQ (n+1) l
def lK (q q':bl):Bool:=
 let hl:=q'.hp.map (·.1)
 let vl:=jq q'.hp
 kn hl&&((q'.tm.all fun x=>Yh hl vl x.2)&&((q'.hp.all fun x=>Yg hl vl x.2)&&(xQ 0 q'.tm&&(
  (q'.hp.all fun x=>match x.2 with | .row v _=>Nat.ble q.nx v||Nat.blt x.1 q.nx|_=>true)&&(
  (hl.all fun h=>Nat.ble q.nx h||aX (q.hp.map (·.1)) h)&&((q.hp.all fun x=>aX hl x.1&&rb x.2)&&xQ 0 q.tm))))))
def F0 (q q':bl) (M:gF):Bool:=
 (q.hp.all fun x=>match aX M.Z x.1 with
  | true=>(match x.2 with | .row v _=>(find M.σ v).isNone|_=>true)
  | false=>(find M.σ x.1).isSome) &&
 kn (((jq q'.hp).filter fun v=>Nat.blt v M.nx&&!aX M.Z v&&(find M.σ v).isSome).map M.at)
def ax (K:Nat) (q q':bl) (spec:Den (bj q)->List Prop×Den (bj q')):dR:=fun args H m=>
 let st:St:=⟨dz 0 args,[],H,m⟩
 match Fb q st with
 | some x=>let M:=kO q st
  bif F0 q q' M&&(Nat.beq args.length q.tm.length&&Nat.ble q'.nx K) then
   some ((spec x).1,jz (gP M m) (Gj (q'.gV (spec x).2)),jl (gP M m) (q'.dy (spec x).2) ++(bif cV q' then [] else gl H (zQ q st)))
  else none
 | none=>none
theorem jT {α:Type} :∀ {l:List (Nat×α)} {h:Nat},h∈l.map (·.1)->∃ b,find l h=some b
 | [],_,h=>by simp at h
 |(a,b)::l,h,hm=>by
  simp only [find]
  cases hb:Nat.beq a h with
  | true=>exact ⟨b,rfl⟩
  | false=>
   have:h∈l.map (·.1):=by
    rcases List.mem_cons.1 hm with rfl|h1
    ·simp at hb
    ·exact h1
   exact jT this
theorem E5 {ν:Nat->Nat} :∀ {l:List (Nat×bd)},(∀ n n',n∈l.map (·.1)->n'∈l.map (·.1)->ν n=ν n'->n=n')->∀ {h:Nat} {k:bd},find (jl ν l) h=some k->∃ n b,find l n=some b/\ν n=h/\k=jy ν b
 | [],_,_,_,h=>by simp [jl,find] at h
 |(a,b)::l,hi,h,k,hf=>by
  simp only [jl,find] at hf
  cases hb:Nat.beq (ν a) h with
  | true=>rw [hb] at hf;simp only [cond_true,Option.some.injEq] at hf;exact ⟨a,b,by simp [find],Nat.eq_of_beq_eq_true hb,hf.symm⟩
  | false=>
   rw [hb] at hf;obtain ⟨n,b',h1,h2,h3⟩:=E5 (fun n n' h1 h2=>hi n n' (List.mem_cons_of_mem _ h1) (List.mem_cons_of_mem _ h2)) hf;refine ⟨n,b',?_,h2,h3⟩;simp only [find]
   cases hc:Nat.beq a n with
   | true=>obtain rfl:=Nat.eq_of_beq_eq_true hc;rw [h2,Nat.beq_refl] at hb;cases hb
   | false=>exact h1
theorem uE {ν:Nat->Nat} :∀ {l:List (Nat×bd)},(∀ n n',n∈l.map (·.1)->n'∈l.map (·.1)->ν n=ν n'->n=n')->∀ {n:Nat} {b:bd},find l n=some b->find (jl ν l) (ν n)=some (jy ν b)
 | [],_,_,_,h=>by simp [find] at h
 |(a,b0)::l,hi,n,b,hf=>by
  simp only [jl,find] at hf ⊢
  cases hb:Nat.beq a n with
  | true=>obtain rfl:=Nat.eq_of_beq_eq_true hb;rw [hb] at hf;simp only [cond_true,Option.some.injEq] at hf;subst hf;simp
  | false=>
   rw [hb] at hf;have hm:n∈l.map (·.1):=List.mem_map.2 ⟨_,aB hf,rfl⟩
   cases hc:Nat.beq (ν a) (ν n) with
   | true=>
    have e:=hi a n (by simp) (List.mem_cons_of_mem _ hm) (Nat.eq_of_beq_eq_true hc);subst e;simp at hb
   | false=>exact uE (fun n n' h1 h2=>hi n n' (List.mem_cons_of_mem _ h1) (List.mem_cons_of_mem _ h2)) hf
theorem qh {ν:Nat->Nat} :∀ {l:List (Nat×bd)} {h:Nat},find (jl ν l) h=none->∀ n,n∈l.map (·.1)->ν n≠h
 | [],_,_,n,hn=>by simp at hn
 |(a,b0)::l,h,hf,n,hn=>by
  simp only [jl,find] at hf
  cases hb:Nat.beq (ν a) h with
  | true=>rw [hb] at hf;cases hf
  | false=>
   rw [hb] at hf;rcases List.mem_cons.1 hn with rfl|h1
   ·exact fun e=>by rw [e,Nat.beq_refl] at hb;cases hb
   ·exact qh hf n h1
theorem gQ {fl:Bool} {hl vl:List Nat} :∀ {xs ys:List V},fD fl hl vl xs=true->fD fl hl vl ys=true->fD fl hl vl (xs++ys)=true
 | [],_,_,h=>h
 | x::xs,ys,h,h'=>by simp only [fD,Bool.and_eq_true] at h;simp only [List.cons_append,fD,Bool.and_eq_true];exact ⟨h.1,gQ h.2 h'⟩
theorem oT {fl:Bool} {hl vl:List Nat} :∀ n,fD fl hl vl (List.replicate n .any)=true
 | 0=>rfl
 | n+1=>by simp only [List.replicate_succ,fD,okV,Bool.true_and];exact oT n
theorem pQ {hl vl:List Nat} :∀ (f:Nat) (t:Ty) (x:Den t),fD false hl vl (flat f t x)=true
 | 0,t,x=>by rw [show flat 0 t x=List.replicate (sz t) .any from by unfold flat;rfl];exact oT _
 | f+1,.int k,x=>rfl
 | f+1,.bool,x=>rfl
 | f+1,.str,x=>rfl
 | f+1,.unit,x=>rfl
 | f+1,.prod a b,x=>by simp only [flat];exact gQ (pQ f a x.1) (pQ f b x.2)
 | f+1,.slice t,x=>rfl
 | f+1,.nm n,x=>by simp only [flat];exact pQ f _ _
theorem re {fl:Bool} {hl vl:List Nat} :∀ (f:Nat) (t:Ty) (x:Den t),t.kT=true->fD fl hl vl (flat f t x)=true
 | 0,t,x,_=>by rw [show flat 0 t x=List.replicate (sz t) .any from by unfold flat;rfl];exact oT _
 | f+1,.int k,x,_=>rfl
 | f+1,.bool,x,_=>rfl
 | f+1,.str,x,_=>rfl
 | f+1,.unit,x,_=>rfl
 | f+1,.prod a b,x,h=>by simp only [Ty.kT,Bool.and_eq_true] at h;simp only [flat];exact gQ (re f a x.1 h.1) (re f b x.2 h.2)
 | f+1,.slice t,x,h=>by simp [Ty.kT] at h
 | f+1,.nm n,x,h=>by simp [Ty.kT] at h
theorem rh {fl:Bool} {hl vl:List Nat} :∀ (f:Nat) (t:Ty) (x:Den t),t.nO=true->fD fl hl vl (flat f t x)=true
 | 0,t,x,_=>by rw [show flat 0 t x=List.replicate (sz t) .any from by unfold flat;rfl];exact oT _
 | f+1,.int k,x,_=>rfl
 | f+1,.bool,x,_=>rfl
 | f+1,.str,x,_=>rfl
 | f+1,.unit,x,_=>rfl
 | f+1,.prod a b,x,h=>by simp only [Ty.nO,Bool.and_eq_true] at h;simp only [flat];exact gQ (rh f a x.1 h.1) (rh f b x.2 h.2)
 | f+1,.slice t,x,h=>by simp [Ty.nO] at h
 | f+1,.nm n,x,h=>by simp only [flat];exact re f _ _ h
theorem ri {fl:Bool} {hl vl:List Nat} :∀ (f:Nat) (t:Ty) (x:Den t),t.fh=true->fD fl hl vl (flat f t x)=true
 | 0,t,x,_=>by rw [show flat 0 t x=List.replicate (sz t) .any from by unfold flat;rfl];exact oT _
 | f+1,.int k,x,_=>rfl
 | f+1,.bool,x,_=>rfl
 | f+1,.str,x,_=>rfl
 | f+1,.unit,x,_=>rfl
 | f+1,.prod a b,x,h=>by simp only [Ty.fh,Bool.and_eq_true] at h;simp only [flat];exact gQ (ri f a x.1 h.1) (ri f b x.2 h.2)
 | f+1,.slice t,x,h=>by simp [Ty.fh] at h
 | f+1,.nm n,x,h=>by simp only [flat];exact rh f _ _ h
theorem vI {fl:Bool} {hl vl:List Nat} {t:Ty} (h:fl=false\/t.fh=true) (f:Nat) (x:Den t):fD fl hl vl (flat f t x)=true:=by
 rcases h with rfl|h
 ·exact pQ f t x
 ·exact ri f t x h
theorem J5 {fl:Bool} {hl vl:List Nat} {t:Ty} (h:fl=false\/t.fh=true) (x:Den t):okV fl hl vl (gz t x)=true:=by
 cases t with
 | int k=>rfl
 | bool=>rfl
 | str=>rfl
 | unit=>rfl
 | prod a b=>exact vI h gb x
 | nm n=>exact vI h gb x
 | slice t=>
  rcases h with rfl|h
  ·rfl
  ·simp [Ty.fh] at h
mutual
theorem xp {hl vl:List Nat} {fl:Bool} :∀ {v:V},okV true hl vl v=true->okV fl hl vl v=true
 | .ptr _ _,h=>h
 | .osl _ _,h=>h
 | .fn _ cs,h=>pR (vs:=cs) h
 | .agg cs,h=>pR (vs:=cs) h
 | .tup cs,h=>pR (vs:=cs) h
 | .fsl _ _,h=>by simp [okV] at h
 | .fp _ _ _ _,h=>by simp [okV] at h
 | .rp _ _ _ _,h=>by simp [okV] at h
 | .gsl _ _ _ _ _,h=>by simp [okV] at h
 | .gp _ _ _,h=>by simp [okV] at h
 | .mpv _,h=>by simp [okV] at h
 | .av _ _,h=>by simp [okV] at h
 | .any,_=>rfl
 | .int _ _,_=>rfl
 | .bool _,_=>rfl
 | .kb _,_=>rfl
 | .hint _ _,_=>rfl
 | .str _,_=>rfl
 | .nilptr,_=>rfl
 | .nilsl,_=>rfl
 | .esl,_=>rfl
 | .nilfn,_=>rfl
 | .nilmap,_=>rfl
theorem pR {hl vl:List Nat} {fl:Bool} :∀ {vs:List V},fD true hl vl vs=true->fD fl hl vl vs=true
 | [],_=>rfl
 | v::vs,h=>by simp only [fD,Bool.and_eq_true] at h ⊢;exact ⟨xp h.1,pR h.2⟩
end
theorem Pp {fl:Bool} {hl vl:List Nat} {p:vg} {r:Ty} (x:Den (G3 p r)) (h:J4 hl vl p=true) (hf:fl=false\/CJ p=true):fD fl hl vl (oW p r x).1=true:=by
 cases p with
 | c v=>simp only [oW,fD,Bool.and_true];exact xp h
 | h t=>simp only [oW,fD,Bool.and_true];exact J5 hf _
 | d t=>exact vI hf gb _
theorem xq {fl:Bool} {hl vl:List Nat} :∀ {l:List vg} {r:Ty} (x:Den (mF l r)),l.all (J4 hl vl)=true->(fl=false\/l.all CJ=true)->fD fl hl vl (mq l r x).1=true
 | [],_,_,_,_=>rfl
 | p::l,r,x,h,hf=>by simp only [List.all_cons,Bool.and_eq_true] at h hf;simp only [mq];exact gQ (Pp x h.1 (hf.imp id (·.1))) (xq (l:=l) _ h.2 (hf.imp id (·.2)))
theorem SY {fl:Bool} {hl vl:List Nat} {p:PC} {r:Ty} (x:Den (KF p r)) (h:Yh hl vl p=true) (hf:fl=false\/E6 p=true):okV fl hl vl (Dq p r x).1=true:=by
 cases p with
 | c v=>exact xp h
 | h t=>exact J5 hf _
 | a l=>simp only [Dq,okV];exact xq x h hf
 | p t=>exact Bool.noConfusion h
 | r h0 v0=>exact Bool.noConfusion h
theorem I9 {fl:Bool} {hl vl:List Nat} :∀ {l:List (Nat×PC)} {r:Ty} (x:Den (sO l r)),(l.all fun x=>Yh hl vl x.2)=true->(fl=false\/(l.all fun x=>E6 x.2)=true)->∀ s v,(s,v)∈(jF l r x).1->okV fl hl vl v=true
 | [],_,_,_,_,s,v,hm=>by simp [jF] at hm
 |(a,p)::l,r,x,h,hf,s,v,hm=>by
  simp only [List.all_cons,Bool.and_eq_true] at h hf;simp only [jF,List.mem_cons,Prod.mk.injEq] at hm;rcases hm with ⟨rfl,rfl⟩|hm
  ·exact SY x h.1 (hf.imp id (·.1))
  ·exact I9 (l:=l) _ h.2 (hf.imp id (·.2)) s v hm
theorem HS {fl:Bool} {hl vl:List Nat} :∀ {l:List (Nat×PB)} {r:Ty} (x:Den (fS l r)),(l.all fun x=>Yg hl vl x.2)=true->(fl=false\/(l.all fun x=>CK x.2)=true)->∀ h b,(h,b)∈(cN l r x).1->
  match b with
  | .cells cs=>fD fl hl vl cs=true
  | .row v rw t _=>rw=true/\v∈jq l/\(fl=false\/t.fh=true)
  | _=>False
 | [],_,_,_,_,h,b,hm=>by simp [cN] at hm
 |(a,p)::l,r,x,h,hf,h0,b,hm=>by
  simp only [List.all_cons,Bool.and_eq_true] at h hf;simp only [cN,List.mem_cons,Prod.mk.injEq] at hm;rcases hm with ⟨rfl,rfl⟩|hm
  ·cases p with
   | cells cl=>exact xq x h.1 (hf.imp id (·.1))
   | dat t=>exact vI (hf.imp id (·.1)) gb _
   | row v t=>exact ⟨rfl,by simp [jq],hf.imp id (·.1)⟩
   | abs k t=>exact absurd h.1 (by simp [Yg])
  ·have:=HS (l:=l) _ h.2 (hf.imp id (·.2)) h0 b hm
   cases b with
   | cells cs=>exact this
   | row v rw t xs=>
    refine ⟨this.1,?_,this.2.2⟩
    cases p with
    | cells=>exact this.2.1
    | dat=>exact this.2.1
    | row v0 t0=>exact List.mem_cons_of_mem _ this.2.1
    | abs=>exact this.2.1
   | grow=>exact this
   | mp=>exact this
   | abs=>exact this
theorem mY :∀ {l:List (Nat×PB)} {r:Ty} (x:Den (fS l r)),(cN l r x).1.map (·.1)=l.map (·.1)
 | [],_,_=>rfl
 |(a,p)::l,r,x=>by simp only [cN,List.map_cons,mY (l:=l)]
end
section
open Go.RowKit
variable {P:Program}
section
variable {B:aK} {E:Env} {M:gF} {hs:List Nat} {jN hp1:List (Nat×bd)} {m K:Nat} {fl:Bool}
def sY (E:Env) (hp:List (Nat×bd)) (b:Nat):Prop:=∃ n k,find hp n=some k/\fJ E n k b
def aaE (Eb Ed:Env) (ν:Nat->Nat) (hp1:List (Nat×bd)) (m K:Nat) (fl:Bool) (sz0:Nat) (g:Nat->Option Nat):Env:=
 ⟨fun n=>Eb.U n\/(m<=n/\n<m+K),fun h=>match g h with|some n=>Ed.ρ n|none=>Eb.ρ h,
  fun b=>Ed.S b/\(fl=false\/(Eb.S b\/sz0<=b)),Ed.w,aQ Eb.H (jl ν hp1)⟩
theorem zw (hE:aM B E) (hm :∀ n,m<=n->n<m+K->¬ E.U n) (hsub:HSub M (cb E hs) jN)
  (hnd:kn (((jN.map (·.1)).filter fun h=>!aX M.Z h).map M.at)=true)
  {G:Env->Prop} {clo :∀ E E',G E->Ext E E'->G E'} {glb:qG E.w (sY (bX M (cb E hs) jN) jN)} {Ed:Env} (hEd:aM ⟨E.w,sY (bX M (cb E hs) jN) jN,(cb E hs).S,G,clo,glb,[]⟩ Ed) (hH:Ed.H=aQ (fun _=>none) hp1)
  (X:Ext (bX M (cb E hs) jN) Ed) {nx1:Nat} (hU :∀ n,Ed.U n->n<nx1) (hnx:nx1<=K) {vl:List Nat}
  (hk :∀ n k,(n,k)∈hp1->match k with | .cells cs=>fD fl (hp1.map (·.1)) vl cs=true | .row v rw t _=>rw=true/\v∈vl/\(fl=false\/t.fh=true)|_=>False)
  (hvl :∀ v,v∈vl->∃ n t xs,find hp1 n=some (.row v true t xs))
  (c1 :∀ n,n∈hp1.map (·.1)->M.nx<=n\/n∈jN.map (·.1)) (c2 :∀ n,n∈jN.map (·.1)->n∈hp1.map (·.1))
  (c3 :∀ n v rw t xs,find hp1 n=some (.row v rw t xs)->M.nx<=v\/n<M.nx)
  (c4 :∀ n,n∈jN.map (·.1)->aX M.Z n=false->(find M.σ n).isSome=true)
  (c5 :∀ n v rw t xs,find jN n=some (.row v rw t xs)->aX M.Z n=true->find M.σ v=none)
  (c6 :∀ v v',v∈vl->v'∈vl->v<M.nx->v'<M.nx->aX M.Z v=false->aX M.Z v'=false->(find M.σ v).isSome=true->(find M.σ v').isSome=true->M.at v=M.at v'->v=v') :
  ∃ E',GoodK B E m K (jl (gP M m) hp1 ++(bif fl then [] else gl E.H hs)) Ed.w E'/\(∀ v u,okV fl (hp1.map (·.1)) vl v=true->ae Ed v u->ae E' (jz (gP M m) v) u):=by
 classical
 obtain ⟨hE1,X1⟩:=dI hE hs;have hE2:=pz hE1 hsub hnd;have d1 :(cb E hs).w=E.w:=rfl;have d2 :(cb E hs).U=E.U:=rfl;have d3 :(cb E hs).ρ=E.ρ:=rfl;have d4 :(cb E hs).H=vb E.H hs:=rfl;generalize hq1:cb E hs=E1 at *
 have old :∀ n k,find jN n=some k->aX M.Z n=false->(∃ k0,E1.H (M.at n)=some k0)/\E.U (M.at n)/\(bX M E1 jN).ρ n=E.ρ (M.at n):=fun n k hf hz=>by
  have hx :∃ k0,E1.H (M.at n)=some k0:=by
   cases k with
   | cells cs=>obtain ⟨_,cs0,h⟩:=hsub.cells _ _ hf;exact ⟨_,h⟩
   | row ver rw t xs=>
    rcases (hsub.row _ _ _ _ _ hf).2 with ⟨hz',_⟩ |⟨_,h⟩
    ·rw [hz] at hz';cases hz'
    ·exact ⟨_,h⟩
   | grow ver esz cs=>obtain ⟨_,_,cs0,h,_⟩:=hsub.grow _ _ _ _ hf;exact ⟨_,h⟩
   | mp es=>exact (hsub.nomp _ _ hf).elim
   | abs kk t x=>exact ⟨_,(hsub.abs _ _ _ _ hf).2⟩
  refine ⟨hx,?_,?_⟩
  ·obtain ⟨k0,h0⟩:=hx
   have:=hE1.used _ _ h0
   rw [d2] at this;exact this
  ·simp only [bX,hz,Bool.false_eq_true,if_false,d3]
 have nu_old :∀ n,n<M.nx->aX M.Z n=false->∀ k,find M.σ n=some k->gP M m n=k/\M.at n=k:=fun n h1 h2 k h3=>by
  have:Nat.blt n M.nx=true:=by simpa using h1
  constructor
  ·unfold gP;rw [this,h2,h3];rfl
  ·unfold gF.at;rw [h3]
 have nu_cases :∀ n,(gP M m n=m+n)\/(n<M.nx/\aX M.Z n=false/\(find M.σ n).isSome=true/\gP M m n=M.at n):=fun n=>by
  cases hb :(Nat.blt n M.nx&&!aX M.Z n) with
  | false=>left;unfold gP;rw [hb];rfl
  | true=>
   simp only [Bool.and_eq_true,Nat.blt_eq,Bool.not_eq_true'] at hb
   cases hf:find M.σ n with
   | none=>left;unfold gP;rw [hf,hb.2];cases Nat.blt n M.nx <;> rfl
   | some k=>obtain ⟨h1,h2⟩:=nu_old n hb.1 hb.2 k hf;exact .inr ⟨hb.1,hb.2,by simp,by rw [h1,h2]⟩
 have find1 :∀ n k,Ed.H n=some k->find hp1 n=some k:=fun n k h=>bc (by rw [<-hH];exact h);have find1' :∀ n k,find hp1 n=some k->Ed.H n=some k:=fun n k h=>by rw [hH];exact dE h
 have lt1 :∀ n,n∈hp1.map (·.1)->n<nx1:=fun n hn=>by obtain ⟨b,hb⟩:=jT hn;exact hU _ (hEd.used _ _ (find1' _ _ hb))
 have lt0 :∀ n,n∈jN.map (·.1)->n<M.nx:=fun n hn=>by obtain ⟨b,hb⟩:=jT hn;exact hsub.lt _ _ hb
 have key1 :∀ {n k},find hp1 n=some k->n∈hp1.map (·.1):=fun h=>List.mem_map.2 ⟨_,aB h,rfl⟩;have key0 :∀ {n k},find jN n=some k->n∈jN.map (·.1):=fun h=>List.mem_map.2 ⟨_,aB h,rfl⟩;have fresh :∀ n,n<nx1->¬ E.U (m+n):=fun n hn=>hm _ (Nat.le_add_right _ _) (by omega)
 have hnd2 :∀ n,n∈hp1.map (·.1)->(gP M m n=m+n)\/(n∈jN.map (·.1)/\aX M.Z n=false/\gP M m n=M.at n/\E.U (M.at n)):=fun n hn=>by
  rcases nu_cases n with h |⟨h1,h2,h3,h4⟩
  ·exact .inl h
  ·rcases c1 n hn with h5|h5
   ·omega
   ·obtain ⟨b,hb⟩:=jT h5;exact .inr ⟨h5,h2,h4,(old _ _ hb h2).2.1⟩
 have inj :∀ n n',n∈hp1.map (·.1)->n'∈hp1.map (·.1)->gP M m n=gP M m n'->n=n':=fun n n' hn hn' e=>by
  have mix :∀ n n',n∈hp1.map (·.1)->gP M m n=m+n->E.U (M.at n')->gP M m n'=M.at n'->gP M m n=gP M m n'->False:=fun n n' hn h1 h2 h3 e=>by rw [h1,h3] at e;rw [<-e] at h2;exact fresh n (lt1 n hn) h2
  rcases hnd2 n hn with h1 |⟨h1,z1,e1,u1⟩
  ·rcases hnd2 n' hn' with h2 |⟨h2,z2,e2,u2⟩
   ·omega
   ·exact (mix n n' hn h1 u2 e2 e).elim
  ·rcases hnd2 n' hn' with h2 |⟨h2,z2,e2,u2⟩
   ·exact (mix n' n hn' h2 u1 e1 e.symm).elim
   ·have nd:=iG.1 hnd;have mem :∀ {n},n∈jN.map (·.1)->aX M.Z n=false->n∈((jN.map (·.1)).filter fun h=>!aX M.Z h):=fun {n} hm hz=>List.mem_filter.2 ⟨hm,by simp [hz]⟩;exact gk nd (mem h1 z1) (mem h2 z2) (by rw [<-e1,<-e2,e])
 have verU :∀ v,v∈vl->(gP M m v=m+v/\v<nx1)\/(v<M.nx/\aX M.Z v=false/\(find M.σ v).isSome=true/\gP M m v=M.at v/\E.U (M.at v)):=fun v hv=>by
  obtain ⟨n,t,xs,hf⟩:=hvl v hv;have hx:=find1' _ _ hf;have hb:=hEd.blk _ _ hx;have hvU:=hU _ hb.1;rcases nu_cases v with h |⟨h1,h2,h3,h4⟩
  ·exact .inl ⟨h,hvU⟩
  ·right
   refine ⟨h1,h2,h3,h4,?_⟩
   have hn:n<M.nx:=by
    rcases c3 _ _ _ _ _ hf with h|h
    ·omega
    ·exact h
   obtain ⟨rw0,xs0,g1,_,_,_⟩:=X.hr n v true t xs hn h1 hx;have g1':=bc g1;rcases (hsub.row _ _ _ _ _ g1').2 with ⟨hz,_⟩ |⟨hz,g2⟩
   ·have:=c5 _ _ _ _ _ g1' hz
    rw [this] at h3;cases h3
   ·have:=(hE1.blk _ _ g2).1
    rw [d2] at this;exact this
 have verInj :∀ v v',v∈vl->v'∈vl->gP M m v=gP M m v'->v=v':=fun v v' hv hv' e=>by
  rcases verU v hv with ⟨h1,l1⟩ |⟨h1,z1,s1,e1,u1⟩
  ·rcases verU v' hv' with ⟨h2,l2⟩ |⟨h2,z2,s2,e2,u2⟩
   ·omega
   ·rw [h1,e2] at e;rw [<-e] at u2;exact (fresh v l1 u2).elim
  ·rcases verU v' hv' with ⟨h2,l2⟩ |⟨h2,z2,s2,e2,u2⟩
   ·rw [e1,h2] at e;rw [e] at u1;exact (fresh v' l2 u1).elim
   ·exact c6 v v' hv hv' h1 h2 z1 z2 s1 s2 (by rw [<-e1,<-e2,e])
 obtain ⟨Eb,hEb,XEb,bU,bρ,bw,bS,bS2,bH,bfl⟩ :∃ Eb:Env,aM B Eb/\Ext E Eb/\Eb.U=E.U/\Eb.ρ=E.ρ/\Eb.w=E.w/\(∀ b,Eb.S b->E1.S b)/\(fl=false->Eb=E1)/\
   (∀ h k b,Eb.H h=some k->fJ Eb h k b->∃ k',E1.H h=some k'/\fJ E1 h k' b)/\Eb.H=aQ E.H (bif fl then [] else gl E.H hs):=by
  cases fl with
  | true=>exact ⟨E,hE,Ext.refl E,rfl,rfl,rfl,fun b hb=>by rw [<-hq1];exact .inl hb,(fun h=>by cases h),fun h k b hx ht=>by
    obtain ⟨k',h1,h2⟩ :∃ k',vb E.H hs h=some k'/\∀ b',uy E.w k' b'=uy E.w k b':=by unfold vb;rw [hx];cases k <;> exact ⟨_,rfl,fun _=>rfl⟩
    refine ⟨k',by rw [d4];exact h1,?_⟩;rw [<-hq1]
    exact ht.imp id fun ⟨b0,c1,c2⟩=>⟨b0,c1,(h2 b0).trans c2⟩,(by funext h;simp [aQ,find])⟩
  | false=>exact ⟨E1,hE1,X1,d2,d3,d1,fun _ h=>h,fun _=>rfl,fun h k b hx ht=>⟨k,hx,ht⟩,by rw [d4];funext h;exact (mU E.H hs h).symm⟩
 have bcells :∀ h cs,E1.H h=some (.cells cs)->Eb.H h=some (.cells cs):=fun h cs hx=>by
  cases hf:fl with
  | false=>rw [bS2 hf];exact hx
  | true=>rw [bfl,hf,<-hq1] at *;simp only [cond_true];rw [show aQ E.H [] h=E.H h from by simp [aQ,find]];exact pT.1 hx
 have brow :∀ h v rw t xs,E1.H h=some (.row v rw t xs)->∃ rw',Eb.H h=some (.row v rw' t xs):=fun h v rw t xs hx=>by
  cases hf:fl with
  | false=>rw [bS2 hf];exact ⟨_,hx⟩
  | true=>rw [d4] at hx;obtain ⟨rw',h1,_⟩:=vJ hx;refine ⟨rw',?_⟩;rw [bfl,hf];simp only [cond_true];rw [show aQ E.H [] h=E.H h from by simp [aQ,find]];exact h1
 let g:Nat->Option Nat:=fun h=>if hx :∃ n,n∈hp1.map (·.1)/\gP M m n=h then some (Classical.choose hx) else none
 have g_some :∀ n,n∈hp1.map (·.1)->g (gP M m n)=some n:=fun n hn=>by
  have hx :∃ n',n'∈hp1.map (·.1)/\gP M m n'=gP M m n:=⟨n,hn,rfl⟩;show (if hx :∃ n',n'∈hp1.map (·.1)/\gP M m n'=gP M m n then some (Classical.choose hx) else none)=some n;rw [dif_pos hx]
  have:=Classical.choose_spec hx
  rw [inj _ _ this.1 hn this.2]
 have g_none :∀ h,(∀ n,n∈hp1.map (·.1)->gP M m n≠h)->g h=none:=fun h hh=>dif_neg fun ⟨n,h1,h2⟩=>hh n h1 h2
 let E':Env:=aaE Eb Ed (gP M m) hp1 m K fl E.w.heap.size g
 have ρnew :∀ n,n∈hp1.map (·.1)->E'.ρ (gP M m n)=Ed.ρ n:=fun n hn=>by show (match g (gP M m n) with|some n=>Ed.ρ n|none=>Eb.ρ (gP M m n))=_;rw [g_some n hn]
 have ρold :∀ h,(∀ n,n∈hp1.map (·.1)->gP M m n≠h)->E'.ρ h=E.ρ h:=fun h hh=>by show (match g h with|some n=>Ed.ρ n|none=>Eb.ρ h)=_;rw [g_none h hh,bρ]
 have Hcases :∀ h k,E'.H h=some k->(∃ n b,find hp1 n=some b/\gP M m n=h/\k=jy (gP M m) b)\/((∀ n,n∈hp1.map (·.1)->gP M m n≠h)/\Eb.H h=some k):=fun h k hx=>by
  have hx:aQ Eb.H (jl (gP M m) hp1) h=some k:=hx;unfold aQ at hx
  cases hf:find (jl (gP M m) hp1) h with
  | some k'=>rw [hf] at hx;simp only [Option.some.injEq] at hx;subst hx;exact .inl (E5 inj hf)
  | none=>rw [hf] at hx;exact .inr ⟨qh hf,hx⟩
 have Hnew :∀ n b,find hp1 n=some b->E'.H (gP M m n)=some (jy (gP M m) b):=fun n b hf=>by show aQ Eb.H (jl (gP M m) hp1) (gP M m n)=_;unfold aQ;rw [uE inj hf]
 have hsz:E.w.heap.size<=Ed.w.heap.size:=hEd.keeps.size;have hB0:B.w0.heap.size<=E.w.heap.size:=hE.keeps.size
 have Fown :∀ b,sY (bX M E1 jN) jN b->∃ n k0,n∈jN.map (·.1)/\aX M.Z n=false/\E1.H (M.at n)=some k0/\fJ E1 (M.at n) k0 b:=fun b ⟨n,k,hf,hb⟩=>by obtain ⟨hz,k0,h1,h3⟩:=GW hsub.toHSub0 hf hb;exact ⟨n,k0,key0 hf,hz,h1,h3⟩
 have Fnot :∀ h k b,(∀ n,n∈hp1.map (·.1)->gP M m n≠h)->Eb.H h=some k->fJ Eb h k b->¬ sY (bX M E1 jN) jN b:=fun h k b hh hx hb hF=>by
  obtain ⟨n,k0,h1,h2,h3,h4⟩:=Fown b hF;obtain ⟨k',h5,hb5⟩:=bH h k b hx hb;have e:=hE1.inj' _ _ _ _ b h5 h3 hb5 h4;have h6:=c4 n h1 h2
  cases h7:find M.σ n with
  | none=>rw [h7] at h6;cases h6
  | some j=>obtain ⟨h8,h9⟩:=nu_old n (lt0 n h1) h2 j h7;exact hh n (c2 n h1) (by rw [h8,<-h9,e])
 have same' :∀ h k b,(∀ n,n∈hp1.map (·.1)->gP M m n≠h)->Eb.H h=some k->fJ Eb h k b->Ed.w.heap[b]?=E.w.heap[b]?:=fun h k b hh hx hb=>by have hl:=hEb.lt' _ _ _ hx hb;rw [bw] at hl;exact hEd.keeps.block b hl (Fnot h k b hh hx hb)
 have same :∀ h k b,(∀ n,n∈hp1.map (·.1)->gP M m n≠h)->Eb.H h=some k->E.ρ h=some b->Ed.w.heap[b]?=E.w.heap[b]?:=fun h k b hh hx hb=>same' h k b hh hx (.inl (by rw [bρ];exact hb))
 have tOld :∀ {h k b},(∀ n,n∈hp1.map (·.1)->gP M m n≠h)->Eb.H h=some k->fJ E' h k b->fJ Eb h k b:=fun {h k b} hh hx ht=>
  ht.mv (by rw [ρold h hh,bρ]) fun b' hb'=>by show Ed.w.heap[b']?=_;rw [bw];exact same' h k b' hh hx (.inl hb')
 have tNew :∀ {n b0 b},find hp1 n=some b0->fJ E' (gP M m n) (jy (gP M m) b0) b->Ed.ρ n=some b:=fun {n b0 b} hf ht=>by
  have ha :(jy (gP M m) b0).Fh=false:=by
   have:=hk _ _ (aB hf)
   cases b0 <;> first|rfl|exact this.elim
  have:=ht.of ha
  rwa [ρnew n (key1 hf)] at this
 have S1 :∀ b,E1.S b->Ed.S b:=fun b hb=>hEd.s0 b hb;have SE :∀ b,Eb.S b->E'.S b:=fun b hb=>⟨S1 _ (bS b hb),.inr (.inl hb)⟩;have Sd :∀ b,E'.S b->Ed.S b:=fun b hb=>hb.1
 have keepS :∀ b,E1.S b->Ed.w.heap[b]?=E.w.heap[b]?:=fun b hb=>by
  have:=X.keepS b hb
  rw [show (bX M E1 jN).w=E1.w from rfl,d1] at this;exact this
 have XE:Ext Eb E':=by
  refine ⟨fun n h=> .inl h,SE,fun b hb=>by rw [bw];exact keepS b (bS b hb),fun h cs hu hx=>?_,fun h ver rw t xs hu hv hx=>?_,fun h ver esz cs hu hv hx=>?_,fun h es hu hx=>?_,fun h kk t x hu hx=>?_⟩
  case refine_5=>
   rcases Hcases _ _ hx with ⟨n,b,hf,rfl,hkb⟩ |⟨hh,hx0⟩
   ·cases b with
    | cells=>simp [jy] at hkb
    | row=>simp [jy] at hkb
    | grow=>exact (hk _ _ (aB hf)).elim
    | mp=>exact (hk _ _ (aB hf)).elim
    | abs=>exact (hk _ _ (aB hf)).elim
   ·exact ⟨⟨x,hx0⟩,by rw [ρold h hh,bρ]⟩
  ·rcases Hcases _ _ hx with ⟨n,b,hf,rfl,hkb⟩ |⟨hh,hx0⟩
   ·cases b with
    | cells cs0=>
     rcases hnd2 n (key1 hf) with h1 |⟨h1,z1,e1,u1⟩
     ·rw [h1,bU] at hu;exact (fresh n (lt1 n (key1 hf)) hu).elim
     ·obtain ⟨⟨cs2,g1⟩,g2⟩:=X.hc n cs0 (lt0 n h1) (find1' _ _ hf);obtain ⟨_,cs3,g3⟩:=hsub.cells _ _ (bc g1);rw [e1];refine ⟨⟨cs3,bcells _ _ g3⟩,?_⟩;rw [<-e1,ρnew n (key1 hf),g2,(old _ _ (bc g1) z1).2.2,e1,bρ]
    | row=>simp [jy] at hkb
    | grow=>exact (hk _ _ (aB hf)).elim
    | mp=>exact (hk _ _ (aB hf)).elim
    | abs=>exact (hk _ _ (aB hf)).elim
   ·exact ⟨⟨cs,hx0⟩,by rw [ρold h hh,bρ]⟩
  ·rcases Hcases _ _ hx with ⟨n,b,hf,rfl,hkb⟩ |⟨hh,hx0⟩
   ·cases b with
    | row v0 rw0 t0 xs0=>
     simp only [jy,bd.row.injEq] at hkb;obtain ⟨rfl,rfl,rfl,hxs⟩:=hkb;have hxs:=eq_of_heq hxs;subst hxs;obtain ⟨hrw,hvv,_⟩:=hk _ _ (aB hf);rcases hnd2 n (key1 hf) with h1 |⟨h1,z1,e1,u1⟩
     ·rw [h1,bU] at hu;exact (fresh n (lt1 n (key1 hf)) hu).elim
     ·rcases verU v0 hvv with ⟨h2,l2⟩ |⟨h2,z2,s2,e2,u2⟩
      ·rw [h2,bU] at hv;exact (fresh v0 l2 hv).elim
      ·obtain ⟨rw1,xs1,g1,g2,g3,g4⟩:=X.hr n v0 rw t xs (lt0 n h1) h2 (find1' _ _ hf);rcases (hsub.row _ _ _ _ _ (bc g1)).2 with ⟨hz,_⟩ |⟨_,g5⟩
       ·rw [z1] at hz;cases hz
       ·obtain ⟨rw2,g6⟩:=brow _ _ _ _ _ g5;have gρ:=(old _ _ (bc g1) z1).2.2;refine ⟨rw2,xs1,?_,g2,?_,fun b c T fr hb hw=>?_⟩
        ·rw [e1,e2];exact g6
        ·rw [ρnew n (key1 hf),g3,gρ,e1,bρ]
        ·rw [e1,bρ] at hb;rw [bw,<-d1] at hw;obtain ⟨c',T',fr',k1,k2⟩:=g4 b c T fr (by rw [gρ];exact hb) hw;exact ⟨c',T',fr',k1,k2⟩
    | cells=>simp [jy] at hkb
    | grow=>exact (hk _ _ (aB hf)).elim
    | mp=>exact (hk _ _ (aB hf)).elim
    | abs=>exact (hk _ _ (aB hf)).elim
   ·refine ⟨rw,xs,hx0,rfl,by rw [ρold h hh,bρ],fun b c T fr hb hw=>⟨c,T,fr,?_,rfl⟩⟩;rw [bρ] at hb;rw [bw] at hw;show Ed.w.heap[b]?=_;rw [same h _ b hh hx0 hb];exact hw
  ·rcases Hcases _ _ hx with ⟨n,b,hf,rfl,hkb⟩ |⟨hh,hx0⟩
   ·cases b with
    | cells=>simp [jy] at hkb
    | row=>simp [jy] at hkb
    | grow=>exact (hk _ _ (aB hf)).elim
    | mp=>exact (hk _ _ (aB hf)).elim
    | abs=>exact (hk _ _ (aB hf)).elim
   ·refine ⟨cs,hx0,rfl,by rw [ρold h hh,bρ],fun b c T fr hb hw=>⟨c,T,fr,?_,rfl⟩⟩;rw [bρ] at hb;rw [bw] at hw;show Ed.w.heap[b]?=_;rw [same h _ b hh hx0 hb];exact hw
  ·rcases Hcases _ _ hx with ⟨n,b,hf,rfl,hkb⟩ |⟨hh,hx0⟩
   ·cases b with
    | cells=>simp [jy] at hkb
    | row=>simp [jy] at hkb
    | grow=>exact (hk _ _ (aB hf)).elim
    | mp=>exact (hk _ _ (aB hf)).elim
    | abs=>exact (hk _ _ (aB hf)).elim
   ·exact ⟨⟨es,hx0⟩,by rw [ρold h hh,bρ]⟩
 have hUh :∀ n,n∈hp1.map (·.1)->E'.U (gP M m n):=fun n hn=>by
  rcases hnd2 n hn with h1 |⟨_,_,e1,u1⟩
  ·rw [h1];exact .inr ⟨by omega,by have:=lt1 n hn;omega⟩
  ·rw [e1];exact .inl (by rw [bU];exact u1)
 have hUv :∀ v,v∈vl->E'.U (gP M m v):=fun v hv=>by
  rcases verU v hv with ⟨h1,l1⟩ |⟨_,_,_,e1,u1⟩
  ·rw [h1];exact .inr ⟨by omega,by omega⟩
  ·rw [e1];exact .inl (by rw [bU];exact u1)
 have sameS:fl=false->∀ b,Ed.S b->E'.S b:=fun hf b hb=>⟨hb,.inl hf⟩
 have vals :(∀ v:V,∀ u,okV fl (hp1.map (·.1)) vl v=true->ae Ed v u->ae E' (jz (gP M m) v) u):=by
  intro v
  refine V.rec (motive_1:=fun v=>∀ u,okV fl (hp1.map (·.1)) vl v=true->ae Ed v u->ae E' (jz (gP M m) v) u)
   (motive_2:=fun vs=>∀ us,fD fl (hp1.map (·.1)) vl vs=true->ai Ed vs us->ai E' (pc (gP M m) vs) us)
   ?_ ?_ ?_ ?_ ?_ ?_ ?_ ?_ ?_ ?_ ?_ ?_ ?_ ?_ ?_ ?_ ?_ ?_ ?_ ?_ ?_ ?_ ?_ ?_ ?_ v
  ·intro u _ _;simp [jz,ae]
  ·intro k n u _ h;simpa only [jz,ae] using h
  ·intro b u _ h;simpa only [jz,ae] using h
  ·intro b u _ h;simpa only [jz,ae] using h
  ·intro q p u _ h;simpa only [jz,ae] using h
  ·intro s u _ h;simpa only [jz,ae] using h
  ·intro u _ h;simpa only [jz,ae] using h
  ·intro h off u hok hv;simp only [okV] at hok;have hn:=bp.1 hok;simp only [ae] at hv;simp only [jz,ae];obtain ⟨h1,h2,h3⟩:=hv;refine ⟨hUh h hn,h2,fun cs hx=>?_⟩;obtain ⟨b0,hb0⟩:=jT hn;have e:=Hnew _ _ hb0;rw [e] at hx
   cases b0 with
   | cells cs0=>obtain ⟨b,k1,k2⟩:=h3 cs0 (find1' _ _ hb0);exact ⟨b,by rw [ρnew h hn];exact k1,k2⟩
   | row=>simp [jy] at hx
   | grow=>simp [jy] at hx
   | mp=>simp [jy] at hx
   | abs=>simp [jy] at hx
  ·intro t xs i off u hok hv;simp only [okV,Bool.not_eq_true'] at hok;simp only [jz,ae] at hv ⊢;obtain ⟨b,o,c,T,fr,h1,h2,h3,h4,h5⟩:=hv;exact ⟨b,o,c,T,fr,sameS hok b h1,h2,h3,fun j hj=>(h4 j hj).ext (sameS hok) (fun _ _=>rfl),h5⟩
  ·intro h ver i off u hok;simp [okV] at hok
  ·intro u _ h;simpa only [jz,ae] using h
  ·intro u _ h;simpa only [jz,ae] using h
  ·intro h ver u hok hv;simp only [okV,Bool.and_eq_true] at hok;have hn:=bp.1 hok.1;have hvv:=bp.1 hok.2;simp only [ae] at hv;simp only [jz,ae];obtain ⟨h1,h2,h3,h4⟩:=hv;refine ⟨hUh h hn,hUv ver hvv,h3,fun rw t xs hx=>?_⟩;obtain ⟨b0,hb0⟩:=jT hn;have e:=Hnew _ _ hb0;rw [e] at hx
   cases b0 with
   | row v0 rw0 t0 xs0=>
    simp only [jy,Option.some.injEq,bd.row.injEq] at hx;obtain ⟨e1,rfl,rfl,hxs⟩:=hx;have hxs:=eq_of_heq hxs;subst hxs
    have:=verInj _ _ (hk _ _ (aB hb0)).2.1 hvv e1
    subst this;rcases h4 _ _ _ (find1' _ _ hb0) with ⟨k1,k2⟩ |⟨b,cap,c,T,fr,k1,k2,k3,k4,k5⟩
    ·exact .inl ⟨by rw [ρnew h hn];exact k1,k2⟩
    ·exact .inr ⟨b,cap,c,T,fr,by rw [ρnew h hn];exact k1,k2,k3,k4,k5⟩
   | cells=>simp [jy] at hx
   | grow=>simp [jy] at hx
   | mp=>simp [jy] at hx
   | abs=>simp [jy] at hx
  ·intro t xs u hok hv;simp only [okV,Bool.not_eq_true'] at hok;simp only [jz,ae] at hv ⊢;exact hv.ext (sameS hok) (fun _ _=>rfl)
  ·intro a b c d e u hok;simp [okV] at hok
  ·intro a b c u hok;simp [okV] at hok
  ·intro a u hok;simp [okV] at hok
  ·intro a b u hok;simp [okV] at hok
  ·intro u _ h;simpa only [jz,ae] using h
  ·intro u _ h;simpa only [jz,ae] using h
  ·intro f cs ih u hok hv;simp only [okV] at hok;simp only [jz,ae] at hv ⊢;obtain ⟨l,h1,h2⟩:=hv;exact ⟨l,h1,ih _ hok h2⟩
  ·intro cs ih u hok hv;simp only [okV] at hok;simp only [jz,ae] at hv ⊢;obtain ⟨l,h1,h2⟩:=hv;exact ⟨l,h1,ih _ hok h2⟩
  ·intro cs ih u hok hv;simp only [okV] at hok;simp only [jz,ae] at hv ⊢;obtain ⟨l,h1,h2⟩:=hv;exact ⟨l,h1,ih _ hok h2⟩
  ·intro us _ h
   cases us with
   | nil=>simp [pc,ai]
   | cons=>simp [ai] at h
  ·intro v vs ih1 ih2 us hok h;simp only [fD,Bool.and_eq_true] at hok
   cases us with
   | nil=>simp [ai] at h
   | cons u us=>simp only [ai] at h;simp only [pc,ai];exact ⟨ih1 u hok.1 h.1,ih2 us hok.2 h.2⟩
 have valss :∀ vs us,fD fl (hp1.map (·.1)) vl vs=true->ai Ed vs us->ai E' (pc (gP M m) vs) us:=by
  intro vs
  induction vs with
  | nil=>intro us _ h;cases us with|nil=>simp [pc,ai]|cons=>simp [ai] at h
  | cons v vs ih=>
   intro us hok h;simp only [fD,Bool.and_eq_true] at hok
   cases us with
   | nil=>simp [ai] at h
   | cons u us=>simp only [ai] at h;simp only [pc,ai];exact ⟨vals v u hok.1 h.1,ih us hok.2 h.2⟩
 have Rl:aM B E':=by
  refine ⟨fun h k hx=>?_,fun b hs=>hEd.stab b hs.1,fun h k b hx hb=>?_,fun h h' k k' b h1 h2 b1 b2=>?_,fun h k hx=>?_,?_,fun h k b hx hb=>?_,fun b hs=>SE b (hEb.s0 b hs),fun b hs=>?_⟩
  ·rcases Hcases _ _ hx with ⟨n,b,hf,rfl,_⟩ |⟨hh,hx0⟩
   ·exact hUh n (key1 hf)
   ·exact .inl (hEb.used _ _ hx0)
  ·rcases Hcases _ _ hx with ⟨n,b0,hf,rfl,rfl⟩ |⟨hh,hx0⟩
   ·exact hEd.lt _ _ _ (find1' _ _ hf) (tNew hf hb)
   ·have:=hEb.lt' _ _ _ hx0 (tOld hh hx0 hb)
    rw [bw] at this;exact Nat.lt_of_lt_of_le this hsz
  ·have mix :∀ n b0 h' k',find hp1 n=some b0->(∀ n,n∈hp1.map (·.1)->gP M m n≠h')->Eb.H h'=some k'->Ed.ρ n=some b->fJ Eb h' k' b->False:=fun n b0 h' k' hf hh hx0 c1 c2=>by
    rcases hEd.own _ _ _ (find1' _ _ hf) c1 with h|h
    ·exact Fnot h' k' b hh hx0 c2 h
    ·have:=hEb.lt' _ _ _ hx0 c2
     rw [bw] at this;exact absurd (show E.w.heap.size<=b from h) (by omega)
   rcases Hcases _ _ h1 with ⟨n,b0,hf,rfl,rfl⟩ |⟨hh,hx0⟩
   ·replace b1:=tNew hf b1
    rcases Hcases _ _ h2 with ⟨n',b0',hf',rfl,rfl⟩ |⟨hh',hx0'⟩
    ·replace b2:=tNew hf' b2
     rw [hEd.inj _ _ _ _ _ (find1' _ _ hf) (find1' _ _ hf') b1 b2]
    ·exact (mix n b0 h' k' hf hh' hx0' b1 (tOld hh' hx0' b2)).elim
   ·replace b1:=tOld hh hx0 b1
    rcases Hcases _ _ h2 with ⟨n',b0',hf',rfl,rfl⟩ |⟨hh',hx0'⟩
    ·exact (mix n' b0' h k hf' hh hx0 (tNew hf' b2) b1).elim
    ·exact hEb.inj' _ _ _ _ _ hx0 hx0' b1 (tOld hh' hx0' b2)
  ·rcases Hcases _ _ hx with ⟨n,b0,hf,rfl,rfl⟩ |⟨hh,hx0⟩
   ·have hbl:=hEd.blk _ _ (find1' _ _ hf)
    cases b0 with
    | cells cs=>obtain ⟨b,c,T,fr,k1,k2,k3,k4,k5⟩:=hbl;exact ⟨b,c,T,fr,by rw [ρnew n (key1 hf)];exact k1,k2,k3,fun hs=>k4 hs.1,valss _ _ (hk _ _ (aB hf)) k5⟩
    | row v0 rw0 t0 xs0=>
     obtain ⟨hrw,hvv,hfb⟩:=hk _ _ (aB hf);obtain ⟨_,hbl⟩:=hbl;refine ⟨hUv v0 hvv,?_⟩;rw [ρnew n (key1 hf)];rcases hbl with hbl |⟨b,c,T,fr,k1,k2,k3,k4,k5,k6,k7,k8⟩
     ·exact .inl hbl
     ·refine .inr ⟨b,c,T,fr,k1,k2,k3,fun h hs=>k4 h hs.1,(fun h=>by rw [hrw] at h;cases h),k6,k7,fun i hi=>?_⟩;rcases hfb with hfb|hfb
      ·exact (k8 i hi).ext (sameS hfb) (fun _ _=>rfl)
      ·exact (k8 i hi).fh hfb
    | grow=>exact (hk _ _ (aB hf)).elim
    | mp=>exact (hk _ _ (aB hf)).elim
    | abs=>exact (hk _ _ (aB hf)).elim
   ·refine di XE (by rw [ρold h hh,bρ]) (fun b hb=>?_) (fun b hb _ hs hs'=>?_) (hEb.blk _ _ hx0)
    ·rw [bw];exact same' h k b hh hx0 hb
    ·have hl:=hEb.lt' _ _ _ hx0 hb;rw [bw] at hl;obtain ⟨hd,hc⟩:=hs';rcases hEd.sb b hd with h1|h1|h1
     ·rcases hc with hc|hc|hc
      ·rw [bS2 hc] at hs;exact hs h1
      ·exact hs hc
      ·omega
     ·exact Fnot h k b hh hx0 hb h1
     ·exact absurd (show E.w.heap.size<=b from h1) (by omega)
  ·exact hE.keeps.trans hEd.keeps fun b hF=>by obtain ⟨n,k0,_,_,h3,h4⟩:=Fown b hF;exact hE1.own' _ _ _ h3 h4
  ·rcases Hcases _ _ hx with ⟨n,b0,hf,rfl,rfl⟩ |⟨hh,hx0⟩
   ·replace hb:=tNew hf hb
    rcases hEd.own _ _ _ (find1' _ _ hf) hb with h|h
    ·obtain ⟨n,k0,_,_,h3,h4⟩:=Fown b h;exact hE1.own' _ _ _ h3 h4
    ·exact .inr (Nat.le_trans hB0 h)
   ·exact hEb.own' _ _ _ hx0 (tOld hh hx0 hb)
  ·rcases hEd.sb b hs.1 with h|h|h
   ·exact hE1.sb b h
   ·obtain ⟨n,k0,_,_,h3,h4⟩:=Fown b h;exact .inr (hE1.own' _ _ _ h3 h4)
   ·exact .inr (.inr (Nat.le_trans hB0 h))
 refine ⟨E',⟨Rl,XEb.trans XE,rfl,?_,fun n hn=>?_⟩,vals⟩
 ·show aQ Eb.H (jl (gP M m) hp1)=_;rw [cY,bfl]
 ·rcases hn with h|h
  ·exact .inl (by rw [<-bU];exact h)
  ·exact .inr h
end
end
section
open Go.RowKit
variable {P:Program}
theorem Rd.all {S:Nat->Prop} {w:World} {t:Ty} {x:Den t} {cs:List Value} (h:Rd S w t x cs):Rd (fun _=>True) w t x cs:=h.ext (fun _ _=>trivial) (fun _ _=>rfl)
section
variable {M:gF} {E:Env} {B:aK}
theorem N6 (hE:aM B E) {p:vg} {r:Ty} {vs:List V} {k:Option (Den r)} {x:Den (G3 p r)} (h:wN M E.H p r vs k=some x) (hv :∃ us,ai E vs us) (hk :∀ y,k=some y->∃ cs,Rd (fun _=>True) E.w r y cs) :∃ cs,Rd (fun _=>True) E.w (G3 p r) x cs:=by
 cases p with
 | c v0=>
  match vs,h with
  | [v],h=>exact hk _ (aG h).2
 | h t=>
  match vs,h,hv with
  | [v],h,hv=>
   obtain ⟨a,b,h1,h2,rfl⟩:=bg h;obtain ⟨us,hu⟩:=hv
   match us,hu with
   | [u],hu=>
    simp only [ai] at hu;unfold Ly at h1
    cases hg:lQ t==hY v with
    | false=>rw [hg] at h1;cases h1
    | true=>
     rw [hg] at h1;simp only [cond_true] at h1;split at h1
     case h_2=>cases h1
     rename_i cs hcs;have hrd:=dK hE h1 (cC hu.1 hcs);obtain ⟨cs2,h3⟩:=hk _ h2;exact ⟨_,.prod hrd.all h3⟩
   | [],hu=>simp [ai] at hu
   | _::_::_,hu=>simp [ai] at hu
 | d t=>obtain ⟨a,b,h1,h2,rfl⟩:=bg (show kS (xA E.H t vs) k=some x from h);obtain ⟨us,hu⟩:=hv;have hrd:=dK hE h1 hu;obtain ⟨cs2,h3⟩:=hk _ h2;exact ⟨_,.prod hrd.all h3⟩
theorem wO (hE:aM B E) :∀ {l:List vg} {r:Ty} {vs:List V} {k:Option (Den r)} {x:Den (mF l r)},nP M E.H l r vs k=some x->(∃ us,ai E vs us)->(∀ y,k=some y->∃ cs,Rd (fun _=>True) E.w r y cs)->∃ cs,Rd (fun _=>True) E.w (mF l r) x cs
 | [],r,[],k,x,h,_,hk=>hk _ h
 | [],_,_::_,_,_,h,_,_=>by simp [nP] at h
 | p::l,r,vs,k,x,h,⟨us,hu⟩,hk=>by have h:wN M E.H p (mF l r) (vs.take p.n) (nP M E.H l r (vs.drop p.n) k)=some x:=h;obtain ⟨a1,a2⟩:=ur p.n hu;exact N6 hE h ⟨_,a1⟩ fun y hy=>wO hE hy ⟨_,a2⟩ hk
theorem R5 (hE:aM B E) {p:PC} {r:Ty} {v:V} {k:Option (Den r)} {x:Den (KF p r)} (h:R4 M E.H p r v k=some x) (hv :∃ u,ae E v u) (hk :∀ y,k=some y->∃ cs,Rd (fun _=>True) E.w r y cs) :∃ cs,Rd (fun _=>True) E.w (KF p r) x cs:=by
 cases p with
 | c v0=>exact hk _ (aG h).2
 | h t=>
  obtain ⟨a,b,h1,h2,rfl⟩:=bg h;obtain ⟨u,hu⟩:=hv;unfold Ly at h1
  cases hg:lQ t==hY v with
  | false=>rw [hg] at h1;cases h1
  | true=>
   rw [hg] at h1;simp only [cond_true] at h1;split at h1
   case h_2=>cases h1
   rename_i cs hcs;have hrd:=dK hE h1 (cC hu hcs);obtain ⟨cs2,h3⟩:=hk _ h2;exact ⟨_,.prod hrd.all h3⟩
 | a l=>cases v with
  | agg cs=>obtain ⟨u,hu⟩:=hv;simp only [ae] at hu;obtain ⟨us,_,hr⟩:=hu;exact wO (l:=l) (r:=r) (vs:=cs) hE h ⟨_,hr⟩ hk
  | _=>exact absurd (show (none:Option (Den (mF l r)))=some x from h) (fun h'=>by cases h')
 | p t=>cases v with
  | fp t' xs i off=>
   obtain ⟨u,hv⟩:=hv;obtain ⟨hz,h⟩:=aG h;obtain ⟨a,b,h1,h2,rfl⟩:=bg h;unfold EB at h1;split at h1
   case isFalse=>cases h1
   rename_i e;subst e;obtain rfl:=Option.some.inj h1;simp only [ae] at hv;obtain ⟨b',o,c,T,fr,k1,k2,k3,k4,k5,k6,k7⟩:=hv;obtain ⟨cs2,h3⟩:=hk _ h2;have hr:=k4 _ k6;rw [<-zO (af t') k6] at hr;exact ⟨_,.prod hr.all h3⟩
  | _=>exact absurd (show (none:Option (Den (KF (.p t) r)))=some x from h) (fun h'=>by cases h')
 | r h0 v0=>cases v with
  | rp h' ver' i off=>
   obtain ⟨u,hv⟩:=hv;obtain ⟨hz,h⟩:=aG h;obtain ⟨a,b,h1,h2,rfl⟩:=bg h;obtain rfl:=Option.some.inj h1;simp only [Bool.and_eq_true] at hz;obtain ⟨_,_,_,hz⟩:=hz;unfold UG at hz;split at hz
   case h_2=>cases hz
   rename_i w0 rw t xs hH;obtain rfl:=Nat.eq_of_beq_eq_true hz;simp only [ae] at hv;obtain ⟨b1,k1,k2,k3,_⟩:=hv.2.2.2 _ _ _ hH;obtain ⟨_,hb⟩:=hE.blk _ _ hH
   have hl:xs.length<=aW:=by
    rcases hb with ⟨e,_⟩ |⟨_,_,_,_,_,_,_,_,_,_,e,_⟩
    ·rw [k1] at e;cases e
    ·exact e
   obtain ⟨cs2,h3⟩:=hk _ h2;have ho:ok .i64 i:=by unfold aW at hl;unfold ok IntKind.min IntKind.max;simp [IntKind.bits,IntKind.signed];omega
   exact ⟨_,.prod (.int ho) h3⟩
  | _=>exact absurd (show (none:Option (Den (KF (.r h0 v0) r)))=some x from h) (fun h'=>by cases h')
theorem Ff (hE:aM B E) {tm:List (Nat×V)} {a:Act} (hT:gC E (find tm) a) :∀ {l:List (Nat×PC)} {r:Ty} {k:Option (Den r)} {x:Den (sO l r)},uI M E.H tm l r k=some x->(∀ y,k=some y->∃ cs,Rd (fun _=>True) E.w r y cs)->∃ cs,Rd (fun _=>True) E.w (sO l r) x cs
 | [],r,k,x,h,hk=>hk _ h
 |(s,p)::l,r,k,x,h,hk=>by simp only [uI] at h;exact R5 hE h ⟨_,dG hT s⟩ fun y hy=>Ff hE hT hy hk
theorem Fa (hE:aM B E) :∀ {l:List (Nat×PB)} (_ :(l.all fun x=>rb x.2)=true) {r:Ty} {k:Option (Den r)} {x:Den (fS l r)},oE M E.H l r k=some x->(∀ y,k=some y->∃ cs,Rd (fun _=>True) E.w r y cs)->∃ cs,Rd (fun _=>True) E.w (fS l r) x cs
 | [],_,r,k,x,h,hk=>hk _ h
 |(h0,b0)::l,hna,r,k,x,h,hk=>by
  simp only [List.all_cons,Bool.and_eq_true] at hna;simp only [oE] at h;obtain ⟨hlt,h⟩:=aG h;have ih :∀ y,oE M E.H l r k=some y->∃ cs,Rd (fun _=>True) E.w (fS l r) y cs:=fun y hy=>Fa hE hna.2 hy hk
  cases b0 with
  | abs=>exact absurd hna.1 (by simp [rb])
  | cells cl=>
   simp only [rS] at h;split at h
   case h_2=>cases h
   rename_i cs hcs;obtain ⟨_,h⟩:=aG h;obtain ⟨b,c,T,fr,h1,h2,h3,h4,h5⟩:=hE.blk _ _ hcs;exact wO hE h ⟨_,h5⟩ ih
  | dat t=>
   simp only [rS] at h;split at h
   case h_2=>cases h
   rename_i cs hcs;obtain ⟨_,h⟩:=aG h;obtain ⟨a,b,h1,h2,rfl⟩:=bg h;obtain ⟨b,c,T,fr,_,_,_,_,h5⟩:=hE.blk _ _ hcs;obtain ⟨cs2,h3⟩:=ih _ h2;exact ⟨_,.prod (dK hE h1 h5).all h3⟩
  | row ver t=>
   simp only [rS] at h
   cases hz:aX M.Z h0 with
   | true=>rw [hz] at h;obtain ⟨hv,h⟩:=aG h;obtain ⟨a,b,h1,h2,rfl⟩:=bg h;cases h1;obtain ⟨cs2,h3⟩:=ih _ h2;exact ⟨_,.prod (.nil (a:=none) (cap:=0)) h3⟩
   | false=>
    rw [hz] at h;simp only at h;split at h
    case h_2=>cases h
    rename_i ver0 t0 xs0 hx;obtain ⟨hv,h⟩:=aG h;obtain ⟨a,b,h1,h2,rfl⟩:=bg h;unfold Nz at h1;split at h1
    case isFalse=>cases h1
    rename_i e;subst e;obtain rfl:=Option.some.inj h1;obtain ⟨cs2,h3⟩:=ih _ h2;obtain ⟨_,hbl⟩:=hE.blk _ _ hx;rcases hbl with ⟨_,hbl⟩ |⟨b,c,T,fr,k1,k2,k3,k4,k5,k6,k7,k8⟩
    ·have:xs0=[]:=hbl
     subst this;exact ⟨_,.prod (.nil (a:=none) (cap:=0)) h3⟩
    ·exact ⟨_,.prod (show Rd (fun _=>True) E.w (.slice t0) xs0 _ from .slice (b:=b) (o:=0) (cap:=xs0.length) trivial k2 (by omega) (Nat.le_refl _) k7 fun i hi=>by
      have:=(k8 i hi).all
      simpa using this) h3⟩
end
theorem Bj {q q':bl} (h:lK q q'=true) :(q.hp.all fun x=>rb x.2)=true:=by simp only [lK,Bool.and_eq_true,List.all_eq_true] at h;exact List.all_eq_true.2 fun x hx=>(h.2.2.2.2.2.2.1 x hx).2
theorem Fe {B:aK} {p:bl} (hna :(p.hp.all fun x=>rb x.2)=true) {st:St} {x:Den (bj p)} (hg:Fb p st=some x) {E0:Env} (hE0:aM B E0) (hH:E0.H=st.H) {a:Act} (hT0:gC E0 (find st.tm) a) :
  HSub (kO p st) (cb E0 (zQ p st)) (p.dy x)/\kn ((((p.dy x).map (·.1)).filter fun h=>!aX (kO p st).Z h).map (kO p st).at)=true/\
   (∀ s v,(s,v)∈p.gV x->ae (bX (kO p st) (cb E0 (zQ p st)) (p.dy x)) v (a.tmps.getD s undef))/\zg (bj p) x:=by
 unfold Fb at hg;obtain ⟨hn,hg⟩:=aG hg;obtain ⟨hE,X⟩:=dI hE0 (zQ p st);have hH' :(cb E0 (zQ p st)).H=vb st.H (zQ p st):=by rw [<-hH];rfl
 have hT:gC (cb E0 (zQ p st)) (find st.tm) a:=fun s v hv=>ca X _ _ (hT0 s v hv);rw [<-hH'] at hg;generalize cb E0 (zQ p st)=E at *;generalize kO p st=M at *;have hk:=CR hg;obtain ⟨_,hnames⟩:=oH hk
 have hh:HSub0 M E (p.dy x):=by
  refine ⟨fun h k hf=>(hnames h k (aB hf)).1,fun h ver rw t xs hf=>?_,fun h cs hf=>?_,fun h ver esz cs hf=>?_,fun h es hf=>?_,fun h k t x hf=>?_⟩
  ·exact (hnames _ _ (aB hf)).2
  ·exact (hnames _ _ (aB hf)).2
  ·exact ((hnames _ _ (aB hf)).2).elim
  ·exact ((hnames _ _ (aB hf)).2).elim
  ·exact (hnames _ _ (aB hf)).2
 have hs:HSub M E (p.dy x):=by
  refine ⟨hh,fun h cs cs0 hf hx=>?_,fun h ver esz cs cs0 hf _=>?_⟩
  ·exact oG hE hh hk h cs cs0 (aB hf) hx
  ·exact ((hnames _ _ (aB hf)).2).elim
 have hkeys :(p.dy x).map (·.1)=p.hp.map (·.1):=mY _;refine ⟨hs,by rw [hkeys];exact hn,(oI hE hh hT hg).1,?_⟩
 obtain ⟨cs,h⟩:=Ff hE hT hg fun y hy=>Fa hE hna hy fun z hz=>by cases hz;exact ⟨[],.unit⟩
 exact ⟨_,_,cs,h⟩
theorem Gq {M:gF} {E1:Env} {jN:List (Nat×bd)} {w0:World} {F S0:Nat->Prop} {g:qG w0 F}:aK.pins M.nx ⟨w0,F,S0,fun E=>Ext (bX M E1 jN) E,fun _ _ h k=>h.trans k,g,[]⟩:=fun M' E hp hpin hs hG=>by
 have hG:Ext (bX M E1 jN) E:=hG;show Ext (bX M E1 jN) (bX M' E hp);have hle:=Bu hpin;refine ⟨fun n hn=>Nat.lt_of_lt_of_le hn hle,hG.s,hG.keepS,fun h cs hu hx=>?_,fun h ver rw t xs hu hv hx=>?_,fun h ver esz cs hu hv hx=>?_,fun h es hu hx=>?_,fun h kk t x hu hx=>?_⟩
 case refine_5=>
  obtain ⟨e,z⟩:=xG hpin (aB (bc hx)) rfl hu;obtain ⟨_,g1⟩:=hs.abs _ _ _ _ (bc hx);rw [e] at g1;obtain ⟨g2,g3⟩:=hG.ha h kk t x hu g1;refine ⟨g2,?_⟩;simp only [bX,z,Bool.false_eq_true,if_false,e];exact g3
 ·obtain ⟨e,z⟩:=xG hpin (aB (bc hx)) rfl hu;obtain ⟨_,cs0,g1⟩:=hs.cells _ _ (bc hx);rw [e] at g1;obtain ⟨g2,g3⟩:=hG.hc h cs0 hu g1;refine ⟨g2,?_⟩;simp only [bX,z,Bool.false_eq_true,if_false,e];exact g3
 ·obtain ⟨e,z,e2⟩:=Gr hpin (aB (bc hx)) rfl hu hv;rcases (hs.row _ _ _ _ _ (bc hx)).2 with ⟨h1,_⟩ |⟨_,g1⟩
  ·rw [z] at h1;cases h1
  ·rw [e,e2] at g1;obtain ⟨rw0,xs0,g2,g3,g4,g5⟩:=hG.hr h ver rw t xs hu hv g1;refine ⟨rw0,xs0,g2,g3,?_,g5⟩;simp only [bX,z,Bool.false_eq_true,if_false,e];exact g4
 ·obtain ⟨e,z,e2⟩:=Gr hpin (aB (bc hx)) rfl hu hv;obtain ⟨_,_,cs0,g1,g0⟩:=hs.grow _ _ _ _ (bc hx);rw [e,e2] at g1;obtain ⟨cs1,g2,g3,g4,g5⟩:=hG.hg h ver esz cs0 hu hv g1;refine ⟨cs1,g2,by omega,?_,g5⟩;simp only [bX,z,Bool.false_eq_true,if_false,e];exact g4
 ·exact (hs.nomp _ _ (bc hx)).elim
theorem mT {α:Type} :∀ {l:List (Nat×α)} {n:Nat} {v:α},(l.map (·.1)).Nodup->(n,v)∈l->find l n=some v
 | [],_,_,_,h=>by simp at h
 |(k,x)::l,n,v,hn,h=>by
  simp only [List.map_cons,List.nodup_cons] at hn;simp only [find];rcases List.mem_cons.1 h with h|h
  ·cases h;simp
  ·have hne:Nat.beq k n=false:=by
    cases hb:Nat.beq k n with
    | false=>rfl
    | true=>obtain rfl:=Nat.eq_of_beq_eq_true hb;exact absurd (List.mem_map.2 ⟨_,h,rfl⟩) hn.1
   rw [hne];exact mT hn.2 h
theorem xK {tb:bG} {tm:List (Nat×V)} {H:a6} :∀ {rs:List ResultVar} {l:List V},rm tb tm H rs=some l->l.length=rs.length
 | [],l,h=>by simp only [rm,Option.some.injEq] at h;subst h;rfl
 | r::rs,l,h=>by
  simp only [rm] at h;split at h
  case h_2=>cases h
  split at h
  case h_2=>cases h
  rename_i l' hl;cases h;simp [xK hl]
theorem PW {tb:bG} {tm:List (Nat×V)} {H:a6} {rs:List ResultVar} {v:V} (h:sI tb tm H rs=some v) (hn:rs.length≠1) :∃ l,v = .tup l/\l.length=rs.length:=by
 unfold sI at h;split at h
 ·rename_i v1 hl
  have:=xK hl
  simp at this;omega
 ·rename_i l hl;cases h;exact ⟨_,rfl,xK hl⟩
 ·cases h
theorem sR {E:Env} :∀ {xs:List V} {us:List Value},xs.length=us.length->(∀ (i:Nat) (x:V) (u:Value),xs[i]?=some x->us[i]?=some u->ae E x u)->ai E xs us
 | [],[],_,_=>by simp [ai]
 | [],_::_,h,_=>by simp at h
 | _::_,[],h,_=>by simp at h
 | x::xs,u::us,h,hh=>by simp only [ai];exact ⟨hh 0 x u rfl rfl,sR (by simpa using h) fun i y v h1 h2=>hh (i+1) y v (by simpa using h1) (by simpa using h2)⟩
theorem mC {α:Type} :∀ {l:List (Nat×α)} {n:Nat},xQ n l=true->∀ (i:Nat) (v:α),(l.map (·.2))[i]?=some v->find l (n+i)=some v
 | [],_,_,i,v,h=>by simp at h
 |(k,x)::l,n,hs,i,v,h=>by
  simp only [xQ,Bool.and_eq_true,Nat.beq_eq] at hs;obtain ⟨rfl,hs⟩:=hs
  cases i with
  | zero=>simp only [List.map_cons,List.getElem?_cons_zero,Option.some.injEq] at h;simp [find,h]
  | succ i=>
   have:=mC hs i v (by simpa using h)
   simp only [find]
   have hne:Nat.beq k (k +(i+1))=false:=by
    cases hb:Nat.beq k (k +(i+1)) with
    | false=>rfl
    | true=>have:=Nat.eq_of_beq_eq_true hb;omega
   rw [hne];simp only [cond_false];rw [show k +(i+1)=k+1+i from by omega];exact this
theorem pW :∀ {l:List (Nat×PC)} {r:Ty} (x:Den (sO l r)),(jF l r x).1.map (·.1)=l.map (·.1)
 | [],_,_=>rfl
 |(a,p)::l,r,x=>by simp only [jF,List.map_cons,pW (l:=l)]
theorem pU {α β:Type} :∀ {l:List (Nat×α)} {l':List (Nat×β)} {n:Nat},l.map (·.1)=l'.map (·.1)->xQ n l=xQ n l'
 | [],[],_,_=>rfl
 | [],_::_,_,h=>by simp at h
 | _::_,[],_,h=>by simp at h
 |(a,x)::l,(b,y)::l',n,h=>by simp only [List.map_cons,List.cons.injEq] at h;obtain ⟨rfl,h⟩:=h;simp only [xQ,pU h]
theorem kH {α:Type} {tb:bG} {rs:List ResultVar} {p:Nat} {q':bl} {st:St} {Q:Den (bj q')->Prop} :∀ {t:Tr},(vq tb rs p q' st t).sat Q->t.sat fun e d nx=>match e with
  | .ext _=>False
  | _=>∃ v y,sI tb (d.tm++st.tm) (aQ st.H d.hp) rs=some v/\jk p q' ⟨mB rs.length v,d.hp++st.hp,st.H0,nx⟩=some y/\Q y
 | .leaf (.ext _) _ _,h=>h.elim
 | .leaf .nrm d nx,h=>by
  simp only [vq] at h;split at h
  case h_2=>exact h.elim
  rename_i v hv;split at h
  case h_2=>exact h.elim
  rename_i y hy;exact ⟨v,y,hv,hy,h⟩
 | .leaf .ret d nx,h=>by
  simp only [vq] at h;split at h
  case h_2=>exact h.elim
  rename_i v hv;split at h
  case h_2=>exact h.elim
  rename_i y hy;exact ⟨v,y,hv,hy,h⟩
 | .br b t e,h=>⟨fun hb=>kH (α:=α) (h.1 hb),fun hb=>kH (α:=α) (h.2 hb)⟩
 | .need p t,h=>⟨h.1,kH (α:=α) h.2⟩
 | .both t u,h=>⟨kH (α:=α) h.1,kH (α:=α) h.2⟩
 | .when b t,h=>fun hb=>kH (α:=α) (h hb)
 | .done,h=>h
 | .bad,h=>h
def FE (k:Act->World->Prop) (a:Act) (w:World):Prop:=
 (a.defers=[]/\k a w)\/∃ D,a.defers=[{ target:= .collected D,args:=#[] }]/\w.heap[D]?=some (.deferred (some []))/\k { a with defers:= [] } (w.putObj D (.deferred none))
def RN (P:Program) (fn:Func) (R:Ending->World->Prop):Exit->Act->World->Prop
 | .normal,a,w | .ret,a,w=>FE (fun a w=>∃ v,(results fn a.tmps).run P w = .ok v w/\R (.returned v) w) a w
 | _,_,_=>False
theorem nT {fn:Func} {R:Ending->World->Prop} {a:Act} {w:World} (h:FE (fun a w=>∃ v,(results fn a.tmps).run P w = .ok v w/\R (.returned v) w) a w):LeavesInM Fence.wide 0 P fn a.tmps R a.defers .returning w:=by
 rcases h with ⟨h1,v,h2,h3⟩ |⟨D,h1,hK,v,h2,h3⟩
 ·rw [h1];exact ⟨v,h2,h3⟩
 ·rw [h1];exact ⟨by simp,.inl ⟨_,_,rfl,run_takeDeferred hK,v,h2,h3⟩⟩
theorem vY {f:FuncId} {fn:Func} {c:Code} {args:Array Value} {w:World} {R:Ending->World->Prop} (hf:P.funcs[f]?=some fn) (hb:fn.body=some c)
  (h:c.wp P (RN P fn R) { tmps:=args++Array.replicate (fn.ntmps - args.size) undef,defers:= [] } w):Calls P f args w R:=
 (callsIn_wide (n:=0)).1 (callsIn_of_wp_marks (F:=Fence.wide) hf hb trivial (wpIn_wide.2 (wp_mono h fun e a w q=>by
  cases e with
  | normal=>exact nT q
  | ret=>exact nT q
  | _=>exact q.elim)) rfl)
def Xg (K:Lf->Act->World->Prop):Exit->Act->World->Prop
 | .normal,a,w=>FE (K .nrm) a w
 | .ret,a,w=>FE (K .ret) a w
 | .exit id,a,w=>FE (K (.ext id)) a w
 | _,_,_=>False
def BX (P:Program) (N p:Nat) (c:Code) (st:St) (t:Tr):Prop:=
 ∀ (B:aK),B.pins p->∀ (Q:Lf->Dl->Nat->Prop) (CQ:Exit->Act->World->Prop),t.sat Q->(∀ e d nx a w,Q e d nx->at_ B N st d nx a w->CQ (iw e) a w)->∀ a w,jM B N st a w->c.wp P CQ a w
def Ek (P:Program) (N p:Nat) (c:Code) (st:St) (t:Tr):Prop:=
 ∀ (B:aK),B.pins p->B.dfs=[]->∀ (Q:Lf->Dl->Nat->Prop) (K:Lf->Act->World->Prop),t.sat Q->(∀ e d nx a w,Q e d nx->at_ B N st d nx a w->K e a w)->∀ a w,jM B N st a w->c.wp P (Xg K) a w
theorem BX.marks {N p:Nat} {c:Code} {st:St} {t:Tr} (h:BX P N p c st t):Ek P N p c st t:=fun B hp hd Q K hs hK a w hw=>
 h B hp Q _ hs (fun e d nx a w hq hat=>by
  have hd':a.defers=[]:=hat.defers.trans hd
  cases e with
  | nrm=>exact .inl ⟨hd',hK .nrm d nx a w hq hat⟩
  | ret=>exact .inl ⟨hd',hK .ret d nx a w hq hat⟩
  | ext id=>exact .inl ⟨hd',hK (.ext id) d nx a w hq hat⟩) a w hw
theorem PD {C:Cfg} (hC:CfgOK P C) {f:FuncId} {fn:Func} (hf:P.funcs[f]?=some fn) (hbody:fn.body.isSome=true) (hname :(fn.name == "runtime.NumGoroutine")=false) (hN:C.N=fn.ntmps)
  {K:Nat} {q q':bl} {spec:Den (bj q)->List Prop×Den (bj q')} (hpair:lK q q'=true) (hres:q'.tm.length=fn.results.toList.length) (harg:Nat.ble q.tm.length fn.ntmps=true)
  (h :∀ x:Den (bj q),zg (bj q) x->(∀ p∈(spec x).1,p)->∀ c,fn.body=some c->∃ t,Ek P C.N q.nx c (put q x) t/\(vq C.tb fn.results.toList q.nx q' (put q x) t).sat fun y=>y =(spec x).2):aR P K f (ax K q q' spec):=by
 refine ⟨⟨fn,hf,hbody,hname⟩,fun B E hE args av hav m hm ps' v dh hct hps=>?_⟩;unfold ax at hct;simp only at hct;split at hct
 case h_2=>cases hct
 rename_i x hx
 cases hle:F0 q q' (kO q ⟨dz 0 args,[],E.H,m⟩)&&(Nat.beq args.length q.tm.length&&Nat.ble q'.nx K) with
 | false=>rw [hle] at hct;cases hct
 | true=>
 rw [hle] at hct;simp only [cond_true,Option.some.injEq,Prod.mk.injEq] at hct;obtain ⟨rfl,rfl,rfl⟩:=hct;simp only [Bool.and_eq_true,Nat.beq_eq] at hle;obtain ⟨hok,hlen,hKK⟩:=hle;have hKK:q'.nx<=K:=Nat.le_of_ble_eq_true hKK;have harg:q.tm.length<=fn.ntmps:=Nat.le_of_ble_eq_true harg;have havl:=bk hav;obtain ⟨c,hc⟩ :∃ c,fn.body=some c:=by cases hb:fn.body with|none=>rw [hb] at hbody;cases hbody|some c=>exact ⟨c,rfl⟩
 have hstH:E.H =(⟨dz 0 args,[],E.H,m⟩:St).H:=by funext h;simp [St.H,aQ,find]
 let a0:Act:=⟨av.toArray++Array.replicate (fn.ntmps - av.toArray.size) undef,[]⟩
 have hT0:gC E (find (dz 0 args)) a0:=fun s v hv=>by
  simp only [gK,Nat.zero_le,if_true,Nat.sub_zero] at hv;obtain ⟨v',h1,h2⟩:=eQ hav s v hv
  have :(av.toArray++Array.replicate (fn.ntmps - av.toArray.size) undef).getD s undef=v':=by
   rw [Array.getD_eq_getD_getElem?]
   have hl:s<av.toArray.size:=by
    rcases Nat.lt_or_ge s av.length with h3|h3
    ·simpa using h3
    ·rw [List.getElem?_eq_none h3] at h1;cases h1
   rw [Array.getElem?_append_left hl];simp [h1]
  show ae E v ((av.toArray++Array.replicate (fn.ntmps - av.toArray.size) undef).getD s undef);rw [this];exact h2
 have hna :(q.hp.all fun x=>rb x.2)=true:=Bj hpair;obtain ⟨hsub,hnd,htm,hwf⟩:=Fe hna hx hE hstH hT0;obtain ⟨hE1,_⟩:=dI hE (zQ q ⟨dz 0 args,[],E.H,m⟩);have hMnx :(kO q ⟨dz 0 args,[],E.H,m⟩).nx=q.nx:=rfl;generalize hM:kO q ⟨dz 0 args,[],E.H,m⟩=M at *;generalize hL:zQ q ⟨dz 0 args,[],E.H,m⟩=L at *;have hE2:=pz hE1 hsub hnd
 let B':aK:=⟨E.w,sY (bX M (cb E L) (q.dy x)) (q.dy x),(cb E L).S,fun E'=>Ext (bX M (cb E L) (q.dy x)) E',fun _ _ h k=>h.trans k,hE2.R7 (E:=bX M (cb E L) (q.dy x)) fun _ ⟨n,k,hf,hb⟩=>⟨n,k,by show aQ (fun _=>none) (q.dy x) n=_;unfold aQ;rw [hf],hb⟩,[]⟩
 have hpins:B'.pins q.nx:=by rw [<-hMnx];exact Gq
 have hE2':aM B' (bX M (cb E L) (q.dy x)):=
  ⟨hE2.used,hE2.stab,hE2.lt',hE2.inj',hE2.blk,dA.refl _ _,fun h k b hx hb=> .inl ⟨h,k,bc hx,hb⟩,fun _ h=>h,fun _ h=> .inl h⟩
 have start:jM B' C.N (put q x) a0 E.w:=by
  refine ⟨⟨_,hE2',rfl,rfl,⟨Ext.refl _,fun n hn=>?_⟩,fun s v hv=>htm s v (aB hv)⟩,?_,rfl⟩
  ·have:n<M.nx:=hn
   rw [hMnx] at this;exact this
  ·simp only [a0,Array.size_append,Array.size_replicate,List.size_toArray];omega
 refine vY hf hc ?_;obtain ⟨t,ht,hs⟩:=h x hwf hps c hc;have hs:=kH (α:=Unit) hs;refine wp_mono (ht B' hpins rfl _ (fun e a w=>(match e with | .ext _=>False|_=>True)/\∃ v',(results fn a.tmps).run P w = .ok v' w/\∃ E' v'',(Ending.returned v') = .returned v''/\GoodK B E m K (jl (gP M m) (q'.dy (spec x).2) ++(bif cV q' then [] else gl E.H L)) w E'/\ae E' (jz (gP M m) (Gj (q'.gV (spec x).2))) v'') hs (fun e d nx a w hq hat=>?_) _ _ start) (fun e a w q=>?_)
 case refine_2=>
  cases e with
  | normal=>exact q.imp (fun z=>⟨z.1,z.2.2⟩) (fun ⟨D,z1,z2,z3⟩=>⟨D,z1,z2,z3.2⟩)
  | ret=>exact q.imp (fun z=>⟨z.1,z.2.2⟩) (fun ⟨D,z1,z2,z3⟩=>⟨D,z1,z2,z3.2⟩)
  | exit id=>
   rcases q with q |⟨D,_,_,q⟩
   ·exact q.2.1.elim
   ·exact q.1.elim
  | _=>exact q.elim
 have hat:=pC.1 hat
 have fin :(∃ v y,sI C.tb (d.tm ++(put q x).tm) (aQ (put q x).H d.hp) fn.results.toList=some v/\jk q.nx q' ⟨mB fn.results.toList.length v,d.hp ++(put q x).hp,(put q x).H0,nx⟩=some y/\y =(spec x).2)->
   ∃ v',(results fn a.tmps).run P w = .ok v' w/\∃ E' v'',(Ending.returned v') = .returned v''/\GoodK B E m K (jl (gP M m) (q'.dy (spec x).2) ++(bif cV q' then [] else gl E.H L)) w E'/\ae E' (jz (gP M m) (Gj (q'.gV (spec x).2))) v'':=fun ⟨v0,y,h1,h2,h3⟩=>by
  subst h3;obtain ⟨⟨Ec,hEc,rfl,hHc,hUc,hTc⟩,hsz,hdf⟩:=hat;have hHc':Ec.H=aQ (put q x).H d.hp:=by rw [hHc];unfold St.app St.H;rw [cY]
  rw [<-hHc'] at h1;obtain ⟨v',k1,k2⟩:=rn hEc hC.tb hTc h1;refine ⟨v',k1,?_⟩;obtain ⟨jN,hg0⟩:=kz h2
  obtain ⟨a',ha'⟩ :∃ a':Act,a'.defers=[]/\gC Ec (find (mB fn.results.toList.length v0)) a'/\(fn.results.toList.length=1->a'.tmps=#[v'])/\(fn.results.toList.length≠1->v' = .tuple a'.tmps/\a'.tmps.size=fn.results.toList.length):=by
   by_cases hn:fn.results.toList.length=1
   ·refine ⟨⟨#[v'],[]⟩,rfl,fun s v hv=>?_,fun _=>rfl,fun h=>absurd hn h⟩;rw [hn] at hv;have hv:find [(0,v0)] s=some v:=hv
    cases s with
    | zero=>
     have hv:some v0=some v:=hv;cases hv;simpa using k2
    | succ s=>
     have hv :(none:Option V)=some v:=hv;cases hv
   ·obtain ⟨l,rfl,hl⟩:=PW h1 hn;simp only [ae] at k2;obtain ⟨us,rfl,hus⟩:=k2;have hul:=bk hus;refine ⟨⟨us,[]⟩,rfl,fun s v hv=>?_,fun h=>absurd h hn,fun _=>⟨rfl,by rw [<-hl,hul];simp⟩⟩
    have hb:Nat.beq fn.results.toList.length 1=false:=by
     cases hb:Nat.beq fn.results.toList.length 1 with
     | false=>rfl
     | true=>exact absurd (Nat.eq_of_beq_eq_true hb) hn
    unfold mB at hv;rw [hb] at hv;simp only [cond_false,gK,Nat.zero_le,if_true,Nat.sub_zero] at hv;obtain ⟨u,g1,g2⟩:=eQ hus s v hv
    have:us.getD s undef=u:=by rw [Array.getD_eq_getD_getElem?,<-Array.getElem?_toList,g1];rfl
    rw [this];exact g2
  obtain ⟨hd',hT',hone,hmany⟩:=ha';have hst:jM B' a'.tmps.size ⟨mB fn.results.toList.length v0,d.hp ++(put q x).hp,(put q x).H0,nx⟩ a' Ec.w:=⟨⟨Ec,hEc,rfl,hHc,hUc,hT'⟩,rfl,hd'⟩;obtain ⟨⟨Ed,hEd,hdw,hHd,⟨hXd,hUd⟩,hTd⟩,_,_⟩:=me hpins hg0 jN hst;simp only [lK,Bool.and_eq_true,List.all_eq_true] at hpair;obtain ⟨o8,o1,o2,o3,o4,o5,o6,o7⟩:=hpair;simp only [F0,Bool.and_eq_true,List.all_eq_true] at hok;obtain ⟨n1,n2⟩:=hok;have hkeys1 :(q'.dy (spec x).2).map (·.1)=q'.hp.map (·.1):=mY _;have hkeys0 :(q.dy x).map (·.1)=q.hp.map (·.1):=mY _
  have hfl:cV q'=false\/((q'.tm.all fun x=>E6 x.2)=true/\(q'.hp.all fun x=>CK x.2)=true):=by
   cases hf:cV q' with
   | false=>exact .inl rfl
   | true=>simp only [cV,Bool.and_eq_true] at hf;exact .inr hf
  have hhp:=HS (fl:=cV q') (hl:=q'.hp.map (·.1)) (vl:=jq q'.hp) (l:=q'.hp) (r:= .unit) (jF q'.tm (fS q'.hp .unit) (spec x).2).2 (List.all_eq_true.2 o2) (hfl.imp id (·.2));have htmv:=I9 (fl:=cV q') (hl:=q'.hp.map (·.1)) (vl:=jq q'.hp) (l:=q'.tm) (r:=fS q'.hp .unit) (spec x).2 (List.all_eq_true.2 o1) (hfl.imp id (·.1))
  have vers :∀ (l:List (Nat×PB)) (z:Den (fS l .unit)) (v:Nat),v∈jq l->∃ n t xs,(n,bd.row v true t xs)∈(cN l .unit z).1:=by
   intro l
   induction l with
   | nil=>intro z v hv;simp [jq] at hv
   | cons q0 l ih=>
    obtain ⟨n0,b0⟩:=q0;intro z v hv
    have tl:v∈jq l->∃ n t xs,(n,bd.row v true t xs)∈(cN ((n0,b0)::l) .unit z).1:=fun h=>by obtain ⟨n,t,xs,hm⟩:=ih (kx b0 (fS l .unit) z).2 v h;exact ⟨n,t,xs,by simp only [cN];exact List.mem_cons_of_mem _ hm⟩
    cases b0 with
    | cells=>exact tl hv
    | dat=>exact tl hv
    | abs=>exact tl hv
    | row v0 t0=>
     simp only [jq,List.mem_cons] at hv;rcases hv with rfl|hv
     ·exact ⟨n0,t0,_,by simp only [cN,kx];exact List.mem_cons_self⟩
     ·exact tl hv
  have rowsP :∀ (l:List (Nat×PB)) (z:Den (fS l .unit)) (n v:Nat) (rw:Bool) (t:Ty) (xs:List (Den t)),(n,bd.row v rw t xs)∈(cN l .unit z).1->(n,PB.row v t)∈l:=by
   intro l
   induction l with
   | nil=>intro z n v rw t xs hm;simp [cN] at hm
   | cons q0 l ih=>
    obtain ⟨n0,b0⟩:=q0;intro z n v rw t xs hm;simp only [cN,List.mem_cons,Prod.mk.injEq] at hm;rcases hm with ⟨rfl,hm⟩|hm
    ·cases b0 with
     | cells=>simp [kx] at hm
     | dat=>simp [kx] at hm
     | abs=>simp [kx] at hm
     | row v0 t0=>simp only [kx] at hm;obtain ⟨rfl,rfl,rfl,_⟩:=hm;exact List.mem_cons_self
    ·exact List.mem_cons_of_mem _ (ih _ _ _ _ _ _ hm)
  have hHd':Ed.H=aQ (fun _=>none) (q'.dy (spec x).2):=hHd
  have hvl :∀ v,v∈jq q'.hp->∃ n t xs,find (q'.dy (spec x).2) n=some (.row v true t xs):=fun v hv=>by
   obtain ⟨n,t,xs,hm⟩:=vers q'.hp _ v hv
   have hnd1 :((q'.dy (spec x).2).map (·.1)).Nodup:=by rw [hkeys1];exact iG.1 o8
   exact ⟨n,t,xs,mT hnd1 hm⟩
  obtain ⟨E',G,hv⟩:=zw (B:=B) (fl:=cV q') hE hm hsub hnd hEd hHd' hXd (nx1:=q'.nx) hUd hKK (vl:=jq q'.hp)
   (fun n k hm'=>by
    have:=hhp n k hm'
    rw [hkeys1]
    exact this) hvl
   (fun n hn=>by
    rw [hkeys1] at hn;rw [hkeys0]
    have:=o5 n hn
    simp only [Bool.or_eq_true] at this;rcases this with h1|h1
    ·left;rw [hMnx];exact Nat.le_of_ble_eq_true h1
    ·right;exact bp.1 h1)
   (fun n hn=>by
    rw [hkeys0] at hn;rw [hkeys1];obtain ⟨z,hz1,rfl⟩:=List.mem_map.1 hn
    exact bp.1 (o6 z hz1).1)
   (fun n v rw t xs hf=>by
    have:=o4 _ (rowsP q'.hp _ _ _ _ _ _ (aB hf))
    simp only [Bool.or_eq_true,Nat.blt_eq] at this;rw [hMnx]
    exact this.imp Nat.le_of_ble_eq_true id)
   (fun n hn hz=>by
    rw [hkeys0] at hn;obtain ⟨z,hz1,rfl⟩:=List.mem_map.1 hn
    have:=n1 z hz1
    rw [hz] at this
    exact this)
   (fun n v rw t xs hf hz=>by
    have:=n1 _ (rowsP q.hp _ _ _ _ _ _ (aB hf))
    simp only [hz] at this
    cases hh:find M.σ v with
    | none=>rfl
    | some j=>rw [hh] at this;cases this)
   (fun v v' hv hv' l1 l2 z1 z2 s1 s2 e=>by
    refine gk (iG.1 n2) (List.mem_filter.2 ⟨hv,?_⟩) (List.mem_filter.2 ⟨hv',?_⟩) e
    ·simp [l1,z1,s1]
    ·simp [l2,z2,s2])
  rw [hdw] at G;refine ⟨E',v',rfl,G,hv _ _ ?_ ?_⟩
  ·rw [hkeys1];unfold Gj;split
   ·rfl
   ·rename_i y0 r hy0;split
    ·exact htmv y0.1 y0.2 (by show (y0.1,y0.2)∈q'.gV (spec x).2;rw [hy0];exact List.mem_cons_self)
    ·show fD _ _ _ ((q'.gV (spec x).2).map (·.2))=true
     have :∀ l:List (Nat×V),(∀ s v,(s,v)∈l->okV (cV q') (q'.hp.map (·.1)) (jq q'.hp) v=true)->fD (cV q') (q'.hp.map (·.1)) (jq q'.hp) (l.map (·.2))=true:=by
      intro l
      induction l with
      | nil=>intro _;rfl
      | cons z l ih=>intro hz;simp only [List.map_cons,fD,Bool.and_eq_true];exact ⟨hz z.1 z.2 List.mem_cons_self,ih fun s v hm=>hz s v (List.mem_cons_of_mem _ hm)⟩
     exact this _ htmv
  ·have hlen :(q'.gV (spec x).2).length=fn.results.toList.length:=by
    have :((q'.gV (spec x).2).map (·.1)).length =(q'.tm.map (·.1)).length:=by rw [show (q'.gV (spec x).2).map (·.1)=q'.tm.map (·.1) from pW _]
    simpa [hres] using this
   have hseq:xQ 0 (q'.gV (spec x).2)=true:=(pU (l:=q'.gV (spec x).2) (l':=q'.tm) (pW _)).trans o3;unfold Gj;split
   ·rename_i hy0;rw [hy0] at hlen;obtain ⟨h5,h6⟩:=hmany (by rw [<-hlen];simp);rw [h5];simp only [ae];refine ⟨_,rfl,?_⟩
    have:a'.tmps.toList=[]:=by apply List.eq_nil_of_length_eq_zero;simp [h6,<-hlen]
    rw [this];simp [ai]
   ·rename_i y0 r hy0;split
    ·rw [hy0] at hlen;have h5:=hone (by rw [<-hlen];rfl);have h6:=mC hseq 0 y0.2 (by rw [hy0];rfl)
     have:=hTd (0+0) y0.2 h6
     rw [h5] at this;simpa using this
    ·rename_i y1 r';rw [hy0] at hlen;obtain ⟨h5,h6⟩:=hmany (by rw [<-hlen];simp);rw [h5];simp only [ae];refine ⟨_,rfl,sR ?_ fun i z u hz hu=>?_⟩
     ·rw [hy0];simp only [List.length_map,Array.length_toList,h6,<-hlen]
     ·have h7:=mC hseq i z hz
      have:=hTd (0+i) z h7
      rw [Nat.zero_add,Array.getD_eq_getD_getElem?,<-Array.getElem?_toList,hu] at this;exact this
 cases e with
 | ext id=>exact hq.elim
 | nrm=>exact ⟨trivial,fin hq⟩
 | ret=>exact ⟨trivial,fin hq⟩
theorem S7 {C:Cfg} (hC:CfgOK P C) {f:FuncId} {fn:Func} (hf:P.funcs[f]?=some fn) (hbody:fn.body.isSome=true) (hname :(fn.name == "runtime.NumGoroutine")=false) (hN:C.N=fn.ntmps)
  {K:Nat} {q q':bl} {spec:Den (bj q)->List Prop×Den (bj q')} (hpair:lK q q'=true) (hres:q'.tm.length=fn.results.toList.length) (harg:Nat.ble q.tm.length fn.ntmps=true)
  (h :∀ x:Den (bj q),zg (bj q) x->(∀ p∈(spec x).1,p)->∀ c,fn.body=some c->∃ t,BX P C.N q.nx c (put q x) t/\(vq C.tb fn.results.toList q.nx q' (put q x) t).sat fun y=>y =(spec x).2):aR P K f (ax K q q' spec):=
 PD hC hf hbody hname hN hpair hres harg fun x hw hn c hc=>let ⟨t,h1,h2⟩:=h x hw hn c hc;⟨t,h1.marks,h2⟩
theorem bh {C:Cfg} (hC:CfgOK P C) (hP:P.follows .mixedOrders=true) {f:FuncId} {fn:Func} (hf:P.funcs[f]?=some fn) (hbody:fn.body.isSome=true) (hname :(fn.name == "runtime.NumGoroutine")=false) (hN:C.N=fn.ntmps)
  {K:Nat} {q q':bl} {spec:Den (bj q)->List Prop×Den (bj q')} {Λ:Den (bj q)->Nat->Option aw} (hpair:lK q q'=true) (hres:q'.tm.length=fn.results.toList.length) (harg:Nat.ble q.tm.length fn.ntmps=true)
  (hΛ :∀ x:Den (bj q),zg (bj q) x->(∀ p∈(spec x).1,p)->∀ c,fn.body=some c->∀ b∈bF (Λ x) c,∀ L,Λ x (fo b)=some L->aJ P q.nx C.N b L)
  (h :∀ x:Den (bj q),zg (bj q) x->(∀ p∈(spec x).1,p)->(a8 C (Λ x) fn q q' x).sat fun y=>y =(spec x).2):aR P K f (ax K q q' spec):=by
 refine S7 hC hf hbody hname hN hpair hres harg fun x hw hn c hc=>⟨_,fun B hB Q CQ hs hQ a w ha=>cS hC hP (B:=B) c (fun b hb S hS=>hΛ x hw hn c hc b hb S hS B hB) (put q x) Q CQ hs hQ a w ha,?_⟩;have hs:=h x hw hn;unfold a8 at hs;rw [hc] at hs;exact hs
end
section
open Go.RowKit
variable {P:Program}
end
end Go.aa
namespace Go.Proofs.YtjcbhomccohklaaGreatDoor
open Go Go.aa
abbrev KK:Nat:=4
def cfg (l:vN) (n:Nat):Cfg:=⟨VZ,find l,KK,n⟩
def Ht (l:vN) (fn:Func):Cfg:=cfg l fn.ntmps
theorem mixed:Tryz.prog.follows .mixedOrders=true:=by kernel_rfl
theorem Jn {l:vN} (h:aZ Tryz.prog KK l) (n:Nat):CfgOK Tryz.prog (cfg l n):=⟨D1,by show 1<=KK;decide,h⟩
theorem a7 {n:Int} (h1:-9223372036854775808<=n) (h2:n<=9223372036854775807):IntKind.i64.wrap n=n:=by simp only [IntKind.wrap,IntKind.bits,IntKind.signed];simp;omega
theorem Li {S:Nat->Prop} {w:World} {t:Ty} {xs:List (Den t)} {cs:List Value} (h:Rd S w (.slice t) xs cs):xs.length<=aW:=by
 cases h with
 | nil=>exact Nat.zero_le _
 | slice _ _ _ _ h _=>exact h
theorem mI {t:Ty} {xs:List (Den t)} (h:zg (.slice t) xs):xs.length<=aW:=by obtain ⟨S,w,cs,h⟩:=h;exact Li h
theorem gD {a b:Ty} {x:Den a} {y:Den b} (h:zg (.prod a b) (x,y)):zg a x:=by obtain ⟨S,w,cs,h⟩:=h;cases h with|prod h _=>exact ⟨_,_,_,h⟩
theorem iQ {a b:Ty} {x:Den a} {y:Den b} (h:zg (.prod a b) (x,y)):zg b y:=by obtain ⟨S,w,cs,h⟩:=h;cases h with|prod _ h=>exact ⟨_,_,_,h⟩
end Go.Proofs.YtjcbhomccohklaaGreatDoor
namespace Go.aa
open Go.RowKit
variable {P:Program}
theorem aR.mono {K K':Nat} {f:FuncId} {c:dR} (h:aR P K f c) (hK:K<=K'):aR P K' f c:=⟨h.fn,fun B E hE args av hav m hm ps v dh hc hp=>
 (h.calls B E hE args av hav m (fun n h1 h2=>hm n h1 (by omega)) ps v dh hc hp).mono fun _ _ ⟨E',v',h1,G,h2⟩=>
  ⟨E',v',h1,⟨G.rel,G.ext,G.w,G.h,fun n hn=>(G.u n hn).imp id fun h=>⟨h.1,by have:=h.2;omega⟩⟩,h2⟩⟩
theorem aZ.aP {K' K:Nat} {f:FuncId} {c:dR} {l:vN} (h:aR P K' f c) (hle:Nat.ble K' K=true) (hl:aZ P K l):aZ P K ((f,c)::l):= .cons (h.mono (Nat.le_of_ble_eq_true hle)) hl
def aL (P:Program) (p N:Nat) (l:List Code) (Λ:Nat->Option aw):Prop:=∀ b∈l,∀ L,Λ (fo b)=some L->aJ P p N b L
theorem aL.nil {p N:Nat} {Λ:Nat->Option aw}:aL P p N [] Λ:=fun b hb=>by simp at hb
theorem aL.cons {p N:Nat} {b:Code} {l:List Code} {Λ:Nat->Option aw} {L:aw} (h0:Λ (fo b)=some L) (h1:aJ P p N b L) (h2:aL P p N l Λ):aL P p N (b::l) Λ:=fun b' hb L' hL=>by
 rcases List.mem_cons.1 hb with rfl|hb
 ·rw [h0] at hL;cases hL;exact h1
 ·exact h2 b' hb L' hL
theorem aL.at {p N:Nat} {fn:Func} {l:List Code} {Λ:Nat->Option aw} (he:bF Λ (qJ fn)=l) (h:aL P p N l Λ) :∀ c,fn.body=some c->∀ b∈bF Λ c,∀ L,Λ (fo b)=some L->aJ P p N b L:=fun c hc=>by
 have:qJ fn=c:=by unfold qJ;rw [hc]
 rw [<-this,he];exact h
def cQ (ts:List Ty):bl:=⟨dz 0 (ts.map .h),[],0⟩
end Go.aa
namespace Go.Proofs.YtjcbhomccohklaaGreatDoor
section
open Go Go.aa
abbrev KE:Nat:=64
def aI (l:vN) (fn:Func):Cfg:=⟨VZ,find l,KE,fn.ntmps⟩
theorem az {l:vN} (h:aZ Tryz.prog KE l) (fn:Func):CfgOK Tryz.prog (aI l fn):=⟨D1,by show 1<=KE;decide,h⟩
end
section
open Go Go.aa
attribute [local irreducible] Go.aa.DT.sat Go.aa.a8
abbrev I:Ty:= .int .i64
abbrev U8:Ty:= .int .u8
abbrev xI:bl:=cQ [.bool]
def eI (h:Int):Bool:=decide (h>=1)&&decide (h<=5)
abbrev q3:bl:=cQ [I,I,I]
abbrev qH:bl:=cQ [U8]
def BA:Den (bj qH)->List Prop×Den (bj xI):=fun x=>([],(eI x.1,()))
abbrev W (n:Int):Int:=IntKind.i64.wrap n
theorem Qf (h:Int) :(a8 (aI [] Tryz.f121) (fun _=>none) Tryz.f121 qH xI (h,())).sat fun z_=>z_ =(BA (h,())).2:=by
 refine cast (by kernel_rfl) (?_ :(cond (decide (h>=1)) (decide (h<=5)) false,()) =(eI h,()))
 grind [eI]
def Xf:FuncId×dR:=(121,ax KE qH xI BA)
theorem S2:aR Tryz.prog KE 121 (ax KE qH xI BA):=by
 refine bh (C:=aI [] Tryz.f121) (az (aZ.nil) _) mixed (fn:=Tryz.f121) Tryz.func121 (by kernel_rfl) (by kernel_rfl) (by kernel_rfl) (by kernel_rfl) (by kernel_rfl) (by kernel_rfl) (Λ:=fun _ _=>none) ?_ ?_
 ·exact fun _ _ _ _ _ _ _ _ h=>by cases h
 ·rintro ⟨h,⟨⟩⟩ hw hn
  exact Qf h
theorem Qh (h:Int) :(a8 (aI [] Tryz.f76) (fun _=>none) Tryz.f76 qH xI (h,())).sat fun z_=>z_ =(BA (h,())).2:=by
 refine cast (by kernel_rfl) (?_:let r1:Bool:=cond (h==1) (h==1) (cond (h==2) (h==2) (cond (h==3) (h==3) (cond (h==4) (h==4) (h==5))));(r1=true->(true,()) =(eI h,()))/\(r1=false->(false,()) =(eI h,())));intro r1
 clear_value (hr1:r1=_)
 grind [eI]
def OB:FuncId×dR:=(76,ax KE qH xI BA)
theorem S3:aR Tryz.prog KE 76 (ax KE qH xI BA):=by
 refine bh (C:=aI [] Tryz.f76) (az (aZ.nil) _) mixed (fn:=Tryz.f76) Tryz.func76 (by kernel_rfl) (by kernel_rfl) (by kernel_rfl) (by kernel_rfl) (by kernel_rfl) (by kernel_rfl) (Λ:=fun _ _=>none) ?_ ?_
 ·exact fun _ _ _ _ _ _ _ _ h=>by cases h
 ·rintro ⟨h,⟨⟩⟩ hw hn
  exact Qh h
end
section
open Go Go.aa Go.RowKit Go.Shelf
def Fw:Go.Shelf.Ren:=⟨fun|173=>181|246=>218|283=>250|284=>251|285=>252|286=>253|129=>280|317=>279|318=>281|319=>282|320=>283|337=>319|338=>320|n=>n,fun|2=>2|3=>3|9=>9|4=>4|171=>291|0=>0|53=>242|37=>214|5=>5|173=>294|212=>311|51=>312|20=>20|213=>313|46=>253|232=>343|233=>344|n=>n,fun|17=>2|18=>6|19=>7|n=>n⟩
theorem Sl:Go.Proofs.LaysM.n173 Tryz.prog Fw where
 mixed:=by kernel_rfl
 f129:=Tryz.func280.trans (congrArg some (by kernel_rfl))
 f173:=Tryz.func181.trans (congrArg some (by kernel_rfl))
 f246:=Tryz.func218.trans (congrArg some (by kernel_rfl))
 f283:=Tryz.func250.trans (congrArg some (by kernel_rfl))
 f284:=Tryz.func251.trans (congrArg some (by kernel_rfl))
 f285:=Tryz.func252.trans (congrArg some (by kernel_rfl))
 f286:=Tryz.func253.trans (congrArg some (by kernel_rfl))
 f317:=Tryz.func279.trans (congrArg some (by kernel_rfl))
 f318:=Tryz.func281.trans (congrArg some (by kernel_rfl))
 f319:=Tryz.func282.trans (congrArg some (by kernel_rfl))
 f320:=Tryz.func283.trans (congrArg some (by kernel_rfl))
 f337:=Tryz.func319.trans (congrArg some (by kernel_rfl))
 f338:=Tryz.func320.trans (congrArg some (by kernel_rfl))
 t0:=Tryz.underlying0
 a0:=Tryz.isAgg0
 z0:=Tryz.sizeOf0
 v0:=Tryz.zeroValue0
 t2:=Tryz.underlying2
 a2:=Tryz.isAgg2
 z2:=Tryz.sizeOf2
 v2:=Tryz.zeroValue2
 t3:=Tryz.underlying3
 a3:=Tryz.isAgg3
 z3:=Tryz.sizeOf3
 v3:=Tryz.zeroValue3
 t4:=Tryz.underlying4
 a4:=Tryz.isAgg4
 z4:=Tryz.sizeOf4
 v4:=Tryz.zeroValue4
 t5:=Tryz.underlying5
 a5:=Tryz.isAgg5
 z5:=Tryz.sizeOf5
 v5:=Tryz.zeroValue5
 t9:=Tryz.underlying9
 a9:=Tryz.isAgg9
 z9:=Tryz.sizeOf9
 v9:=Tryz.zeroValue9
 t20:=Tryz.underlying20
 a20:=Tryz.isAgg20
 z20:=Tryz.sizeOf20
 v20:=Tryz.zeroValue20
 t37:=Tryz.underlying214
 a37:=Tryz.isAgg214
 z37:=Tryz.sizeOf214
 v37:=Tryz.zeroValue214
 t46:=Tryz.underlying253
 a46:=Tryz.isAgg253
 z46:=Tryz.sizeOf253
 v46:=Tryz.zeroValue253
 t51:=Tryz.underlying312
 a51:=Tryz.isAgg312
 z51:=Tryz.sizeOf312
 v51:=Tryz.zeroValue312
 t53:=Tryz.underlying242
 a53:=Tryz.isAgg242
 z53:=Tryz.sizeOf242
 v53:=Tryz.zeroValue242
 t171:=Tryz.underlying291
 a171:=Tryz.isAgg291
 z171:=Tryz.sizeOf291
 v171:=Tryz.zeroValue291
 t173:=Tryz.underlying294
 a173:=Tryz.isAgg294
 z173:=Tryz.sizeOf294
 v173:=Tryz.zeroValue294
 t212:=Tryz.underlying311
 a212:=Tryz.isAgg311
 z212:=Tryz.sizeOf311
 v212:=Tryz.zeroValue311
 t213:=Tryz.underlying313
 a213:=Tryz.isAgg313
 z213:=Tryz.sizeOf313
 t232:=Tryz.underlying343
 a232:=Tryz.isAgg343
 z232:=Tryz.sizeOf343
 v232:=Tryz.zeroValue343
 t233:=Tryz.underlying344
 a233:=Tryz.isAgg344
 z233:=Tryz.sizeOf344
 v233:=Tryz.zeroValue344
 g17:=by kernel_rfl
 g18:=by kernel_rfl
 g19:=by kernel_rfl
 i0:=by kernel_rfl
 i2:=by kernel_rfl
 i3:=by kernel_rfl
 i4:=by kernel_rfl
 i5:=by kernel_rfl
 i9:=by kernel_rfl
 i20:=by kernel_rfl
 i37:=by kernel_rfl
 i46:=by kernel_rfl
 i51:=by kernel_rfl
 i53:=by kernel_rfl
 i171:=by kernel_rfl
 i173:=by kernel_rfl
 i212:=by kernel_rfl
 i232:=by kernel_rfl
 i233:=by kernel_rfl
 m17:=by kernel_rfl
 m18:=by kernel_rfl
 m19:=by kernel_rfl
def gU (n:Int):ByteArray:=⟨(Lib.itoa n).toArray⟩
abbrev Yn:Ty:= .prod (.int .i64) .unit
def Kr:Den Yn->mL:=fun x=>⟨[],.str (gU x.1),[]⟩
def AI:FuncId×dR:=(147,bq KE Yn Kr)
theorem ZM {w:World} (h:qG w fun _=>False):Lib.TabIs Tryz.prog w "internal/strconv.uint64pow10" .u64 Lib.pow10Tab:=by obtain ⟨⟨o,h1,T,fr,rfl⟩,_⟩:=h (2,JL) (by unfold GL;simp);unfold Lib.TabIs World.var?;rw [show Tryz.prog.globalNamed "internal/strconv.uint64pow10" = some 2 by kernel_rfl];simp only [Option.bind_some,h1]
theorem HX (w:World) (k:Nat) (os:Array Obj):dA w (fun _=>False) (Go.Sort.grow (w.drewN k) os):=
 ⟨rfl,rfl,rfl,by simp [Go.Sort.grow],fun b hb _=>by simp [Go.Sort.grow,Array.getElem?_append_left hb]⟩
set_option maxHeartbeats 1600000 in
theorem Ir:aR Tryz.prog KE 147 (bq KE Yn Kr):=by
 refine s7 Tryz.func147 (by kernel_rfl) (by kernel_rfl) (fun _=>⟨rfl,rfl⟩) (fun x av w E hw _ hg hav=>?_) (fun _ _=>rfl);obtain ⟨n,⟨⟩⟩:=x;obtain ⟨a,r,rfl,h1,h2⟩:=eE hav;have h5:r=[]:=by cases r with|nil=>rfl|cons=>simp [fq,ai] at h2
 subst h5;simp only [gz,ae] at h1;obtain ⟨rfl,hk⟩:=h1;have e1:IntKind.i64.min = -9223372036854775808:=by decide
 have e2:IntKind.i64.max=9223372036854775807:=by decide
 unfold ok at hk;rw [e1,e2] at hk
 have hc:Calls Tryz.prog 147 #[.int .i64 n] w fun e w'=>e = .returned (.string (gU n))/\∃ k os,w'=Go.Sort.grow (w.drewN k) os:=by
  go_enter Tryz.func147,Tryz.ntmps147
  go_wp2_with (go_at_call 181;refine (Any.strconv_FormatInt_10 Sl n hk.1 hk.2 _ (ZM hg)).mono ?_;rintro e w' ⟨rfl,k,os,rfl⟩)
  go_ret
  exact ⟨rfl,k,os,rfl⟩
 refine hc.mono fun e w' ⟨he,k,os,hw'⟩=>⟨_,he,by rw [hw'];exact HX _ _ _,fun E'=>?_⟩;refine ⟨rfl,?_⟩;show (Lib.itoa n).toArray.size<=aW
 have:=Lib.itoa_length_le n hk.1 hk.2
 rw [List.size_toArray];exact Nat.le_trans this (by decide)
end
section
open Go Go.aa
def wc:Nat->Int->List UInt8->Int×List UInt8
 | 0,n,l=>(n,l)
 | _+1,n,[]=>(n,[])
 | k+1,n,c::l=>if decide (48<=c.toNat)&&decide (c.toNat<=57) then wc k (10*n +((c.toNat:Int) - 48)) l else (n,c::l)
def gH:List UInt8->Int×List UInt8
 | []=>(0,[])
 | c::l=>if c==46 then (0,l) else wc 6 0 (c::l)
def Rk:List UInt8->Int
 | []=>0
 | c::_=>if c==119||c==110 then c.toNat else 0
def sK:List UInt8->List UInt8
 | []=> []
 | c::l=>if c==119||c==110 then l else c::l
def Rh:List UInt8->Int
 | []=>0
 | c::l=>if c==98 then (gH l).1 else 0
def Ri:List UInt8->Int
 | []=>0
 | c::l=>if c==108 then (gH l).1 else 0
def Rj:List UInt8->List UInt8
 | []=> []
 | c::l=>if c==98||c==108 then (gH l).2 else c::l
def Vp (l:List UInt8):Int:=if l==[87] then 87 else if l==[82] then 82 else 0
def jx (l:List UInt8):ab:=⟨Rk l,(gH (sK l)).1,Rh (gH (sK l)).2,Ri (gH (sK l)).2,Vp (Rj (gH (sK l)).2)⟩
def UN (n:Int):List UInt8:=if n==0 then [46] else Lib.itoa n
def MK (x:ab):List UInt8:=
 (if x.kind==119 then [119] else if x.kind==110 then [110] else []) ++(UN x.charge ++((if decide (x.byes>0) then 98::UN x.byes else []) ++((if decide (x.leg>0) then 108::UN x.leg else []) ++(if x.mark==87 then [87] else if x.mark==82 then [82] else []))))
abbrev Sx:Type:=Int×Int×Int×Int×Int
def fB (w n k:Int):Int:=if k==119 then w else if k==110 then n else 0
def sU (w n:Int) (y:Sx):ab:=⟨y.1,fB w n y.1+y.2.1,y.2.2.1,y.2.2.2.1,y.2.2.2.2⟩
def FG (y:Sx):Int:=if y.2.2.2.2==82 then 7 else 11
def TF (y:Sx):Int:=y.2.2.1+y.2.2.2.1
def Ry (y:Sx):Bool:=decide (y.2.1<0) ||(decide (y.2.1>FG y)||decide (TF y>FG y))
def Ea (y:Sx):Bool:=
 if Ry y then false
 else if decide (TF y>0) then y.2.1==0&&(y.1 != 119&&y.2.2.2.2 != 87)
 else if y.2.2.2.2==87 then y.2.1==0&&y.1 != 110 else true
def kX (o k:Int):List Sx:= [(0,k,0,0,o),(0,0,k,0,o),(0,0,0,k,o),(119,k,0,0,o),(110,k,0,0,o),(110,0,k,0,o),(110,0,0,k,o)]
def MR (o:Int):Nat->Int->List Sx
 | 0,_=> []
 | m+1,k=>kX o k++MR o m (k+1)
def oX (o:Int) (m:Nat):List Sx:= [(0,0,0,0,o),(119,0,0,0,o),(110,0,0,0,o)]++MR o m 1
def fk:List Sx:= [(0,0,0,0,87),(119,0,0,0,87)] ++(oX 0 11++oX 82 7)
def up5:List Int:= [1,2,3,4,5]
def eqE (x y:ab):Bool:=x.kind==y.kind&&(x.charge==y.charge&&(x.byes==y.byes&&(x.leg==y.leg&&x.mark==y.mark)))
theorem RQ {x y:ab} (h:eqE x y=true):x=y:=by unfold eqE at h;simp only [Bool.and_eq_true,beq_iff_eq] at h;obtain ⟨h1,h2,h3,h4,h5⟩:=h;cases x;cases y;simp only at h1 h2 h3 h4 h5;subst h1 h2 h3 h4 h5;rfl
theorem KG {n:Int} (h1:1<=n) (h2:n<=5):n∈up5:=by
 unfold up5
 have:n=1\/n=2\/n=3\/n=4\/n=5:=by omega
 rcases this with rfl|rfl|rfl|rfl|rfl <;> simp
theorem Nk :(up5.all fun w=>up5.all fun n=>fk.all fun y=>eqE (jx (MK (sU w n y))) (sU w n y))=true:=by kernel_rfl
theorem ad0 {w n:Int} (hw:1<=w/\w<=5) (hn:1<=n/\n<=5) {y:Sx} (h:y∈fk):jx (MK (sU w n y))=sU w n y:=by have h1:=List.all_eq_true.1 Nk w (KG hw.1 hw.2);have h2:=List.all_eq_true.1 h1 n (KG hn.1 hn.2);exact RQ (List.all_eq_true.1 h2 y h)
theorem KM :(fk.all Ea)=true:=by kernel_rfl
def Ul:List Int:= [0,1,2,3,4,5,6,7,8,9,10,11]
theorem yq {n:Int} (h1:0<=n) (h2:n<=11):n∈Ul:=by
 unfold Ul
 have:n=0\/n=1\/n=2\/n=3\/n=4\/n=5\/n=6\/n=7\/n=8\/n=9\/n=10\/n=11:=by omega
 rcases this with rfl|rfl|rfl|rfl|rfl|rfl|rfl|rfl|rfl|rfl|rfl|rfl <;> simp
def eqX (x y:Sx):Bool:=x.1==y.1&&(x.2.1==y.2.1&&(x.2.2.1==y.2.2.1&&(x.2.2.2.1==y.2.2.2.1&&x.2.2.2.2==y.2.2.2.2)))
theorem RU {x y:Sx} (h:eqX x y=true):x=y:=by unfold eqX at h;simp only [Bool.and_eq_true,beq_iff_eq] at h;obtain ⟨a,b,c,d,e⟩:=x;obtain ⟨a',b',c',d',e'⟩:=y;obtain ⟨h1,h2,h3,h4,h5⟩:=h;simp only at h1 h2 h3 h4 h5;subst h1 h2 h3 h4 h5;rfl
def inX (y:Sx):Bool:=!Ea y||fk.any (eqX y)
theorem W7 :(([0,119,110]:List Int).all fun k=>([0,87,82]:List Int).all fun m=>Ul.all fun e=>Ul.all fun b=>inX (k,e,b,0,m)&&inX (k,e,0,b,m))=true:=by kernel_rfl
theorem SK (y:Sx):FG y<=11:=by unfold FG;split <;> decide
theorem Z1 {k e b l m:Int} (hb:0<=b) (hl:0<=l) (h:Ea (k,e,b,l,m)=true) :(0<=e/\e<=11)/\b<=11/\l<=11:=by
 have hm:=SK (k,e,b,l,m)
 cases hx:Ry (k,e,b,l,m) with
 | true=>unfold Ea at h;rw [hx] at h;cases h
 | false=>unfold Ry TF at hx;simp only [Bool.or_eq_false_iff,decide_eq_false_iff_not,Int.not_lt] at hx;omega
theorem Uo {k e b l m:Int} (hk:k=0\/k=119\/k=110) (hm:m=0\/m=87\/m=82) (hb:0<=b) (hl:0<=l) (hz:b=0\/l=0) (h:Ea (k,e,b,l,m)=true) :(k,e,b,l,m)∈fk:=by
 obtain ⟨⟨e0,e1⟩,b1,l1⟩:=Z1 hb hl h;have hk:k∈([0,119,110]:List Int):=by rcases hk with rfl|rfl|rfl <;> simp
 have hm:m∈([0,87,82]:List Int):=by rcases hm with rfl|rfl|rfl <;> simp
 have a1:=List.all_eq_true.1 W7 k hk;have a2:=List.all_eq_true.1 a1 m hm;have a3:=List.all_eq_true.1 a2 e (yq e0 e1)
 have fin :∀ y:Sx,Ea y=true->inX y=true->y∈fk:=fun y h1 h2=>by unfold inX at h2;rw [h1] at h2;obtain ⟨z,hz,he⟩:=List.any_eq_true.1 (show fk.any (eqX y)=true from h2);rw [RU he];exact hz
 rcases hz with rfl|rfl
 ·have a4:=List.all_eq_true.1 a3 l (yq hl l1);rw [Bool.and_eq_true] at a4;exact fin _ h a4.2
 ·have a4:=List.all_eq_true.1 a3 b (yq hb b1);rw [Bool.and_eq_true] at a4;exact fin _ h a4.1
theorem NI :∀ (k:Nat) (n:Int) (l:List UInt8),0<=n->0<=(wc k n l).1
 | 0,_,_,h=>h
 | _+1,_,[],h=>h
 | k+1,n,c::l,h=>by
  unfold wc;split
  ·rename_i hc;simp only [Bool.and_eq_true,decide_eq_true_eq] at hc;exact NI k _ l (by omega)
  ·exact h
theorem Ct (l:List UInt8):0<=(gH l).1:=by
 cases l with
 | nil=>exact Int.le_refl _
 | cons c l=>
  by_cases h :(c==46)=true
  ·simp only [gH,h,if_true];exact Int.le_refl _
  ·simp only [gH,h,if_false];exact NI _ _ _ (Int.le_refl _)
theorem Dv (l:List UInt8) :(jx l).kind=0\/(jx l).kind=119\/(jx l).kind=110:=by
 show Rk l=0\/Rk l=119\/Rk l=110
 cases l with
 | nil=>exact .inl rfl
 | cons c l=>
  by_cases h :(c==119||c==110)=true
  ·have h':=h;simp only [Bool.or_eq_true,beq_iff_eq] at h';rcases h' with rfl|rfl
   ·exact .inr (.inl rfl)
   ·exact .inr (.inr rfl)
  ·exact .inl (by simp only [Rk,h];rfl)
theorem Dw (l:List UInt8) :(jx l).mark=0\/(jx l).mark=87\/(jx l).mark=82:=by
 show Vp _=0\/Vp _=87\/Vp _=82;unfold Vp;split
 ·exact .inr (.inl rfl)
 ·split
  ·exact .inr (.inr rfl)
  ·exact .inl rfl
theorem Tw (l:List UInt8):0<=(jx l).charge/\0<=(jx l).byes/\0<=(jx l).leg/\((jx l).byes=0\/(jx l).leg=0):=by
 refine ⟨Ct _,?_⟩;show 0<=Rh (gH (sK l)).2/\0<=Ri (gH (sK l)).2/\(Rh (gH (sK l)).2=0\/Ri (gH (sK l)).2=0);generalize (gH (sK l)).2=t
 cases t with
 | nil=>exact ⟨Int.le_refl _,Int.le_refl _,.inl rfl⟩
 | cons c t=>
  by_cases h:c=98
  ·subst h;exact ⟨Ct _,Int.le_refl _,.inr rfl⟩
  ·have e:Rh (c::t)=0:=by simp only [Rh];rw [if_neg (by simpa using h)]
   rw [e];refine ⟨Int.le_refl _,?_,.inl rfl⟩;by_cases h2 :(c==108)=true
   ·simp only [Ri,h2,if_true];exact Ct _
   ·simp only [Ri,h2];exact Int.le_refl _
def MW (w n:Int) (l:List UInt8):Bool:=(MK (jx l)==l)&&Ea ((jx l).kind,(jx l).charge - fB w n (jx l).kind,(jx l).byes,(jx l).leg,(jx l).mark)
def He (w n:Int) (l:List UInt8):List Sx->Option Sx
 | []=>none
 | y::ys=>if MK (sU w n y)==l then some y else He w n l ys
theorem rQ {w n:Int} {l:List UInt8} :∀ {ys:List Sx} {y:Sx},He w n l ys=some y->y∈ys/\MK (sU w n y)=l
 | z::ys,y,h=>by
  unfold He at h;split at h
  ·rename_i hs;cases h;exact ⟨List.mem_cons_self,by simpa using hs⟩
  ·have:=rQ h
   exact ⟨List.mem_cons_of_mem _ this.1,this.2⟩
theorem Jv {w n:Int} {l:List UInt8} :∀ {ys:List Sx},He w n l ys=none->∀ y∈ys,MK (sU w n y)≠l
 | [],_,y,hy=>by cases hy
 | z::ys,h,y,hy=>by
  unfold He at h;split at h
  ·cases h
  ·rename_i hs;rcases List.mem_cons.1 hy with rfl|hy
   ·simpa using hs
   ·exact Jv h y hy
theorem Bx {w n:Int} (hw:1<=w/\w<=5) (hn:1<=n/\n<=5) (l:List UInt8):MW w n l =(He w n l fk).isSome/\∀ y,He w n l fk=some y->jx l=sU w n y:=by
 have fwd :∀ y,He w n l fk=some y->jx l=sU w n y:=fun y h=>by obtain ⟨h1,h2⟩:=rQ h;rw [<-h2];exact ad0 hw hn h1
 refine ⟨?_,fwd⟩
 cases hf:He w n l fk with
 | some y=>
  obtain ⟨h1,h2⟩:=rQ hf;have e:=fwd y hf;unfold MW;rw [e,h2];have hv:=List.all_eq_true.1 KM y h1;obtain ⟨a,b,c,d,f⟩:=y
  have e3 :((sU w n (a,b,c,d,f)).kind,(sU w n (a,b,c,d,f)).charge - fB w n (sU w n (a,b,c,d,f)).kind,(sU w n (a,b,c,d,f)).byes,(sU w n (a,b,c,d,f)).leg,(sU w n (a,b,c,d,f)).mark) =(a,b,c,d,f):=by show (a,fB w n a+b - fB w n a,c,d,f)=_;rw [show fB w n a+b - fB w n a=b by omega]
  rw [e3,hv];simp
 | none=>
  cases ho:MW w n l with
  | false=>rfl
  | true=>
   exfalso;unfold MW at ho;rw [Bool.and_eq_true] at ho;obtain ⟨o1,o2⟩:=ho;obtain ⟨r1,r2,r3,r4⟩:=Tw l;have hm:=Uo (Dv l) (Dw l) r2 r3 r4 o2;refine Jv hf _ hm ?_
   have es:sU w n ((jx l).kind,(jx l).charge - fB w n (jx l).kind,(jx l).byes,(jx l).leg,(jx l).mark)=jx l:=by show (⟨(jx l).kind,fB w n (jx l).kind +((jx l).charge - fB w n (jx l).kind),(jx l).byes,(jx l).leg,(jx l).mark⟩:ab)=jx l;rw [show fB w n (jx l).kind +((jx l).charge - fB w n (jx l).kind) =(jx l).charge by omega]
   rw [es];simpa using o1
end
end Go.Proofs.YtjcbhomccohklaaGreatDoor
