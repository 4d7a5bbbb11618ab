/- Texts of the mirror and contracts, put together. -/
import Derived.Test.YtkgplaoappjkcaaGreatPT4
import Derived.Shelf.Small.Strs
import Derived.Test.YtkgplaoappjkcaaGreatPT3
namespace Go.Proofs.YtkgplaoappjkcaaGreat
open Go Go.Mir
attribute [local irreducible] Go.Mir.RT.sat Go.Mir.evFn Go.Mir.stepObl
theorem NZ (r:Rules) (x:Innings) (p:Int) (hp:kU p) :(evFn (cf8 [k47,k81,k84,k85] Tryz.f161) (fun _=>none) Tryz.f161 (bk kf (r,x,p,()))).sat fun v' rows=>leV v' (xR (r,x,p,())).v∧rows =(xR (r,x,p,())).rows:=by
 refine cast (by kernel_rfl) (?_ :((bif !bA x p then true else ax r !=(0:Int))=true→(3:Int)=cR r x p∧([]:List RowD)=[])∧((bif !bA x p then true else ax r !=(0:Int))=false→((decide (p≤(↑x.21.length:Int))=true→((0:Int)≤IntKind.i64.wrap (p - (1:Int))∧IntKind.i64.wrap (p - (1:Int)) <(↑x.21.length:Int))∧True)∧(decide (p≤(↑x.21.length:Int))=false→True))∧(true=true→((bif p==x.19 then true else bif p==x.12 then true else bif decide (p≤(↑x.21.length:Int)) then x.21.getD (IntKind.i64.wrap (p - (1:Int))).toNat (dflt Ty.bool) else false)=true→(7:Int)=cR r x p∧([]:List RowD)=[])∧((bif p==x.19 then true else bif p==x.12 then true else bif decide (p≤(↑x.21.length:Int)) then x.21.getD (IntKind.i64.wrap (p - (1:Int))).toNat (dflt Ty.bool) else false)=false→(fG x.14 p=true→(8:Int)=cR r x p∧([]:List RowD)=[])∧(fG x.14 p=false→((bif jo r x p !=(-1:Int) then decide (x.8<IntKind.i64.wrap (r.5 - jo r x p)) else false)=true→(9:Int)=cR r x p∧([]:List RowD)=[])∧((bif jo r x p !=(-1:Int) then decide (x.8<IntKind.i64.wrap (r.5 - jo r x p)) else false)=false→(0:Int)=cR r x p∧([]:List RowD)=[]))))))
 have h0 :(bif !bA x p then true else ax r != 0) =(!bA x p||ax r != 0):=by cases bA x p <;> rfl
 rw [h0]
 refine ⟨fun h=>⟨?_,rfl⟩,fun h=>?_⟩
 ·simp only [cR,h,if_true]
 ·have hk:bA x p=true:=by
   cases hk:bA x p with
   | true=>rfl
   | false=>rw [hk] at h;cases h
  have hp1:p≥1:=by
   simp only [bA,Bool.and_eq_true,decide_eq_true_eq] at hk
   exact hk.1
  have hw:IntKind.i64.wrap (p - 1)=p - 1:=by have:=hp.2;exact eZ (by omega) (by omega)
  rw [hw]
  have hrep :(bif decide (p≤(x.Subs.length:Int)) then x.Subs.getD (p - 1).toNat (dflt Ty.bool) else false)=aO x p:=by
   simp only [aO,bj,decide_eq_true hp1,Bool.true_and]
   cases decide (p≤(x.Subs.length:Int)) <;> rfl
  rw [hrep]
  have hq :(bif p==x.Keeper then true else bif p==x.Bowler then true else aO x p) =(p==x.Keeper ||(p==x.Bowler||aO x p)):=by simp only [Bool.cond_true_left]
  rw [hq,Bool.cond_false_right]
  refine ⟨⟨fun h1=>⟨?_,trivial⟩,fun _=>trivial⟩,fun _=>⟨fun h1=>⟨?_,rfl⟩,fun h1=>⟨fun h2=>⟨?_,rfl⟩,fun h2=>⟨fun h3=>⟨?_,rfl⟩,fun h3=>⟨?_,rfl⟩⟩⟩⟩⟩
  ·have h1:p≤(x.Subs.length:Int):=of_decide_eq_true h1
   exact ⟨by omega,by omega⟩
  ·simp only [cR,h,h1];rfl
  ·simp only [cR,h,h1,h2];rfl
  ·simp only [cR,h,h1,h2,h3];rfl
  ·simp only [cR,h,h1,h2,h3];rfl
theorem OH:CtrOK Tryz.prog K8 161 (aq K8 kf xR):=by
 refine aS (C:=cf8 [k47,k81,k84,k85] Tryz.f161) (bu (.cons Jr (.cons OG (.cons L4 (.cons wC .nil)))) _) mixed (fn:=Tryz.f161) Tryz.func161 (by kernel_rfl) (by kernel_rfl) (by kernel_rfl) (Λ:=fun _ _=>none) ?_ ?_ ?_
 ·exact fun _ _ _ _ _ _ _ _ h=>by cases h
 ·rintro ⟨r,x,p,⟨⟩⟩
  exact of_decide_eq_true (by kernel_rfl)
 ·rintro ⟨r,x,p,⟨⟩⟩ hw hn
  exact NZ r x p (gv (bg (aX (aX hw))))
theorem NI (r:Rules) (x:Innings) (p:Int) (hs:ah x) :(evFn (cf8 [k82,k83] Tryz.f132) (fun _=>none) Tryz.f132 (bk kf (r,x,p,()))).sat fun v' rows=>leV v' (xC (r,x,p,())).v∧rows =(xC (r,x,p,())).rows:=by
 refine cast (by kernel_rfl) (?_:ah x∧(((bif cR r x p ==(0:Int) then x.1 else x.1) =(bE r x p).1∧(bif cR r x p ==(0:Int) then x.2 else x.2) =(bE r x p).2∧(bif cR r x p ==(0:Int) then x.3 else x.3) =(bE r x p).3∧(bif cR r x p ==(0:Int) then x.4 else x.4) =(bE r x p).4∧(bif cR r x p ==(0:Int) then x.5 else x.5) =(bE r x p).5∧(bif cR r x p ==(0:Int) then x.6.1 else x.6.1) =(bE r x p).6.1∧(bif cR r x p ==(0:Int) then x.6.2 else x.6.2) =(bE r x p).6.2∧(bif cR r x p ==(0:Int) then x.6.3 else x.6.3) =(bE r x p).6.3∧(bif cR r x p ==(0:Int) then x.6.4 else x.6.4) =(bE r x p).6.4∧(bif cR r x p ==(0:Int) then x.6.5 else x.6.5) =(bE r x p).6.5∧(bif cR r x p ==(0:Int) then x.7 else x.7) =(bE r x p).7∧(bif cR r x p ==(0:Int) then x.8 else x.8) =(bE r x p).8∧(bif cR r x p ==(0:Int) then x.9 else x.9) =(bE r x p).9∧(bif cR r x p ==(0:Int) then x.10 else x.10) =(bE r x p).10∧(nat_lit 0=nat_lit 0∧nat_lit 0=nat_lit 0)∧(bif cR r x p ==(0:Int) then p else x.12) =(bE r x p).12∧(nat_lit 1=nat_lit 1∧nat_lit 1=nat_lit 1)∧(nat_lit 2=nat_lit 2∧nat_lit 2=nat_lit 2)∧(bif cR r x p ==(0:Int) then x.15 else x.15) =(bE r x p).15∧(nat_lit 3=nat_lit 3∧nat_lit 3=nat_lit 3)∧(bif cR r x p ==(0:Int) then x.17 else x.17) =(bE r x p).17∧(bif cR r x p ==(0:Int) then x.18 else x.18) =(bE r x p).18∧(bif cR r x p ==(0:Int) then x.19 else x.19) =(bE r x p).19∧(bif cR r x p ==(0:Int) then x.20 else x.20) =(bE r x p).20∧(nat_lit 4=nat_lit 4∧nat_lit 4=nat_lit 4)∧(bif cR r x p ==(0:Int) then x.22.1 else x.22.1) =(bE r x p).22.1∧(bif cR r x p ==(0:Int) then x.22.2.1 else x.22.2.1) =(bE r x p).22.2.1∧(bif cR r x p ==(0:Int) then x.23 else x.23) =(bE r x p).23∧True)∧cR r x p=cR r x p∧True)∧ [RowD.mk (Ty.int IntKind.u8) x.11,RowD.mk (Ty.int IntKind.i64) x.13,RowD.mk (Ty.int IntKind.i64) x.14,RowD.mk (Ty.int IntKind.i64) x.16,RowD.mk Ty.bool x.21]=[RowD.mk (Ty.int IntKind.u8) (bE r x p).11,RowD.mk (Ty.int IntKind.i64) (bE r x p).13,RowD.mk (Ty.int IntKind.i64) (bE r x p).14,RowD.mk (Ty.int IntKind.i64) (bE r x p).16,RowD.mk Ty.bool (bE r x p).21])
 refine ⟨hs,?_⟩
 cases hm :(cR r x p==0) with
 | false=>
  have e:bE r x p=x:=by simp only [bE,hm];rfl
  rw [e];simp
 | true=>
  have e:bE r x p={ x with Bowler:=p }:=by simp only [bE,hm];rfl
  rw [e];simp
theorem Ov:CtrOK Tryz.prog K8 132 (aq K8 kf xC):=by
 refine aS (C:=cf8 [k82,k83] Tryz.f132) (bu (.cons OH (.cons L3 .nil)) _) mixed (fn:=Tryz.f132) Tryz.func132 (by kernel_rfl) (by kernel_rfl) (by kernel_rfl) (Λ:=fun _ _=>none) ?_ ?_ ?_
 ·exact fun _ _ _ _ _ _ _ _ h=>by cases h
 ·rintro ⟨r,x,p,⟨⟩⟩
  exact of_decide_eq_true (by kernel_rfl)
 ·rintro ⟨r,x,p,⟨⟩⟩ hw hn
  exact NI r x p (hn _ (List.mem_singleton.2 rfl))
theorem NK (r:Rules) (x:Innings) (hs:ah x) :(evFn (cf8 [k83,k85] Tryz.f140) (fun _=>none) Tryz.f140 (bk zE (r,x,()))).sat fun v' rows=>leV v' (xE (r,x,())).v∧rows =(xE (r,x,())).rows:=by
 refine cast (by kernel_rfl) (?_:ah x∧((bif ax r !=(0:Int) then true else bif r.10 ==(0:Int) then true else decide (x.18<IntKind.i64.wrap (r.10*r.5)))=true→((x.1 =(bq r x).1∧x.2 =(bq r x).2∧x.3 =(bq r x).3∧x.4 =(bq r x).4∧x.5 =(bq r x).5∧x.6.1 =(bq r x).6.1∧x.6.2 =(bq r x).6.2∧x.6.3 =(bq r x).6.3∧x.6.4 =(bq r x).6.4∧x.6.5 =(bq r x).6.5∧x.7 =(bq r x).7∧x.8 =(bq r x).8∧x.9 =(bq r x).9∧x.10 =(bq r x).10∧(nat_lit 0=nat_lit 0∧nat_lit 0=nat_lit 0)∧x.12 =(bq r x).12∧(nat_lit 1=nat_lit 1∧nat_lit 1=nat_lit 1)∧(nat_lit 2=nat_lit 2∧nat_lit 2=nat_lit 2)∧x.15 =(bq r x).15∧(nat_lit 3=nat_lit 3∧nat_lit 3=nat_lit 3)∧x.17 =(bq r x).17∧x.18 =(bq r x).18∧x.19 =(bq r x).19∧x.20 =(bq r x).20∧(nat_lit 4=nat_lit 4∧nat_lit 4=nat_lit 4)∧x.22.1 =(bq r x).22.1∧x.22.2.1 =(bq r x).22.2.1∧x.23 =(bq r x).23∧True)∧(22:Int)=wy r x∧True)∧ [RowD.mk (Ty.int IntKind.u8) x.11,RowD.mk (Ty.int IntKind.i64) x.13,RowD.mk (Ty.int IntKind.i64) x.14,RowD.mk (Ty.int IntKind.i64) x.16,RowD.mk Ty.bool x.21]=[RowD.mk (Ty.int IntKind.u8) (bq r x).11,RowD.mk (Ty.int IntKind.i64) (bq r x).13,RowD.mk (Ty.int IntKind.i64) (bq r x).14,RowD.mk (Ty.int IntKind.i64) (bq r x).16,RowD.mk Ty.bool (bq r x).21])∧((bif ax r !=(0:Int) then true else bif r.10 ==(0:Int) then true else decide (x.18<IntKind.i64.wrap (r.10*r.5)))=false→((x.1 =(bq r x).1∧x.2 =(bq r x).2∧x.3 =(bq r x).3∧x.4 =(bq r x).4∧x.5 =(bq r x).5∧x.6.1 =(bq r x).6.1∧x.6.2 =(bq r x).6.2∧x.6.3 =(bq r x).6.3∧x.6.4 =(bq r x).6.4∧x.6.5 =(bq r x).6.5∧x.7 =(bq r x).7∧x.8 =(bq r x).8∧x.9 =(bq r x).9∧x.10 =(bq r x).10∧(nat_lit 0=nat_lit 0∧nat_lit 0=nat_lit 0)∧x.12 =(bq r x).12∧(nat_lit 1=nat_lit 1∧nat_lit 1=nat_lit 1)∧(nat_lit 2=nat_lit 2∧nat_lit 2=nat_lit 2)∧x.15 =(bq r x).15∧(nat_lit 3=nat_lit 3∧nat_lit 3=nat_lit 3)∧x.17 =(bq r x).17∧(0:Int) =(bq r x).18∧x.19 =(bq r x).19∧x.20 =(bq r x).20∧(nat_lit 4=nat_lit 4∧nat_lit 4=nat_lit 4)∧x.22.1 =(bq r x).22.1∧x.22.2.1 =(bq r x).22.2.1∧x.23 =(bq r x).23∧True)∧(0:Int)=wy r x∧True)∧ [RowD.mk (Ty.int IntKind.u8) x.11,RowD.mk (Ty.int IntKind.i64) x.13,RowD.mk (Ty.int IntKind.i64) x.14,RowD.mk (Ty.int IntKind.i64) x.16,RowD.mk Ty.bool x.21]=[RowD.mk (Ty.int IntKind.u8) (bq r x).11,RowD.mk (Ty.int IntKind.i64) (bq r x).13,RowD.mk (Ty.int IntKind.i64) (bq r x).14,RowD.mk (Ty.int IntKind.i64) (bq r x).16,RowD.mk Ty.bool (bq r x).21]))
 have hc :(bif ax r != 0 then true else bif r.NewBall==0 then true else decide (x.BallAge<IntKind.i64.wrap (r.NewBall*r.Balls)))=Dp r x:=by simp only [Dp,Bool.cond_true_left]
 rw [hc]
 refine ⟨hs,fun h=>?_,fun h=>?_⟩
 ·have e:bq r x=x:=by simp only [bq,h];rfl
  have l:wy r x=22:=by simp only [wy,h];rfl
  rw [e,l];simp
 ·have e:bq r x={ x with BallAge:=0 }:=by simp only [bq,h];rfl
  have l:wy r x=0:=by simp only [wy,h];rfl
  rw [e,l];simp
theorem Ox:CtrOK Tryz.prog K8 140 (aq K8 zE xE):=by
 refine aS (C:=cf8 [k83,k85] Tryz.f140) (bu (.cons L3 (.cons wC .nil)) _) mixed (fn:=Tryz.f140) Tryz.func140 (by kernel_rfl) (by kernel_rfl) (by kernel_rfl) (Λ:=fun _ _=>none) ?_ ?_ ?_
 ·exact fun _ _ _ _ _ _ _ _ h=>by cases h
 ·rintro ⟨r,x,⟨⟩⟩
  exact of_decide_eq_true (by kernel_rfl)
 ·rintro ⟨r,x,⟨⟩⟩ hw hn
  exact NK r x (hn _ (List.mem_singleton.2 rfl))
theorem FL {x:Innings} (h:wfD (.nm .Innings) x):kU x.Bowler:=
 gv (bg (aX (aX (aX (aX (aX (aX (aX (aX (aX (aX (aX (IT h)))))))))))))
theorem yq (x:Innings) (c:Bool) :(c7 x c).InOver =(bif c then IntKind.i64.wrap (x.InOver+1) else x.InOver):=by cases c <;> rfl
theorem CB {r:Rules} {x:Innings} (c:Bool) (h:jN r x=true):an r x c=x∧iC r x c=false:=by
 unfold an iC
 rw [if_pos h,if_pos h]
 exact ⟨rfl,rfl⟩
theorem pU {r:Rules} {x:Innings} {c:Bool} (h:jN r x=false) (h2:decide ((bif c then IntKind.i64.wrap (x.InOver+1) else x.InOver)<r.Balls)=true):an r x c=c7 x c∧iC r x c=false:=by
 have h3 :(c7 x c).InOver<r.Balls:=by rw [yq];exact of_decide_eq_true h2
 unfold an iC
 simp only [h,h3,if_true,Bool.false_eq_true,if_false,and_self]
theorem lG {r:Rules} {x:Innings} {c:Bool} (h:jN r x=false) (h2:decide ((bif c then IntKind.i64.wrap (x.InOver+1) else x.InOver)<r.Balls)=false):an r x c=zr (c7 x c)∧iC r x c=true:=by
 have h3 :¬(c7 x c).InOver<r.Balls:=by rw [yq];exact of_decide_eq_false h2
 unfold an iC
 simp only [h,h3,Bool.false_eq_true,if_false,and_self]
theorem NJ (r:Rules) (x:Innings) (c:Bool) (hs:ah x) (hb:kU x.Bowler) :(evFn (cf8 [k47,k83,k84,k85] Tryz.f165) (fun _=>none) Tryz.f165 (bk DI (r,x,c,()))).sat fun v' rows=>leV v' (xD (r,x,c,())).v∧rows =(xD (r,x,c,())).rows:=by
 refine cast (by kernel_rfl) (?_:ah x∧((bif !bA x x.12 then true else ax r !=(0:Int))=true→((x.1 =(an r x c).1∧x.2 =(an r x c).2∧x.3 =(an r x c).3∧x.4 =(an r x c).4∧x.5 =(an r x c).5∧x.6.1 =(an r x c).6.1∧x.6.2 =(an r x c).6.2∧x.6.3 =(an r x c).6.3∧x.6.4 =(an r x c).6.4∧x.6.5 =(an r x c).6.5∧x.7 =(an r x c).7∧x.8 =(an r x c).8∧x.9 =(an r x c).9∧x.10 =(an r x c).10∧(nat_lit 0=nat_lit 0∧nat_lit 0=nat_lit 0)∧x.12 =(an r x c).12∧(nat_lit 1=nat_lit 1∧nat_lit 1=nat_lit 1)∧(nat_lit 2=nat_lit 2∧nat_lit 2=nat_lit 2)∧x.15 =(an r x c).15∧(nat_lit 3=nat_lit 3∧nat_lit 3=nat_lit 3)∧x.17 =(an r x c).17∧x.18 =(an r x c).18∧x.19 =(an r x c).19∧x.20 =(an r x c).20∧(nat_lit 4=nat_lit 4∧nat_lit 4=nat_lit 4)∧x.22.1 =(an r x c).22.1∧x.22.2.1 =(an r x c).22.2.1∧x.23 =(an r x c).23∧True)∧false=iC r x c∧True)∧ [RowD.mk (Ty.int IntKind.u8) x.11,RowD.mk (Ty.int IntKind.i64) x.13,RowD.mk (Ty.int IntKind.i64) x.14,RowD.mk (Ty.int IntKind.i64) x.16,RowD.mk Ty.bool x.21]=[RowD.mk (Ty.int IntKind.u8) (an r x c).11,RowD.mk (Ty.int IntKind.i64) (an r x c).13,RowD.mk (Ty.int IntKind.i64) (an r x c).14,RowD.mk (Ty.int IntKind.i64) (an r x c).16,RowD.mk Ty.bool (an r x c).21])∧((bif !bA x x.12 then true else ax r !=(0:Int))=false→((!fG x.13 x.12)=true→(x.13.length+[x.12].length) *(8:Nat)≤(70368744177664:Nat)∧((c=true→((0:Int)≤IntKind.i64.wrap (x.12 - (1:Int))∧IntKind.i64.wrap (x.12 - (1:Int)) <(↑x.16.length:Int))∧((0:Int)≤IntKind.i64.wrap (x.12 - (1:Int))∧IntKind.i64.wrap (x.12 - (1:Int)) <(↑x.16.length:Int))∧True)∧(c=false→True))∧(true=true→(decide ((bif c then IntKind.i64.wrap (x.8 +(1:Int)) else x.8)<r.5)=true→(((bif c then x.1 else x.1) =(an r x c).1∧(bif c then x.2 else x.2) =(an r x c).2∧(bif c then x.3 else x.3) =(an r x c).3∧(bif c then x.4 else x.4) =(an r x c).4∧(bif c then x.5 else x.5) =(an r x c).5∧(bif c then x.6.1 else x.6.1) =(an r x c).6.1∧(bif c then x.6.2 else x.6.2) =(an r x c).6.2∧(bif c then x.6.3 else x.6.3) =(an r x c).6.3∧(bif c then x.6.4 else x.6.4) =(an r x c).6.4∧(bif c then x.6.5 else x.6.5) =(an r x c).6.5∧(bif c then x.7 else x.7) =(an r x c).7∧(bif c then IntKind.i64.wrap (x.8 +(1:Int)) else x.8) =(an r x c).8∧(bif c then x.9 else x.9) =(an r x c).9∧(bif c then x.10 else x.10) =(an r x c).10∧(nat_lit 0=nat_lit 0∧nat_lit 0=nat_lit 0)∧(bif c then x.12 else x.12) =(an r x c).12∧(nat_lit 1=nat_lit 1∧nat_lit 1=nat_lit 1)∧(nat_lit 2=nat_lit 2∧nat_lit 2=nat_lit 2)∧(bif c then x.15 else x.15) =(an r x c).15∧(nat_lit 3=nat_lit 3∧nat_lit 3=nat_lit 3)∧(bif c then x.17 else x.17) =(an r x c).17∧(bif c then IntKind.i64.wrap (x.18 +(1:Int)) else x.18) =(an r x c).18∧(bif c then x.19 else x.19) =(an r x c).19∧(bif c then x.20 else x.20) =(an r x c).20∧(nat_lit 4=nat_lit 4∧nat_lit 4=nat_lit 4)∧(bif c then x.22.1 else x.22.1) =(an r x c).22.1∧(bif c then x.22.2.1 else x.22.2.1) =(an r x c).22.2.1∧(bif c then x.23 else x.23) =(an r x c).23∧True)∧false=iC r x c∧True)∧ [RowD.mk (Ty.int IntKind.u8) x.11,RowD.mk (Ty.int IntKind.i64) (x.13++[x.12]),RowD.mk (Ty.int IntKind.i64) x.14,RowD.mk (Ty.int IntKind.i64) (bif c then x.16.set (IntKind.i64.wrap (x.12 - (1:Int))).toNat (IntKind.i64.wrap (x.16.getD (IntKind.i64.wrap (x.12 - (1:Int))).toNat (dflt (Ty.int IntKind.i64)) +(1:Int))) else x.16),RowD.mk Ty.bool x.21]=[RowD.mk (Ty.int IntKind.u8) (an r x c).11,RowD.mk (Ty.int IntKind.i64) (an r x c).13,RowD.mk (Ty.int IntKind.i64) (an r x c).14,RowD.mk (Ty.int IntKind.i64) (an r x c).16,RowD.mk Ty.bool (an r x c).21])∧(decide ((bif c then IntKind.i64.wrap (x.8 +(1:Int)) else x.8)<r.5)=false→(((bif c then x.1 else x.1) =(an r x c).1∧(bif c then x.2 else x.2) =(an r x c).2∧(bif c then x.3 else x.3) =(an r x c).3∧(bif c then x.4 else x.4) =(an r x c).4∧(bif c then x.5 else x.5) =(an r x c).5∧(bif c then x.6.1 else x.6.1) =(an r x c).6.1∧(bif c then x.6.2 else x.6.2) =(an r x c).6.2∧(bif c then x.6.3 else x.6.3) =(an r x c).6.3∧(bif c then x.6.4 else x.6.4) =(an r x c).6.4∧(bif c then x.6.5 else x.6.5) =(an r x c).6.5∧IntKind.i64.wrap ((bif c then x.7 else x.7) +(1:Int)) =(an r x c).7∧(0:Int) =(an r x c).8∧(bif c then x.9 else x.9) =(an r x c).9∧(bif c then x.10 else x.10) =(an r x c).10∧(nat_lit 0=nat_lit 0∧nat_lit 0=nat_lit 0)∧(0:Int) =(an r x c).12∧(nat_lit 1=nat_lit 1∧nat_lit 1=nat_lit 1)∧(nat_lit 2=nat_lit 2∧nat_lit 2=nat_lit 2)∧(bif c then x.15 else x.15) =(an r x c).15∧(nat_lit 3=nat_lit 3∧nat_lit 3=nat_lit 3)∧(bif c then x.17 else x.17) =(an r x c).17∧(bif c then IntKind.i64.wrap (x.18 +(1:Int)) else x.18) =(an r x c).18∧(bif c then x.19 else x.19) =(an r x c).19∧(bif c then x.20 else x.20) =(an r x c).20∧(nat_lit 4=nat_lit 4∧nat_lit 4=nat_lit 4)∧(bif c then x.22.1 else x.22.1) =(an r x c).22.1∧(bif c then x.22.2.1 else x.22.2.1) =(an r x c).22.2.1∧(bif c then x.23 else x.23) =(an r x c).23∧True)∧true=iC r x c∧True)∧ [RowD.mk (Ty.int IntKind.u8) x.11,RowD.mk (Ty.int IntKind.i64) [],RowD.mk (Ty.int IntKind.i64) (x.13++[x.12]),RowD.mk (Ty.int IntKind.i64) (bif c then x.16.set (IntKind.i64.wrap (x.12 - (1:Int))).toNat (IntKind.i64.wrap (x.16.getD (IntKind.i64.wrap (x.12 - (1:Int))).toNat (dflt (Ty.int IntKind.i64)) +(1:Int))) else x.16),RowD.mk Ty.bool x.21]=[RowD.mk (Ty.int IntKind.u8) (an r x c).11,RowD.mk (Ty.int IntKind.i64) (an r x c).13,RowD.mk (Ty.int IntKind.i64) (an r x c).14,RowD.mk (Ty.int IntKind.i64) (an r x c).16,RowD.mk Ty.bool (an r x c).21])))∧((!fG x.13 x.12)=false→((c=true→((0:Int)≤IntKind.i64.wrap (x.12 - (1:Int))∧IntKind.i64.wrap (x.12 - (1:Int)) <(↑x.16.length:Int))∧((0:Int)≤IntKind.i64.wrap (x.12 - (1:Int))∧IntKind.i64.wrap (x.12 - (1:Int)) <(↑x.16.length:Int))∧True)∧(c=false→True))∧(true=true→(decide ((bif c then IntKind.i64.wrap (x.8 +(1:Int)) else x.8)<r.5)=true→(((bif c then x.1 else x.1) =(an r x c).1∧(bif c then x.2 else x.2) =(an r x c).2∧(bif c then x.3 else x.3) =(an r x c).3∧(bif c then x.4 else x.4) =(an r x c).4∧(bif c then x.5 else x.5) =(an r x c).5∧(bif c then x.6.1 else x.6.1) =(an r x c).6.1∧(bif c then x.6.2 else x.6.2) =(an r x c).6.2∧(bif c then x.6.3 else x.6.3) =(an r x c).6.3∧(bif c then x.6.4 else x.6.4) =(an r x c).6.4∧(bif c then x.6.5 else x.6.5) =(an r x c).6.5∧(bif c then x.7 else x.7) =(an r x c).7∧(bif c then IntKind.i64.wrap (x.8 +(1:Int)) else x.8) =(an r x c).8∧(bif c then x.9 else x.9) =(an r x c).9∧(bif c then x.10 else x.10) =(an r x c).10∧(nat_lit 0=nat_lit 0∧nat_lit 0=nat_lit 0)∧(bif c then x.12 else x.12) =(an r x c).12∧(nat_lit 1=nat_lit 1∧nat_lit 1=nat_lit 1)∧(nat_lit 2=nat_lit 2∧nat_lit 2=nat_lit 2)∧(bif c then x.15 else x.15) =(an r x c).15∧(nat_lit 3=nat_lit 3∧nat_lit 3=nat_lit 3)∧(bif c then x.17 else x.17) =(an r x c).17∧(bif c then IntKind.i64.wrap (x.18 +(1:Int)) else x.18) =(an r x c).18∧(bif c then x.19 else x.19) =(an r x c).19∧(bif c then x.20 else x.20) =(an r x c).20∧(nat_lit 4=nat_lit 4∧nat_lit 4=nat_lit 4)∧(bif c then x.22.1 else x.22.1) =(an r x c).22.1∧(bif c then x.22.2.1 else x.22.2.1) =(an r x c).22.2.1∧(bif c then x.23 else x.23) =(an r x c).23∧True)∧false=iC r x c∧True)∧ [RowD.mk (Ty.int IntKind.u8) x.11,RowD.mk (Ty.int IntKind.i64) x.13,RowD.mk (Ty.int IntKind.i64) x.14,RowD.mk (Ty.int IntKind.i64) (bif c then x.16.set (IntKind.i64.wrap (x.12 - (1:Int))).toNat (IntKind.i64.wrap (x.16.getD (IntKind.i64.wrap (x.12 - (1:Int))).toNat (dflt (Ty.int IntKind.i64)) +(1:Int))) else x.16),RowD.mk Ty.bool x.21]=[RowD.mk (Ty.int IntKind.u8) (an r x c).11,RowD.mk (Ty.int IntKind.i64) (an r x c).13,RowD.mk (Ty.int IntKind.i64) (an r x c).14,RowD.mk (Ty.int IntKind.i64) (an r x c).16,RowD.mk Ty.bool (an r x c).21])∧(decide ((bif c then IntKind.i64.wrap (x.8 +(1:Int)) else x.8)<r.5)=false→(((bif c then x.1 else x.1) =(an r x c).1∧(bif c then x.2 else x.2) =(an r x c).2∧(bif c then x.3 else x.3) =(an r x c).3∧(bif c then x.4 else x.4) =(an r x c).4∧(bif c then x.5 else x.5) =(an r x c).5∧(bif c then x.6.1 else x.6.1) =(an r x c).6.1∧(bif c then x.6.2 else x.6.2) =(an r x c).6.2∧(bif c then x.6.3 else x.6.3) =(an r x c).6.3∧(bif c then x.6.4 else x.6.4) =(an r x c).6.4∧(bif c then x.6.5 else x.6.5) =(an r x c).6.5∧IntKind.i64.wrap ((bif c then x.7 else x.7) +(1:Int)) =(an r x c).7∧(0:Int) =(an r x c).8∧(bif c then x.9 else x.9) =(an r x c).9∧(bif c then x.10 else x.10) =(an r x c).10∧(nat_lit 0=nat_lit 0∧nat_lit 0=nat_lit 0)∧(0:Int) =(an r x c).12∧(nat_lit 1=nat_lit 1∧nat_lit 1=nat_lit 1)∧(nat_lit 2=nat_lit 2∧nat_lit 2=nat_lit 2)∧(bif c then x.15 else x.15) =(an r x c).15∧(nat_lit 3=nat_lit 3∧nat_lit 3=nat_lit 3)∧(bif c then x.17 else x.17) =(an r x c).17∧(bif c then IntKind.i64.wrap (x.18 +(1:Int)) else x.18) =(an r x c).18∧(bif c then x.19 else x.19) =(an r x c).19∧(bif c then x.20 else x.20) =(an r x c).20∧(nat_lit 4=nat_lit 4∧nat_lit 4=nat_lit 4)∧(bif c then x.22.1 else x.22.1) =(an r x c).22.1∧(bif c then x.22.2.1 else x.22.2.1) =(an r x c).22.2.1∧(bif c then x.23 else x.23) =(an r x c).23∧True)∧true=iC r x c∧True)∧ [RowD.mk (Ty.int IntKind.u8) x.11,RowD.mk (Ty.int IntKind.i64) [],RowD.mk (Ty.int IntKind.i64) x.13,RowD.mk (Ty.int IntKind.i64) (bif c then x.16.set (IntKind.i64.wrap (x.12 - (1:Int))).toNat (IntKind.i64.wrap (x.16.getD (IntKind.i64.wrap (x.12 - (1:Int))).toNat (dflt (Ty.int IntKind.i64)) +(1:Int))) else x.16),RowD.mk Ty.bool x.21]=[RowD.mk (Ty.int IntKind.u8) (an r x c).11,RowD.mk (Ty.int IntKind.i64) (an r x c).13,RowD.mk (Ty.int IntKind.i64) (an r x c).14,RowD.mk (Ty.int IntKind.i64) (an r x c).16,RowD.mk Ty.bool (an r x c).21])))))
 have h0 :(bif !bA x x.Bowler then true else ax r != 0)=jN r x:=by simp only [jN];cases bA x x.Bowler <;> cases (ax r != 0) <;> rfl
 rw [h0]
 have hk:jN r x=false→IntKind.i64.wrap (x.Bowler - 1)=x.Bowler - 1∧0≤x.Bowler - 1∧x.Bowler - 1 <(x.Bowled.length:Int):=fun h=>wj hb (by
  cases hk:bA x x.Bowler with
  | true=>rfl
  | false=>simp only [jN,hk] at h;cases h)
 refine ⟨hs,fun h=>?_,fun h=>?_⟩
 ·rw [(CB c h).1,(CB c h).2];simp
 ·obtain ⟨ew,k1,k2⟩:=hk h
  rw [ew]
  have hd:x.Bowled.getD (x.Bowler - 1).toNat (dflt (Ty.int IntKind.i64))=x.Bowled.getD (x.Bowler - 1).toNat 0:=rfl
  refine ⟨fun h1=>⟨?_,⟨fun _=>⟨⟨k1,k2⟩,⟨k1,k2⟩,trivial⟩,fun _=>trivial⟩,fun _=>⟨fun h2=>?_,fun h2=>?_⟩⟩,fun h1=>⟨⟨fun _=>⟨⟨k1,k2⟩,⟨k1,k2⟩,trivial⟩,fun _=>trivial⟩,fun _=>⟨fun h2=>?_,fun h2=>?_⟩⟩⟩
  ·have:=hs.2.1
   simp only [List.length_cons,List.length_nil]
   omega
  ·have h1:fG x.Bowlers x.Bowler=false:=by simpa using h1
   rw [(pU h h2).1,(pU h h2).2]
   cases c <;> simp [c7,fm,qo,h1] <;> first|rfl|exact ⟨rfl,rfl⟩
  ·have h1:fG x.Bowlers x.Bowler=false:=by simpa using h1
   rw [(lG h h2).1,(lG h h2).2]
   cases c <;> simp [zr,c7,fm,qo,h1] <;> first|rfl|exact ⟨rfl,rfl⟩
  ·have h1:fG x.Bowlers x.Bowler=true:=by simpa using h1
   rw [(pU h h2).1,(pU h h2).2]
   cases c <;> simp [c7,fm,qo,h1] <;> first|rfl|exact ⟨rfl,rfl⟩
  ·have h1:fG x.Bowlers x.Bowler=true:=by simpa using h1
   rw [(lG h h2).1,(lG h h2).2]
   cases c <;> simp [zr,c7,fm,qo,h1] <;> first|rfl|exact ⟨rfl,rfl⟩
theorem Ow:CtrOK Tryz.prog K8 165 (aq K8 DI xD):=by
 refine aS (C:=cf8 [k47,k83,k84,k85] Tryz.f165) (bu (.cons Jr (.cons L3 (.cons L4 (.cons wC .nil)))) _) mixed (fn:=Tryz.f165) Tryz.func165 (by kernel_rfl) (by kernel_rfl) (by kernel_rfl) (Λ:=fun _ _=>none) ?_ ?_ ?_
 ·exact fun _ _ _ _ _ _ _ _ h=>by cases h
 ·rintro ⟨r,x,c,⟨⟩⟩
  exact of_decide_eq_true (by kernel_rfl)
 ·rintro ⟨r,x,c,⟨⟩⟩ hw hn
  exact NJ r x c (hn _ (List.mem_singleton.2 rfl)) (FL (bg (aX hw)))
end Go.Proofs.YtkgplaoappjkcaaGreat
namespace Go.Proofs.YtkgplaoappjkcaaGreat
open Go Go.Mir
attribute [local irreducible] Go.Mir.DT.sat Go.Mir.evPat Go.Mir.RT.sat Go.Mir.evFn
abbrev qRI:Pat:=bG [.nm .Rules,.nm .Innings]
def Bx (r:Rules) (x:Innings):Bool:=r.Overs==0&&x.Overs==0||r.Overs != 0&&inW x.Overs 1 r.Overs
def Df (r:Rules) (x:Innings):Bool:=(x.Batters.length:Int)==r.Side&&((x.Bowled.length:Int)==r.Side&&(x.Subs.length:Int)==r.Side)
def cb (r:Rules) (x:Innings):Bool:=
 ax r==0&&(inW x.Side 1 2&&(Df r x&&(decide (x.Ending≤5)&&(pD x r.Side&&(inW x.Bowler 0 r.Side&&(inW x.Keeper 0 r.Side&&(gU x.Bowlers r.Side&&(gU x.Before r.Side&&(Bx r x&&(inW x.InOver 0 (W (r.Balls - 1))&&rK x))))))))))
def Cn:Den (tyP qRI)→List Prop×Den (tyP aw):=fun x=>([ah x.2.1],(cb x.1 x.2.1,()))
def vH (r:Rules) (x:Innings):Int:=
 if !cb r x then 0 else if decide (x.Target>0)&&decide (x.Runs≥x.Target) then 3 else if dg x&&lc x then 1 else if decide (x.Overs>0)&&decide (x.Complete≥x.Overs) then 2 else 0
def Mh:Den (tyP qRI)→List Prop×Den (tyP qH):=fun x=>([ah x.2.1],(vH x.1 x.2.1,()))
def vy (r:Rules) (x:Innings):Int:=W (W (x.Complete*r.Balls)+x.InOver)
def B1:Den (tyP qRI)→List Prop×Den (tyP bt):=fun x=>([],(vy x.1 x.2.1,()))
def BA (x:Innings):Innings:={ x with Runs:=W (x.Runs+5),Extras:={ x.Extras with Penalties:=W (x.Extras.Penalties+5) } }
def Ig:Den (tyP qIn)→List Prop×Den (tyP qIn):=fun x=>([ah x.1],(BA x.1,()))
def xa:Den (tyP qIn)→List Prop×Den (tyP qIn):=fun x=>([ah x.1],(x.1,()))
abbrev jk:Pat:=bG [.nm .Rules,.nm .Innings,.nm .Event]
abbrev qIE:Pat:=bG [.nm .Innings,.nm .Event]
def pa (r:Rules) (x:Innings) (e:Mir.Event):Int:=if e.Side != x.Side then 2 else if r.Overs != 0 then 20 else 0
def nn (r:Rules) (x:Innings) (e:Mir.Event):Innings:=if pa r x e != 0 then x else { x with Ending:=4 }
def H8:Den (tyP jk)→List Prop×Den (tyP q2L):=fun x=>([ah x.2.1],(nn x.1 x.2.1 x.2.2.1,pa x.1 x.2.1 x.2.2.1,()))
def oO (e:Mir.Event):Int:=if e.Runs != 5 then 23 else 0
def rZ (x:Innings) (e:Mir.Event):Innings:=if oO e != 0 then x else if e.Side==x.Side then BA x else if x.Target>0 then { x with Target:=W (x.Target+5) } else x
def sH:Den (tyP qIE)→List Prop×Den (tyP q2L):=fun x=>([ah x.1],(rZ x.1 x.2.1,oO x.2.1,()))
def Hu (x:Innings) (s:Int):Int:=if s==1 then x.Reviews.1 else x.Reviews.2.1
def lr (r:Rules) (x:Innings) (s:Int):Int:=if !x.Fresh||decide (Hu x s≥r.Reviews) then 24 else 0
def zQ (x:Innings) (s:Int):Innings:={ x with Reviews:=if s==1 then (W (x.Reviews.1+1),x.Reviews.2.1,()) else (x.Reviews.1,W (x.Reviews.2.1+1),()) }
def mm (r:Rules) (x:Innings) (s:Int) (k:Bool):Innings:=if lr r x s != 0 then x else if k then x else zQ x s
def i6 (s:Int):Prop:=s=1∨s=2
def xj:Den (tyP jk)→List Prop×Den (tyP q2L):=fun x=>([ah x.2.1,i6 x.2.2.1.Side],(mm x.1 x.2.1 x.2.2.1.Side x.2.2.1.Yes,lr x.1 x.2.1 x.2.2.1.Side,()))
def lw (r:Rules) (x:Innings) (t o:Int):Bool:=
 r.Overs==0 ||(t==0&&o==0 ||(decide (t>0)&&(x.Target==0||decide (t≤x.Runs))||decide (o>0)&&(decide (o>r.Overs)||decide (W (o*r.Balls)<vy r x))))
def sC (r:Rules) (x:Innings) (t o:Int):Int:=if lw r x t o then 25 else 0
def Kp (x:Innings) (t:Int):Innings:=if t>0 then { x with Target:=t } else x
def Mf (x:Innings) (o:Int):Innings:=if o>0 then { x with Overs:=o } else x
def oS (r:Rules) (x:Innings) (t o:Int):Innings:=if lw r x t o then x else Mf (Kp x t) o
def xk:Den (tyP jk)→List Prop×Den (tyP q2L):=fun x=>([ah x.2.1],(oS x.1 x.2.1 x.2.2.1.Runs x.2.2.1.Overs,sC x.1 x.2.1 x.2.2.1.Runs x.2.2.1.Overs,()))
theorem Fi (x:Innings) (hs:ah x) :(evPat (al [k45,k90,k91] Tryz.f54) (fun _=>none) Tryz.f54 qIn qIn (x,())).sat fun z_=>z_ =(xa (x,())).2:=by
 refine cast (by kernel_rfl) (?_:x.11.length≤(1000000:Nat)∧x.13.length≤(1000000:Nat)∧x.14.length≤(1000000:Nat)∧x.16.length≤(1000000:Nat)∧x.21.length≤(1000000:Nat)∧(x,()) =(x,()))
 obtain ⟨h1,h2,h3,h4,h5⟩:=hs
 simp [h1,h2,h3,h4,h5]
def db:FuncId×Ctr:=(54,af KE qIn qIn xa)
theorem gg:CtrOK Tryz.prog KE 54 (af KE qIn qIn xa):=by
 refine ar (C:=al [k45,k90,k91] Tryz.f54) (aj (.consU Jq rfl (.consU Ju rfl (.consU Jv rfl .nil))) _) mixed (fn:=Tryz.f54) Tryz.func54 (by kernel_rfl) (by kernel_rfl) (by kernel_rfl) (by kernel_rfl) (by kernel_rfl) (by kernel_rfl) (Λ:=fun _ _=>none) ?_ ?_
 ·exact fun _ _ _ _ _ _ _ _ h=>by cases h
 ·rintro ⟨x,⟨⟩⟩ hw hn
  exact Fi x (hn _ List.mem_cons_self)
theorem Fk (r:Rules) (x:Innings) (hs:ah x) :(evPat (al [k85,cz,uu,GB,uw] Tryz.f59) (fun _=>none) Tryz.f59 qRI aw (r,x,())).sat fun z_=>z_ =(Cn (r,x,())).2:=by
 refine cast (by kernel_rfl) (?_:let r1:Bool:=inW x.8 (0:Int) (IntKind.i64.wrap (r.5 - (1:Int)));let r2:Bool:=bif r.4 !=(0:Int) then inW x.3 (1:Int) r.4 else false;let r3:Bool:=bif ax r !=(0:Int) then true else !inW x.1 (1:Int) (2:Int);let r4:Bool:=bif !pD x r.2 then true else bif !inW x.12 (0:Int) r.2 then true else bif !inW x.19 (0:Int) r.2 then true else bif !gU x.13 r.2 then true else !gU x.14 r.2;let r5:Bool:=bif (↑x.11.length:Int) != r.2 then true else bif (↑x.16.length:Int) != r.2 then true else bif (↑x.21.length:Int) != r.2 then true else decide (x.23 >(5:Int));let r6:Bool:=bif r.4 ==(0:Int) then bif x.3 ==(0:Int) then true else r2 else r2;(r3=true→(false,()) =(cb r x,()))∧(r3=false→(r5=true→(false,()) =(cb r x,()))∧(r5=false→(ah x∧((!pD x r.2)=true→True)∧((!pD x r.2)=false→((!inW x.12 (0:Int) r.2)=true→True)∧((!inW x.12 (0:Int) r.2)=false→((!inW x.19 (0:Int) r.2)=true→True)∧((!inW x.19 (0:Int) r.2)=false→((!gU x.13 r.2)=true→True)∧((!gU x.13 r.2)=false→True)))))∧(true=true→(r4=true→(false,()) =(cb r x,()))∧(r4=false→((r6=true→(r1=true→ah x∧True)∧(r1=false→True))∧(r6=false→True))∧(true=true→(bif r6 then bif r1 then rK x else false else false,()) =(cb r x,())))))))
 intro r1 r2 r3 r4 r5 r6
 clear_value (hr1:r1=_) (hr2:r2=_) (hr3:r3=_) (hr4:r4=_) (hr5:r5=_) (hr6:r6=_)
 have e3:r3=!(ax r==0&&inW x.Side 1 2):=by grind
 have e5:r5=!(Df r x&&decide (x.Ending≤5)):=by
  have hd:decide (x.Ending>5)=!decide (x.Ending≤5):=by by_cases h:x.Ending≤5 <;> simp [h] <;> omega
  rw [hr5,hd]
  unfold Df
  cases h1 :(x.Batters.length:Int)==r.Side <;> cases h2 :(x.Bowled.length:Int)==r.Side <;> cases h3 :(x.Subs.length:Int)==r.Side <;> simp [bne,h1,h2,h3]
 have e4:r4=!(pD x r.Side&&(inW x.Bowler 0 r.Side&&(inW x.Keeper 0 r.Side&&(gU x.Bowlers r.Side&&gU x.Before r.Side)))):=by rw [hr4];cases pD x r.Side <;> cases inW x.Bowler 0 r.Side <;> cases inW x.Keeper 0 r.Side <;> cases gU x.Bowlers r.Side <;> rfl
 have e6:r6=Bx r x:=by grind [Bx]
 have hv:cb r x =(!r3&&(!r5&&(!r4&&(r6&&(r1&&rK x))))):=by rw [e3,e5,e4,e6,hr1];unfold cb;simp only [Bool.not_not,Bool.and_assoc]
 rw [hv]
 cases r3 <;> cases r5 <;> cases r4 <;> cases r6 <;> cases r1 <;> simp [hs]
def nC:FuncId×Ctr:=(59,af KE qRI aw Cn)
theorem rP:CtrOK Tryz.prog KE 59 (af KE qRI aw Cn):=by
 refine ar (C:=al [k85,cz,uu,GB,uw] Tryz.f59) (aj (.consU wC rfl (.consU eV rfl (.consU Bm rfl (.consU JJ rfl (.consU Bo rfl .nil))))) _) mixed (fn:=Tryz.f59) Tryz.func59 (by kernel_rfl) (by kernel_rfl) (by kernel_rfl) (by kernel_rfl) (by kernel_rfl) (by kernel_rfl) (Λ:=fun _ _=>none) ?_ ?_
 ·exact fun _ _ _ _ _ _ _ _ h=>by cases h
 ·rintro ⟨r,x,⟨⟩⟩ hw hn
  exact Fk r x (hn _ List.mem_cons_self)
theorem Ff (r:Rules) (x:Innings) :(evPat (al [] Tryz.f172) (fun _=>none) Tryz.f172 qRI bt (r,x,())).sat fun z_=>z_ =(B1 (r,x,())).2:=by
 refine cast (by kernel_rfl) (?_ :(IntKind.i64.wrap (IntKind.i64.wrap (x.7*r.5)+x.8),()) =(vy r x,()))
 rfl
def C4:FuncId×Ctr:=(172,af KE qRI bt B1)
theorem Hb:CtrOK Tryz.prog KE 172 (af KE qRI bt B1):=by
 refine ar (C:=al [] Tryz.f172) (aj (CtrsOK.nil) _) mixed (fn:=Tryz.f172) Tryz.func172 (by kernel_rfl) (by kernel_rfl) (by kernel_rfl) (by kernel_rfl) (by kernel_rfl) (by kernel_rfl) (Λ:=fun _ _=>none) ?_ ?_
 ·exact fun _ _ _ _ _ _ _ _ h=>by cases h
 ·rintro ⟨r,x,⟨⟩⟩ hw hn
  exact Ff r x
theorem Ab (x:Innings) (hs:ah x) :(evPat (al [db] Tryz.f112) (fun _=>none) Tryz.f112 qIn qIn (x,())).sat fun z_=>z_ =(Ig (x,())).2:=by
 refine cast (by kernel_rfl) (?_:ah x∧(Innings.mk x.1 x.2 x.3 (IntKind.i64.wrap (x.4 +(5:Int))) x.5 (Extras.mk x.6.1 x.6.2 x.6.3 x.6.4 (IntKind.i64.wrap (x.6.5 +(5:Int)))) x.7 x.8 x.9 x.10 x.11 x.12 x.13 x.14 x.15 x.16 x.17 x.18 x.19 x.20 x.21 x.22 x.23,()) =(BA x,()))
 exact ⟨hs,rfl⟩
def jb:FuncId×Ctr:=(112,af KE qIn qIn Ig)
theorem m9:CtrOK Tryz.prog KE 112 (af KE qIn qIn Ig):=by
 refine ar (C:=al [db] Tryz.f112) (aj (.consU gg rfl .nil) _) mixed (fn:=Tryz.f112) Tryz.func112 (by kernel_rfl) (by kernel_rfl) (by kernel_rfl) (by kernel_rfl) (by kernel_rfl) (by kernel_rfl) (Λ:=fun _ _=>none) ?_ ?_
 ·exact fun _ _ _ _ _ _ _ _ h=>by cases h
 ·rintro ⟨x,⟨⟩⟩ hw hn
  exact Ab x (hn _ List.mem_cons_self)
theorem BS (r:Rules) (x:Innings) (hs:ah x) :(evPat (al [nC,gf,wk] Tryz.f111) (fun _=>none) Tryz.f111 qRI qH (r,x,())).sat fun z_=>z_ =(Mh (r,x,())).2:=by
 refine cast (by kernel_rfl) (?_:let r1:Bool:=bif dg x then (↑(yW x).length:Int) ==(0:Int) else false;let r2:Bool:=bif decide (x.2 >(0:Int)) then decide (x.4≥x.2) else false;let r3:Bool:=bif decide (x.3 >(0:Int)) then decide (x.7≥x.3) else false;ah x∧((!cb r x)=true→((0:Int),()) =(vH r x,()))∧((!cb r x)=false→(r2=true→((3:Int),()) =(vH r x,()))∧(r2=false→((dg x=true→ah x∧True)∧(dg x=false→True))∧(true=true→(r1=true→((1:Int),()) =(vH r x,()))∧(r1=false→(r3=true→((2:Int),()) =(vH r x,()))∧(r3=false→((0:Int),()) =(vH r x,())))))))
 intro r1 r2 r3
 clear_value (hr1:r1=_) (hr2:r2=_) (hr3:r3=_)
 grind [vH,lc]
def yP:FuncId×Ctr:=(111,af KE qRI qH Mh)
theorem ES:CtrOK Tryz.prog KE 111 (af KE qRI qH Mh):=by
 refine ar (C:=al [nC,gf,wk] Tryz.f111) (aj (.consU rP rfl (.consU l9 rfl (.consU Du rfl .nil))) _) mixed (fn:=Tryz.f111) Tryz.func111 (by kernel_rfl) (by kernel_rfl) (by kernel_rfl) (by kernel_rfl) (by kernel_rfl) (by kernel_rfl) (Λ:=fun _ _=>none) ?_ ?_
 ·exact fun _ _ _ _ _ _ _ _ h=>by cases h
 ·rintro ⟨r,x,⟨⟩⟩ hw hn
  exact BS r x (hn _ List.mem_cons_self)
theorem z8 (r:Rules) (x:Innings) (e:Mir.Event) (hs:ah x) :(evPat (al [db] Tryz.f141) (fun _=>none) Tryz.f141 jk q2L (r,x,e,())).sat fun z_=>z_ =(H8 (r,x,e,())).2:=by
 refine cast (by kernel_rfl) (?_:ah x∧((e.2 != x.1)=true→(x,(2:Int),()) =(nn r x e,pa r x e,()))∧((e.2 != x.1)=false→((r.4 !=(0:Int))=true→(x,(20:Int),()) =(nn r x e,pa r x e,()))∧((r.4 !=(0:Int))=false→(Innings.mk x.1 x.2 x.3 x.4 x.5 x.6 x.7 x.8 x.9 x.10 x.11 x.12 x.13 x.14 x.15 x.16 x.17 x.18 x.19 x.20 x.21 x.22 (4:Int),(0:Int),()) =(nn r x e,pa r x e,()))))
 grind [nn,pa]
def uv:FuncId×Ctr:=(141,af KE jk q2L H8)
theorem Bn:CtrOK Tryz.prog KE 141 (af KE jk q2L H8):=by
 refine ar (C:=al [db] Tryz.f141) (aj (.consU gg rfl .nil) _) mixed (fn:=Tryz.f141) Tryz.func141 (by kernel_rfl) (by kernel_rfl) (by kernel_rfl) (by kernel_rfl) (by kernel_rfl) (by kernel_rfl) (Λ:=fun _ _=>none) ?_ ?_
 ·exact fun _ _ _ _ _ _ _ _ h=>by cases h
 ·rintro ⟨r,x,e,⟨⟩⟩ hw hn
  exact z8 r x e (hn _ List.mem_cons_self)
theorem Kn (x:Innings) (e:Mir.Event) (hs:ah x) :(evPat (al [db,jb] Tryz.f142) (fun _=>none) Tryz.f142 qIE q2L (x,e,())).sat fun z_=>z_ =(sH (x,e,())).2:=by
 refine cast (by kernel_rfl) (?_:let r1:Bool:=decide (x.2 >(0:Int));ah x∧((e.6 !=(5:Int))=true→(x,(23:Int),()) =(rZ x e,oO e,()))∧((e.6 !=(5:Int))=false→((e.2==x.1)=true→ah x∧(Innings.mk x.1 x.2 x.3 (W (x.4 +(5:Int))) x.5 (Extras.mk x.6.1 x.6.2 x.6.3 x.6.4 (W (x.6.5 +(5:Int)))) x.7 x.8 x.9 x.10 x.11 x.12 x.13 x.14 x.15 x.16 x.17 x.18 x.19 x.20 x.21 x.22 x.23,(0:Int),()) =(rZ x e,oO e,()))∧((e.2==x.1)=false→(Innings.mk (bif r1 then x.1 else x.1) (bif r1 then IntKind.i64.wrap (x.2 +(5:Int)) else x.2) (bif r1 then x.3 else x.3) (bif r1 then x.4 else x.4) (bif r1 then x.5 else x.5) (Extras.mk (bif r1 then x.6.1 else x.6.1) (bif r1 then x.6.2 else x.6.2) (bif r1 then x.6.3 else x.6.3) (bif r1 then x.6.4 else x.6.4) (bif r1 then x.6.5 else x.6.5)) (bif r1 then x.7 else x.7) (bif r1 then x.8 else x.8) (bif r1 then x.9 else x.9) (bif r1 then x.10 else x.10) (bif r1 then x.11 else x.11) (bif r1 then x.12 else x.12) (bif r1 then x.13 else x.13) (bif r1 then x.14 else x.14) (bif r1 then x.15 else x.15) (bif r1 then x.16 else x.16) (bif r1 then x.17 else x.17) (bif r1 then x.18 else x.18) (bif r1 then x.19 else x.19) (bif r1 then x.20 else x.20) (bif r1 then x.21 else x.21) (bif r1 then x.22.1 else x.22.1,bif r1 then x.22.2.1 else x.22.2.1,()) (bif r1 then x.23 else x.23),(0:Int),()) =(rZ x e,oO e,()))))
 intro r1
 clear_value (hr1:r1=_)
 simp only [Bool.cond_self]
 refine ⟨hs,fun h=>?_,fun h=>⟨fun h2=>⟨hs,?_⟩,fun h2=>?_⟩⟩
 ·have e1:oO e=23:=by simp only [oO,h];rfl
  simp only [rZ,e1];rfl
 ·have e1:oO e=0:=by simp only [oO,h];rfl
  simp only [rZ,e1,h2];rfl
 ·have e1:oO e=0:=by simp only [oO,h];rfl
  simp only [rZ,e1,h2]
  cases r1 with
  | true=>have:x.Target>0:=of_decide_eq_true hr1.symm;simp only [if_pos this];rfl
  | false=>have :¬ x.Target>0:=of_decide_eq_false hr1.symm;simp only [if_neg this];rfl
def KQ:FuncId×Ctr:=(142,af KE qIE q2L sH)
theorem Mb:CtrOK Tryz.prog KE 142 (af KE qIE q2L sH):=by
 refine ar (C:=al [db,jb] Tryz.f142) (aj (.consU gg rfl (.consU m9 rfl .nil)) _) mixed (fn:=Tryz.f142) Tryz.func142 (by kernel_rfl) (by kernel_rfl) (by kernel_rfl) (by kernel_rfl) (by kernel_rfl) (by kernel_rfl) (Λ:=fun _ _=>none) ?_ ?_
 ·exact fun _ _ _ _ _ _ _ _ h=>by cases h
 ·rintro ⟨x,e,⟨⟩⟩ hw hn
  exact Kn x e (hn _ List.mem_cons_self)
theorem BT (r:Rules) (x:Innings) (e:Mir.Event) (hs:ah x) (h2:i6 e.Side) :(evPat (al [db] Tryz.f143) (fun _=>none) Tryz.f143 jk q2L (r,x,e,())).sat fun z_=>z_ =(xj (r,x,e,())).2:=by
 refine cast (by kernel_rfl) (?_:let r1:Bool:=decide (x.22.1≥r.12);let r2:Int:=IntKind.i64.wrap (e.2 - (1:Int));let r3:Bool:=decide (x.22.2.1≥r.12);let r4:Bool:=r2 ==(0:Int);let r5:Bool:=r2 ==(1:Int);ah x∧((!x.15)=true→(x,(24:Int),()) =(mm r x e.2 e.5,lr r x e.2,()))∧((!x.15)=false→(r4=true→((0:Int)≤(0:Int)∧(0:Int) <(↑(2:Nat):Int))∧(r1=true→(x,(24:Int),()) =(mm r x e.2 e.5,lr r x e.2,()))∧(r1=false→((!e.5)=true→(r4=true→((0:Int)≤(0:Int)∧(0:Int) <(↑(2:Nat):Int))∧((0:Int)≤(0:Int)∧(0:Int) <(↑(2:Nat):Int))∧(Innings.mk x.1 x.2 x.3 x.4 x.5 x.6 x.7 x.8 x.9 x.10 x.11 x.12 x.13 x.14 x.15 x.16 x.17 x.18 x.19 x.20 x.21 (IntKind.i64.wrap (x.22.1 +(1:Int)),x.22.2) x.23,(0:Int),()) =(mm r x e.2 e.5,lr r x e.2,()))∧(r4=false→(r5=true→((0:Int)≤(1:Int)∧(1:Int) <(↑(2:Nat):Int))∧((0:Int)≤(1:Int)∧(1:Int) <(↑(2:Nat):Int))∧(Innings.mk x.1 x.2 x.3 x.4 x.5 x.6 x.7 x.8 x.9 x.10 x.11 x.12 x.13 x.14 x.15 x.16 x.17 x.18 x.19 x.20 x.21 (x.22.1,IntKind.i64.wrap (x.22.2.1 +(1:Int)),()) x.23,(0:Int),()) =(mm r x e.2 e.5,lr r x e.2,()))∧(r5=false→False∧True)))∧((!e.5)=false→(x,(0:Int),()) =(mm r x e.2 e.5,lr r x e.2,()))))∧(r4=false→(r5=true→((0:Int)≤(1:Int)∧(1:Int) <(↑(2:Nat):Int))∧(r3=true→(x,(24:Int),()) =(mm r x e.2 e.5,lr r x e.2,()))∧(r3=false→((!e.5)=true→(r4=true→((0:Int)≤(0:Int)∧(0:Int) <(↑(2:Nat):Int))∧((0:Int)≤(0:Int)∧(0:Int) <(↑(2:Nat):Int))∧(Innings.mk x.1 x.2 x.3 x.4 x.5 x.6 x.7 x.8 x.9 x.10 x.11 x.12 x.13 x.14 x.15 x.16 x.17 x.18 x.19 x.20 x.21 (IntKind.i64.wrap (x.22.1 +(1:Int)),x.22.2) x.23,(0:Int),()) =(mm r x e.2 e.5,lr r x e.2,()))∧(r4=false→(r5=true→((0:Int)≤(1:Int)∧(1:Int) <(↑(2:Nat):Int))∧((0:Int)≤(1:Int)∧(1:Int) <(↑(2:Nat):Int))∧(Innings.mk x.1 x.2 x.3 x.4 x.5 x.6 x.7 x.8 x.9 x.10 x.11 x.12 x.13 x.14 x.15 x.16 x.17 x.18 x.19 x.20 x.21 (x.22.1,IntKind.i64.wrap (x.22.2.1 +(1:Int)),()) x.23,(0:Int),()) =(mm r x e.2 e.5,lr r x e.2,()))∧(r5=false→False∧True)))∧((!e.5)=false→(x,(0:Int),()) =(mm r x e.2 e.5,lr r x e.2,()))))∧(r5=false→False∧True))))
 intro r1 r2 r3 r4 r5
 clear_value (hr1:r1=_) (hr2:r2=_) (hr3:r3=_) (hr4:r4=_) (hr5:r5=_)
 rcases h2 with hS|hS
 ·have e4:r4=true:=by rw [hr4,hr2,hS];rfl
  have hL:lr r x e.Side=if !x.Fresh||r1 then 24 else 0:=by simp only [lr,Hu,hS];rw [hr1];rfl
  have hU:zQ x e.Side={ x with Reviews:=(W (x.Reviews.1+1),x.Reviews.2.1,()) }:=by simp only [zQ,hS];rfl
  clear hr1 hr2 hr3 hr4 hr5
  cases hf:x.Fresh <;> cases r1 <;> cases hk:e.Yes <;> simp [e4,hs,mm,hL,hU,hf,hk]
 ·have e4:r4=false:=by rw [hr4,hr2,hS];rfl
  have e5:r5=true:=by rw [hr5,hr2,hS];rfl
  have hL:lr r x e.Side=if !x.Fresh||r3 then 24 else 0:=by simp only [lr,Hu,hS];rw [hr3];rfl
  have hU:zQ x e.Side={ x with Reviews:=(x.Reviews.1,W (x.Reviews.2.1+1),()) }:=by simp only [zQ,hS];rfl
  clear hr1 hr2 hr3 hr4 hr5
  cases hf:x.Fresh <;> cases r3 <;> cases hk:e.Yes <;> simp [e4,e5,hs,mm,hL,hU,hf,hk]
def yQ:FuncId×Ctr:=(143,af KE jk q2L xj)
theorem ET:CtrOK Tryz.prog KE 143 (af KE jk q2L xj):=by
 refine ar (C:=al [db] Tryz.f143) (aj (.consU gg rfl .nil) _) mixed (fn:=Tryz.f143) Tryz.func143 (by kernel_rfl) (by kernel_rfl) (by kernel_rfl) (by kernel_rfl) (by kernel_rfl) (by kernel_rfl) (Λ:=fun _ _=>none) ?_ ?_
 ·exact fun _ _ _ _ _ _ _ _ h=>by cases h
 ·rintro ⟨r,x,e,⟨⟩⟩ hw hn
  exact BT r x e (hn _ List.mem_cons_self) (hn _ (List.mem_cons_of_mem _ List.mem_cons_self))
theorem BU (r:Rules) (x:Innings) (e:Mir.Event) (hs:ah x) :(evPat (al [db,C4] Tryz.f144) (fun _=>none) Tryz.f144 jk q2L (r,x,e,())).sat fun z_=>z_ =(xk (r,x,e,())).2:=by
 refine cast (by kernel_rfl) (?_:let r1:Bool:=decide (e.6 >(0:Int));let r2:Bool:=decide (e.7 >(0:Int));let r3:Int:=bif r1 then x.1 else x.1;let r4:Int:=bif r1 then e.6 else x.2;let r5:Int:=bif r1 then x.4 else x.4;let r6:Int:=bif r1 then x.5 else x.5;let r7:Int:=bif r1 then x.7 else x.7;let r8:Int:=bif r1 then x.8 else x.8;let r9:Int:=bif r1 then x.9 else x.9;let r10:Int:=bif r1 then x.10 else x.10;let r11:Int:=bif r1 then x.12 else x.12;let r12:Bool:=bif r1 then x.15 else x.15;let r13:Bool:=bif r1 then x.17 else x.17;let r14:Int:=bif r1 then x.18 else x.18;let r15:Int:=bif r1 then x.19 else x.19;let r16:Int:=bif r1 then x.20 else x.20;let r17:Int:=bif r1 then x.23 else x.23;let r18:Int:=bif r1 then x.6.1 else x.6.1;let r19:Int:=bif r1 then x.6.2 else x.6.2;let r20:Int:=bif r1 then x.6.3 else x.6.3;let r21:Int:=bif r1 then x.6.4 else x.6.4;let r22:Int:=bif r1 then x.6.5 else x.6.5;let r23:List Bool:=bif r1 then x.21 else x.21;let r24:Int:=bif r1 then x.22.1 else x.22.1;let r25:List Int:=bif r1 then x.11 else x.11;let r26:List Int:=bif r1 then x.13 else x.13;let r27:List Int:=bif r1 then x.14 else x.14;let r28:List Int:=bif r1 then x.16 else x.16;let r29:Int:=bif r1 then x.22.2.1 else x.22.2.1;let r30:Bool:=bif r.4 ==(0:Int) then true else bif e.6 ==(0:Int) then e.7 ==(0:Int) else false;let r31:Bool:=bif r1 then bif x.2 ==(0:Int) then true else decide (e.6≤x.4) else false;let r32:Bool:=bif r2 then bif decide (e.7>r.4) then true else decide (IntKind.i64.wrap (e.7*r.5)<vy r x) else false;ah x∧(r30=true→(x,(25:Int),()) =(oS r x e.6 e.7,sC r x e.6 e.7,()))∧(r30=false→(r31=true→(x,(25:Int),()) =(oS r x e.6 e.7,sC r x e.6 e.7,()))∧(r31=false→(r32=true→(x,(25:Int),()) =(oS r x e.6 e.7,sC r x e.6 e.7,()))∧(r32=false→(Innings.mk (bif r2 then r3 else r3) (bif r2 then r4 else r4) (bif r2 then e.7 else bif r1 then x.3 else x.3) (bif r2 then r5 else r5) (bif r2 then r6 else r6) (Extras.mk (bif r2 then r18 else r18) (bif r2 then r19 else r19) (bif r2 then r20 else r20) (bif r2 then r21 else r21) (bif r2 then r22 else r22)) (bif r2 then r7 else r7) (bif r2 then r8 else r8) (bif r2 then r9 else r9) (bif r2 then r10 else r10) (bif r2 then r25 else r25) (bif r2 then r11 else r11) (bif r2 then r26 else r26) (bif r2 then r27 else r27) (bif r2 then r12 else r12) (bif r2 then r28 else r28) (bif r2 then r13 else r13) (bif r2 then r14 else r14) (bif r2 then r15 else r15) (bif r2 then r16 else r16) (bif r2 then r23 else r23) (bif r2 then r24 else r24,bif r2 then r29 else r29,()) (bif r2 then r17 else r17),(0:Int),()) =(oS r x e.6 e.7,sC r x e.6 e.7,())))))
 intro r1 r2 r3 r4 r5 r6 r7 r8 r9 r10 r11 r12 r13 r14 r15 r16 r17 r18 r19 r20 r21 r22 r23 r24 r25 r26 r27 r28 r29 r30 r31 r32
 clear_value (hr1:r1=_) (hr2:r2=_) (hr3:r3=_) (hr4:r4=_) (hr5:r5=_) (hr6:r6=_) (hr7:r7=_) (hr8:r8=_) (hr9:r9=_) (hr10:r10=_) (hr11:r11=_) (hr12:r12=_) (hr13:r13=_) (hr14:r14=_) (hr15:r15=_) (hr16:r16=_) (hr17:r17=_) (hr18:r18=_) (hr19:r19=_) (hr20:r20=_) (hr21:r21=_) (hr22:r22=_) (hr23:r23=_) (hr24:r24=_) (hr25:r25=_) (hr26:r26=_) (hr27:r27=_) (hr28:r28=_) (hr29:r29=_) (hr30:r30=_) (hr31:r31=_) (hr32:r32=_)
 simp only [Bool.cond_self] at *
 have hb:lw r x e.Runs e.Overs =(r30 ||(r31||r32)):=by grind [lw]
 clear hr30 hr31 hr32
 subst hr3 hr5 hr6 hr7 hr8 hr9 hr10 hr11 hr12 hr13 hr14 hr15 hr16 hr17 hr18 hr19 hr20 hr21 hr22 hr23 hr24 hr25 hr26 hr27 hr28 hr29
 subst hr4
 refine ⟨hs,fun h=>?_,fun h=>⟨fun h2=>?_,fun h2=>⟨fun h3=>?_,fun h3=>?_⟩⟩⟩
 ·have hb':lw r x e.Runs e.Overs=true:=by rw [hb,h];rfl
  simp only [oS,sC,hb'];rfl
 ·have hb':lw r x e.Runs e.Overs=true:=by rw [hb,h,h2];rfl
  simp only [oS,sC,hb'];rfl
 ·have hb':lw r x e.Runs e.Overs=true:=by rw [hb,h,h2,h3];rfl
  simp only [oS,sC,hb'];rfl
 ·have hb':lw r x e.Runs e.Overs=false:=by rw [hb,h,h2,h3];rfl
  simp only [oS,sC,hb',Kp,Mf]
  cases r1 with
  | true=>
   have h1:e.Runs>0:=of_decide_eq_true hr1.symm
   cases r2 with
   | true=>have h2:e.Overs>0:=of_decide_eq_true hr2.symm;simp only [if_pos h1,if_pos h2];rfl
   | false=>have h2 :¬ e.Overs>0:=of_decide_eq_false hr2.symm;simp only [if_pos h1,if_neg h2];rfl
  | false=>
   have h1 :¬ e.Runs>0:=of_decide_eq_false hr1.symm
   cases r2 with
   | true=>have h2:e.Overs>0:=of_decide_eq_true hr2.symm;simp only [if_neg h1,if_pos h2];rfl
   | false=>have h2 :¬ e.Overs>0:=of_decide_eq_false hr2.symm;simp only [if_neg h1,if_neg h2];rfl
def yR:FuncId×Ctr:=(144,af KE jk q2L xk)
theorem EU:CtrOK Tryz.prog KE 144 (af KE jk q2L xk):=by
 refine ar (C:=al [db,C4] Tryz.f144) (aj (.consU gg rfl (.consU Hb rfl .nil)) _) mixed (fn:=Tryz.f144) Tryz.func144 (by kernel_rfl) (by kernel_rfl) (by kernel_rfl) (by kernel_rfl) (by kernel_rfl) (by kernel_rfl) (Λ:=fun _ _=>none) ?_ ?_
 ·exact fun _ _ _ _ _ _ _ _ h=>by cases h
 ·rintro ⟨r,x,e,⟨⟩⟩ hw hn
  exact BU r x e (hn _ List.mem_cons_self)
end Go.Proofs.YtkgplaoappjkcaaGreat
namespace Go.Proofs.YtkgplaoappjkcaaGreat
open Go Go.Mir
end Go.Proofs.YtkgplaoappjkcaaGreat
namespace Go.Proofs.YtkgplaoappjkcaaGreat
open Go Go.Mir
theorem qY :∀ (m:Nat) (l:List Int),l.Nodup→(∀ x∈l,1≤x∧x≤(m:Int))→l.length≤m
 | 0,l,_,h=>by
  cases l with
  | nil=>simp
  | cons x l=>have:=h x List.mem_cons_self;omega
 | m+1,l,hn,h=>by
  have ih:=qY m (l.erase ((m+1:Nat):Int)) (hn.erase _) (fun x hx=>by
   have h1:=(hn.mem_erase_iff).1 hx
   have h2:=h x h1.2
   have:=h1.1
   omega)
  by_cases hm :((m+1:Nat):Int)∈l
  ·rw [List.length_erase_of_mem hm] at ih;omega
  ·rw [List.erase_of_not_mem hm] at ih;omega
theorem qw {most:Int} :∀ (l seen:List Int),ua most seen l=true→seen.Nodup→(∀ x∈seen,1≤x∧x≤most)→(seen++l).Nodup∧(∀ x∈seen++l,1≤x∧x≤most)
 | [],seen,_,h1,h2=>by simpa using ⟨h1,h2⟩
 | n::r,seen,h,h1,h2=>by
  unfold ua at h
  split at h
  ·cases h
  ·rename_i hc
   have hc :(!inW n 1 most||fG seen n)=false:=by simpa using hc
   simp only [Bool.or_eq_false_iff,Bool.not_eq_false',inW,Bool.and_eq_true,decide_eq_true_eq] at hc
   obtain ⟨⟨c1,c2⟩,c3⟩:=hc
   have c4:n∉seen:=fun hm=>by
    have:fG seen n=true:=by unfold fG;simpa using hm
    rw [this] at c3;cases c3
   have:=qw r (seen++[n]) h (by
    rw [List.nodup_append]
    refine ⟨h1,by simp,?_⟩
    intro a ha b hb e
    simp only [List.mem_singleton] at hb
    subst hb;subst e;exact c4 ha) (fun x hx=>by
    rcases List.mem_append.1 hx with hx|hx
    ·exact h2 x hx
    ·simp only [List.mem_singleton] at hx;subst hx;exact ⟨c1,c2⟩)
   rwa [List.append_assoc] at this
theorem pb {most:Int} {l:List Int} (h:gU l most=true) :(l.length:Int)≤most∨l=[]:=by
 cases l with
 | nil=>exact .inr rfl
 | cons n r=>
  left
  obtain ⟨h1,h2⟩:=qw (n::r) [] h .nil (fun x hx=>by cases hx)
  simp only [List.nil_append] at h1 h2
  have h3:=h2 n List.mem_cons_self
  have:=qY most.toNat (n::r) h1 (fun x hx=>by have:=h2 x hx;omega)
  omega
theorem kD {r:Rules} (h:ax r=0) :(2≤r.Side∧r.Side≤11)∧(0≤r.Overs∧r.Overs≤90)∧(4≤r.Balls∧r.Balls≤8):=by
 have hr:cQ r=true:=by
  cases hr:cQ r with
  | true=>rfl
  | false=>
   unfold ax at h
   cases hn:mu r.Name <;> simp [hn,hr] at h
 simp only [cQ,aU,Bool.and_eq_true,decide_eq_true_eq] at hr
 omega
end Go.Proofs.YtkgplaoappjkcaaGreat
namespace Go.Proofs.YtkgplaoappjkcaaGreat
open Go Go.Mir
attribute [local irreducible] Go.Mir.DT.sat Go.Mir.evPat Go.Mir.RT.sat Go.Mir.evFn
end Go.Proofs.YtkgplaoappjkcaaGreat
namespace Go.Proofs.YtkgplaoappjkcaaGreat
open Go Go.Mir
attribute [local irreducible] Go.Mir.DT.sat Go.Mir.evPat Go.Mir.RT.sat Go.Mir.evFn
abbrev zK:Pat:=bG [.nm .Rules,.nm .Innings,.nm .Delivery]
def jl (r:Rules) (x:Innings) (d:Delivery):Int:=
 if dg x then 6 else if x.Bowler==0 then 7 else if jS r x != 0 then jS r x else if dd d != 0 then dd d else if bN d x.FreeHit != 0 then bN d x.FreeHit else ib x d
def sK:Den (tyP zK)→List Prop×Den (tyP bt):=fun x=>([],(jl x.1 x.2.1 x.2.2.1,()))
def Lt (x:Innings) (c:Credit):Innings:={ x with Runs:=W (x.Runs+yb c),Extras:={ x.Extras with Wides:=W (x.Extras.Wides+c.Wides),NoBalls:=W (x.Extras.NoBalls+c.NoBalls),Byes:=W (x.Extras.Byes+c.Byes),LegByes:=W (x.Extras.LegByes+c.LegByes) } }
def KU (y:Innings) (o:Bool):Innings:=if o then ju y else y
def q9 (r:Rules) (x:Innings) (d:Delivery):Innings:=if d.Typ==1 then { x with FreeHit:=false } else if d.Typ==3&&r.FreeHit then { x with FreeHit:=true } else x
def kH (r:Rules) (x:Innings) (c:Bool):Innings:=KU (an r x c) (iC r x c)
def jg (r:Rules) (x:Innings) (d:Delivery):Innings:=if jl r x d != 0 then x else q9 r (kH r (Lt (cK x d) (bs r d)) (bs r d).Counts) d
def fC (x:Innings):Prop:=x.Batters.length≤999999∧x.Bowlers.length≤999999∧x.Before.length≤999999∧x.Bowled.length≤999999∧x.Subs.length≤999999
def Ii:Den (tyP zK)→List Prop×Den (tyP q2L):=fun x=>([fC x.2.1],(jg x.1 x.2.1 x.2.2.1,jl x.1 x.2.1 x.2.2.1,()))
theorem lA {x:Innings} (h:fC x):ah x:=by
 obtain ⟨h1,h2,h3,h4,h5⟩:=h
 exact ⟨by omega,by omega,by omega,by omega,by omega⟩
theorem uT {x:Innings} (d:Delivery) (h:fC x):fC (cK x d):=by
 have e1 :(cK x d).Batters.length=x.Batters.length:=by
  unfold cK gw dY iW ju cg
  repeat' split
  all_goals simp
 have e2 :(cK x d).Bowlers=x.Bowlers∧(cK x d).Before=x.Before∧(cK x d).Bowled=x.Bowled∧(cK x d).Subs=x.Subs:=by
  unfold cK gw dY iW ju cg
  repeat' split
  all_goals exact ⟨rfl,rfl,rfl,rfl⟩
 obtain ⟨k2,k3,k4,k5⟩:=e2
 unfold fC
 rw [e1,k2,k3,k4,k5]
 exact h
theorem qm {r:Rules} {x:Innings} (c:Bool) (h:fC x):ah (an r x c):=by
 have hb :(fm x).length≤x.Bowlers.length+1:=by unfold fm;split <;> simp
 have hu :(qo x).length=x.Bowled.length:=by unfold qo;simp
 have hc :(c7 x c).Batters=x.Batters∧(c7 x c).Before=x.Before∧(c7 x c).Subs=x.Subs∧(c7 x c).Bowlers=fm x∧(c7 x c).Bowled.length=x.Bowled.length:=by
  unfold c7;cases c
  ·exact ⟨rfl,rfl,rfl,rfl,rfl⟩
  ·exact ⟨rfl,rfl,rfl,rfl,hu⟩
 obtain ⟨c1,c2,c3,c4,c5⟩:=hc
 obtain ⟨h1,h2,h3,h4,h5⟩:=h
 unfold an
 split
 ·exact ⟨by omega,by omega,by omega,by omega,by omega⟩
 ·split
  ·unfold ah;rw [c1,c2,c3,c4,c5];exact ⟨by omega,by omega,by omega,by omega,by omega⟩
  ·unfold ah zr;simp only;rw [c1,c3,c4,c5];exact ⟨by omega,by simp,by omega,by omega,by omega⟩
theorem Ad (r:Rules) (x:Innings) (d:Delivery) :(evPat (al [gf,k40,lR,k17,k42] Tryz.f162) (find [(rid (aB Tryz.f162 0),dU 5 (al [gf,k40,lR,k17,k42] Tryz.f162) (fun _=>none) (aB Tryz.f162 0))]) Tryz.f162 zK bt (r,x,d,())).sat fun z_=>z_ =(sK (r,x,d,())).2:=by
 refine cast (by kernel_rfl) (?_:let r1:Int:=IntKind.i64.wrap ((0:Int) +(1:Int));let r2:List Int:= [jS r x,dd d,bN d x.17,ib x d];let r3:Int:=IntKind.i64.wrap (r1 +(1:Int));let r4:Int:=(↑r2.length:Int);let r5:Int:=r2.getD (Int.toNat (0:Int)) (dflt (Ty.int IntKind.i64));let r6:Int:=IntKind.i64.wrap (r3 +(1:Int));let r7:Bool:=r5 !=(0:Int);let r8:Int:=r2.getD r1.toNat (dflt (Ty.int IntKind.i64));let r9:Bool:=r8 !=(0:Int);let r10:Int:=r2.getD r3.toNat (dflt (Ty.int IntKind.i64));let r11:Bool:=r10 !=(0:Int);let r12:Int:=r2.getD r6.toNat (dflt (Ty.int IntKind.i64));let r13:Bool:=r12 !=(0:Int);(dg x=true→((6:Int),()) =(jl r x d,()))∧(dg x=false→((x.12 ==(0:Int))=true→((7:Int),()) =(jl r x d,()))∧((x.12 ==(0:Int))=false→True∧((0:Int)≤(0:Int)∧(0:Int)<r4)∧(r7=true→(r5,()) =(jl r x d,()))∧(r7=false→((0:Int)≤r1∧r1<r4)∧(r9=true→(r8,()) =(jl r x d,()))∧(r9=false→((0:Int)≤r3∧r3<r4)∧(r11=true→(r10,()) =(jl r x d,()))∧(r11=false→((0:Int)≤r6∧r6<r4)∧(r13=true→(r12,()) =(jl r x d,()))∧(r13=false→((0:Int),()) =(jl r x d,()))))))))
 intro r1 r2 r3 r4 r5 r6 r7 r8 r9 r10 r11 r12 r13
 clear_value (hr1:r1=_) (hr2:r2=_) (hr3:r3=_) (hr4:r4=_) (hr5:r5=_) (hr6:r6=_) (hr7:r7=_) (hr8:r8=_) (hr9:r9=_) (hr10:r10=_) (hr11:r11=_) (hr12:r12=_) (hr13:r13=_)
 have n1:r1=1:=by rw [hr1];rfl
 have n3:r3=2:=by rw [hr3,n1];rfl
 have n6:r6=3:=by rw [hr6,n3];rfl
 have n4:r4=4:=by rw [hr4,hr2];rfl
 have e5:r5=jS r x:=by rw [hr5,hr2];rfl
 have e8:r8=dd d:=by rw [hr8,hr2,n1];rfl
 have e10:r10=bN d x.FreeHit:=by rw [hr10,hr2,n3];rfl
 have e12:r12=ib x d:=by rw [hr12,hr2,n6];rfl
 clear hr1 hr2 hr3 hr4 hr5 hr6 hr8 hr10 hr12
 subst e5 e8 e10 e12 n1 n3 n4 n6
 unfold jl
 rw [←hr7,←hr9,←hr11]
 cases dg x <;> cases x.Bowler==0 <;> cases r7 <;> cases r9 <;> cases r11 <;> cases h13:r13 <;> simp
 all_goals (rw [h13] at hr13;simp at hr13;exact hr13.symm)
def uy:FuncId×Ctr:=(162,af KE zK bt sK)
theorem Bq:CtrOK Tryz.prog KE 162 (af KE zK bt sK):=by
 refine ar (C:=al [gf,k40,lR,k17,k42] Tryz.f162) (aj (.consU l9 rfl (.consU Nr rfl (.consU rO rfl (.consU Nq rfl (.consU Ns rfl .nil))))) _) mixed (fn:=Tryz.f162) Tryz.func162 (by kernel_rfl) (by kernel_rfl) (by kernel_rfl) (by kernel_rfl) (by kernel_rfl) (by kernel_rfl) (Λ:=fun x=>find [(rid (aB Tryz.f162 0),dU 5 (al [gf,k40,lR,k17,k42] Tryz.f162) (fun _=>none) (aB Tryz.f162 0))]) ?_ ?_
 ·rintro ⟨r,x,d,⟨⟩⟩ hw hn
  exact LoopsOKp.at (by kernel_rfl) (.cons (by kernel_rfl) (mb 5 (aj (.consU l9 rfl (.consU Nr rfl (.consU rO rfl (.consU Nq rfl (.consU Ns rfl .nil))))) _) mixed (Λ:=fun _=>none) (b:=aB Tryz.f162 0) rfl (fun _ _ _ h=>by cases h)) .nil)
 ·rintro ⟨r,x,d,⟨⟩⟩ hw hn
  exact Ad r x d
theorem HN (r:Rules) (x:Innings) (d:Delivery) (hs:fC x) :(evPat (al [db,uy,nB,KO,C1,k51,yM] Tryz.f133) (fun _=>none) Tryz.f133 zK q2L (r,x,d,())).sat fun z_=>z_ =(Ii (r,x,d,())).2:=by
 refine cast (by kernel_rfl) (?_:let r1:Bool:=jl r x d !=(0:Int);let r2:Bool:=bif d.1 ==(3:Int) then r.9 else false;let r3:Innings:=Innings.mk (cK x d).1 (cK x d).2 (cK x d).3 (IntKind.i64.wrap ((cK x d).4+yb (bs r d))) (cK x d).5 (Extras.mk (IntKind.i64.wrap ((cK x d).6.1 +(bs r d).2)) (IntKind.i64.wrap ((cK x d).6.2 +(bs r d).3)) (IntKind.i64.wrap ((cK x d).6.3 +(bs r d).4)) (IntKind.i64.wrap ((cK x d).6.4 +(bs r d).5)) (cK x d).6.5) (cK x d).7 (cK x d).8 (cK x d).9 (cK x d).10 (cK x d).11 (cK x d).12 (cK x d).13 (cK x d).14 (cK x d).15 (cK x d).16 (cK x d).17 (cK x d).18 (cK x d).19 (cK x d).20 (cK x d).21 (cK x d).22 (cK x d).23;let r4:Bool:=iC r r3 (bs r d).7;let r5:Innings:=an r r3 (bs r d).7;let r6:Bool:=bif d.1 ==(1:Int) then false else bif r2 then true else r5.17;let r7:Int:=bif d.1 ==(1:Int) then r5.1 else bif r2 then r5.1 else r5.1;let r8:Int:=bif d.1 ==(1:Int) then r5.2 else bif r2 then r5.2 else r5.2;let r9:Int:=bif d.1 ==(1:Int) then r5.3 else bif r2 then r5.3 else r5.3;let r10:Int:=bif d.1 ==(1:Int) then r5.4 else bif r2 then r5.4 else r5.4;let r11:Int:=bif d.1 ==(1:Int) then r5.5 else bif r2 then r5.5 else r5.5;let r12:Int:=bif d.1 ==(1:Int) then r5.7 else bif r2 then r5.7 else r5.7;let r13:Int:=bif d.1 ==(1:Int) then r5.8 else bif r2 then r5.8 else r5.8;let r14:Int:=bif d.1 ==(1:Int) then r5.10 else bif r2 then r5.10 else r5.10;let r15:Int:=bif d.1 ==(1:Int) then r5.9 else bif r2 then r5.9 else r5.9;let r16:Int:=bif d.1 ==(1:Int) then r5.12 else bif r2 then r5.12 else r5.12;let r17:Bool:=bif d.1 ==(1:Int) then r5.15 else bif r2 then r5.15 else r5.15;let r18:Int:=bif d.1 ==(1:Int) then r5.18 else bif r2 then r5.18 else r5.18;let r19:Int:=bif d.1 ==(1:Int) then r5.19 else bif r2 then r5.19 else r5.19;let r20:Int:=bif d.1 ==(1:Int) then r5.20 else bif r2 then r5.20 else r5.20;let r21:Int:=bif d.1 ==(1:Int) then r5.23 else bif r2 then r5.23 else r5.23;let r22:Extras:=Extras.mk (bif d.1 ==(1:Int) then r5.6.1 else bif r2 then r5.6.1 else r5.6.1) (bif d.1 ==(1:Int) then r5.6.2 else bif r2 then r5.6.2 else r5.6.2) (bif d.1 ==(1:Int) then r5.6.3 else bif r2 then r5.6.3 else r5.6.3) (bif d.1 ==(1:Int) then r5.6.4 else bif r2 then r5.6.4 else r5.6.4) (bif d.1 ==(1:Int) then r5.6.5 else bif r2 then r5.6.5 else r5.6.5);(r1=true→ah x∧(x,jl r x d,()) =(jg r x d,jl r x d,()))∧(r1=false→ah x∧ah r3∧(r4=true→ah r5∧(Innings.mk r7 r8 r9 r10 r11 r22 r12 r13 r14 r15 (bif d.1 ==(1:Int) then r5.11 else bif r2 then r5.11 else r5.11) r16 (bif d.1 ==(1:Int) then r5.13 else bif r2 then r5.13 else r5.13) (bif d.1 ==(1:Int) then r5.14 else bif r2 then r5.14 else r5.14) r17 (bif d.1 ==(1:Int) then r5.16 else bif r2 then r5.16 else r5.16) r6 r18 r19 r20 (bif d.1 ==(1:Int) then r5.21 else bif r2 then r5.21 else r5.21) (bif d.1 ==(1:Int) then r5.22.1 else bif r2 then r5.22.1 else r5.22.1,bif d.1 ==(1:Int) then r5.22.2.1 else bif r2 then r5.22.2.1 else r5.22.2.1,()) r21,(0:Int),()) =(jg r x d,jl r x d,()))∧(r4=false→(Innings.mk r7 r8 r9 r10 r11 r22 r12 r13 r15 r14 r5.11 r16 r5.13 r5.14 r17 r5.16 r6 r18 r19 r20 r5.21 (bif d.1 ==(1:Int) then r5.22.1 else bif r2 then r5.22.1 else r5.22.1,bif d.1 ==(1:Int) then r5.22.2.1 else bif r2 then r5.22.2.1 else r5.22.2.1,()) r21,(0:Int),()) =(jg r x d,jl r x d,()))))
 intro r1 r2 r3 r4 r5 r6 r7 r8 r9 r10 r11 r12 r13 r14 r15 r16 r17 r18 r19 r20 r21 r22
 clear_value (hr1:r1=_) (hr2:r2=_) (hr3:r3=_) (hr4:r4=_) (hr5:r5=_) (hr6:r6=_) (hr7:r7=_) (hr8:r8=_) (hr9:r9=_) (hr10:r10=_) (hr11:r11=_) (hr12:r12=_) (hr13:r13=_) (hr14:r14=_) (hr15:r15=_) (hr16:r16=_) (hr17:r17=_) (hr18:r18=_) (hr19:r19=_) (hr20:r20=_) (hr21:r21=_) (hr22:r22=_)
 simp only [Bool.cond_self] at *
 have e3:r3=Lt (cK x d) (bs r d):=hr3
 have e22:r22=r5.Extras:=hr22
 have e2:r2 =(d.Typ==3&&r.FreeHit):=by rw [hr2];cases d.Typ==3 <;> rfl
 have s3:fC r3:=by rw [e3];exact uT d hs
 clear hr3 hr22 hr2
 subst hr7 hr8 hr9 hr10 hr11 hr12 hr13 hr14 hr15 hr16 hr17 hr18 hr19 hr20 hr21 e22
 refine ⟨fun h=>⟨lA hs,?_⟩,fun h=>⟨lA hs,lA s3,fun h4=>⟨?_,?_⟩,fun h4=>?_⟩⟩
 ·rw [hr1] at h;simp only [jg,h];rfl
 ·rw [hr5];exact qm _ s3
 ·have hL:jl r x d=0:=by rw [hr1] at h;simpa using h
  have hp:jg r x d=q9 r (kH r r3 (bs r d).Counts) d:=by simp only [jg,hL,e3];rfl
  have ho:kH r r3 (bs r d).Counts=ju r5:=by unfold kH;rw [←hr4,←hr5,h4];rfl
  rw [hp,ho,hL]
  unfold q9
  rw [←e2,hr6]
  cases d.Typ==1 <;> cases r2 <;> rfl
 ·have hL:jl r x d=0:=by rw [hr1] at h;simpa using h
  have hp:jg r x d=q9 r (kH r r3 (bs r d).Counts) d:=by simp only [jg,hL,e3];rfl
  have ho:kH r r3 (bs r d).Counts=r5:=by unfold kH;rw [←hr4,←hr5,h4];rfl
  rw [hp,ho,hL]
  unfold q9
  rw [←e2,hr6]
  cases d.Typ==1 <;> cases r2 <;> rfl
def GA:FuncId×Ctr:=(133,af KE zK q2L Ii)
theorem JI:CtrOK Tryz.prog KE 133 (af KE zK q2L Ii):=by
 refine ar (C:=al [db,uy,nB,KO,C1,k51,yM] Tryz.f133) (aj (.consU gg rfl (.consU Bq rfl (.consU uJ rfl (.consU L9 rfl (.consU G9 rfl (.consU Ow rfl (.consU EQ rfl .nil))))))) _) mixed (fn:=Tryz.f133) Tryz.func133 (by kernel_rfl) (by kernel_rfl) (by kernel_rfl) (by kernel_rfl) (by kernel_rfl) (by kernel_rfl) (Λ:=fun _ _=>none) ?_ ?_
 ·exact fun _ _ _ _ _ _ _ _ h=>by cases h
 ·rintro ⟨r,x,d,⟨⟩⟩ hw hn
  exact HN r x d (hn _ List.mem_cons_self)
end Go.Proofs.YtkgplaoappjkcaaGreat
namespace Go.Proofs.YtkgplaoappjkcaaGreat
open Go Go.Mir
attribute [local irreducible] Go.Mir.DT.sat Go.Mir.evPat
def Md:Ty:= .prod .str (.prod (.int .u8) .unit)
def ixW (s:ByteArray) (c:Int):Int:=Lib.indexByte s.data.toList c.toNat.toUInt8
def Iw:Den Md→PRes:=fun x=>⟨[],.int .i64 (ixW x.1 x.2.1),[]⟩
def rq:FuncId×Ctr:=(90,aq KE Md Iw)
def pi (d:Delivery):Int:=
 if decide (d.Typ<1) ||(decide (d.Typ>3) ||(decide (d.Source>3)||decide (d.How>10))) then 3
 else if !inW d.Runs 0 7 ||(!inW d.Short 0 d.Runs ||(d.Boundary != 0&&(d.Boundary != 4&&d.Boundary != 6) ||(!inW d.Victim 0 2 ||(!inW d.Fielder 0 11 ||(!inW d.Second 0 11||!inW d.Sector 0 8))))) then 2 else 0
def Ia:Den (tyP qD)→List Prop×Den (tyP bt):=fun x=>([],(pi x.1,()))
def formsW:List event_form:= [⟨⟨#[84,79,83,83]⟩,⟨#[115,121]⟩,⟨#[66,65,84]⟩,⟨#[70,73,69,76,68]⟩⟩,⟨⟨#[79,80,69,78]⟩,⟨#[112,111]⟩,⟨#[]⟩,⟨#[]⟩⟩,⟨⟨#[66,79,87,76]⟩,⟨#[112]⟩,⟨#[]⟩,⟨#[]⟩⟩,⟨⟨#[66,65,76,76]⟩,⟨#[98]⟩,⟨#[]⟩,⟨#[]⟩⟩,⟨⟨#[69,78,84,69,82]⟩,⟨#[112]⟩,⟨#[]⟩,⟨#[]⟩⟩,⟨⟨#[82,69,84,73,82,69]⟩,⟨#[112,121]⟩,⟨#[72,85,82,84]⟩,⟨#[79,85,84]⟩⟩,⟨⟨#[70,73,69,76,68]⟩,⟨#[114]⟩,⟨#[]⟩,⟨#[]⟩⟩,⟨⟨#[75,69,69,80,69,82]⟩,⟨#[112]⟩,⟨#[]⟩,⟨#[]⟩⟩,⟨⟨#[83,85,66]⟩,⟨#[112,121]⟩,⟨#[79,78]⟩,⟨#[79,70,70]⟩⟩,⟨⟨#[78,69,87,66,65,76,76]⟩,⟨#[]⟩,⟨#[]⟩,⟨#[]⟩⟩,⟨⟨#[68,69,67,76,65,82,69]⟩,⟨#[115]⟩,⟨#[]⟩,⟨#[]⟩⟩,⟨⟨#[70,79,76,76,79,87]⟩,⟨#[115,121]⟩,⟨#[89,69,83]⟩,⟨#[78,79]⟩⟩,⟨⟨#[80,69,78,65,76,84,89]⟩,⟨#[115,114]⟩,⟨#[]⟩,⟨#[]⟩⟩,⟨⟨#[82,69,86,73,69,87]⟩,⟨#[115,121]⟩,⟨#[75,69,80,84]⟩,⟨#[76,79,83,84]⟩⟩,⟨⟨#[82,69,86,73,83,69]⟩,⟨#[114,118]⟩,⟨#[]⟩,⟨#[]⟩⟩,⟨⟨#[83,84,79,80]⟩,⟨#[]⟩,⟨#[]⟩,⟨#[]⟩⟩]
def CH (k:Int):ByteArray:=(formsW.getD (k - 1).toNat event_form.zero).fields
def loW (k:Int):Int:=if k==13 then 1 else 0
def hiW (k:Int):Int:=if k==7 then 11 else if k==13 then 99 else 100000
abbrev qKF:Pat:=bG [U8,U8]
def cd (k c:Int):Bool:=decide (ixW (CH k) c≥0) ||(k==5&&c==121)
def aV (k:Int):Prop:=1≤k∧k≤16
def It:Den (tyP qKF)→List Prop×Den (tyP aw):=fun x=>([aV x.1],(cd x.1 x.2.1,()))
abbrev qII:Pat:=bG [I,I]
def w7:Den (tyP qH)→List Prop×Den (tyP qII):=fun x=>([],(loW x.1,hiW x.1,()))
abbrev J9:Pat:=bG [.slice (.nm .event_form)]
def B9:Den (tyP (bG []))→List Prop×Den (tyP J9):=fun _=>([],(formsW,()))
def vc (k:Int):Bool:=k==1||k==12||k==14||k==11||k==13
def qd (k:Int):Bool:=k==2||k==3||k==8||k==5||k==6||k==9
def wH (k:Int):Bool:=k==2
def MU (k:Int):Bool:=k==1||k==12||k==14||k==5||k==6||k==9
def D1 (k:Int):Bool:=k==7||k==13||k==15
def wI (k:Int):Bool:=k==15
def tY (k:Int):Bool:=k==4
def IW (d:Delivery):Bool:=d.Typ==0&&(d.Source==0&&(d.Runs==0&&(d.Short==0&&(d.Boundary==0&&(d.Crossed==false&&(d.How==0&&(d.Victim==0&&(d.Fielder==0&&(d.Second==0&&(d.Sub==false&&d.Sector==0))))))))))
def be (e:Mir.Event):Int:=
 if !inW e.Kind 1 16 then 3
 else if !vc e.Kind&&e.Side != 0||!qd e.Kind&&e.Player != 0||!wH e.Kind&&e.Other != 0||!MU e.Kind&&e.Yes||!D1 e.Kind&&e.Runs != 0||!wI e.Kind&&e.Overs != 0||!tY e.Kind&&!IW e.Ball then 1
 else if vc e.Kind&&!inW e.Side 1 2||qd e.Kind&&!inW e.Player 1 11||wH e.Kind&&!inW e.Other 1 11||D1 e.Kind&&!inW e.Runs (loW e.Kind) (hiW e.Kind)||wI e.Kind&&!inW e.Overs 0 90 then 2
 else if tY e.Kind then pi e.Ball else 0
abbrev qE:Pat:=bG [.nm .Event]
def sEv:Den (tyP qE)→List Prop×Den (tyP bt):=fun x=>([],(be x.1,()))
theorem KJ :∀ (l:List UInt8) (c:UInt8),Lib.indexByte l c≤l.length
 | [],c=>by unfold Lib.indexByte;simp
 | b::l,c=>by
  have:=KJ l c
  unfold Lib.indexByte
  simp only [List.length_cons]
  split
  ·omega
  ·split <;> omega
def yU:Go.Shelf.Ren:=⟨fun|137=>90|217=>108|266=>128|n=>n,fun|9=>9|5=>5|3=>3|n=>n,fun|n=>n⟩
theorem Jd:Go.Proofs.Lays.n137 Tryz.prog yU where
 mixed:=by kernel_rfl
 f137:=Tryz.func90.trans (congrArg some (by kernel_rfl))
 f217:=Tryz.func108.trans (congrArg some (by kernel_rfl))
 f266:=Tryz.func128.trans (congrArg some (by kernel_rfl))
 t3:=Tryz.underlying3
 a3:=Tryz.isAgg3
 z3:=Tryz.sizeOf3
 v3:=Tryz.zeroValue3
 t5:=Tryz.underlying5
 a5:=Tryz.isAgg5
 z5:=Tryz.sizeOf5
 v5:=Tryz.zeroValue5
 t9:=Tryz.underlying9
 a9:=Tryz.isAgg9
 z9:=Tryz.sizeOf9
 v9:=Tryz.zeroValue9
theorem ze:CtrOK Tryz.prog KE 90 (aq KE Md Iw):=by
 refine FV Tryz.func90 (by kernel_rfl) (by kernel_rfl) (fun _=>⟨rfl,rfl⟩) (fun x av w E hw _ hav=>?_) (fun _ _=>rfl)
 obtain ⟨s,c,⟨⟩⟩:=x
 obtain ⟨a,r,rfl,h1,h2⟩:=nl hav
 obtain ⟨b,r2,rfl,h3,h4⟩:=nl h2
 have h5:r2=[]:=by cases r2 with|nil=>rfl|cons=>simp [bk,ae] at h4
 subst h5
 simp only [fk,aa] at h1 h3
 obtain ⟨rfl,hs⟩:=h1
 obtain ⟨rfl,hc⟩:=h3
 refine (Any.strings_IndexByte Jd s c w).mono fun e w' ⟨h6,h7⟩=>⟨_,h6,h7,fun E'=>?_⟩
 refine gK ?_
 have hge:=Lib.indexByte_ge s.data.toList c.toNat.toUInt8
 have hle:=KJ s.data.toList c.toNat.toUInt8
 have hl:s.data.toList.length≤aI:=by rw [Array.length_toList];exact hs
 unfold aI at hl
 have e1:IntKind.i64.min = -9223372036854775808:=by decide
 have e2:IntKind.i64.max=9223372036854775807:=by decide
 unfold ok
 rw [e1,e2]
 show _≤ixW s c∧ixW s c≤_
 unfold ixW
 omega
theorem Al (n:Int) (lo:Int) (hi:Int) :(evPat (al [] Tryz.f92) (fun _=>none) Tryz.f92 q3 aw (n,lo,hi,())).sat fun z_=>z_ =(sIn (n,lo,hi,())).2:=by
 refine cast (by kernel_rfl) (?_ :(bif decide (n≥lo) then decide (n≤hi) else false,()) =(inW n lo hi,()))
 grind [inW]
def uD:FuncId×Ctr:=(92,af KE q3 aw sIn)
theorem Bv:CtrOK Tryz.prog KE 92 (af KE q3 aw sIn):=by
 refine ar (C:=al [] Tryz.f92) (aj (CtrsOK.nil) _) mixed (fn:=Tryz.f92) Tryz.func92 (by kernel_rfl) (by kernel_rfl) (by kernel_rfl) (by kernel_rfl) (by kernel_rfl) (by kernel_rfl) (Λ:=fun _ _=>none) ?_ ?_
 ·exact fun _ _ _ _ _ _ _ _ h=>by cases h
 ·rintro ⟨n,lo,hi,⟨⟩⟩ hw hn
  exact Al n lo hi
theorem zZ (n:Int) (lo:Int) (hi:Int) :(evPat (al [] Tryz.f63) (fun _=>none) Tryz.f63 q3 aw (n,lo,hi,())).sat fun z_=>z_ =(sIn (n,lo,hi,())).2:=by
 refine cast (by kernel_rfl) (?_ :(bif decide (n≥lo) then decide (n≤hi) else false,()) =(inW n lo hi,()))
 grind [inW]
def gS:FuncId×Ctr:=(63,af KE q3 aw sIn)
theorem m8:CtrOK Tryz.prog KE 63 (af KE q3 aw sIn):=by
 refine ar (C:=al [] Tryz.f63) (aj (CtrsOK.nil) _) mixed (fn:=Tryz.f63) Tryz.func63 (by kernel_rfl) (by kernel_rfl) (by kernel_rfl) (by kernel_rfl) (by kernel_rfl) (by kernel_rfl) (Λ:=fun _ _=>none) ?_ ?_
 ·exact fun _ _ _ _ _ _ _ _ h=>by cases h
 ·rintro ⟨n,lo,hi,⟨⟩⟩ hw hn
  exact zZ n lo hi
theorem Fv (d:Delivery) :(evPat (al [uD] Tryz.f65) (fun _=>none) Tryz.f65 qD bt (d,())).sat fun z_=>z_ =(Ia (d,())).2:=by
 refine cast (by kernel_rfl) (?_:let r1:Bool:=bif !inW d.8 (0:Int) (2:Int) then true else bif !inW d.9 (0:Int) (11:Int) then true else bif !inW d.10 (0:Int) (11:Int) then true else !inW d.12 (0:Int) (8:Int);let r2:Bool:=bif decide (d.1 <(1:Int)) then true else bif decide (d.1 >(3:Int)) then true else bif decide (d.2 >(3:Int)) then true else decide (d.7 >(10:Int));let r3:Bool:=bif !inW d.3 (0:Int) (7:Int) then true else bif !inW d.4 (0:Int) d.3 then true else bif d.5 !=(0:Int) then bif d.5 !=(4:Int) then bif d.5 !=(6:Int) then true else r1 else r1 else r1;(r2=true→((3:Int),()) =(pi d,()))∧(r2=false→(r3=true→((2:Int),()) =(pi d,()))∧(r3=false→((0:Int),()) =(pi d,()))))
 intro r1 r2 r3
 clear_value (hr1:r1=_) (hr2:r2=_) (hr3:r3=_)
 repeat' (first|refine And.intro ?_ ?_|intro h)
 all_goals grind (splits:=40) [pi]
def lU:FuncId×Ctr:=(65,af KE qD bt Ia)
theorem rS:CtrOK Tryz.prog KE 65 (af KE qD bt Ia):=by
 refine ar (C:=al [uD] Tryz.f65) (aj (.consU Bv rfl .nil) _) mixed (fn:=Tryz.f65) Tryz.func65 (by kernel_rfl) (by kernel_rfl) (by kernel_rfl) (by kernel_rfl) (by kernel_rfl) (by kernel_rfl) (Λ:=fun _ _=>none) ?_ ?_
 ·exact fun _ _ _ _ _ _ _ _ h=>by cases h
 ·rintro ⟨d,⟨⟩⟩ hw hn
  exact Fv d
theorem Fe :(evPat (al [] Tryz.f91) (fun _=>none) Tryz.f91 (bG []) J9 ()).sat fun z_=>z_ =(B9 ()).2:=by
 refine cast (by kernel_rfl) (?_ :([event_form.mk (ByteArray.mk #[(84:UInt8),(79:UInt8),(83:UInt8),(83:UInt8)]) (ByteArray.mk #[(115:UInt8),(121:UInt8)]) (ByteArray.mk #[(66:UInt8),(65:UInt8),(84:UInt8)]) (ByteArray.mk #[(70:UInt8),(73:UInt8),(69:UInt8),(76:UInt8),(68:UInt8)]),event_form.mk (ByteArray.mk #[(79:UInt8),(80:UInt8),(69:UInt8),(78:UInt8)]) (ByteArray.mk #[(112:UInt8),(111:UInt8)]) (ByteArray.mk #[]) (ByteArray.mk #[]),event_form.mk (ByteArray.mk #[(66:UInt8),(79:UInt8),(87:UInt8),(76:UInt8)]) (ByteArray.mk #[(112:UInt8)]) (ByteArray.mk #[]) (ByteArray.mk #[]),event_form.mk (ByteArray.mk #[(66:UInt8),(65:UInt8),(76:UInt8),(76:UInt8)]) (ByteArray.mk #[(98:UInt8)]) (ByteArray.mk #[]) (ByteArray.mk #[]),event_form.mk (ByteArray.mk #[(69:UInt8),(78:UInt8),(84:UInt8),(69:UInt8),(82:UInt8)]) (ByteArray.mk #[(112:UInt8)]) (ByteArray.mk #[]) (ByteArray.mk #[]),event_form.mk (ByteArray.mk #[(82:UInt8),(69:UInt8),(84:UInt8),(73:UInt8),(82:UInt8),(69:UInt8)]) (ByteArray.mk #[(112:UInt8),(121:UInt8)]) (ByteArray.mk #[(72:UInt8),(85:UInt8),(82:UInt8),(84:UInt8)]) (ByteArray.mk #[(79:UInt8),(85:UInt8),(84:UInt8)]),event_form.mk (ByteArray.mk #[(70:UInt8),(73:UInt8),(69:UInt8),(76:UInt8),(68:UInt8)]) (ByteArray.mk #[(114:UInt8)]) (ByteArray.mk #[]) (ByteArray.mk #[]),event_form.mk (ByteArray.mk #[(75:UInt8),(69:UInt8),(69:UInt8),(80:UInt8),(69:UInt8),(82:UInt8)]) (ByteArray.mk #[(112:UInt8)]) (ByteArray.mk #[]) (ByteArray.mk #[]),event_form.mk (ByteArray.mk #[(83:UInt8),(85:UInt8),(66:UInt8)]) (ByteArray.mk #[(112:UInt8),(121:UInt8)]) (ByteArray.mk #[(79:UInt8),(78:UInt8)]) (ByteArray.mk #[(79:UInt8),(70:UInt8),(70:UInt8)]),event_form.mk (ByteArray.mk #[(78:UInt8),(69:UInt8),(87:UInt8),(66:UInt8),(65:UInt8),(76:UInt8),(76:UInt8)]) (ByteArray.mk #[]) (ByteArray.mk #[]) (ByteArray.mk #[]),event_form.mk (ByteArray.mk #[(68:UInt8),(69:UInt8),(67:UInt8),(76:UInt8),(65:UInt8),(82:UInt8),(69:UInt8)]) (ByteArray.mk #[(115:UInt8)]) (ByteArray.mk #[]) (ByteArray.mk #[]),event_form.mk (ByteArray.mk #[(70:UInt8),(79:UInt8),(76:UInt8),(76:UInt8),(79:UInt8),(87:UInt8)]) (ByteArray.mk #[(115:UInt8),(121:UInt8)]) (ByteArray.mk #[(89:UInt8),(69:UInt8),(83:UInt8)]) (ByteArray.mk #[(78:UInt8),(79:UInt8)]),event_form.mk (ByteArray.mk #[(80:UInt8),(69:UInt8),(78:UInt8),(65:UInt8),(76:UInt8),(84:UInt8),(89:UInt8)]) (ByteArray.mk #[(115:UInt8),(114:UInt8)]) (ByteArray.mk #[]) (ByteArray.mk #[]),event_form.mk (ByteArray.mk #[(82:UInt8),(69:UInt8),(86:UInt8),(73:UInt8),(69:UInt8),(87:UInt8)]) (ByteArray.mk #[(115:UInt8),(121:UInt8)]) (ByteArray.mk #[(75:UInt8),(69:UInt8),(80:UInt8),(84:UInt8)]) (ByteArray.mk #[(76:UInt8),(79:UInt8),(83:UInt8),(84:UInt8)]),event_form.mk (ByteArray.mk #[(82:UInt8),(69:UInt8),(86:UInt8),(73:UInt8),(83:UInt8),(69:UInt8)]) (ByteArray.mk #[(114:UInt8),(118:UInt8)]) (ByteArray.mk #[]) (ByteArray.mk #[]),event_form.mk (ByteArray.mk #[(83:UInt8),(84:UInt8),(79:UInt8),(80:UInt8)]) (ByteArray.mk #[]) (ByteArray.mk #[]) (ByteArray.mk #[])],()) =(formsW,()))
 rfl
def C2:FuncId×Ctr:=(91,af KE (bG []) J9 B9)
theorem Ha:CtrOK Tryz.prog KE 91 (af KE (bG []) J9 B9):=by
 refine ar (C:=al [] Tryz.f91) (aj (CtrsOK.nil) _) mixed (fn:=Tryz.f91) Tryz.func91 (by kernel_rfl) (by kernel_rfl) (by kernel_rfl) (by kernel_rfl) (by kernel_rfl) (by kernel_rfl) (Λ:=fun _ _=>none) ?_ ?_
 ·exact fun _ _ _ _ _ _ _ _ h=>by cases h
 ·rintro ⟨⟩ hw hn
  exact Fe
theorem BQ (k:Int) :(evPat (al [] Tryz.f62) (fun _=>none) Tryz.f62 qH qII (k,())).sat fun z_=>z_ =(w7 (k,())).2:=by
 refine cast (by kernel_rfl) (?_ :((k ==(7:Int))=true→((0:Int),(11:Int),()) =(loW k,hiW k,()))∧((k ==(7:Int))=false→((k ==(13:Int))=true→((1:Int),(99:Int),()) =(loW k,hiW k,()))∧((k ==(13:Int))=false→((0:Int),(100000:Int),()) =(loW k,hiW k,()))))
 grind [loW,hiW]
def ja:FuncId×Ctr:=(62,af KE qH qII w7)
theorem oM:CtrOK Tryz.prog KE 62 (af KE qH qII w7):=by
 refine ar (C:=al [] Tryz.f62) (aj (CtrsOK.nil) _) mixed (fn:=Tryz.f62) Tryz.func62 (by kernel_rfl) (by kernel_rfl) (by kernel_rfl) (by kernel_rfl) (by kernel_rfl) (by kernel_rfl) (Λ:=fun _ _=>none) ?_ ?_
 ·exact fun _ _ _ _ _ _ _ _ h=>by cases h
 ·rintro ⟨k,⟨⟩⟩ hw hn
  exact BQ k
theorem HM (k:Int) (c:Int) (hk:aV k) :(evPat (al [C2,rq] Tryz.f64) (fun _=>none) Tryz.f64 qKF aw (k,c,())).sat fun z_=>z_ =(It (k,c,())).2:=by
 refine cast (by kernel_rfl) (?_:let r1:Int:=IntKind.u8.wrap (k - (1:Int));let r2:Int:=ixW (formsW.getD r1.toNat (dflt (Ty.nm Nm.event_form))).2 c;let r3:Bool:=decide (r2≥(0:Int));(((0:Int)≤r1∧r1 <(↑formsW.length:Int))∧(r3=true→True)∧(r3=false→((k ==(5:Int))=true→True)∧((k ==(5:Int))=false→True)))∧(true=true→(bif r3 then true else bif k ==(5:Int) then c ==(121:Int) else false,()) =(cd k c,())))
 intro r1 r2 r3
 clear_value (hr1:r1=_) (hr2:r2=_) (hr3:r3=_)
 obtain ⟨h1,h2⟩:=hk
 have hw:IntKind.u8.wrap (k - 1)=k - 1:=by
  simp only [IntKind.wrap,IntKind.bits,IntKind.signed]
  simp
  omega
 have hl:formsW.length=16:=rfl
 simp only [hw] at *
 have hd:dflt (Ty.nm Nm.event_form)=event_form.zero:=rfl
 refine ⟨⟨⟨by omega,by rw [hl];omega⟩,fun _=>trivial,fun _=>⟨fun _=>trivial,fun _=>trivial⟩⟩,fun _=>?_⟩
 simp only [cd,CH,hr1,hr2,hr3,hd]
 grind
def oy:FuncId×Ctr:=(64,af KE qKF aw It)
theorem wE:CtrOK Tryz.prog KE 64 (af KE qKF aw It):=by
 refine ar (C:=al [C2,rq] Tryz.f64) (aj (.consU Ha rfl (.consU ze rfl .nil)) _) mixed (fn:=Tryz.f64) Tryz.func64 (by kernel_rfl) (by kernel_rfl) (by kernel_rfl) (by kernel_rfl) (by kernel_rfl) (by kernel_rfl) (Λ:=fun _ _=>none) ?_ ?_
 ·exact fun _ _ _ _ _ _ _ _ h=>by cases h
 ·rintro ⟨k,c,⟨⟩⟩ hw hn
  exact HM k c (hn _ List.mem_cons_self)
theorem LK {k:Int} {p:Int→Prop} (h :∀ n:Fin 16,p ((n.val:Int)+1)) (h1:1≤k) (h2:k≤16):p k:=by
 have:=h ⟨(k - 1).toNat,by omega⟩
 have e :((k - 1).toNat:Int)+1=k:=by omega
 exact (congrArg p e).mp this
theorem IP {k:Int} (h1:1≤k) (h2:k≤16):cd k 115=vc k∧cd k 112=qd k∧cd k 111=wH k∧cd k 121=MU k∧cd k 114=D1 k∧cd k 118=wI k∧cd k 98=tY k:=
 LK (p:=fun k=>cd k 115=vc k∧cd k 112=qd k∧cd k 111=wH k∧cd k 121=MU k∧cd k 114=D1 k∧cd k 118=wI k∧cd k 98=tY k) (by decide +kernel) h1 h2
theorem Fd (e:Mir.Event) :(evPat (al [ja,gS,oy,lU] Tryz.f45) (find [(rid (aB Tryz.f45 0),dU 8 (al [ja,gS,oy,lU] Tryz.f45) (fun _=>none) (aB Tryz.f45 0)),(rid (aB Tryz.f45 1),dU 8 (al [ja,gS,oy,lU] Tryz.f45) (fun _=>none) (aB Tryz.f45 1))]) Tryz.f45 qE bt (e,())).sat fun z_=>z_ =(sEv (e,())).2:=by
 refine cast (by kernel_rfl) (?_:let r1:Bool:=!inW e.2 (1:Int) (2:Int);let r2:Bool:=!inW e.3 (1:Int) (11:Int);let r3:Bool:=!inW e.4 (1:Int) (11:Int);let r4:Bool:=!inW e.7 (0:Int) (90:Int);let r5:Bool:=bif !!e.5 then !cd e.1 (121:Int) else false;let r6:Int:=IntKind.i64.wrap ((0:Int) +(1:Int));let r7:Bool:=bif !inW e.6 (loW e.1) (hiW e.1) then cd e.1 (114:Int) else false;let r8:Bool:=bif !e.2 ==(0:Int) then !cd e.1 (115:Int) else false;let r9:Bool:=bif !e.3 ==(0:Int) then !cd e.1 (112:Int) else false;let r10:Bool:=bif !e.4 ==(0:Int) then !cd e.1 (111:Int) else false;let r11:Bool:=bif !e.6 ==(0:Int) then !cd e.1 (114:Int) else false;let r12:Bool:=bif !e.7 ==(0:Int) then !cd e.1 (118:Int) else false;let r13:Bool:=bif r1 then cd e.1 (115:Int) else false;let r14:Bool:=bif r2 then cd e.1 (112:Int) else false;let r15:Bool:=bif r3 then cd e.1 (111:Int) else false;let r16:Bool:=bif r4 then cd e.1 (118:Int) else false;let r17:Int:=IntKind.i64.wrap (r6 +(1:Int));let r18:Bool:=bif decide (e.1 <(1:Int)) then true else decide (e.1 >(16:Int));let r19:Int:=IntKind.i64.wrap (r17 +(1:Int));let r20:Int:=IntKind.i64.wrap (r19 +(1:Int));let r21:Int:=IntKind.i64.wrap (r20 +(1:Int));let r22:Int:=IntKind.i64.wrap (r21 +(1:Int));let r23:Bool:=e.8.1 ==(0:Int)&&(e.8.2 ==(0:Int)&&(e.8.3 ==(0:Int)&&(e.8.4 ==(0:Int)&&(e.8.5 ==(0:Int)&&(e.8.6==false&&(e.8.7 ==(0:Int)&&(e.8.8 ==(0:Int)&&(e.8.9 ==(0:Int)&&(e.8.10 ==(0:Int)&&(e.8.11==false&&(e.8.12 ==(0:Int)&&true)))))))))));let r24:Bool:=!r23;let r25:Bool:=bif r24 then !cd e.1 (98:Int) else false;let r26:Int:=(↑[((115:Int),e.2 ==(0:Int),inW e.2 (1:Int) (2:Int),()),((112:Int),e.3 ==(0:Int),inW e.3 (1:Int) (11:Int),()),((111:Int),e.4 ==(0:Int),inW e.4 (1:Int) (11:Int),()),((121:Int),!e.5,true,()),((114:Int),e.6 ==(0:Int),inW e.6 (loW e.1) (hiW e.1),()),((118:Int),e.7 ==(0:Int),inW e.7 (0:Int) (90:Int),()),((98:Int),r23,true,())].length:Int);(r18=true→((3:Int),()) =(be e,()))∧(r18=false→True∧((0:Int)≤(0:Int)∧(0:Int)<r26)∧(((!e.2 ==(0:Int))=true→((1:Int)≤e.1∧e.1≤(16:Int))∧True)∧((!e.2 ==(0:Int))=false→True))∧(true=true→(r8=true→((1:Int),()) =(be e,()))∧(r8=false→((0:Int)≤r6∧r6<r26)∧(((!e.3 ==(0:Int))=true→((1:Int)≤e.1∧e.1≤(16:Int))∧True)∧((!e.3 ==(0:Int))=false→True))∧(true=true→(r9=true→((1:Int),()) =(be e,()))∧(r9=false→((0:Int)≤r17∧r17<r26)∧(((!e.4 ==(0:Int))=true→((1:Int)≤e.1∧e.1≤(16:Int))∧True)∧((!e.4 ==(0:Int))=false→True))∧(true=true→(r10=true→((1:Int),()) =(be e,()))∧(r10=false→((0:Int)≤r19∧r19<r26)∧(((!!e.5)=true→((1:Int)≤e.1∧e.1≤(16:Int))∧True)∧((!!e.5)=false→True))∧(true=true→(r5=true→((1:Int),()) =(be e,()))∧(r5=false→((0:Int)≤r20∧r20<r26)∧(((!e.6 ==(0:Int))=true→((1:Int)≤e.1∧e.1≤(16:Int))∧True)∧((!e.6 ==(0:Int))=false→True))∧(true=true→(r11=true→((1:Int),()) =(be e,()))∧(r11=false→((0:Int)≤r21∧r21<r26)∧(((!e.7 ==(0:Int))=true→((1:Int)≤e.1∧e.1≤(16:Int))∧True)∧((!e.7 ==(0:Int))=false→True))∧(true=true→(r12=true→((1:Int),()) =(be e,()))∧(r12=false→((0:Int)≤r22∧r22<r26)∧((r24=true→((1:Int)≤e.1∧e.1≤(16:Int))∧True)∧(r24=false→True))∧(true=true→(r25=true→((1:Int),()) =(be e,()))∧(r25=false→True∧((0:Int)≤(0:Int)∧(0:Int)<r26)∧((r1=true→((1:Int)≤e.1∧e.1≤(16:Int))∧True)∧(r1=false→True))∧(true=true→(r13=true→((2:Int),()) =(be e,()))∧(r13=false→((0:Int)≤r6∧r6<r26)∧((r2=true→((1:Int)≤e.1∧e.1≤(16:Int))∧True)∧(r2=false→True))∧(true=true→(r14=true→((2:Int),()) =(be e,()))∧(r14=false→((0:Int)≤r17∧r17<r26)∧((r3=true→((1:Int)≤e.1∧e.1≤(16:Int))∧True)∧(r3=false→True))∧(true=true→(r15=true→((2:Int),()) =(be e,()))∧(r15=false→((0:Int)≤r19∧r19<r26)∧(((!true)=true→((1:Int)≤e.1∧e.1≤(16:Int))∧True)∧((!true)=false→True))∧(true=true→((bif !true then cd e.1 (121:Int) else false)=true→((2:Int),()) =(be e,()))∧((bif !true then cd e.1 (121:Int) else false)=false→((0:Int)≤r20∧r20<r26)∧(((!inW e.6 (loW e.1) (hiW e.1))=true→((1:Int)≤e.1∧e.1≤(16:Int))∧True)∧((!inW e.6 (loW e.1) (hiW e.1))=false→True))∧(true=true→(r7=true→((2:Int),()) =(be e,()))∧(r7=false→((0:Int)≤r21∧r21<r26)∧((r4=true→((1:Int)≤e.1∧e.1≤(16:Int))∧True)∧(r4=false→True))∧(true=true→(r16=true→((2:Int),()) =(be e,()))∧(r16=false→((0:Int)≤r22∧r22<r26)∧(((!true)=true→((1:Int)≤e.1∧e.1≤(16:Int))∧True)∧((!true)=false→True))∧(true=true→((bif !true then cd e.1 (98:Int) else false)=true→((2:Int),()) =(be e,()))∧((bif !true then cd e.1 (98:Int) else false)=false→((e.1 ==(4:Int))=true→(pi e.8,()) =(be e,()))∧((e.1 ==(4:Int))=false→((0:Int),()) =(be e,()))))))))))))))))))))))))))))))))
 intro r1 r2 r3 r4 r5 r6 r7 r8 r9 r10 r11 r12 r13 r14 r15 r16 r17 r18 r19 r20 r21 r22 r23 r24 r25 r26
 clear_value (hr1:r1=_) (hr2:r2=_) (hr3:r3=_) (hr4:r4=_) (hr5:r5=_) (hr6:r6=_) (hr7:r7=_) (hr8:r8=_) (hr9:r9=_) (hr10:r10=_) (hr11:r11=_) (hr12:r12=_) (hr13:r13=_) (hr14:r14=_) (hr15:r15=_) (hr16:r16=_) (hr17:r17=_) (hr18:r18=_) (hr19:r19=_) (hr20:r20=_) (hr21:r21=_) (hr22:r22=_) (hr23:r23=_) (hr24:r24=_) (hr25:r25=_) (hr26:r26=_)
 have h6:r6=1:=hr6
 have h17:r17=2:=by rw [hr17,h6];rfl
 have h19:r19=3:=by rw [hr19,h17];rfl
 have h20:r20=4:=by rw [hr20,h19];rfl
 have h21:r21=5:=by rw [hr21,h20];rfl
 have h22:r22=6:=by rw [hr22,h21];rfl
 have h26:r26=7:=hr26
 clear hr6 hr17 hr19 hr20 hr21 hr22 hr26
 have hz:r23=IW e.8:=by rw [hr23];simp only [IW,Bool.and_true]
 refine ⟨fun h=>?_,fun h=>?_⟩
 ·have:inW e.1 1 16=false:=by grind [inW]
  simp [be,this]
 ·have hk:1≤e.1∧e.1≤16:=by grind
  obtain ⟨u1,u2,u3,u4,u5,u6,u7⟩:=IP hk.1 hk.2
  simp only [u1,u2,u3,u4,u5,u6,u7] at hr5 hr7 hr8 hr9 hr10 hr11 hr12 hr13 hr14 hr15 hr16 hr25 ⊢
  have hi:inW e.1 1 16=true:=by grind [inW]
  have e0:be e=if r8||r9||r10||r5||r11||r12||r25 then 1 else if r13||r14||r15||r7||r16 then 2 else if tY e.1 then pi e.8 else 0:=by
   have t1 :∀ a b:Bool,(bif !a then !b else false) =(!b&&!a):=by decide
   have t2 :∀ a b:Bool,(bif a then b else false) =(b&&a):=by decide
   rw [t1] at hr8 hr9 hr10 hr11 hr12 hr5
   rw [hr24,t1,hz] at hr25
   rw [t2] at hr13 hr14 hr15 hr7 hr16
   rw [hr1] at hr13
   rw [hr2] at hr14
   rw [hr3] at hr15
   rw [hr4] at hr16
   rw [Bool.not_not] at hr5
   rw [hr8,hr9,hr10,hr5,hr11,hr12,hr25,hr13,hr14,hr15,hr7,hr16]
   unfold be
   rw [hi]
   rfl
  clear hr1 hr2 hr3 hr4 hr5 hr7 hr8 hr9 hr10 hr11 hr12 hr13 hr14 hr15 hr16 hr18 hr23 hr24 hr25
  rw [e0]
  simp only [h6,h17,h19,h20,h21,h22,h26]
  clear u1 u2 u3 u4 u5 u6 u7 e0 hz
  repeat' (first|refine And.intro ?_ ?_|intro _)
  all_goals first|omega |(simp_all [tY];done)
def jG:FuncId×Ctr:=(45,af KE qE bt sEv)
theorem nR:CtrOK Tryz.prog KE 45 (af KE qE bt sEv):=by
 refine ar (C:=al [ja,gS,oy,lU] Tryz.f45) (aj (.consU oM rfl (.consU m8 rfl (.consU wE rfl (.consU rS rfl .nil)))) _) mixed (fn:=Tryz.f45) Tryz.func45 (by kernel_rfl) (by kernel_rfl) (by kernel_rfl) (by kernel_rfl) (by kernel_rfl) (by kernel_rfl) (Λ:=fun x=>find [(rid (aB Tryz.f45 0),dU 8 (al [ja,gS,oy,lU] Tryz.f45) (fun _=>none) (aB Tryz.f45 0)),(rid (aB Tryz.f45 1),dU 8 (al [ja,gS,oy,lU] Tryz.f45) (fun _=>none) (aB Tryz.f45 1))]) ?_ ?_
 ·rintro ⟨e,⟨⟩⟩ hw hn
  exact LoopsOKp.at (by kernel_rfl) (.cons (by kernel_rfl) (mb 8 (aj (.consU oM rfl (.consU m8 rfl (.consU wE rfl (.consU rS rfl .nil)))) _) mixed (Λ:=fun _=>none) (b:=aB Tryz.f45 0) rfl (fun _ _ _ h=>by cases h)) (.cons (by kernel_rfl) (mb 8 (aj (.consU oM rfl (.consU m8 rfl (.consU wE rfl (.consU rS rfl .nil)))) _) mixed (Λ:=fun _=>none) (b:=aB Tryz.f45 1) rfl (fun _ _ _ h=>by cases h)) .nil))
 ·rintro ⟨e,⟨⟩⟩ hw hn
  exact Fd e
end Go.Proofs.YtkgplaoappjkcaaGreat
namespace Go.Proofs.YtkgplaoappjkcaaGreat
open Go Go.Mir
attribute [local irreducible] Go.Mir.DT.sat Go.Mir.evPat
end Go.Proofs.YtkgplaoappjkcaaGreat
namespace Go.Proofs.YtkgplaoappjkcaaGreat
open Go Go.Mir
attribute [local irreducible] Go.Mir.DT.sat Go.Mir.evPat Go.Mir.RT.sat Go.Mir.evFn
def az (r:Rules) (x:Innings) (e:Mir.Event):Innings:=
 if e.Kind==2 then je x e.Player e.Other else if e.Kind==3 then bE r x e.Player else if e.Kind==4 then jg r x e.Ball
 else if e.Kind==5 then (if e.Yes then mD x e.Player else jy x e.Player) else if e.Kind==6 then dC x e.Player e.Yes
 else if e.Kind==7 then au x e.Runs else if e.Kind==8 then ai x e.Player else if e.Kind==9 then ay x e.Player e.Yes
 else if e.Kind==10 then bq r x else if e.Kind==11 then nn r x e else if e.Kind==13 then rZ x e else if e.Kind==14 then mm r x e.Side e.Yes else oS r x e.Runs e.Overs
def bW (r:Rules) (x:Innings) (e:Mir.Event):Int:=
 if e.Kind==2 then lj x e.Player e.Other else if e.Kind==3 then cR r x e.Player else if e.Kind==4 then jl r x e.Ball
 else if e.Kind==5 then bF x e.Player else if e.Kind==6 then ch x e.Player e.Yes
 else if e.Kind==7 then fy x e.Runs else if e.Kind==8 then da x e.Player else if e.Kind==9 then gu x e.Player e.Yes
 else if e.Kind==10 then wy r x else if e.Kind==11 then pa r x e else if e.Kind==13 then oO e else if e.Kind==14 then lr r x e.Side else sC r x e.Runs e.Overs
def D5 (e:Mir.Event):Prop:=e.Kind=14→i6 e.Side
def Ih:Den (tyP jk)→List Prop×Den (tyP q2L):=fun x=>([fC x.2.1,D5 x.2.2.1],(az x.1 x.2.1 x.2.2.1,bW x.1 x.2.1 x.2.2.1,()))
def IY (k:Int):Bool:=inW k 2 15&&k != 12
def cU (r:Rules) (x:Innings) (e:Mir.Event):Int:=
 if !cb r x||be e != 0 then 1 else if x.Ending != 0 then 26 else if !IY e.Kind||!fJ x&&e.Kind != 2 then 1 else bW r x e
def wa (y:Innings) (e:Mir.Event):Innings:={ y with Fresh:=e.Kind==4 }
def yt (r:Rules) (y:Innings):Innings:=if y.Ending==0 then { y with Ending:=vH r y } else y
def dP (r:Rules) (x:Innings) (e:Mir.Event):Innings:=if cU r x e != 0 then x else yt r (wa (az r x e) e)
def Ij:Den (tyP jk)→List Prop×Den (tyP q2L):=fun x=>([ah x.2.1],(dP x.1 x.2.1 x.2.2.1,cU x.1 x.2.1 x.2.2.1,()))
theorem lF {r:Rules} {x:Innings} (h:cb r x=true):fC x:=by
 unfold cb at h
 simp only [Bool.and_eq_true,beq_iff_eq] at h
 obtain ⟨hc,_,hl,_,_,_,_,h1,h2,_,_⟩:=h
 obtain ⟨⟨_,hs⟩,_⟩:=kD hc
 simp only [Df,Bool.and_eq_true,beq_iff_eq] at hl
 obtain ⟨l1,l2,l3⟩:=hl
 have k1:=pb h1
 have k2:=pb h2
 have e1:x.Bowlers.length≤999999:=by rcases k1 with k|k;omega;rw [k];simp
 have e2:x.Before.length≤999999:=by rcases k2 with k|k;omega;rw [k];simp
 exact ⟨by omega,e1,e2,by omega,by omega⟩
theorem I6 {e:Mir.Event} (h:be e=0):inW e.Kind 1 16=true:=by
 cases hk:inW e.Kind 1 16 with
 | true=>rfl
 | false=>unfold be at h;simp [hk] at h
theorem I7 {e:Mir.Event} (h:be e=0):D5 e:=fun hk=>by
 cases hs:inW e.Side 1 2 with
 | true=>simp only [inW,Bool.and_eq_true,decide_eq_true_eq] at hs;unfold i6;omega
 | false=>
  have hu:vc e.Kind=true:=by rw [hk];rfl
  unfold be at h
  simp only [hu,hs] at h
  exfalso
  revert h
  repeat' split
  all_goals first |(intro h;exact absurd h (by decide))|simp_all
theorem aA {c:Prop} [Decidable c] {a b:Innings} (ha:ah a) (hb:ah b):ah (if c then a else b):=by
 by_cases h:c
 ·rw [if_pos h];exact ha
 ·rw [if_neg h];exact hb
theorem gT {x:Innings} (h:ah x) (p s:Int):ah (cg x p s):=by
 obtain ⟨h1,h2,h3,h4,h5⟩:=h
 simp [ah,cg,h1,h2,h3,h4,h5]
theorem sT {x:Innings} (h:ah x) (p:Int):ah (gw x p):=by
 have:ah (if aL x p then cg x p 2 else x):=aA (gT h _ _) h
 exact this
theorem nV {x:Innings} (h:ah x) (b:Bool):ah (dY x b):=aA (c:=b=true) (a:={ x with Striker:=0 }) (b:={ x with Other:=0 }) h h
theorem FA {x:Innings} (h:ah x) (p:Int) (b:Bool):ah (oP x p b):=by
 obtain ⟨h1,h2,h3,h4,h5⟩:=h
 simp [ah,oP,h1,h2,h3,h4,h5]
theorem sa {r:Rules} {x:Innings} (e:Mir.Event) (hj:fC x):ah (az r x e):=by
 have h:ah x:=lA hj
 have hf :∀ y,ah y→ah (q9 r y e.Ball):=fun y hy=>by
  unfold q9
  exact aA hy (aA hy hy)
 have hp:ah (jg r x e.Ball):=by
  unfold jg
  refine aA h (hf _ ?_)
  have hb:ah (an r (Lt (cK x e.Ball) (bs r e.Ball)) (bs r e.Ball).Counts):=qm _ (uT e.Ball hj)
  unfold kH KU
  exact aA hb hb
 have k2:ah (je x e.Player e.Other):=by
  unfold je
  exact aA h (aA h (aA h (gT (gT h _ _) _ _)))
 have k3:ah (bE r x e.Player):=by unfold bE;exact aA h h
 have k5:ah (mD x e.Player):=by unfold mD;exact aA h (sT h _)
 have k5':ah (jy x e.Player):=by unfold jy;exact aA h (aA (gT h _ _) (gT h _ _))
 have k6:ah (dC x e.Player e.Yes):=by unfold dC;exact aA h (aA (gT (nV h _) _ _) (sT (nV h _) _))
 have k7:ah (au x e.Runs):=by unfold au;exact aA h h
 have k8:ah (ai x e.Player):=by unfold ai;exact aA h (aA h (aA h h))
 have k9:ah (ay x e.Player e.Yes):=by unfold ay;exact aA h (aA h (FA h _ _))
 have k10:ah (bq r x):=by unfold bq;exact aA h h
 have k11:ah (nn r x e):=by unfold nn;exact aA h h
 have k13:ah (rZ x e):=by unfold rZ;exact aA h (aA h (aA h h))
 have k14:ah (mm r x e.Side e.Yes):=by unfold mm;exact aA h (aA h h)
 have kT:ah (Kp x e.Runs):=by unfold Kp;exact aA h h
 have k15:ah (oS r x e.Runs e.Overs):=by unfold oS Mf;exact aA h (aA kT kT)
 unfold az
 exact aA k2 (aA k3 (aA hp (aA (aA k5 k5') (aA k6 (aA k7 (aA k8 (aA k9 (aA k10 (aA k11 (aA k13 (aA k14 k15)))))))))))
theorem nX {r:Rules} {x:Innings} {e:Mir.Event} (h :(cU r x e != 0)=true):dP r x e=x:=by simp only [dP,h,if_true]
theorem Ac (r:Rules) (x:Innings) (e:Mir.Event) (hs:fC x) (h2:D5 e) :(evPat (al [Gw,k50,GA,ut,CZ,yN,k67,k66,k46,k55,uv,KQ,yQ,yR] Tryz.f110) (fun _=>none) Tryz.f110 jk q2L (r,x,e,())).sat fun z_=>z_ =(Ih (r,x,e,())).2:=by
 refine cast (by kernel_rfl) (?_ :((e.1 ==(2:Int))=true→ah x∧(je x e.3 e.4,lj x e.3 e.4,()) =(az r x e,bW r x e,()))∧((e.1 ==(2:Int))=false→((e.1 ==(3:Int))=true→ah x∧(bE r x e.3,cR r x e.3,()) =(az r x e,bW r x e,()))∧((e.1 ==(3:Int))=false→((e.1 ==(4:Int))=true→fC x∧(jg r x e.8,jl r x e.8,()) =(az r x e,bW r x e,()))∧((e.1 ==(4:Int))=false→((e.1 ==(5:Int))=true→(e.5=true→ah x∧(mD x e.3,bF x e.3,()) =(az r x e,bW r x e,()))∧(e.5=false→ah x∧(jy x e.3,bF x e.3,()) =(az r x e,bW r x e,())))∧((e.1 ==(5:Int))=false→((e.1 ==(6:Int))=true→ah x∧(dC x e.3 e.5,ch x e.3 e.5,()) =(az r x e,bW r x e,()))∧((e.1 ==(6:Int))=false→((e.1 ==(7:Int))=true→ah x∧(au x e.6,fy x e.6,()) =(az r x e,bW r x e,()))∧((e.1 ==(7:Int))=false→((e.1 ==(8:Int))=true→ah x∧(ai x e.3,da x e.3,()) =(az r x e,bW r x e,()))∧((e.1 ==(8:Int))=false→((e.1 ==(9:Int))=true→ah x∧(ay x e.3 e.5,gu x e.3 e.5,()) =(az r x e,bW r x e,()))∧((e.1 ==(9:Int))=false→((e.1 ==(10:Int))=true→ah x∧(bq r x,wy r x,()) =(az r x e,bW r x e,()))∧((e.1 ==(10:Int))=false→((e.1 ==(11:Int))=true→ah x∧(nn r x e,pa r x e,()) =(az r x e,bW r x e,()))∧((e.1 ==(11:Int))=false→((e.1 ==(13:Int))=true→ah x∧(rZ x e,oO e,()) =(az r x e,bW r x e,()))∧((e.1 ==(13:Int))=false→((e.1 ==(14:Int))=true→ah x∧i6 e.2∧(mm r x e.2 e.5,lr r x e.2,()) =(az r x e,bW r x e,()))∧((e.1 ==(14:Int))=false→ah x∧(oS r x e.6 e.7,sC r x e.6 e.7,()) =(az r x e,bW r x e,()))))))))))))))
 have hi:=lA hs
 refine ⟨fun a2=>?_,fun n2=>⟨fun a3=>?_,fun n3=>⟨fun a4=>?_,fun n4=>⟨fun a5=>?_,fun n5=>⟨fun a6=>?_,fun n6=>⟨fun a7=>?_,fun n7=>⟨fun a8=>?_,fun n8=>⟨fun a9=>?_,fun n9=>⟨fun a10=>?_,fun n10=>⟨fun a11=>?_,fun n11=>⟨fun a13=>?_,fun n13=>⟨fun a14=>?_,fun n14=>?_⟩⟩⟩⟩⟩⟩⟩⟩⟩⟩⟩⟩
 ·exact ⟨hi,by simp only [az,bW,a2];rfl⟩
 ·exact ⟨hi,by simp only [az,bW,n2,a3];rfl⟩
 ·exact ⟨hs,by simp only [az,bW,n2,n3,a4];rfl⟩
 ·exact ⟨fun y=>⟨hi,by simp only [az,bW,n2,n3,n4,a5,y];rfl⟩,fun y=>⟨hi,by simp only [az,bW,n2,n3,n4,a5,y];rfl⟩⟩
 ·exact ⟨hi,by simp only [az,bW,n2,n3,n4,n5,a6];rfl⟩
 ·exact ⟨hi,by simp only [az,bW,n2,n3,n4,n5,n6,a7];rfl⟩
 ·exact ⟨hi,by simp only [az,bW,n2,n3,n4,n5,n6,n7,a8];rfl⟩
 ·exact ⟨hi,by simp only [az,bW,n2,n3,n4,n5,n6,n7,n8,a9];rfl⟩
 ·exact ⟨hi,by simp only [az,bW,n2,n3,n4,n5,n6,n7,n8,n9,a10];rfl⟩
 ·exact ⟨hi,by simp only [az,bW,n2,n3,n4,n5,n6,n7,n8,n9,n10,a11];rfl⟩
 ·exact ⟨hi,by simp only [az,bW,n2,n3,n4,n5,n6,n7,n8,n9,n10,n11,a13];rfl⟩
 ·exact ⟨hi,h2 (eq_of_beq a14),by simp only [az,bW,n2,n3,n4,n5,n6,n7,n8,n9,n10,n11,n13,a14];rfl⟩
 ·exact ⟨hi,by simp only [az,bW,n2,n3,n4,n5,n6,n7,n8,n9,n10,n11,n13,n14];rfl⟩
def ux:FuncId×Ctr:=(110,af KE jk q2L Ih)
theorem Bp:CtrOK Tryz.prog KE 110 (af KE jk q2L Ih):=by
 refine ar (C:=al [Gw,k50,GA,ut,CZ,yN,k67,k66,k46,k55,uv,KQ,yQ,yR] Tryz.f110) (aj (.consU JG rfl (.consU Ov rfl (.consU JI rfl (.consU Bl rfl (.consU G7 rfl (.consU ER rfl (.consU OC rfl (.consU OB rfl (.consU Ou rfl (.consU Ox rfl (.consU Bn rfl (.consU Mb rfl (.consU ET rfl (.consU EU rfl .nil)))))))))))))) _) mixed (fn:=Tryz.f110) Tryz.func110 (by kernel_rfl) (by kernel_rfl) (by kernel_rfl) (by kernel_rfl) (by kernel_rfl) (by kernel_rfl) (Λ:=fun _ _=>none) ?_ ?_
 ·exact fun _ _ _ _ _ _ _ _ h=>by cases h
 ·rintro ⟨r,x,e,⟨⟩⟩ hw hn
  exact Ac r x e (hn _ List.mem_cons_self) (hn _ (List.mem_cons_of_mem _ List.mem_cons_self))
theorem HR (r:Rules) (x:Innings) (e:Mir.Event) (hs:ah x) :(evPat (al [db,nC,jG,C6,ux,yP] Tryz.f95) (fun _=>none) Tryz.f95 jk q2L (r,x,e,())).sat fun z_=>z_ =(Ij (r,x,e,())).2:=by
 refine cast (by kernel_rfl) (?_:let r1:Bool:=bW r x e !=(0:Int);let r2:Bool:=(az r x e).23 ==(0:Int);let r3:Bool:=bif !cb r x then true else be e !=(0:Int);let r4:Bool:=bif e.1 ==(1:Int) then true else bif e.1 ==(12:Int) then true else bif e.1 ==(16:Int) then true else bif !fJ x then e.1 !=(2:Int) else false;let r5:Innings:=Innings.mk (az r x e).1 (az r x e).2 (az r x e).3 (az r x e).4 (az r x e).5 (az r x e).6 (az r x e).7 (az r x e).8 (az r x e).9 (az r x e).10 (az r x e).11 (az r x e).12 (az r x e).13 (az r x e).14 (e.1 ==(4:Int)) (az r x e).16 (az r x e).17 (az r x e).18 (az r x e).19 (az r x e).20 (az r x e).21 (az r x e).22 (az r x e).23;(ah x∧((!cb r x)=true→True)∧((!cb r x)=false→True))∧(true=true→(r3=true→ah x∧(x,(1:Int),()) =(dP r x e,cU r x e,()))∧(r3=false→((x.23 !=(0:Int))=true→ah x∧(x,(26:Int),()) =(dP r x e,cU r x e,()))∧((x.23 !=(0:Int))=false→(r4=true→ah x∧(x,(1:Int),()) =(dP r x e,cU r x e,()))∧(r4=false→fC x∧D5 e∧(r1=true→ah x∧(x,bW r x e,()) =(dP r x e,cU r x e,()))∧(r1=false→((r2=true→ah r5∧True)∧(r2=false→True))∧(true=true→(Innings.mk (bif r2 then (az r x e).1 else (az r x e).1) (bif r2 then (az r x e).2 else (az r x e).2) (bif r2 then (az r x e).3 else (az r x e).3) (bif r2 then (az r x e).4 else (az r x e).4) (bif r2 then (az r x e).5 else (az r x e).5) (Extras.mk (bif r2 then (az r x e).6.1 else (az r x e).6.1) (bif r2 then (az r x e).6.2 else (az r x e).6.2) (bif r2 then (az r x e).6.3 else (az r x e).6.3) (bif r2 then (az r x e).6.4 else (az r x e).6.4) (bif r2 then (az r x e).6.5 else (az r x e).6.5)) (bif r2 then (az r x e).7 else (az r x e).7) (bif r2 then (az r x e).8 else (az r x e).8) (bif r2 then (az r x e).9 else (az r x e).9) (bif r2 then (az r x e).10 else (az r x e).10) (bif r2 then (az r x e).11 else (az r x e).11) (bif r2 then (az r x e).12 else (az r x e).12) (bif r2 then (az r x e).13 else (az r x e).13) (bif r2 then (az r x e).14 else (az r x e).14) (bif r2 then e.1 ==(4:Int) else e.1 ==(4:Int)) (bif r2 then (az r x e).16 else (az r x e).16) (bif r2 then (az r x e).17 else (az r x e).17) (bif r2 then (az r x e).18 else (az r x e).18) (bif r2 then (az r x e).19 else (az r x e).19) (bif r2 then (az r x e).20 else (az r x e).20) (bif r2 then (az r x e).21 else (az r x e).21) (bif r2 then (az r x e).22.1 else (az r x e).22.1,bif r2 then (az r x e).22.2.1 else (az r x e).22.2.1,()) (bif r2 then vH r r5 else (az r x e).23),(0:Int),()) =(dP r x e,cU r x e,()))))))))
 intro r1 r2 r3 r4 r5
 clear_value (hr1:r1=_) (hr2:r2=_) (hr3:r3=_) (hr4:r4=_) (hr5:r5=_)
 simp only [Bool.cond_self] at *
 have e3:r3 =(!cb r x||be e != 0):=by rw [hr3];cases cb r x <;> rfl
 have hv:r3=false→cb r x=true∧be e=0:=fun h=>by
  rw [e3] at h
  simpa using h
 have e4:r3=false→r4 =(!IY e.Kind||!fJ x&&e.Kind != 2):=fun h=>by
  have hk:=I6 (hv h).2
  simp only [inW,Bool.and_eq_true,decide_eq_true_eq] at hk
  have :(e.Kind==1 ||(e.Kind==12||e.Kind==16))=!IY e.Kind:=by
   unfold IY inW
   by_cases k1:e.Kind=1
   ·rw [k1];rfl
   ·by_cases k2:e.Kind=12
    ·rw [k2];rfl
    ·by_cases k3:e.Kind=16
     ·rw [k3];rfl
     ·have q1:e.Kind≥2:=by omega
      have q2:e.Kind≤15:=by omega
      have b1 :(e.Kind==1)=false:=by simpa using k1
      have b2 :(e.Kind==12)=false:=by simpa using k2
      have b3 :(e.Kind==16)=false:=by simpa using k3
      simp [b1,b2,b3,q1,q2,bne]
  rw [hr4,←this]
  cases e.Kind==1 <;> cases e.Kind==12 <;> cases e.Kind==16 <;> cases fJ x <;> rfl
 have h5:r5=wa (az r x e) e:=hr5
 clear hr3 hr4 hr5
 refine ⟨⟨hs,fun _=>trivial,fun _=>trivial⟩,fun _=>⟨fun a=>⟨hs,?_⟩,fun a=>⟨fun b=>⟨hs,?_⟩,fun b=>⟨fun c=>⟨hs,?_⟩,fun c=>⟨lF (hv a).1,I7 (hv a).2,fun d=>⟨hs,?_⟩,fun d=>⟨⟨fun q=>⟨?_,trivial⟩,fun _=>trivial⟩,fun _=>?_⟩⟩⟩⟩⟩⟩
 ·have hL:cU r x e=1:=by simp only [cU,←e3,a];rfl
  rw [nX (by rw [hL];rfl),hL]
 ·have hL:cU r x e=26:=by simp only [cU,←e3,a,b];rfl
  rw [nX (by rw [hL];rfl),hL]
 ·have hL:cU r x e=1:=by simp only [cU,←e3,←e4 a,a,b,c];rfl
  rw [nX (by rw [hL];rfl),hL]
 ·have hL:cU r x e=bW r x e:=by simp only [cU,←e3,←e4 a,a,b,c];rfl
  rw [nX (by rw [hL,←hr1];exact d),hL]
 ·rw [h5];exact sa e (lF (hv a).1)
 ·have hL:cU r x e=0:=by
   have:cU r x e=bW r x e:=by simp only [cU,←e3,←e4 a,a,b,c];rfl
   rw [this]
   rw [hr1] at d
   simpa using d
  have hp:dP r x e=yt r r5:=by simp only [dP,hL,h5];rfl
  rw [hp,hL]
  have hE:r5.Ending =(az r x e).Ending:=by rw [h5];rfl
  unfold yt
  rw [hE,←hr2]
  cases r2 with
  | true=>rw [if_pos rfl,h5];rfl
  | false=>rw [if_neg (by decide),h5];rfl
def wl:FuncId×Ctr:=(95,af KE jk q2L Ij)
theorem Dx:CtrOK Tryz.prog KE 95 (af KE jk q2L Ij):=by
 refine ar (C:=al [db,nC,jG,C6,ux,yP] Tryz.f95) (aj (.consU gg rfl (.consU rP rfl (.consU nR rfl (.consU Hd rfl (.consU Bp rfl (.consU ES rfl .nil)))))) _) mixed (fn:=Tryz.f95) Tryz.func95 (by kernel_rfl) (by kernel_rfl) (by kernel_rfl) (by kernel_rfl) (by kernel_rfl) (by kernel_rfl) (Λ:=fun _ _=>none) ?_ ?_
 ·exact fun _ _ _ _ _ _ _ _ h=>by cases h
 ·rintro ⟨r,x,e,⟨⟩⟩ hw hn
  exact HR r x e (hn _ List.mem_cons_self)
end Go.Proofs.YtkgplaoappjkcaaGreat
namespace Go.Proofs.YtkgplaoappjkcaaGreat
open Go Go.Mir
attribute [local irreducible] Go.Mir.DT.sat Go.Mir.evPat Go.Mir.RT.sat Go.Mir.evFn
abbrev wP:Pat:=bG [.nm .Rules,I,I,I]
def AH (s t p:Int):Bool:=!inW s 1 2 ||(!inW t 0 1000000||!inW p 0 1000000)
def me (r:Rules) (s t p:Int):Int:=if ax r != 0 then ax r else if AH s t p then 2 else 0
def yf {α:Type} (n:Int) (v:α):List α:=List.replicate n.toNat v
def Lw (r:Rules) (s t p:Int):Innings:={ Innings.zero with Side:=s,Target:=t,Overs:=r.Overs,Runs:=p,Extras:={ Extras.zero with Penalties:=p },Batters:=yf r.Side 0,Bowled:=yf r.Side 0,Subs:=yf r.Side false }
def mI (r:Rules) (s t p:Int):Innings:=if me r s t p != 0 then Innings.zero else Lw r s t p
def B2:Den (tyP wP)→List Prop×Den (tyP q2L):=fun x=>([],(mI x.1 x.2.1 x.2.2.1 x.2.2.2.1,me x.1 x.2.1 x.2.2.1 x.2.2.2.1,()))
theorem Fg (r:Rules) (s:Int) (t:Int) (p:Int) :(evPat (al [k85,cz] Tryz.f93) (fun _=>none) Tryz.f93 wP q2L (r,s,t,p,())).sat fun z_=>z_ =(B2 (r,s,t,p,())).2:=by
 refine cast (by kernel_rfl) (?_:let r1:Bool:=bif !inW s (1:Int) (2:Int) then true else bif !inW t (0:Int) (1000000:Int) then true else !inW p (0:Int) (1000000:Int);let r2:Innings:=Innings.mk (0:Int) (0:Int) (0:Int) (0:Int) (0:Int) (Extras.mk (0:Int) (0:Int) (0:Int) (0:Int) (0:Int)) (0:Int) (0:Int) (0:Int) (0:Int) [] (0:Int) [] [] false [] false (0:Int) (0:Int) (0:Int) [] ((0:Int),(0:Int),()) (0:Int);((ax r !=(0:Int))=true→(r2,ax r,()) =(mI r s t p,me r s t p,()))∧((ax r !=(0:Int))=false→(r1=true→(r2,(2:Int),()) =(mI r s t p,me r s t p,()))∧(r1=false→((0:Int)≤r.2∧r.2=r.2∧r.2≤(17179869184:Int))∧((0:Int)≤r.2∧r.2=r.2∧r.2≤(17179869184:Int))∧((0:Int)≤r.2∧r.2=r.2∧r.2≤(17179869184:Int))∧(Innings.mk s t r.4 p (0:Int) (Extras.mk (0:Int) (0:Int) (0:Int) (0:Int) p) (0:Int) (0:Int) (0:Int) (0:Int) (List.replicate r.2.toNat (0:Int)) (0:Int) [] [] false (List.replicate r.2.toNat (0:Int)) false (0:Int) (0:Int) (0:Int) (List.replicate r.2.toNat false) ((0:Int),(0:Int),()) (0:Int),(0:Int),()) =(mI r s t p,me r s t p,()))))
 intro r1 r2
 clear_value (hr1:r1=_) (hr2:r2=_)
 have e1:r1=AH s t p:=by rw [hr1];unfold AH;cases inW s 1 2 <;> cases inW t 0 1000000 <;> rfl
 have e2:r2=Innings.zero:=hr2
 rw [e1,e2]
 refine ⟨fun h=>?_,fun h=>⟨fun h2=>?_,fun h2=>?_⟩⟩
 ·have hL:me r s t p=ax r:=by simp only [me,h,if_true]
  have hY:mI r s t p=Innings.zero:=by simp only [mI,hL,h,if_true]
  rw [hL,hY]
 ·have hL:me r s t p=2:=by simp only [me,h,h2];rfl
  have hY:mI r s t p=Innings.zero:=by simp only [mI,hL];rfl
  rw [hL,hY]
 ·have hL:me r s t p=0:=by simp only [me,h,h2];rfl
  have hY:mI r s t p=Lw r s t p:=by simp only [mI,hL];rfl
  have hr:=(kD (r:=r) (by simpa using h)).1
  have hb:0≤r.Side∧r.Side=r.Side∧r.Side≤17179869184:=⟨by omega,rfl,by omega⟩
  rw [hL,hY]
  exact ⟨hb,hb,hb,rfl⟩
def C5:FuncId×Ctr:=(93,af KE wP q2L B2)
theorem Hc:CtrOK Tryz.prog KE 93 (af KE wP q2L B2):=by
 refine ar (C:=al [k85,cz] Tryz.f93) (aj (.consU wC rfl (.consU eV rfl .nil)) _) mixed (fn:=Tryz.f93) Tryz.func93 (by kernel_rfl) (by kernel_rfl) (by kernel_rfl) (by kernel_rfl) (by kernel_rfl) (by kernel_rfl) (Λ:=fun _ _=>none) ?_ ?_
 ·exact fun _ _ _ _ _ _ _ _ h=>by cases h
 ·rintro ⟨r,s,t,p,⟨⟩⟩ hw hn
  exact Fg r s t p
end Go.Proofs.YtkgplaoappjkcaaGreat
namespace Go.Proofs.YtkgplaoappjkcaaGreat
open Go Go.Mir
attribute [local irreducible] Go.Mir.DT.sat Go.Mir.evPat Go.Mir.RT.sat Go.Mir.evFn
abbrev yg:Ty:= .slice (.nm .Innings)
abbrev qM:Pat:=bG [.nm .Match]
abbrev qMI:Pat:=bG [.nm .Match,I]
def dz (s:Int):Int:=W (3 - s)
def Cd:Den (tyP bt)→List Prop×Den (tyP bt):=fun x=>([],(dz x.1,()))
def D4 (m:Match) (i:Int):Bool:=if m.Follow&&decide (i≥2) then i==2 else i.tmod 2==1
def cS (m:Match) (i:Int):Int:=if D4 m i then dz m.First else m.First
def xg:Den (tyP qMI)→List Prop×Den (tyP bt):=fun x=>([],(cS x.1 x.2.1,()))
def IM (s:Int):List Innings→Int→Int
 | [],n=>n
 | x::l,n=>IM s l (if x.Side==s then W (n+x.Runs) else n)
def kw (m:Match) (s:Int):Int:=IM s m.Innings 0
def Iq:Den (tyP qMI)→List Prop×Den (tyP bt):=fun x=>([],(kw x.1 x.2.1,()))
def gc (m:Match) (s:Int):Int:=
 if decide (W ((m.Innings.length:Int)+1)<W (2*m.Rules.Innings)) then 0 else W (W (kw m (dz s) - kw m s)+1)
def xm:Den (tyP qMI)→List Prop×Den (tyP bt):=fun x=>([],(gc x.1 x.2.1,()))
abbrev qTo:Pat:=⟨[(5,.h I),(1,.h I),(9,.h yg),(10,.h I),(11,.h I)],[],0⟩
abbrev xTo:List (Lf×Pat):= [(.ext 0,⟨[(5,.h I)],[],0⟩)]
abbrev TTo:Type:=Int×Int×List Innings×Int×Int×Unit
def mr (x:TTo):Prop:=x.2.2.2.1 =(x.2.2.1.length:Int)∧0≤x.2.2.2.2.1∧x.2.2.2.2.1≤x.2.2.2.1∧x.2.2.1.length≤aI
def EG (x:TTo):Nat:=(x.2.2.2.1 - x.2.2.2.2.1).toNat
def mA (x:TTo):Int×Unit:=(IM x.2.1 (x.2.2.1.drop x.2.2.2.2.1.toNat) x.1,())
theorem yc {m:Match} (h:wfD (.nm .Match) m):m.Innings.length≤aI:=
 ce (bg (aX (aX (aX (aX (IT h))))))
theorem Fs (s:Int) :(evPat (al [] Tryz.f66) (fun _=>none) Tryz.f66 bt bt (s,())).sat fun z_=>z_ =(Cd (s,())).2:=by
 refine cast (by kernel_rfl) (?_ :(IntKind.i64.wrap ((3:Int) - s),()) =(dz s,()))
 rfl
def f0:FuncId×Ctr:=(66,af KE bt bt Cd)
theorem li:CtrOK Tryz.prog KE 66 (af KE bt bt Cd):=by
 refine ar (C:=al [] Tryz.f66) (aj (CtrsOK.nil) _) mixed (fn:=Tryz.f66) Tryz.func66 (by kernel_rfl) (by kernel_rfl) (by kernel_rfl) (by kernel_rfl) (by kernel_rfl) (by kernel_rfl) (Λ:=fun _ _=>none) ?_ ?_
 ·exact fun _ _ _ _ _ _ _ _ h=>by cases h
 ·rintro ⟨s,⟨⟩⟩ hw hn
  exact Fs s
theorem Fr (m:Match) (i:Int) :(evPat (al [f0] Tryz.f60) (fun _=>none) Tryz.f60 qMI bt (m,i,())).sat fun z_=>z_ =(xg (m,i,())).2:=by
 refine cast (by kernel_rfl) (?_:let r1:Bool:=bif bif m.4 then decide (i≥(2:Int)) else false then i ==(2:Int) else i.tmod (2:Int) ==(1:Int);(2:Int)≠(0:Int)∧(r1=true→(dz m.3,()) =(cS m i,()))∧(r1=false→(m.3,()) =(cS m i,())))
 intro r1
 clear_value (hr1:r1=_)
 grind [cS,D4]
def wn:FuncId×Ctr:=(60,af KE qMI bt xg)
theorem zj:CtrOK Tryz.prog KE 60 (af KE qMI bt xg):=by
 refine ar (C:=al [f0] Tryz.f60) (aj (.consU li rfl .nil) _) mixed (fn:=Tryz.f60) Tryz.func60 (by kernel_rfl) (by kernel_rfl) (by kernel_rfl) (by kernel_rfl) (by kernel_rfl) (by kernel_rfl) (Λ:=fun _ _=>none) ?_ ?_
 ·exact fun _ _ _ _ _ _ _ _ h=>by cases h
 ·rintro ⟨m,i,⟨⟩⟩ hw hn
  exact Fr m i
noncomputable def lpTo:Lp:=(⟨0,al [] Tryz.f70,(fun _=>none),(aB Tryz.f70 0),qTo,xTo⟩:Lp)
theorem MM (a:Int) (s:Int) (xs:List Innings) (n:Int) (i:Int) (hi:mr (a,s,xs,n,i,())) :(Go.Mir.stepG lpTo mA (fun y:Den (tyP lpTo.q)=>mr y∧EG y<EG (a,s,xs,n,i,())) (a,s,xs,n,i,())∧Go.Mir.stepE lpTo mA (a,s,xs,n,i,())=mA (a,s,xs,n,i,())):=by
 refine cast (by kernel_rfl) (?_:let r1:Bool:=(xs.getD i.toNat (dflt (Ty.nm Nm.Innings))).1==s;let r2:Int×Unit:=mA (bif r1 then IntKind.i64.wrap (a +(xs.getD i.toNat (dflt (Ty.nm Nm.Innings))).4) else a,s,xs,n,IntKind.i64.wrap (i +(1:Int)),());((decide (i<n)=true→(((0:Int)≤i∧i <(↑xs.length:Int))∧(r1=true→True)∧(r1=false→True))∧(true=true→mr (bif r1 then IntKind.i64.wrap (a +(xs.getD i.toNat (dflt (Ty.nm Nm.Innings))).4) else a,s,xs,n,IntKind.i64.wrap (i +(1:Int)),())∧EG (bif r1 then IntKind.i64.wrap (a +(xs.getD i.toNat (dflt (Ty.nm Nm.Innings))).4) else a,s,xs,n,IntKind.i64.wrap (i +(1:Int)),())<EG (a,s,xs,n,i,())))∧(decide (i<n)=false→True))∧(bif decide (i<n) then bif true&&true then r2 else bif true then r2 else bif r1 then dflt (I.prod Ty.unit) else dflt (I.prod Ty.unit) else (a,()))=mA (a,s,xs,n,i,()))
 intro r1 r2
 clear_value (hr1:r1=_) (hr2:r2=_)
 obtain ⟨h1,h2,h3,h4⟩:=hi
 simp only at h1 h2 h3 h4
 have h5 :(xs.length:Int)≤140737488355328:=by have:xs.length≤140737488355328:=h4;omega
 refine ⟨⟨fun h=>?_,fun _=>trivial⟩,?_⟩
 ·have h:i<n:=of_decide_eq_true h
  rw [bb (n:=i+1) (by omega) (by omega)]
  exact ⟨⟨⟨h2,by omega⟩,fun _=>trivial,fun _=>trivial⟩,fun _=>⟨⟨h1,by simp only;omega,by simp only;omega,h4⟩,by simp only [EG];omega⟩⟩
 ·by_cases h:i<n
  ·rw [bb (n:=i+1) (by omega) (by omega)] at hr2
   have e:xs.drop i.toNat=xs.getD i.toNat (dflt (Ty.nm Nm.Innings))::xs.drop (i+1).toNat:=c8 h2 (by omega) _
   rw [decide_eq_true h]
   show r2=_
   rw [hr2,hr1]
   generalize xs.getD i.toNat (dflt (Ty.nm Nm.Innings))=v at e ⊢
   simp only [mA,e,IM]
   cases v.Side==s <;> rfl
  ·rw [decide_eq_false h,cond_false]
   simp only [mA]
   rw [co (l:=xs) (by omega)]
   rfl
noncomputable def Lm:LoopSum:=aC lpTo mA mr
noncomputable def K6:Nat:=rid (aB Tryz.f70 0)
theorem LX:LoopOKp Tryz.prog 0 Tryz.f70.ntmps (aB Tryz.f70 0) (aC lpTo mA mr):=
 bi lpTo (aj (CtrsOK.nil) _) mixed (fun b hb S hS=>by cases hS) mA mr EG (fun |⟨a,s,xs,n,i,⟨⟩⟩,hi=>MM a s xs n i hi)
theorem Ft (m:Match) (s:Int) (hx:m.Innings.length≤aI) :(evPat (al [] Tryz.f70) (find [(K6,Lm)]) Tryz.f70 qMI bt (m,s,())).sat fun z_=>z_ =(Iq (m,s,())).2:=by
 refine cast (by kernel_rfl) (?_ :((cx fun x=>none)∧(↑m.5.length:Int) =(↑m.5.length:Int)∧(0:Int)≤(0:Int)∧(0:Int)≤(↑m.5.length:Int)∧m.5.length≤aI)∧(IM s (List.drop (Int.toNat (0:Int)) m.5) (0:Int),()) =(kw m s,()))
 exact ⟨⟨rfl,rfl,Int.le_refl _,by omega,hx⟩,rfl⟩
def lT:FuncId×Ctr:=(70,af KE qMI bt Iq)
theorem rR:CtrOK Tryz.prog KE 70 (af KE qMI bt Iq):=by
 refine ar (C:=al [] Tryz.f70) (aj (CtrsOK.nil) _) mixed (fn:=Tryz.f70) Tryz.func70 (by kernel_rfl) (by kernel_rfl) (by kernel_rfl) (by kernel_rfl) (by kernel_rfl) (by kernel_rfl) (Λ:=fun x=>find [(K6,Lm)]) ?_ ?_
 ·rintro ⟨m,s,⟨⟩⟩ hw hn
  exact LoopsOKp.at (by kernel_rfl) (.cons (by kernel_rfl) (LX) .nil)
 ·rintro ⟨m,s,⟨⟩⟩ hw hn
  exact Ft m s (yc (bg hw))
theorem BX (m:Match) (s:Int) :(evPat (al [f0,lT] Tryz.f94) (fun _=>none) Tryz.f94 qMI bt (m,s,())).sat fun z_=>z_ =(xm (m,s,())).2:=by
 refine cast (by kernel_rfl) (?_:let r1:Int:=IntKind.i64.wrap ((2:Int)*m.1.3);let r2:Int:=IntKind.i64.wrap ((↑m.5.length:Int) +(1:Int));let r3:Bool:=decide (r2<r1);(r3=true→((0:Int),()) =(gc m s,()))∧(r3=false→(IntKind.i64.wrap (IntKind.i64.wrap (kw m (dz s) - kw m s) +(1:Int)),()) =(gc m s,())))
 intro r1 r2 r3
 clear_value (hr1:r1=_) (hr2:r2=_) (hr3:r3=_)
 grind [gc]
def yT:FuncId×Ctr:=(94,af KE qMI bt xm)
theorem EW:CtrOK Tryz.prog KE 94 (af KE qMI bt xm):=by
 refine ar (C:=al [f0,lT] Tryz.f94) (aj (.consU li rfl (.consU rR rfl .nil)) _) mixed (fn:=Tryz.f94) Tryz.func94 (by kernel_rfl) (by kernel_rfl) (by kernel_rfl) (by kernel_rfl) (by kernel_rfl) (by kernel_rfl) (Λ:=fun _ _=>none) ?_ ?_
 ·exact fun _ _ _ _ _ _ _ _ h=>by cases h
 ·rintro ⟨m,s,⟨⟩⟩ hw hn
  exact BX m s
end Go.Proofs.YtkgplaoappjkcaaGreat
namespace Go.Proofs.YtkgplaoappjkcaaGreat
open Go Go.Mir
attribute [local irreducible] Go.Mir.DT.sat Go.Mir.evPat Go.Mir.RT.sat Go.Mir.evFn
def GJ (st n i:Int):Bool:=st==3&&i==W (n - 1)
def AR (st n:Int):List Innings→Int→Bool
 | [],_=>true
 | x::l,i=>if (x.Ending==0) != GJ st n i then false else AR st n l (i+1)
def jx (m:Match):Bool:=AR m.Stage m.Innings.length m.Innings 0&&(m.Stage != 3||decide ((m.Innings.length:Int)>0))
def B7:Den (tyP qM)→List Prop×Den (tyP aw):=fun x=>([],(jx x.1,()))
abbrev qEn:Pat:=⟨[(1,.c (.ptr 0 0)),(3,.h I),(10,.h yg),(11,.h I),(12,.h I)],[(0,.dat (.nm .Match))],1⟩
abbrev xEn:List (Lf×Pat):= [(.ret,⟨[(2,.h .bool)],[],0⟩),(.ext 0,⟨[(1,.c (.ptr 0 0)),(3,.h I)],[(0,.dat (.nm .Match))],1⟩)]
abbrev TEn:Type:=Int×List Innings×Int×Int×Match×Unit
def um (x:TEn):Prop:=mr (0,0,x.2.1,x.2.2.1,x.2.2.2.1,())
def EF (x:TEn):Nat:=(x.2.2.1 - x.2.2.2.1).toNat
def KS (n:Int) (m:Match) (b:Bool):Sum (Bool×Unit) (Int×Match×Unit):=if b then .inr (n,m,()) else .inl (false,())
def iU (x:TEn):Sum (Bool×Unit) (Int×Match×Unit):=KS x.1 x.2.2.2.2.1 (AR x.2.2.2.2.1.Stage x.1 (x.2.1.drop x.2.2.2.1.toNat) x.2.2.2.1)
noncomputable def lpEn:Lp:=(⟨0,al [] Tryz.f61,(fun _=>none),(aB Tryz.f61 0),qEn,xEn⟩:Lp)
theorem MC (k:Int) (xs:List Innings) (n:Int) (i:Int) (m:Match) (hi:um (k,xs,n,i,m,())) :(Go.Mir.stepG lpEn iU (fun y:Den (tyP lpEn.q)=>um y∧EF y<EF (k,xs,n,i,m,())) (k,xs,n,i,m,())∧Go.Mir.stepE lpEn iU (k,xs,n,i,m,())=iU (k,xs,n,i,m,())):=by
 refine cast (by kernel_rfl) (?_:let r1:Bool:=(xs.getD i.toNat (dflt (Ty.nm Nm.Innings))).23 ==(0:Int);let r2:Bool:=bif m.2 ==(3:Int) then !r1 ==(i==IntKind.i64.wrap (k - (1:Int))) else !r1==false;((decide (i<n)=true→((0:Int)≤i∧i <(↑xs.length:Int))∧(r2=true→True)∧(r2=false→um (k,xs,n,IntKind.i64.wrap (i +(1:Int)),m,())∧EF (k,xs,n,IntKind.i64.wrap (i +(1:Int)),m,())<EF (k,xs,n,i,m,())))∧(decide (i<n)=false→True))∧(bif decide (i<n) then bif r2 then Sum.inl (false,()) else iU (k,xs,n,IntKind.i64.wrap (i +(1:Int)),m,()) else Sum.inr (k,m,()))=iU (k,xs,n,i,m,()))
 intro r1 r2
 clear_value (hr1:r1=_) (hr2:r2=_)
 obtain ⟨h1,h2,h3,h4⟩:=hi
 simp only at h1 h2 h3 h4
 have h5 :(xs.length:Int)≤140737488355328:=by have:xs.length≤140737488355328:=h4;omega
 refine ⟨⟨fun h=>?_,fun _=>trivial⟩,?_⟩
 ·have h:i<n:=of_decide_eq_true h
  rw [bb (n:=i+1) (by omega) (by omega)]
  exact ⟨⟨h2,by omega⟩,fun _=>trivial,fun _=>⟨⟨h1,by simp only;omega,by simp only;omega,h4⟩,by simp only [EF];omega⟩⟩
 ·by_cases h:i<n
  ·have e:xs.drop i.toNat=xs.getD i.toNat (dflt (Ty.nm Nm.Innings))::xs.drop (i+1).toNat:=c8 h2 (by omega) _
   rw [decide_eq_true h,cond_true,bb (n:=i+1) (by omega) (by omega)]
   generalize xs.getD i.toNat (dflt (Ty.nm Nm.Innings))=v at e hr1
   have e2:r2 =((v.Ending==0) != GJ m.Stage k i):=by
    rw [hr2,hr1]
    unfold GJ
    cases m.Stage==3 <;> cases v.Ending==0 <;> cases i==IntKind.i64.wrap (k - 1) <;> rfl
   simp only [iU,e,AR]
   rw [←e2]
   cases r2 <;> rfl
  ·rw [decide_eq_false h,cond_false]
   simp only [iU]
   rw [co (l:=xs) (by omega)]
   rfl
noncomputable def Li:LoopSum:=aC lpEn iU um
noncomputable def K2:Nat:=rid (aB Tryz.f61 0)
theorem LT:LoopOKp Tryz.prog 0 Tryz.f61.ntmps (aB Tryz.f61 0) (aC lpEn iU um):=
 bi lpEn (aj (CtrsOK.nil) _) mixed (fun b hb S hS=>by cases hS) iU um EF (fun |⟨k,xs,n,i,m,⟨⟩⟩,hi=>MC k xs n i m hi)
theorem Fq (m:Match) (hx:m.Innings.length≤aI) :(evPat (al [] Tryz.f61) (find [(K2,Li)]) Tryz.f61 qM aw (m,())).sat fun z_=>z_ =(B7 (m,())).2:=by
 refine cast (by kernel_rfl) (?_:let r1:Bool:=isL (iU ((↑m.5.length:Int),m.5,(↑m.5.length:Int),(0:Int),m,()));let r2:Int×Match×PUnit:=pG (dflt (I.prod ((Ty.nm Nm.Match).prod Ty.unit))) (iU ((↑m.5.length:Int),m.5,(↑m.5.length:Int),(0:Int),m,()));((cx fun x=>none)∧(↑m.5.length:Int) =(↑m.5.length:Int)∧(0:Int)≤(0:Int)∧(0:Int)≤(↑m.5.length:Int)∧m.5.length≤aI)∧(r1=true→mU (dflt (Ty.bool.prod Ty.unit)) (iU ((↑m.5.length:Int),m.5,(↑m.5.length:Int),(0:Int),m,())) =(jx m,()))∧(r1=false→(bif r2.2.1.2 !=(3:Int) then true else decide (r2.1 >(0:Int)),()) =(jx m,())))
 intro r1 r2
 clear_value (hr1:r1=_) (hr2:r2=_)
 have er:iU ((m.Innings.length:Int),m.Innings,(m.Innings.length:Int),0,m,())=KS m.Innings.length m (AR m.Stage m.Innings.length m.Innings 0):=rfl
 rw [er] at hr1 hr2 ⊢
 refine ⟨⟨rfl,rfl,Int.le_refl _,by omega,hx⟩,fun h=>?_,fun h=>?_⟩
 ·cases hE:AR m.Stage m.Innings.length m.Innings 0 with
  | true=>rw [hE] at hr1;rw [hr1] at h;cases h
  | false=>simp only [jx,hE];rfl
 ·cases hE:AR m.Stage m.Innings.length m.Innings 0 with
  | false=>rw [hE] at hr1;rw [hr1] at h;cases h
  | true=>
   rw [hE] at hr2
   have e2:r2 =((m.Innings.length:Int),m,()):=hr2
   rw [e2]
   simp only [jx,hE]
   cases m.Stage != 3 <;> rfl
def p7:FuncId×Ctr:=(61,af KE qM aw B7)
theorem zi:CtrOK Tryz.prog KE 61 (af KE qM aw B7):=by
 refine ar (C:=al [] Tryz.f61) (aj (CtrsOK.nil) _) mixed (fn:=Tryz.f61) Tryz.func61 (by kernel_rfl) (by kernel_rfl) (by kernel_rfl) (by kernel_rfl) (by kernel_rfl) (by kernel_rfl) (Λ:=fun x=>find [(K2,Li)]) ?_ ?_
 ·rintro ⟨m,⟨⟩⟩ hw hn
  exact LoopsOKp.at (by kernel_rfl) (.cons (by kernel_rfl) (LT) .nil)
 ·rintro ⟨m,⟨⟩⟩ hw hn
  exact Fq m (yc (bg hw))
end Go.Proofs.YtkgplaoappjkcaaGreat
namespace Go.Proofs.YtkgplaoappjkcaaGreat
open Go Go.Mir
attribute [local irreducible] Go.Mir.DT.sat Go.Mir.evPat Go.Mir.RT.sat Go.Mir.evFn
def fQ (l:List Innings):Prop:=∀ z∈l,ah z
def i7 (m:Match):Prop:=fQ m.Innings
def okF (m:Match):List Innings→Int→Bool
 | [],_=>true
 | x::l,i=>if !cb m.Rules x||x.Side != cS m i then false else okF m l (i+1)
abbrev qVa:Pat:=⟨[(1,.c (.ptr 0 0)),(122,.h yg),(123,.h I),(124,.h I)],[(0,.dat (.nm .Match))],1⟩
abbrev xVa:List (Lf×Pat):= [(.ret,⟨[(2,.h .bool)],[],0⟩),(.ext 3,⟨[(1,.c (.ptr 0 0))],[(0,.dat (.nm .Match))],1⟩)]
abbrev TVa:Type:=List Innings×Int×Int×Match×Unit
def un (x:TVa):Prop:=mr (0,0,x.1,x.2.1,x.2.2.1,())∧fQ x.1
def EH (x:TVa):Nat:=(x.2.1 - x.2.2.1).toNat
def DC (m:Match) (b:Bool):Sum (Bool×Unit) (Match×Unit):=if b then .inr (m,()) else .inl (false,())
def il (x:TVa):Sum (Bool×Unit) (Match×Unit):=DC x.2.2.2.1 (okF x.2.2.2.1 (x.1.drop x.2.2.1.toNat) x.2.2.1)
def ir (m:Match):Bool:=
 let n:Int:=m.Innings.length
 (decide (m.First<0) ||(decide (m.First>2)||decide (n>W (2*m.Rules.Innings))))
 ||(m.First==0&&(decide (n>0)||m.Stage != 1&&m.Stage != 5))
 ||(m.Stage==1&&m.First != 0)
 ||(m.Stage==2&&n==W (2*m.Rules.Innings))
 ||(m.Stage==4&&(!(m.Rules.Innings==2)||n != 2))
 ||(m.Follow&&(!(m.Rules.Innings==2)||decide (n<2)))
def Bz (m:Match):Bool:=!inW m.Penalty.1 0 1000000||!inW m.Penalty.2.1 0 1000000
def aQ (m:Match):Bool:=ax m.Rules==0&&(inW m.Stage 1 5&&(!Bz m&&(!ir m&&(okF m m.Innings 0&&jx m))))
def xp:Den (tyP qM)→List Prop×Den (tyP aw):=fun x=>([i7 x.1],(aQ x.1,()))
theorem eg {α:Type} {xs:List α} {i:Nat} (h:i<xs.length) (d:α):xs.getD i d∈xs:=by
 rw [List.getD_eq_getElem?_getD,List.getElem?_eq_getElem h]
 exact List.getElem_mem h
noncomputable def lpVa:Lp:=(⟨0,al [nC,wn] Tryz.f44,(fun _=>none),(aB Tryz.f44 1),qVa,xVa⟩:Lp)
theorem MN (xs:List Innings) (n:Int) (i:Int) (m:Match) (hi:un (xs,n,i,m,())) :(Go.Mir.stepG lpVa il (fun y:Den (tyP lpVa.q)=>un y∧EH y<EH (xs,n,i,m,())) (xs,n,i,m,())∧Go.Mir.stepE lpVa il (xs,n,i,m,())=il (xs,n,i,m,())):=by
 refine cast (by kernel_rfl) (?_:let r1:Bool:=!cb m.1 (xs.getD i.toNat (dflt (Ty.nm Nm.Innings)));let r2:Bool:=bif r1 then true else (xs.getD i.toNat (dflt (Ty.nm Nm.Innings))).1 != cS m i;((decide (i<n)=true→((0:Int)≤i∧i <(↑xs.length:Int))∧(ah (xs.getD i.toNat (dflt (Ty.nm Nm.Innings)))∧(r1=true→True)∧(r1=false→True))∧(true=true→(r2=true→True)∧(r2=false→un (xs,n,IntKind.i64.wrap (i +(1:Int)),m,())∧EH (xs,n,IntKind.i64.wrap (i +(1:Int)),m,())<EH (xs,n,i,m,()))))∧(decide (i<n)=false→True))∧(bif decide (i<n) then bif true&&true then bif r2 then Sum.inl (false,()) else il (xs,n,IntKind.i64.wrap (i +(1:Int)),m,()) else bif true then bif r2 then Sum.inl (false,()) else il (xs,n,IntKind.i64.wrap (i +(1:Int)),m,()) else bif r1 then Sum.inl (dflt (Ty.bool.prod Ty.unit)) else Sum.inl (dflt (Ty.bool.prod Ty.unit)) else Sum.inr (m,()))=il (xs,n,i,m,()))
 intro r1 r2
 clear_value (hr1:r1=_) (hr2:r2=_)
 obtain ⟨⟨h1,h2,h3,h4⟩,hs⟩:=hi
 simp only at h1 h2 h3 h4 hs
 have h5 :(xs.length:Int)≤140737488355328:=by have:xs.length≤140737488355328:=h4;omega
 refine ⟨⟨fun h=>?_,fun _=>trivial⟩,?_⟩
 ·have h:i<n:=of_decide_eq_true h
  rw [bb (n:=i+1) (by omega) (by omega)]
  refine ⟨⟨h2,by omega⟩,⟨hs _ ?_,fun _=>trivial,fun _=>trivial⟩,fun _=>⟨fun _=>trivial,fun _=>⟨⟨⟨h1,by simp only;omega,by simp only;omega,h4⟩,hs⟩,by simp only [EH];omega⟩⟩⟩
  have hl:i.toNat<xs.length:=by omega
  exact eg hl _
 ·by_cases h:i<n
  ·have e:xs.drop i.toNat=xs.getD i.toNat (dflt (Ty.nm Nm.Innings))::xs.drop (i+1).toNat:=c8 h2 (by omega) _
   rw [decide_eq_true h,bb (n:=i+1) (by omega) (by omega)]
   generalize xs.getD i.toNat (dflt (Ty.nm Nm.Innings))=v at e hr1 hr2
   have e2:r2 =(!cb m.Rules v||v.Side != cS m i):=by
    rw [hr2,hr1]
    cases cb m.Rules v <;> rfl
   simp only [il,e,okF]
   rw [←e2]
   cases r2 <;> rfl
  ·rw [decide_eq_false h,cond_false]
   simp only [il]
   rw [co (l:=xs) (by omega)]
   rfl
noncomputable def Ln:LoopSum:=aC lpVa il un
noncomputable def K7:Nat:=rid (aB Tryz.f44 1)
theorem LY:LoopOKp Tryz.prog 0 Tryz.f44.ntmps (aB Tryz.f44 1) (aC lpVa il un):=
 bi lpVa (aj (.consU rP rfl (.consU zj rfl .nil)) _) mixed (fun b hb S hS=>by cases hS) il un EH (fun |⟨xs,n,i,m,⟨⟩⟩,hi=>MN xs n i m hi)
theorem Fu (m:Match) (hm:i7 m) (hx:m.Innings.length≤aI) :(evPat (al [k85,p7] Tryz.f44) (find [(rid (aB Tryz.f44 0),dU 3 (al [k85,p7] Tryz.f44) (fun _=>none) (aB Tryz.f44 0)),(K7,Ln)]) Tryz.f44 qM aw (m,())).sat fun z_=>z_ =(xp (m,())).2:=by
 refine cast (by kernel_rfl) (?_:let r1:Bool:=!m.1.3 ==(2:Int);let r2:Int:=IntKind.i64.wrap ((2:Int)*m.1.3);let r3:Int:=IntKind.i64.wrap ((0:Int) +(1:Int));let r4:Bool:=bif m.2 ==(1:Int) then m.3 !=(0:Int) else false;let r5:Bool:=bif decide (m.6.1 <(0:Int)) then true else decide (m.6.1 >(1000000:Int));let r6:Bool:=bif m.2 ==(2:Int) then (↑m.5.length:Int)==r2 else false;let r7:Bool:=bif decide (m.6.2.1 <(0:Int)) then true else decide (m.6.2.1 >(1000000:Int));let r8:Bool:=bif m.2 ==(4:Int) then bif r1 then true else (↑m.5.length:Int) !=(2:Int) else false;let r9:Bool:=bif m.4 then bif r1 then true else decide ((↑m.5.length:Int) <(2:Int)) else false;let r10:Bool:=bif ax m.1 !=(0:Int) then true else bif decide (m.2 <(1:Int)) then true else decide (m.2 >(5:Int));let r11:Bool:=bif m.3 ==(0:Int) then bif decide ((↑m.5.length:Int) >(0:Int)) then true else bif m.2 !=(1:Int) then m.2 !=(5:Int) else false else false;let r12:Bool:=bif decide (m.3 <(0:Int)) then true else bif decide (m.3 >(2:Int)) then true else decide ((↑m.5.length:Int)>r2);let r13:Bool:=isL (il (m.5,(↑m.5.length:Int),(0:Int),m,()));(r10=true→(false,()) =(aQ m,()))∧(r10=false→True∧((0:Int)≤(0:Int)∧(0:Int) <(↑(2:Nat):Int))∧(r5=true→(false,()) =(aQ m,()))∧(r5=false→((0:Int)≤r3∧r3 <(↑(2:Nat):Int))∧(r7=true→(false,()) =(aQ m,()))∧(r7=false→(r12=true→(false,()) =(aQ m,()))∧(r12=false→(r11=true→(false,()) =(aQ m,()))∧(r11=false→(r4=true→(false,()) =(aQ m,()))∧(r4=false→(r6=true→(false,()) =(aQ m,()))∧(r6=false→(r8=true→(false,()) =(aQ m,()))∧(r8=false→(r9=true→(false,()) =(aQ m,()))∧(r9=false→((cx fun x=>none)∧mr ((0:Int),(0:Int),m.5,(↑m.5.length:Int),(0:Int),())∧fQ m.5)∧(r13=true→mU (dflt (Ty.bool.prod Ty.unit)) (il (m.5,(↑m.5.length:Int),(0:Int),m,())) =(aQ m,()))∧(r13=false→(jx (pG (dflt ((Ty.nm Nm.Match).prod Ty.unit)) (il (m.5,(↑m.5.length:Int),(0:Int),m,()))).1,()) =(aQ m,()))))))))))))
 intro r1 r2 r3 r4 r5 r6 r7 r8 r9 r10 r11 r12 r13
 clear_value (hr1:r1=_) (hr2:r2=_) (hr3:r3=_) (hr4:r4=_) (hr5:r5=_) (hr6:r6=_) (hr7:r7=_) (hr8:r8=_) (hr9:r9=_) (hr10:r10=_) (hr11:r11=_) (hr12:r12=_) (hr13:r13=_)
 have er:il (m.Innings,(m.Innings.length:Int),0,m,())=DC m (okF m m.Innings 0):=rfl
 have n3:r3=1:=by rw [hr3];rfl
 have e10:r10=!(ax m.Rules==0&&inW m.Stage 1 5):=by
  have h1:decide (m.Stage<1)=!decide (m.Stage≥1):=by by_cases h:m.Stage≥1 <;> simp [h] <;> omega
  have h2:decide (m.Stage>5)=!decide (m.Stage≤5):=by by_cases h:m.Stage≤5 <;> simp [h] <;> omega
  rw [hr10,h1,h2]
  unfold inW
  cases hc:ax m.Rules==0 <;> cases decide (m.Stage≥1) <;> cases decide (m.Stage≤5) <;> simp [bne,hc]
 have hq :∀ k:Int,(bif decide (k<0) then true else decide (k>1000000))=!inW k 0 1000000:=fun k=>by
  have h1:decide (k<0)=!decide (k≥0):=by by_cases h:k≥0 <;> simp [h] <;> omega
  have h2:decide (k>1000000)=!decide (k≤1000000):=by by_cases h:k≤1000000 <;> simp [h] <;> omega
  rw [h1,h2]
  unfold inW
  cases decide (k≥0) <;> cases decide (k≤1000000) <;> rfl
 have ep:Bz m =(r5||r7):=by rw [hr5,hr7,hq,hq];rfl
 have es:ir m =(((((r12||r11)||r4)||r6)||r8)||r9):=by
  rw [hr12,hr11,hr4,hr6,hr8,hr9,hr1,hr2]
  simp only [ir,Bool.cond_true_left,Bool.cond_false_right]
 have hv:aQ m =(!r10&&(!Bz m&&(!ir m&&(okF m m.Innings 0&&jx m)))):=by rw [e10];unfold aQ;simp only [Bool.not_not,Bool.and_assoc]
 rw [er] at hr13
 rw [er,hv,ep,es,n3]
 clear hr1 hr2 hr3 hr4 hr5 hr6 hr7 hr8 hr9 hr10 hr11 hr12 ep es hv e10 hq
 have hi:mr (0,0,m.Innings,(m.Innings.length:Int),0,()):=⟨rfl,Int.le_refl _,by simp only;omega,hx⟩
 have hm':fQ m.Innings:=hm
 cases r10 with
 | true=>simp
 | false=>
 cases r5 with
 | true=>simp
 | false=>
 cases r7 with
 | true=>simp
 | false=>
 cases r12 with
 | true=>simp
 | false=>
 cases r11 with
 | true=>simp
 | false=>
 cases r4 with
 | true=>simp
 | false=>
 cases r6 with
 | true=>simp
 | false=>
 cases r8 with
 | true=>simp
 | false=>
 cases r9 with
 | true=>simp
 | false=>
 cases hF:okF m m.Innings 0 with
 | true=>rw [hF] at hr13;have e:r13=false:=hr13;simp [e,DC,pG,cx,hi,hm']
 | false=>rw [hF] at hr13;have e:r13=true:=hr13;simp [e,DC,mU,cx,hi,hm'];rfl
def p8:FuncId×Ctr:=(44,af KE qM aw xp)
theorem zk:CtrOK Tryz.prog KE 44 (af KE qM aw xp):=by
 refine ar (C:=al [k85,p7] Tryz.f44) (aj (.consU wC rfl (.consU zi rfl .nil)) _) mixed (fn:=Tryz.f44) Tryz.func44 (by kernel_rfl) (by kernel_rfl) (by kernel_rfl) (by kernel_rfl) (by kernel_rfl) (by kernel_rfl) (Λ:=fun x=>find [(rid (aB Tryz.f44 0),dU 3 (al [k85,p7] Tryz.f44) (fun _=>none) (aB Tryz.f44 0)),(K7,Ln)]) ?_ ?_
 ·rintro ⟨m,⟨⟩⟩ hw hn
  exact LoopsOKp.at (by kernel_rfl) (.cons (by kernel_rfl) (mb 3 (aj (.consU wC rfl (.consU zi rfl .nil)) _) mixed (Λ:=fun _=>none) (b:=aB Tryz.f44 0) rfl (fun _ _ _ h=>by cases h)) (.cons (by kernel_rfl) (LY) .nil))
 ·rintro ⟨m,⟨⟩⟩ hw hn
  exact Fu m (hn _ List.mem_cons_self) (yc (bg hw))
end Go.Proofs.YtkgplaoappjkcaaGreat
namespace Go.Proofs.YtkgplaoappjkcaaGreat
open Go Go.Mir
attribute [local irreducible] Go.Mir.DT.sat Go.Mir.evPat Go.Mir.RT.sat Go.Mir.evFn
end Go.Proofs.YtkgplaoappjkcaaGreat
namespace Go.Proofs.YtkgplaoappjkcaaGreat
open Go Go.Mir
attribute [local irreducible] Go.Mir.DT.sat Go.Mir.evPat Go.Mir.RT.sat Go.Mir.evFn
def Dm (m:Match):Int:=W (2*m.Rules.Innings)
end Go.Proofs.YtkgplaoappjkcaaGreat
namespace Go.Proofs.YtkgplaoappjkcaaGreat
open Go Go.Mir
end Go.Proofs.YtkgplaoappjkcaaGreat
namespace Go.Proofs.YtkgplaoappjkcaaGreat
open Go Go.Mir
attribute [local irreducible] Go.Mir.DT.sat Go.Mir.evPat Go.Mir.RT.sat Go.Mir.evFn
abbrev qRu:Pat:=bG [.nm .Rules]
def dQ (r:Rules):Int:=if r.Overs==0 then 5 else 6
def Cm:Den (tyP qRu)→List Prop×Den (tyP qH):=fun x=>([],(dQ x.1,()))
theorem sB (r:Rules) :(evPat (al [] Tryz.f96) (fun _=>none) Tryz.f96 qRu qH (r,())).sat fun z_=>z_ =(Cm (r,())).2:=by
 refine cast (by kernel_rfl) (?_ :((r.4 ==(0:Int))=true→((5:Int),()) =(dQ r,()))∧((r.4 ==(0:Int))=false→((6:Int),()) =(dQ r,())))
 grind [dQ]
def gE:FuncId×Ctr:=(96,af KE qRu qH Cm)
theorem mv:CtrOK Tryz.prog KE 96 (af KE qRu qH Cm):=by
 refine ar (C:=al [] Tryz.f96) (aj (CtrsOK.nil) _) mixed (fn:=Tryz.f96) Tryz.func96 (by kernel_rfl) (by kernel_rfl) (by kernel_rfl) (by kernel_rfl) (by kernel_rfl) (by kernel_rfl) (Λ:=fun _ _=>none) ?_ ?_
 ·exact fun _ _ _ _ _ _ _ _ h=>by cases h
 ·rintro ⟨r,⟨⟩⟩ hw hn
  exact sB r
end Go.Proofs.YtkgplaoappjkcaaGreat
namespace Go.Proofs.YtkgplaoappjkcaaGreat
open Go Go.Mir
attribute [local irreducible] Go.Mir.DT.sat Go.Mir.evPat Go.Mir.RT.sat Go.Mir.evFn
def aD (m:Match):Prop:=i7 m∧m.Innings.length≤1000000∧m.Rules.Power.length≤1000000
abbrev AK (s:PC0):List PC0:= [.h .str,.h I,.h I,.h I,.h I,.h I,.h I,.h I,.h .bool,.h I,.h I,.h I,.h I,.h (.slice (.nm .Phase)),.h U8,.h I,.h .bool,s,.h I,.h I,.h U8,.h I,.h I]
abbrev qMo:Pat:=⟨[(0,.a (AK (.c (.osl 0 1))))],[(0,.row 1 (.nm .Innings))],2⟩
abbrev pO:Pat:=bG [.nm .Match,I]
def _root_.Go.Mir.mkM (v1:ByteArray) (v2:Int) (v3:Int) (v4:Int) (v5:Int) (v6:Int) (v7:Int) (v8:Int) (v9:Bool) (v10:Int) (v11:Int) (v12:Int) (v13:Int) (v14:List Phase) (v15:Int) (v16:Int) (v17:Bool) (v18:Int) (v19:Int) (v20:Int) (v21:Int) (v22:Int) (xs:List Innings):Match:=
 { Rules:={ Name:=v1,Side:=v2,Innings:=v3,Overs:=v4,Balls:=v5,Quota:=v6,Wide:=v7,NoBall:=v8,FreeHit:=v9,NewBall:=v10,FollowOn:=v11,Reviews:=v12,Outside:=v13,Power:=v14 },Stage:=v15,First:=v16,Follow:=v17,Innings:=xs,Penalty:=(v18,v19,()),Result:={ Win:=v20,Side:=v21,Margin:=v22 } }
abbrev TM:Type:=ByteArray×Int×Int×Int×Int×Int×Int×Int×Bool×Int×Int×Int×Int×List Phase×Int×Int×Bool×Int×Int×Int×Int×Int×List Innings×Unit
def _root_.Go.Mir.mkX (x:TM):Match:=(mkM x.1 x.2.1 x.2.2.1 x.2.2.2.1 x.2.2.2.2.1 x.2.2.2.2.2.1 x.2.2.2.2.2.2.1 x.2.2.2.2.2.2.2.1 x.2.2.2.2.2.2.2.2.1 x.2.2.2.2.2.2.2.2.2.1 x.2.2.2.2.2.2.2.2.2.2.1 x.2.2.2.2.2.2.2.2.2.2.2.1 x.2.2.2.2.2.2.2.2.2.2.2.2.1 x.2.2.2.2.2.2.2.2.2.2.2.2.2.1 x.2.2.2.2.2.2.2.2.2.2.2.2.2.2.1 x.2.2.2.2.2.2.2.2.2.2.2.2.2.2.2.1 x.2.2.2.2.2.2.2.2.2.2.2.2.2.2.2.2.1 x.2.2.2.2.2.2.2.2.2.2.2.2.2.2.2.2.2.1 x.2.2.2.2.2.2.2.2.2.2.2.2.2.2.2.2.2.2.1 x.2.2.2.2.2.2.2.2.2.2.2.2.2.2.2.2.2.2.2.1 x.2.2.2.2.2.2.2.2.2.2.2.2.2.2.2.2.2.2.2.2.1 x.2.2.2.2.2.2.2.2.2.2.2.2.2.2.2.2.2.2.2.2.2.1 x.2.2.2.2.2.2.2.2.2.2.2.2.2.2.2.2.2.2.2.2.2.2.1)
def J3:Ty:= .prod (.slice (.nm .Phase)) .unit
def x6:Den J3→PRes:=fun x=>⟨[x.1.length≤1000000],.osl 0 0,[⟨.nm .Phase,x.1⟩]⟩
def yL:FuncId×Ctr:=(58,aq KE J3 x6)
def sM:Den (tyP qRu)→List Prop×Den (tyP qRu):=fun x=>([x.1.Power.length≤1000000],(x.1,()))
def w9:Den (tyP qM)→List Prop×Den (tyP qMo):=fun x=>([aD x.1],(x.1.Rules.Name,x.1.Rules.Side,x.1.Rules.Innings,x.1.Rules.Overs,x.1.Rules.Balls,x.1.Rules.Quota,x.1.Rules.Wide,x.1.Rules.NoBall,x.1.Rules.FreeHit,x.1.Rules.NewBall,x.1.Rules.FollowOn,x.1.Rules.Reviews,x.1.Rules.Outside,x.1.Rules.Power,x.1.Stage,x.1.First,x.1.Follow,x.1.Penalty.1,x.1.Penalty.2.1,x.1.Result.Win,x.1.Result.Side,x.1.Result.Margin,x.1.Innings,()))
def gG (r:Rules):Match:=if ax r != 0 then Match.zero else { Match.zero with Rules:=r,Stage:=1 }
def Mk:Den (tyP qRu)→List Prop×Den (tyP pO):=fun x=>([],(gG x.1,ax x.1,()))
abbrev M9:List (Nat×PB):= [(0,.dat (.nm .Match)),(1,.dat (.nm .Match)),(2,.row 3 (.nm .Innings))]
abbrev qCl:Pat:=⟨[(1,.c (.ptr 0 0)),(2,.c (.ptr 1 0)),(3,.c (.osl 2 3)),(11,.h yg),(12,.h I),(13,.h I)],M9,4⟩
abbrev xCl:List (Lf×Pat):= [(.ext 0,⟨[(1,.c (.ptr 0 0)),(2,.c (.ptr 1 0)),(3,.c (.osl 2 3))],M9,4⟩)]
abbrev TCl:Type:=List Innings×Int×Int×Match×Match×List Innings×Unit
def uj (x:TCl):Prop:=(x.2.1 =(x.1.length:Int)∧0≤x.2.2.1∧x.2.2.1≤x.2.1∧x.1.length≤1000000)∧fQ x.1∧(x.2.2.2.2.2.1.length:Int)≤x.2.2.1
def EC (x:TCl):Nat:=(x.2.1 - x.2.2.1).toNat
def my (x:TCl):Match×Match×List Innings×Unit:=(x.2.2.2.1,x.2.2.2.2.1,x.2.2.2.2.2.1++x.1.drop x.2.2.1.toNat,())
theorem qq {r:Rules} (h:ax r=0):1≤r.Innings∧r.Innings≤2:=by
 have hr:cQ r=true:=by
  cases hr:cQ r with
  | true=>rfl
  | false=>
   unfold ax at h
   cases hn:mu r.Name <;> simp [hn,hr] at h
 simp only [cQ,aU,Bool.and_eq_true,decide_eq_true_eq] at hr
 omega
theorem o9 {r:Rules} (h:ax r=0):r.Power.length≤8:=by
 unfold ax at h
 cases hn:mu r.Name with
 | false=>simp [hn] at h
 | true=>
  cases hr:cQ r with
  | false=>simp [hn,hr] at h
  | true=>
   cases ha:vw r with
   | true=>simp [hn,hr,ha] at h
   | false=>
    cases hc:vE r with
    | true=>simp [hn,hr,ha,hc] at h
    | false=>
     simp [hn,hr,ha,hc] at h
     unfold gb at h
     split at h
     ·cases h
     ·omega
theorem BK (x:List Phase) (hs:x.length≤1000000) :(evFn (al [] Tryz.f58) (fun _=>none) Tryz.f58 (bk J3 (x,()))).sat fun v' rows=>leV v' (x6 (x,())).v∧rows =(x6 (x,())).rows:=by
 refine cast (by kernel_rfl) (?_ :(x.isEmpty=true→(nat_lit 0=nat_lit 0∧nat_lit 0=nat_lit 0)∧ [RowD.mk (Ty.nm Nm.Phase) []]=[RowD.mk (Ty.nm Nm.Phase) x])∧((0:Nat)+x.length) *(24:Nat)≤(70368744177664:Nat)∧(nat_lit 0=nat_lit 0∧nat_lit 0=nat_lit 0)∧ [RowD.mk (Ty.nm Nm.Phase) ([]++x)]=[RowD.mk (Ty.nm Nm.Phase) x])
 refine ⟨fun h=>⟨⟨rfl,rfl⟩,?_⟩,?_,⟨rfl,rfl⟩,rfl⟩
 ·have:x=[]:=List.isEmpty_iff.1 h
  subst this;rfl
 ·omega
theorem EO:CtrOK Tryz.prog KE 58 (aq KE J3 x6):=by
 refine aS (C:=al [] Tryz.f58) (aj (CtrsOK.nil) _) mixed (fn:=Tryz.f58) Tryz.func58 (by kernel_rfl) (by kernel_rfl) (by kernel_rfl) (Λ:=fun _ _=>none) ?_ ?_ ?_
 ·exact fun _ _ _ _ _ _ _ _ h=>by cases h
 ·rintro ⟨x,⟨⟩⟩
  exact of_decide_eq_true (by kernel_rfl)
 ·rintro ⟨x,⟨⟩⟩ hw hn
  exact BK x (hn _ (List.mem_singleton.2 rfl))
theorem BZ (r:Rules) (hs:r.Power.length≤1000000) :(evPat (al [yL] Tryz.f41) (fun _=>none) Tryz.f41 qRu qRu (r,())).sat fun z_=>z_ =(sM (r,())).2:=by
 refine cast (by kernel_rfl) (?_:r.14.length≤(1000000:Nat)∧(r,()) =(r,()))
 exact ⟨hs,rfl⟩
def nD:FuncId×Ctr:=(41,af KE qRu qRu sM)
theorem uL:CtrOK Tryz.prog KE 41 (af KE qRu qRu sM):=by
 refine ar (C:=al [yL] Tryz.f41) (aj (.consU EO rfl .nil) _) mixed (fn:=Tryz.f41) Tryz.func41 (by kernel_rfl) (by kernel_rfl) (by kernel_rfl) (by kernel_rfl) (by kernel_rfl) (by kernel_rfl) (Λ:=fun _ _=>none) ?_ ?_
 ·exact fun _ _ _ _ _ _ _ _ h=>by cases h
 ·rintro ⟨r,⟨⟩⟩ hw hn
  exact BZ r (hn _ List.mem_cons_self)
noncomputable def lpCl:Lp:=(⟨0,al [db] Tryz.f39,(fun _=>none),(aB Tryz.f39 0),qCl,xCl⟩:Lp)
theorem MA (xs:List Innings) (n:Int) (i:Int) (m:Match) (z:Match) (l:List Innings) (hi:uj (xs,n,i,m,z,l,())) :(Go.Mir.stepG lpCl my (fun y:Den (tyP lpCl.q)=>uj y∧EC y<EC (xs,n,i,m,z,l,())) (xs,n,i,m,z,l,())∧Go.Mir.stepE lpCl my (xs,n,i,m,z,l,())=my (xs,n,i,m,z,l,())):=by
 refine cast (by kernel_rfl) (?_:let r1:List Innings:= [xs.getD i.toNat (dflt (Ty.nm Nm.Innings))];((decide (i<n)=true→((0:Int)≤i∧i <(↑xs.length:Int))∧ah (xs.getD i.toNat (dflt (Ty.nm Nm.Innings)))∧(l.length+r1.length) *(304:Nat)≤(70368744177664:Nat)∧uj (xs,n,IntKind.i64.wrap (i +(1:Int)),m,z,l++r1,())∧EC (xs,n,IntKind.i64.wrap (i +(1:Int)),m,z,l++r1,())<EC (xs,n,i,m,z,l,()))∧(decide (i<n)=false→True))∧(bif decide (i<n) then my (xs,n,IntKind.i64.wrap (i +(1:Int)),m,z,l++r1,()) else (m,z,l,()))=my (xs,n,i,m,z,l,()))
 intro r1
 clear_value (hr1:r1=_)
 obtain ⟨⟨h1,h2,h3,h4⟩,hs,h5⟩:=hi
 simp only at h1 h2 h3 h4 h5 hs
 refine ⟨⟨fun h=>?_,fun _=>trivial⟩,?_⟩
 ·have h:i<n:=of_decide_eq_true h
  rw [bb (n:=i+1) (by omega) (by omega),hr1]
  have hl:i.toNat<xs.length:=by omega
  refine ⟨⟨h2,by omega⟩,hs _ (eg hl _),?_,⟨⟨h1,by simp only;omega,by simp only;omega,h4⟩,hs,?_⟩,by simp only [EC];omega⟩
  ·simp only [List.length_singleton];omega
  ·simp only [List.length_append,List.length_singleton];omega
 ·by_cases h:i<n
  ·have e:xs.drop i.toNat=xs.getD i.toNat (dflt (Ty.nm Nm.Innings))::xs.drop (i+1).toNat:=c8 h2 (by omega) _
   rw [decide_eq_true h,cond_true,bb (n:=i+1) (by omega) (by omega)]
   simp only [my]
   rw [e,hr1,List.append_assoc,List.singleton_append]
  ·rw [decide_eq_false h,cond_false]
   simp only [my]
   rw [co (l:=xs) (by omega),List.append_nil]
noncomputable def Lg:LoopSum:=aC lpCl my uj
noncomputable def K0:Nat:=rid (aB Tryz.f39 0)
theorem LR:LoopOKp Tryz.prog 0 Tryz.f39.ntmps (aB Tryz.f39 0) (aC lpCl my uj):=
 bi lpCl (aj (.consU gg rfl .nil) _) mixed (fun b hb S hS=>by cases hS) my uj EC (fun |⟨xs,n,i,m,z,l,⟨⟩⟩,hi=>MA xs n i m z l hi)
theorem Fp (m:Match) (hs:aD m) :(evPat (al [nD] Tryz.f39) (find [(K0,Lg)]) Tryz.f39 qM qMo (m,())).sat fun z_=>z_ =(w9 (m,())).2:=by
 refine cast (by kernel_rfl) (?_:m.1.14.length≤(1000000:Nat)∧((cx fun x=>none)∧((↑m.5.length:Int) =(↑m.5.length:Int)∧(0:Int)≤(0:Int)∧(0:Int)≤(↑m.5.length:Int)∧m.5.length≤(1000000:Nat))∧fQ m.5∧(↑(0:Nat):Int)≤(0:Int))∧(m.1.1,m.1.2,m.1.3,m.1.4,m.1.5,m.1.6,m.1.7,m.1.8,m.1.9,m.1.10,m.1.11,m.1.12,m.1.13,m.1.14,m.2,m.3,m.4,m.6.1,m.6.2.1,m.7.1,m.7.2,m.7.3,[]++List.drop (Int.toNat (0:Int)) m.5,()) =(m.1.1,m.1.2,m.1.3,m.1.4,m.1.5,m.1.6,m.1.7,m.1.8,m.1.9,m.1.10,m.1.11,m.1.12,m.1.13,m.1.14,m.2,m.3,m.4,m.6.1,m.6.2.1,m.7.1,m.7.2,m.7.3,m.5,()))
 exact ⟨hs.2.2,⟨rfl,⟨rfl,Int.le_refl _,by omega,hs.2.1⟩,hs.1,Int.le_refl _⟩,rfl⟩
def p6:FuncId×Ctr:=(39,af KE qM qMo w9)
theorem zh:CtrOK Tryz.prog KE 39 (af KE qM qMo w9):=by
 refine ar (C:=al [nD] Tryz.f39) (aj (.consU uL rfl .nil) _) mixed (fn:=Tryz.f39) Tryz.func39 (by kernel_rfl) (by kernel_rfl) (by kernel_rfl) (by kernel_rfl) (by kernel_rfl) (by kernel_rfl) (Λ:=fun x=>find [(K0,Lg)]) ?_ ?_
 ·rintro ⟨m,⟨⟩⟩ hw hn
  exact LoopsOKp.at (by kernel_rfl) (.cons (by kernel_rfl) (LR) .nil)
 ·rintro ⟨m,⟨⟩⟩ hw hn
  exact Fp m (hn _ List.mem_cons_self)
theorem Ko (r:Rules) :(evPat (al [k85,nD] Tryz.f27) (fun _=>none) Tryz.f27 qRu pO (r,())).sat fun z_=>z_ =(Mk (r,())).2:=by
 refine cast (by kernel_rfl) (?_:let r1:Mir.Result:=Result.mk (0:Int) (0:Int) (0:Int);((ax r !=(0:Int))=true→(Match.mk (Rules.mk ByteArray.empty (0:Int) (0:Int) (0:Int) (0:Int) (0:Int) (0:Int) (0:Int) false (0:Int) (0:Int) (0:Int) (0:Int) []) (0:Int) (0:Int) false [] ((0:Int),(0:Int),()) r1,ax r,()) =(gG r,ax r,()))∧((ax r !=(0:Int))=false→r.14.length≤(1000000:Nat)∧(Match.mk r (1:Int) (0:Int) false [] ((0:Int),(0:Int),()) r1,(0:Int),()) =(gG r,ax r,())))
 intro r1
 clear_value (hr1:r1=_)
 subst hr1
 refine ⟨fun h=>?_,fun h=>⟨?_,?_⟩⟩
 ·simp only [gG,h,if_true];rfl
 ·have:=o9 (r:=r) (by simpa using h);omega
 ·have h0:ax r=0:=by simpa using h
  simp only [gG,h0];rfl
def kc:FuncId×Ctr:=(27,af KE qRu pO Mk)
theorem oN:CtrOK Tryz.prog KE 27 (af KE qRu pO Mk):=by
 refine ar (C:=al [k85,nD] Tryz.f27) (aj (.consU wC rfl (.consU uL rfl .nil)) _) mixed (fn:=Tryz.f27) Tryz.func27 (by kernel_rfl) (by kernel_rfl) (by kernel_rfl) (by kernel_rfl) (by kernel_rfl) (by kernel_rfl) (Λ:=fun _ _=>none) ?_ ?_
 ·exact fun _ _ _ _ _ _ _ _ h=>by cases h
 ·rintro ⟨r,⟨⟩⟩ hw hn
  exact Ko r
end Go.Proofs.YtkgplaoappjkcaaGreat
namespace Go.Proofs.YtkgplaoappjkcaaGreat
open Go Go.Mir
def bI (m:Match):Innings:=m.Innings.getD (m.Innings.length - 1) Innings.zero
def th (w s k:Int):Mir.Result:={ Win:=w,Side:=s,Margin:=k }
def ue (m:Match):Bool:=(m.Innings.length:Int)==Dm m
def lH (m:Match):Bool:=(m.Innings.length:Int)==3&&decide (kw m (bI m).Side<kw m (dz (bI m).Side))
def Gd (m:Match) (x:Innings):Mir.Result:=
 if decide (x.Runs≥x.Target) then th 2 x.Side (W (W (m.Rules.Side - 1) - x.Wickets))
 else if x.Runs==W (x.Target - 1) then th 4 0 0 else th 1 (dz x.Side) (W (W (x.Target - 1) - x.Runs))
def cr (m:Match):Mir.Result:=
 if !aQ m ||(m.Innings.length:Int)==0 then Mir.Result.zero
 else if (bI m).Ending==5 then th (dQ m.Rules) 0 0
 else if (bI m).Ending==0 then Mir.Result.zero
 else if ue m then Gd m (bI m)
 else if lH m then th 3 (dz (bI m).Side) (W (kw m (dz (bI m).Side) - kw m (bI m).Side))
 else Mir.Result.zero
def KR (m:Match):Int:=W (kw m m.First - kw m (dz m.First))
def vC (m:Match):Bool:=(m.Innings.length:Int)==2&&(decide (m.Rules.FollowOn>0)&&decide (KR m≥m.Rules.FollowOn))
def sW (m:Match) (s:Int):Match:={ m with Stage:=s }
def KG (m:Match):Match:={ m with Stage:=5,Result:=cr (sW m 5) }
def am (m:Match):Match:=
 if m.Stage != 3 ||(bI m).Ending==0 then m
 else if ue m||lH m then KG m
 else if vC m then sW m 4 else sW m 2
def iG (s:Int) (xs:List Innings):Nat→Option Nat
 | 0=>none
 | k+1=>if (xs.getD k Innings.zero).Side==s then some k else iG s xs k
def FO (m:Match) (s:Int):Match:={ m with Penalty:=if s==1 then (W (m.Penalty.1+5),m.Penalty.2.1,()) else (m.Penalty.1,W (m.Penalty.2.1+5),()) }
def Fy (m:Match) (k:Nat) (x:Innings):Match:={ m with Innings:=m.Innings.set k x }
def Lv (m:Match) (s:Int):Option Nat→Match
 | some k=>Fy m k (BA (m.Innings.getD k Innings.zero))
 | none=>FO m s
def ao (m:Match) (s:Int):Match:=Lv m s (iG s m.Innings m.Innings.length)
def EN (m:Match):Nat:=m.Innings.length - 1
def dL (m:Match) (e:Mir.Event):Int:=if m.Stage != 3 then 1 else cU m.Rules (bI m) e
def sg (m:Match) (e:Mir.Event):Match:=Fy m (EN m) (dP m.Rules (bI m) e)
def AG (m:Match) (e:Mir.Event):Bool:=e.Kind==13&&e.Side !=(dP m.Rules (bI m) e).Side
def ak (m:Match) (e:Mir.Event):Match:=if dL m e != 0 then m else if AG m e then ao (sg m e) e.Side else sg m e
def cM (m:Match):Int:=cS m m.Innings.length
def uR (m:Match) (s:Int):Int:=if s==1 then m.Penalty.1 else m.Penalty.2.1
def qn (m:Match):Int:=me m.Rules (cM m) (gc m (cM m)) (uR m (cM m))
def yl (m:Match):Innings:=mI m.Rules (cM m) (gc m (cM m)) (uR m (cM m))
def bh (m:Match) (e:Mir.Event):Int:=if m.Stage != 2 then 1 else if qn m != 0 then 1 else cU m.Rules (yl m) e
def ye (m:Match) (s:Int):Match:={ m with Penalty:=if s==1 then (0,m.Penalty.2.1,()) else (m.Penalty.1,0,()) }
def rU (m:Match) (e:Mir.Event):Match:={ ye m (cM m) with Innings:=m.Innings++[dP m.Rules (yl m) e],Stage:=3 }
def ab (m:Match) (e:Mir.Event):Match:=if bh m e != 0 then m else rU m e
def IL (m:Match) (e:Mir.Event):Match:={ m with First:=if e.Yes then e.Side else dz e.Side,Stage:=2 }
def CJ (m:Match) (e:Mir.Event):Match:={ m with Follow:=e.Yes,Stage:=2 }
def bp (m:Match):Match:=if m.Stage==3 then Fy m (EN m) { bI m with Ending:=5 } else m
def dq (m:Match):Match:={ bp m with Stage:=5,Result:=th (dQ m.Rules) 0 0 }
def bo (m:Match) (e:Mir.Event):Int:=
 if e.Kind==1 then (if m.Stage != 1 then 1 else 0) else if e.Kind==2 then bh m e
 else if e.Kind==12 then (if m.Stage != 4 then 1 else if e.Side != m.First then 2 else 0) else if e.Kind==16 then 0 else dL m e
def jQ (m:Match) (e:Mir.Event):Match:=
 if e.Kind==1 then IL m e else if e.Kind==2 then ab m e else if e.Kind==12 then CJ m e else if e.Kind==16 then dq m else ak m e
def ag (m:Match) (e:Mir.Event):Match:=if bo m e != 0 then m else jQ m e
def ba (m:Match) (e:Mir.Event):Int:=if !aQ m||be e != 0 then 1 else if m.Stage==5 then 26 else bo m e
def bd (m:Match) (e:Mir.Event):Match:=if ba m e != 0 then m else am (ag m e)
theorem Ax {m:Match} (h:aQ m=true):ax m.Rules=0:=by
 simp only [aQ,Bool.and_eq_true,beq_iff_eq] at h
 exact h.1
theorem GY {m:Match} (h:ax m.Rules=0):Dm m=2*m.Rules.Innings:=by
 have:=qq h
 unfold Dm
 exact bb (by omega) (by omega)
theorem pB {m:Match} (h:aQ m=true):ir m=false:=by
 simp only [aQ,Bool.and_eq_true,Bool.not_eq_true'] at h
 exact h.2.2.2.1
theorem vq {m:Match} (h:aQ m=true) :(m.Innings.length:Int)≤2*m.Rules.Innings∧m.Innings.length≤4:=by
 have hc:=Ax h
 have h1:=pB h
 have h2:=qq hc
 have h3:=GY hc
 unfold Dm W at h3
 simp only [ir,Bool.or_eq_false_iff,decide_eq_false_iff_not,W,h3] at h1
 omega
theorem fS {m:Match} (h:aQ m=true) (h3:m.Stage=3):0<m.Innings.length:=by
 simp only [aQ,jx,Bool.and_eq_true] at h
 have h4:=h.2.2.2.2.2
 simp only [h3,Bool.or_eq_true,bne_iff_ne,ne_eq,not_true_eq_false,false_or,decide_eq_true_eq] at h4
 omega
theorem Ay {m:Match} (h:aQ m=true) (h2:m.Stage=2):m.First=1∨m.First=2:=by
 have h1:=pB h
 simp only [ir,Bool.or_eq_false_iff,Bool.and_eq_false_iff,decide_eq_false_iff_not,h2] at h1
 obtain ⟨⟨⟨⟨⟨⟨q1,q2,_⟩,q3⟩,_⟩,_⟩,_⟩,_⟩:=h1
 simp at q3
 omega
theorem FT {m:Match} (h:aQ m=true) (h2:m.Stage=2):cM m=1∨cM m=2:=by
 unfold cM cS dz W
 rcases Ay h h2 with h|h <;> rw [h] <;> split <;> decide
theorem vf {l:List Innings} (h:fQ l) (k:Nat) {y:Innings} (hy:ah y):fQ (l.set k y):=fun z hz=>by
 rcases List.mem_or_eq_of_mem_set hz with h1|h1
 ·exact h z h1
 ·rw [h1];exact hy
theorem Fz {l:List Innings} (h:fQ l) {y:Innings} (hy:ah y):fQ (l++[y]):=fun z hz=>by
 rcases List.mem_append.1 hz with h1|h1
 ·exact h z h1
 ·rw [List.mem_singleton.1 h1];exact hy
theorem Cr {x:Innings} (h:ah x):ah (BA x):=h
theorem lC {r:Rules} {x:Innings} (e:Mir.Event) (h:ah x):ah (dP r x e):=by
 cases hL:cU r x e != 0 with
 | true=>rw [nX hL];exact h
 | false=>
  have h0:cU r x e=0:=by simpa using hL
  have hv:cb r x=true:=by
   cases hv:cb r x with
   | true=>rfl
   | false=>simp [cU,hv] at h0
  have hp:ah (wa (az r x e) e):=sa e (lF hv)
  have:dP r x e=yt r (wa (az r x e) e):=by unfold dP;rw [hL];rfl
  rw [this]
  unfold yt
  split
  ·exact hp
  ·exact hp
theorem mJ (r:Rules) (s t p:Int):ah (mI r s t p):=by
 unfold mI
 split
 ·simp [ah,Innings.zero]
 ·rename_i h
  have h0:me r s t p=0:=by simpa using h
  have hc:ax r=0:=by
   unfold me at h0
   split at h0
   ·exact h0
   ·rename_i h1;simpa using h1
  have:=(kD hc).1
  simp only [ah,Lw,yf,Innings.zero,List.length_replicate,List.length_nil]
  omega
theorem jw {m:Match} (h:i7 m):ah (bI m):=by
 unfold bI
 by_cases hl:m.Innings.length - 1<m.Innings.length
 ·exact h _ (eg hl _)
 ·rw [List.getD_eq_getElem?_getD,List.getElem?_eq_none (by omega)];simp [ah,Innings.zero]
theorem G2 {xs:List Innings} (h:0<xs.length) (h2:xs.length≤1000000) :(W ((xs.length:Int) - 1)).toNat=xs.length - 1:=by
 unfold W
 rw [bb (n:=(xs.length:Int) - 1) (by omega) (by omega)]
 omega
end Go.Proofs.YtkgplaoappjkcaaGreat
namespace Go.Proofs.YtkgplaoappjkcaaGreat
open Go Go.Mir
attribute [local irreducible] Go.Mir.DT.sat Go.Mir.evPat Go.Mir.RT.sat Go.Mir.evFn
abbrev Kd:Pat:=bG [.nm .Result]
def sG:Den (tyP qM)→List Prop×Den (tyP Kd):=fun x=>([i7 x.1],(cr x.1,()))
def Oa (m:Match):Prop:=0<m.Innings.length∧m.Innings.length≤1000000
theorem Aj (m:Match) (hm:i7 m) :(evPat (al [p8,f0,gE,lT] Tryz.f71) (fun _=>none) Tryz.f71 qM Kd (m,())).sat fun z_=>z_ =(sG (m,())).2:=by
 refine cast (by kernel_rfl) (?_:let r1:Int:=IntKind.i64.wrap ((↑m.5.length:Int) - (1:Int));let r2:Bool:=bif !aQ m then true else (↑m.5.length:Int) ==(0:Int);let r3:Bool:=(↑m.5.length:Int)==IntKind.i64.wrap ((2:Int)*m.1.3);let r4:Innings:=m.5.getD r1.toNat (dflt (Ty.nm Nm.Innings));let r5:Int:=dz r4.1;let r6:Int:=kw m r4.1;let r7:Int:=kw m r5;let r8:Bool:=r4.23 ==(5:Int);let r9:Bool:=r4.23 ==(0:Int);let r10:Int:=IntKind.i64.wrap (r4.2 - (1:Int));let r11:Bool:=bif r3 then r4.4==r10 else false;let r12:Bool:=bif (↑m.5.length:Int) ==(3:Int) then decide (r6<r7) else false;let r13:Bool:=bif r3 then decide (r4.4≥r4.2) else false;(i7 m∧((!aQ m)=true→True)∧((!aQ m)=false→True))∧(true=true→(r2=true→(Result.mk (0:Int) (0:Int) (0:Int),()) =(cr m,()))∧(r2=false→((0:Int)≤r1∧r1 <(↑m.5.length:Int))∧(r8=true→(Result.mk (dQ m.1) (0:Int) (0:Int),()) =(cr m,()))∧(r8=false→(r9=true→(Result.mk (0:Int) (0:Int) (0:Int),()) =(cr m,()))∧(r9=false→(r13=true→(Result.mk (2:Int) r4.1 (IntKind.i64.wrap (IntKind.i64.wrap (m.1.2 - (1:Int)) - r4.5)),()) =(cr m,()))∧(r13=false→(r11=true→(Result.mk (4:Int) (0:Int) (0:Int),()) =(cr m,()))∧(r11=false→(r3=true→(Result.mk (1:Int) r5 (IntKind.i64.wrap (r10 - r4.4)),()) =(cr m,()))∧(r3=false→(r12=true→(Result.mk (3:Int) r5 (IntKind.i64.wrap (r7 - r6)),()) =(cr m,()))∧(r12=false→(Result.mk (0:Int) (0:Int) (0:Int),()) =(cr m,()))))))))))
 intro r1 r2 r3 r4 r5 r6 r7 r8 r9 r10 r11 r12 r13
 clear_value (hr1:r1=_) (hr2:r2=_) (hr3:r3=_) (hr4:r4=_) (hr5:r5=_) (hr6:r6=_) (hr7:r7=_) (hr8:r8=_) (hr9:r9=_) (hr10:r10=_) (hr11:r11=_) (hr12:r12=_) (hr13:r13=_)
 have ev:r2 =(!aQ m ||(m.Innings.length:Int)==0):=by rw [hr2];cases aQ m <;> rfl
 refine ⟨⟨hm,fun _=>trivial,fun _=>trivial⟩,fun _=>⟨fun h=>?_,fun h=>?_⟩⟩
 ·have:cr m=Mir.Result.zero:=by unfold cr;rw [←ev,h];rfl
  rw [this];rfl
 ·have hv:aQ m=true∧m.Innings.length≠0:=by rw [ev] at h;simpa using h
  have h4:=(vq hv.1).2
  have e1:r1.toNat=m.Innings.length - 1:=by rw [hr1];exact G2 (by omega) (by omega)
  have e0:r1 =(m.Innings.length:Int) - 1:=by rw [hr1];exact bb (by omega) (by omega)
  have e4:r4=bI m:=by rw [hr4,e1];rfl
  subst e4
  have e12:r12=lH m:=by rw [hr12,hr6,hr7,hr5];unfold lH;cases (m.Innings.length:Int)==3 <;> rfl
  have e3:r3=ue m:=hr3
  have hO:cr m=if r8 then th (dQ m.Rules) 0 0 else if r9 then Mir.Result.zero else if r3 then Gd m (bI m) else if r12 then th 3 r5 (W (r7 - r6)) else Mir.Result.zero:=by
   rw [e12,e3,hr8,hr9,hr5,hr6,hr7,hr5];unfold cr;rw [←ev,h];rfl
  have hF:Gd m (bI m)=if decide ((bI m).Runs≥(bI m).Target) then th 2 (bI m).Side (W (W (m.Rules.Side - 1) - (bI m).Wickets)) else if (bI m).Runs==r10 then th 4 0 0 else th 1 r5 (W (r10 - (bI m).Runs)):=by rw [hr10,hr5];rfl
  rw [hO,hF]
  clear hO hF e12 e3 hr1 hr2 hr3 hr4 hr5 hr6 hr7 hr8 hr9 hr10 hr12 ev
  refine ⟨⟨by omega,by omega⟩,fun a=>?_,fun a=>⟨fun b=>?_,fun b=>⟨fun c=>?_,fun c=>⟨fun d=>?_,fun d=>⟨fun f=>?_,fun f=>⟨fun g=>?_,fun g=>?_⟩⟩⟩⟩⟩⟩
  ·rw [a];rfl
  ·rw [a,b];rfl
  ·rw [c] at hr13
   cases r3 with
   | false=>cases hr13
   | true=>rw [a,b];simp only [cond_true] at hr13;rw [←hr13];rfl
  ·rw [c] at hr13
   rw [d] at hr11
   cases r3 with
   | false=>cases hr11
   | true=>rw [a,b];simp only [cond_true] at hr13 hr11;rw [←hr13,←hr11];rfl
  ·subst f
   rw [c] at hr13
   rw [d] at hr11
   rw [a,b];simp only [cond_true] at hr13 hr11;rw [←hr13,←hr11];rfl
  ·rw [a,b,f,g];rfl
  ·rw [a,b,f,g];rfl
def uB:FuncId×Ctr:=(71,af KE qM Kd sG)
theorem Bt:CtrOK Tryz.prog KE 71 (af KE qM Kd sG):=by
 refine ar (C:=al [p8,f0,gE,lT] Tryz.f71) (aj (.consU zk rfl (.consU li rfl (.consU mv rfl (.consU rR rfl .nil)))) _) mixed (fn:=Tryz.f71) Tryz.func71 (by kernel_rfl) (by kernel_rfl) (by kernel_rfl) (by kernel_rfl) (by kernel_rfl) (by kernel_rfl) (Λ:=fun _ _=>none) ?_ ?_
 ·exact fun _ _ _ _ _ _ _ _ h=>by cases h
 ·rintro ⟨m,⟨⟩⟩ hw hn
  exact Aj m (hn _ List.mem_cons_self)
end Go.Proofs.YtkgplaoappjkcaaGreat
namespace Go.Proofs.YtkgplaoappjkcaaGreat
open Go Go.Mir
attribute [local irreducible] Go.Mir.DT.sat Go.Mir.evPat Go.Mir.RT.sat Go.Mir.evFn
abbrev yI:List (Nat×PB):= [(0,.cells (AK (.c (.osl 1 2)))),(1,.row 2 (.nm .Innings))]
abbrev qPM:Pat:=⟨[(0,.c (.ptr 0 0))],yI,3⟩
abbrev qPI:Pat:=⟨[(0,.c (.ptr 0 0)),(1,.h I)],yI,3⟩
abbrev pP:Pat:=⟨[],yI,3⟩
def B0:Den (tyP qPI)→List Prop×Den (tyP pP):=fun x=>([aD (mkX x.2),i6 x.1],((ao (mkX x.2) x.1).Rules.Name,(ao (mkX x.2) x.1).Rules.Side,(ao (mkX x.2) x.1).Rules.Innings,(ao (mkX x.2) x.1).Rules.Overs,(ao (mkX x.2) x.1).Rules.Balls,(ao (mkX x.2) x.1).Rules.Quota,(ao (mkX x.2) x.1).Rules.Wide,(ao (mkX x.2) x.1).Rules.NoBall,(ao (mkX x.2) x.1).Rules.FreeHit,(ao (mkX x.2) x.1).Rules.NewBall,(ao (mkX x.2) x.1).Rules.FollowOn,(ao (mkX x.2) x.1).Rules.Reviews,(ao (mkX x.2) x.1).Rules.Outside,(ao (mkX x.2) x.1).Rules.Power,(ao (mkX x.2) x.1).Stage,(ao (mkX x.2) x.1).First,(ao (mkX x.2) x.1).Follow,(ao (mkX x.2) x.1).Penalty.1,(ao (mkX x.2) x.1).Penalty.2.1,(ao (mkX x.2) x.1).Result.Win,(ao (mkX x.2) x.1).Result.Side,(ao (mkX x.2) x.1).Result.Margin,(ao (mkX x.2) x.1).Innings,()))
def iD (m:Match):Prop:=m.Stage=3→0<m.Innings.length
def Ik:Den (tyP qPM)→List Prop×Den (tyP pP):=fun x=>([aD (mkX x),iD (mkX x)],((dq (mkX x)).Rules.Name,(dq (mkX x)).Rules.Side,(dq (mkX x)).Rules.Innings,(dq (mkX x)).Rules.Overs,(dq (mkX x)).Rules.Balls,(dq (mkX x)).Rules.Quota,(dq (mkX x)).Rules.Wide,(dq (mkX x)).Rules.NoBall,(dq (mkX x)).Rules.FreeHit,(dq (mkX x)).Rules.NewBall,(dq (mkX x)).Rules.FollowOn,(dq (mkX x)).Rules.Reviews,(dq (mkX x)).Rules.Outside,(dq (mkX x)).Rules.Power,(dq (mkX x)).Stage,(dq (mkX x)).First,(dq (mkX x)).Follow,(dq (mkX x)).Penalty.1,(dq (mkX x)).Penalty.2.1,(dq (mkX x)).Result.Win,(dq (mkX x)).Result.Side,(dq (mkX x)).Result.Margin,(dq (mkX x)).Innings,()))
def B4:Den (tyP qPM)→List Prop×Den (tyP pP):=fun x=>([aD (mkX x),iD (mkX x)],((am (mkX x)).Rules.Name,(am (mkX x)).Rules.Side,(am (mkX x)).Rules.Innings,(am (mkX x)).Rules.Overs,(am (mkX x)).Rules.Balls,(am (mkX x)).Rules.Quota,(am (mkX x)).Rules.Wide,(am (mkX x)).Rules.NoBall,(am (mkX x)).Rules.FreeHit,(am (mkX x)).Rules.NewBall,(am (mkX x)).Rules.FollowOn,(am (mkX x)).Rules.Reviews,(am (mkX x)).Rules.Outside,(am (mkX x)).Rules.Power,(am (mkX x)).Stage,(am (mkX x)).First,(am (mkX x)).Follow,(am (mkX x)).Penalty.1,(am (mkX x)).Penalty.2.1,(am (mkX x)).Result.Win,(am (mkX x)).Result.Side,(am (mkX x)).Result.Margin,(am (mkX x)).Innings,()))
abbrev qAw:Pat:=⟨[(0,.c (.ptr 0 0)),(1,.h I),(4,.h I)],yI,3⟩
abbrev xAw:List (Lf×Pat):= [(.ret,⟨[],yI,3⟩),(.ext 0,⟨[(0,.c (.ptr 0 0)),(1,.h I)],yI,3⟩)]
abbrev TAw:Type:=Int×Int×TM
def ui (x:TAw):Prop:=(-1≤x.2.1∧x.2.1 <(x.2.2.2.2.2.2.2.2.2.2.2.2.2.2.2.2.2.2.2.2.2.2.2.2.1.length:Int)∧x.2.2.2.2.2.2.2.2.2.2.2.2.2.2.2.2.2.2.2.2.2.2.2.2.1.length≤1000000)∧fQ x.2.2.2.2.2.2.2.2.2.2.2.2.2.2.2.2.2.2.2.2.2.2.2.2.1
def EB (x:TAw):Nat:=(x.2.1+1).toNat
def OQ (y:TM) (xs:List Innings):TM:=(y.1,y.2.1,y.2.2.1,y.2.2.2.1,y.2.2.2.2.1,y.2.2.2.2.2.1,y.2.2.2.2.2.2.1,y.2.2.2.2.2.2.2.1,y.2.2.2.2.2.2.2.2.1,y.2.2.2.2.2.2.2.2.2.1,y.2.2.2.2.2.2.2.2.2.2.1,y.2.2.2.2.2.2.2.2.2.2.2.1,y.2.2.2.2.2.2.2.2.2.2.2.2.1,y.2.2.2.2.2.2.2.2.2.2.2.2.2.1,y.2.2.2.2.2.2.2.2.2.2.2.2.2.2.1,y.2.2.2.2.2.2.2.2.2.2.2.2.2.2.2.1,y.2.2.2.2.2.2.2.2.2.2.2.2.2.2.2.2.1,y.2.2.2.2.2.2.2.2.2.2.2.2.2.2.2.2.2.1,y.2.2.2.2.2.2.2.2.2.2.2.2.2.2.2.2.2.2.1,y.2.2.2.2.2.2.2.2.2.2.2.2.2.2.2.2.2.2.2.1,y.2.2.2.2.2.2.2.2.2.2.2.2.2.2.2.2.2.2.2.2.1,y.2.2.2.2.2.2.2.2.2.2.2.2.2.2.2.2.2.2.2.2.2.1,xs,())
def uO (s:Int) (y:TM):Option Nat→Sum TM (Int×TM)
 | some k=> .inl (OQ y (y.2.2.2.2.2.2.2.2.2.2.2.2.2.2.2.2.2.2.2.2.2.2.1.set k (BA (y.2.2.2.2.2.2.2.2.2.2.2.2.2.2.2.2.2.2.2.2.2.2.1.getD k Innings.zero))))
 | none=> .inr (s,y)
def kg (x:TAw):Sum TM (Int×TM):=uO x.1 x.2.2 (iG x.1 x.2.2.2.2.2.2.2.2.2.2.2.2.2.2.2.2.2.2.2.2.2.2.2.2.1 (x.2.1+1).toNat)
theorem H5 (m:Match) (hm:aD m) (ho:iD m) :(evPat (al [gE] Tryz.f68) (fun _=>none) Tryz.f68 qPM pP (m.Rules.Name,m.Rules.Side,m.Rules.Innings,m.Rules.Overs,m.Rules.Balls,m.Rules.Quota,m.Rules.Wide,m.Rules.NoBall,m.Rules.FreeHit,m.Rules.NewBall,m.Rules.FollowOn,m.Rules.Reviews,m.Rules.Outside,m.Rules.Power,m.Stage,m.First,m.Follow,m.Penalty.1,m.Penalty.2.1,m.Result.Win,m.Result.Side,m.Result.Margin,m.Innings,())).sat fun z_=>z_ =(Ik (m.Rules.Name,m.Rules.Side,m.Rules.Innings,m.Rules.Overs,m.Rules.Balls,m.Rules.Quota,m.Rules.Wide,m.Rules.NoBall,m.Rules.FreeHit,m.Rules.NewBall,m.Rules.FollowOn,m.Rules.Reviews,m.Rules.Outside,m.Rules.Power,m.Stage,m.First,m.Follow,m.Penalty.1,m.Penalty.2.1,m.Result.Win,m.Result.Side,m.Result.Margin,m.Innings,())).2:=by
 refine cast (by kernel_rfl) (?_:let r1:Int:=IntKind.i64.wrap ((↑m.5.length:Int) - (1:Int));let r2:Innings:=m.5.getD r1.toNat (dflt (Ty.nm Nm.Innings));(((m.2 ==(3:Int))=true→((0:Int)≤r1∧r1 <(↑m.5.length:Int))∧True)∧((m.2 ==(3:Int))=false→True))∧(true=true→(m.1.1,m.1.2,m.1.3,m.1.4,m.1.5,m.1.6,m.1.7,m.1.8,m.1.9,m.1.10,m.1.11,m.1.12,m.1.13,m.1.14,(5:Int),m.3,m.4,m.6.1,m.6.2.1,dQ m.1,(0:Int),(0:Int),bif m.2 ==(3:Int) then m.5.set r1.toNat (Innings.mk r2.1 r2.2 r2.3 r2.4 r2.5 r2.6 r2.7 r2.8 r2.9 r2.10 r2.11 r2.12 r2.13 r2.14 r2.15 r2.16 r2.17 r2.18 r2.19 r2.20 r2.21 r2.22 (5:Int)) else m.5,()) =((bp m).1.1,(bp m).1.2,(bp m).1.3,(bp m).1.4,(bp m).1.5,(bp m).1.6,(bp m).1.7,(bp m).1.8,(bp m).1.9,(bp m).1.10,(bp m).1.11,(bp m).1.12,(bp m).1.13,(bp m).1.14,(5:Int),(bp m).3,(bp m).4,(bp m).6.1,(bp m).6.2.1,dQ m.1,(0:Int),(0:Int),(bp m).5,())))
 intro r1 r2
 clear_value (hr1:r1=_) (hr2:r2=_)
 have hx:=hm.2.1
 refine ⟨⟨fun h=>⟨?_,trivial⟩,fun _=>trivial⟩,fun _=>?_⟩
 ·have h0:=ho (by simpa using h)
  rw [hr1,bb (n:=(m.Innings.length:Int) - 1) (by omega) (by omega)]
  omega
 ·cases h:m.Stage==3 with
  | true=>
   have h0:=ho (by simpa using h)
   have e1:r1.toNat=EN m:=by rw [hr1];exact G2 h0 hx
   have e2:r2=bI m:=by rw [hr2,e1];rfl
   have eS:bp m=Fy m (EN m) { bI m with Ending:=5 }:=by unfold bp;rw [h];rfl
   rw [eS,e1,e2];rfl
  | false=>
   have eS:bp m=m:=by unfold bp;rw [h];rfl
   rw [eS];rfl
def GI:FuncId×Ctr:=(68,af KE qPM pP Ik)
theorem JO:CtrOK Tryz.prog KE 68 (af KE qPM pP Ik):=by
 refine ar (C:=al [gE] Tryz.f68) (aj (.consU mv rfl .nil) _) mixed (fn:=Tryz.f68) Tryz.func68 (by kernel_rfl) (by kernel_rfl) (by kernel_rfl) (by kernel_rfl) (by kernel_rfl) (by kernel_rfl) (Λ:=fun _ _=>none) ?_ ?_
 ·exact fun _ _ _ _ _ _ _ _ h=>by cases h
 ·rintro ⟨v1,v2,v3,v4,v5,v6,v7,v8,v9,v10,v11,v12,v13,v14,v15,v16,v17,v18,v19,v20,v21,v22,xs,⟨⟩⟩ hw hn
  exact H5 (mkM v1 v2 v3 v4 v5 v6 v7 v8 v9 v10 v11 v12 v13 v14 v15 v16 v17 v18 v19 v20 v21 v22 xs) (hn _ List.mem_cons_self) (hn _ (List.mem_cons_of_mem _ List.mem_cons_self))
noncomputable def lpAw:Lp:=(⟨3,al [jb] Tryz.f97,(fun _=>none),(aB Tryz.f97 0),qAw,xAw⟩:Lp)
theorem My (s:Int) (i:Int) (v1:ByteArray) (v2:Int) (v3:Int) (v4:Int) (v5:Int) (v6:Int) (v7:Int) (v8:Int) (v9:Bool) (v10:Int) (v11:Int) (v12:Int) (v13:Int) (v14:List Phase) (v15:Int) (v16:Int) (v17:Bool) (v18:Int) (v19:Int) (v20:Int) (v21:Int) (v22:Int) (xs:List Innings) (hi:ui (s,i,v1,v2,v3,v4,v5,v6,v7,v8,v9,v10,v11,v12,v13,v14,v15,v16,v17,v18,v19,v20,v21,v22,xs,())) :(Go.Mir.stepG lpAw kg (fun y:Den (tyP lpAw.q)=>ui y∧EB y<EB (s,i,v1,v2,v3,v4,v5,v6,v7,v8,v9,v10,v11,v12,v13,v14,v15,v16,v17,v18,v19,v20,v21,v22,xs,())) (s,i,v1,v2,v3,v4,v5,v6,v7,v8,v9,v10,v11,v12,v13,v14,v15,v16,v17,v18,v19,v20,v21,v22,xs,())∧Go.Mir.stepE lpAw kg (s,i,v1,v2,v3,v4,v5,v6,v7,v8,v9,v10,v11,v12,v13,v14,v15,v16,v17,v18,v19,v20,v21,v22,xs,())=kg (s,i,v1,v2,v3,v4,v5,v6,v7,v8,v9,v10,v11,v12,v13,v14,v15,v16,v17,v18,v19,v20,v21,v22,xs,())):=by
 refine cast (by kernel_rfl) (?_:let r1:Bool:=decide (i≥(0:Int));let r2:Bool:=(xs.getD i.toNat (dflt (Ty.nm Nm.Innings))).1==s;((r1=true→((0:Int)≤i∧i <(↑xs.length:Int))∧(r2=true→((0:Int)≤i∧i <(↑xs.length:Int))∧ah (xs.getD i.toNat (dflt (Ty.nm Nm.Innings)))∧((0:Int)≤i∧i <(↑xs.length:Int))∧True)∧(r2=false→ui (s,IntKind.i64.wrap (i - (1:Int)),v1,v2,v3,v4,v5,v6,v7,v8,v9,v10,v11,v12,v13,v14,v15,v16,v17,v18,v19,v20,v21,v22,xs,())∧EB (s,IntKind.i64.wrap (i - (1:Int)),v1,v2,v3,v4,v5,v6,v7,v8,v9,v10,v11,v12,v13,v14,v15,v16,v17,v18,v19,v20,v21,v22,xs,())<EB (s,i,v1,v2,v3,v4,v5,v6,v7,v8,v9,v10,v11,v12,v13,v14,v15,v16,v17,v18,v19,v20,v21,v22,xs,())))∧(r1=false→True))∧(bif r1 then bif r2 then Sum.inl (v1,v2,v3,v4,v5,v6,v7,v8,v9,v10,v11,v12,v13,v14,v15,v16,v17,v18,v19,v20,v21,v22,xs.set i.toNat (Innings.mk (xs.getD i.toNat (dflt (Ty.nm Nm.Innings))).1 (xs.getD i.toNat (dflt (Ty.nm Nm.Innings))).2 (xs.getD i.toNat (dflt (Ty.nm Nm.Innings))).3 (W ((xs.getD i.toNat (dflt (Ty.nm Nm.Innings))).4 +(5:Int))) (xs.getD i.toNat (dflt (Ty.nm Nm.Innings))).5 (Extras.mk (xs.getD i.toNat (dflt (Ty.nm Nm.Innings))).6.1 (xs.getD i.toNat (dflt (Ty.nm Nm.Innings))).6.2 (xs.getD i.toNat (dflt (Ty.nm Nm.Innings))).6.3 (xs.getD i.toNat (dflt (Ty.nm Nm.Innings))).6.4 (W ((xs.getD i.toNat (dflt (Ty.nm Nm.Innings))).6.5 +(5:Int)))) (xs.getD i.toNat (dflt (Ty.nm Nm.Innings))).7 (xs.getD i.toNat (dflt (Ty.nm Nm.Innings))).8 (xs.getD i.toNat (dflt (Ty.nm Nm.Innings))).9 (xs.getD i.toNat (dflt (Ty.nm Nm.Innings))).10 (xs.getD i.toNat (dflt (Ty.nm Nm.Innings))).11 (xs.getD i.toNat (dflt (Ty.nm Nm.Innings))).12 (xs.getD i.toNat (dflt (Ty.nm Nm.Innings))).13 (xs.getD i.toNat (dflt (Ty.nm Nm.Innings))).14 (xs.getD i.toNat (dflt (Ty.nm Nm.Innings))).15 (xs.getD i.toNat (dflt (Ty.nm Nm.Innings))).16 (xs.getD i.toNat (dflt (Ty.nm Nm.Innings))).17 (xs.getD i.toNat (dflt (Ty.nm Nm.Innings))).18 (xs.getD i.toNat (dflt (Ty.nm Nm.Innings))).19 (xs.getD i.toNat (dflt (Ty.nm Nm.Innings))).20 (xs.getD i.toNat (dflt (Ty.nm Nm.Innings))).21 (xs.getD i.toNat (dflt (Ty.nm Nm.Innings))).22 (xs.getD i.toNat (dflt (Ty.nm Nm.Innings))).23),()) else kg (s,IntKind.i64.wrap (i - (1:Int)),v1,v2,v3,v4,v5,v6,v7,v8,v9,v10,v11,v12,v13,v14,v15,v16,v17,v18,v19,v20,v21,v22,xs,()) else Sum.inr (s,v1,v2,v3,v4,v5,v6,v7,v8,v9,v10,v11,v12,v13,v14,v15,v16,v17,v18,v19,v20,v21,v22,xs,()))=kg (s,i,v1,v2,v3,v4,v5,v6,v7,v8,v9,v10,v11,v12,v13,v14,v15,v16,v17,v18,v19,v20,v21,v22,xs,()))
 intro r1 r2
 clear_value (hr1:r1=_) (hr2:r2=_)
 obtain ⟨⟨h1,h2,h3⟩,hs⟩:=hi
 simp only at h1 h2 h3 hs
 refine ⟨⟨fun h=>?_,fun _=>trivial⟩,?_⟩
 ·have h:i≥0:=of_decide_eq_true (by rw [←hr1];exact h)
  have hl:i.toNat<xs.length:=by omega
  refine ⟨⟨h,by omega⟩,fun _=>⟨⟨h,by omega⟩,hs _ (eg hl _),⟨h,by omega⟩,trivial⟩,fun _=>?_⟩
  rw [bb (n:=i - 1) (by omega) (by omega)]
  exact ⟨⟨⟨by simp only;omega,by simp only;omega,h3⟩,hs⟩,by simp only [EB];omega⟩
 ·by_cases h:i≥0
  ·have e :(i+1).toNat=i.toNat+1:=by omega
   have eF:iG s xs (i+1).toNat=if r2 then some i.toNat else iG s xs i.toNat:=by rw [e,hr2];rfl
   rw [hr1,decide_eq_true h,cond_true]
   show _=uO s _ (iG s xs (i+1).toNat)
   rw [eF]
   cases r2 with
   | true=>rfl
   | false=>
    rw [bb (n:=i - 1) (by omega) (by omega)]
    show uO s _ (iG s xs (i - 1+1).toNat)=_
    rw [show (i - 1+1).toNat=i.toNat by omega]
    rfl
  ·have e :(i+1).toNat=0:=by omega
   rw [hr1,decide_eq_false h,cond_false]
   show _=uO s _ (iG s xs (i+1).toNat)
   rw [e]
   rfl
noncomputable def Ld:LoopSum:=aC lpAw kg ui
noncomputable def KY:Nat:=rid (aB Tryz.f97 0)
theorem LP:LoopOKp Tryz.prog 3 Tryz.f97.ntmps (aB Tryz.f97 0) (aC lpAw kg ui):=
 bi lpAw (aj (.consU m9 rfl .nil) _) mixed (fun b hb S hS=>by cases hS) kg ui EB (fun |⟨s,i,v1,v2,v3,v4,v5,v6,v7,v8,v9,v10,v11,v12,v13,v14,v15,v16,v17,v18,v19,v20,v21,v22,xs,⟨⟩⟩,hi=>My s i v1 v2 v3 v4 v5 v6 v7 v8 v9 v10 v11 v12 v13 v14 v15 v16 v17 v18 v19 v20 v21 v22 xs hi)
theorem Fo (m:Match) (s:Int) (hm:aD m) (hk:i6 s) :(evPat (al [jb] Tryz.f97) (find [(KY,Ld)]) Tryz.f97 qPI pP (s,m.Rules.Name,m.Rules.Side,m.Rules.Innings,m.Rules.Overs,m.Rules.Balls,m.Rules.Quota,m.Rules.Wide,m.Rules.NoBall,m.Rules.FreeHit,m.Rules.NewBall,m.Rules.FollowOn,m.Rules.Reviews,m.Rules.Outside,m.Rules.Power,m.Stage,m.First,m.Follow,m.Penalty.1,m.Penalty.2.1,m.Result.Win,m.Result.Side,m.Result.Margin,m.Innings,())).sat fun z_=>z_ =(B0 (s,m.Rules.Name,m.Rules.Side,m.Rules.Innings,m.Rules.Overs,m.Rules.Balls,m.Rules.Quota,m.Rules.Wide,m.Rules.NoBall,m.Rules.FreeHit,m.Rules.NewBall,m.Rules.FollowOn,m.Rules.Reviews,m.Rules.Outside,m.Rules.Power,m.Stage,m.First,m.Follow,m.Penalty.1,m.Penalty.2.1,m.Result.Win,m.Result.Side,m.Result.Margin,m.Innings,())).2:=by
 refine cast (by kernel_rfl) (?_:let r1:Int:=IntKind.i64.wrap ((↑m.5.length:Int) - (1:Int));let r2:Bool:=isL (kg (s,r1,m.1.1,m.1.2,m.1.3,m.1.4,m.1.5,m.1.6,m.1.7,m.1.8,m.1.9,m.1.10,m.1.11,m.1.12,m.1.13,m.1.14,m.2,m.3,m.4,m.6.1,m.6.2.1,m.7.1,m.7.2,m.7.3,m.5,()));let r3:Int×ByteArray×Int×Int×Int×Int×Int×Int×Int×Bool×Int×Int×Int×Int×List Phase×Int×Int×Bool×Int×Int×Int×Int×Int×List Innings×PUnit:=pG (dflt (I.prod (Ty.str.prod (I.prod (I.prod (I.prod (I.prod (I.prod (I.prod (I.prod (Ty.bool.prod (I.prod (I.prod (I.prod (I.prod ((Ty.nm Nm.Phase).slice.prod (U8.prod (I.prod (Ty.bool.prod (I.prod (I.prod (U8.prod (I.prod (I.prod ((Ty.nm Nm.Innings).slice.prod Ty.unit))))))))))))))))))))))))) (kg (s,r1,m.1.1,m.1.2,m.1.3,m.1.4,m.1.5,m.1.6,m.1.7,m.1.8,m.1.9,m.1.10,m.1.11,m.1.12,m.1.13,m.1.14,m.2,m.3,m.4,m.6.1,m.6.2.1,m.7.1,m.7.2,m.7.3,m.5,()));let r4:Int:=IntKind.i64.wrap (r3.1 - (1:Int));let r5:Bool:=r4 ==(0:Int);let r6:Bool:=r4 ==(1:Int);((cx fun x=>none)∧((-1:Int)≤r1∧r1 <(↑m.5.length:Int)∧m.5.length≤(1000000:Nat))∧fQ m.5)∧(r2=true→mU (dflt (Ty.str.prod (I.prod (I.prod (I.prod (I.prod (I.prod (I.prod (I.prod (Ty.bool.prod (I.prod (I.prod (I.prod (I.prod ((Ty.nm Nm.Phase).slice.prod (U8.prod (I.prod (Ty.bool.prod (I.prod (I.prod (U8.prod (I.prod (I.prod ((Ty.nm Nm.Innings).slice.prod Ty.unit)))))))))))))))))))))))) (kg (s,r1,m.1.1,m.1.2,m.1.3,m.1.4,m.1.5,m.1.6,m.1.7,m.1.8,m.1.9,m.1.10,m.1.11,m.1.12,m.1.13,m.1.14,m.2,m.3,m.4,m.6.1,m.6.2.1,m.7.1,m.7.2,m.7.3,m.5,())) =((ao m s).1.1,(ao m s).1.2,(ao m s).1.3,(ao m s).1.4,(ao m s).1.5,(ao m s).1.6,(ao m s).1.7,(ao m s).1.8,(ao m s).1.9,(ao m s).1.10,(ao m s).1.11,(ao m s).1.12,(ao m s).1.13,(ao m s).1.14,(ao m s).2,(ao m s).3,(ao m s).4,(ao m s).6.1,(ao m s).6.2.1,(ao m s).7.1,(ao m s).7.2,(ao m s).7.3,(ao m s).5,()))∧(r2=false→(r5=true→((0:Int)≤(0:Int)∧(0:Int) <(↑(2:Nat):Int))∧((0:Int)≤(0:Int)∧(0:Int) <(↑(2:Nat):Int))∧(r3.2.1,r3.2.2.1,r3.2.2.2.1,r3.2.2.2.2.1,r3.2.2.2.2.2.1,r3.2.2.2.2.2.2.1,r3.2.2.2.2.2.2.2.1,r3.2.2.2.2.2.2.2.2.1,r3.2.2.2.2.2.2.2.2.2.1,r3.2.2.2.2.2.2.2.2.2.2.1,r3.2.2.2.2.2.2.2.2.2.2.2.1,r3.2.2.2.2.2.2.2.2.2.2.2.2.1,r3.2.2.2.2.2.2.2.2.2.2.2.2.2.1,r3.2.2.2.2.2.2.2.2.2.2.2.2.2.2.1,r3.2.2.2.2.2.2.2.2.2.2.2.2.2.2.2.1,r3.2.2.2.2.2.2.2.2.2.2.2.2.2.2.2.2.1,r3.2.2.2.2.2.2.2.2.2.2.2.2.2.2.2.2.2.1,IntKind.i64.wrap (r3.2.2.2.2.2.2.2.2.2.2.2.2.2.2.2.2.2.2.1 +(5:Int)),r3.2.2.2.2.2.2.2.2.2.2.2.2.2.2.2.2.2.2.2) =((ao m s).1.1,(ao m s).1.2,(ao m s).1.3,(ao m s).1.4,(ao m s).1.5,(ao m s).1.6,(ao m s).1.7,(ao m s).1.8,(ao m s).1.9,(ao m s).1.10,(ao m s).1.11,(ao m s).1.12,(ao m s).1.13,(ao m s).1.14,(ao m s).2,(ao m s).3,(ao m s).4,(ao m s).6.1,(ao m s).6.2.1,(ao m s).7.1,(ao m s).7.2,(ao m s).7.3,(ao m s).5,()))∧(r5=false→(r6=true→((0:Int)≤(1:Int)∧(1:Int) <(↑(2:Nat):Int))∧((0:Int)≤(1:Int)∧(1:Int) <(↑(2:Nat):Int))∧(r3.2.1,r3.2.2.1,r3.2.2.2.1,r3.2.2.2.2.1,r3.2.2.2.2.2.1,r3.2.2.2.2.2.2.1,r3.2.2.2.2.2.2.2.1,r3.2.2.2.2.2.2.2.2.1,r3.2.2.2.2.2.2.2.2.2.1,r3.2.2.2.2.2.2.2.2.2.2.1,r3.2.2.2.2.2.2.2.2.2.2.2.1,r3.2.2.2.2.2.2.2.2.2.2.2.2.1,r3.2.2.2.2.2.2.2.2.2.2.2.2.2.1,r3.2.2.2.2.2.2.2.2.2.2.2.2.2.2.1,r3.2.2.2.2.2.2.2.2.2.2.2.2.2.2.2.1,r3.2.2.2.2.2.2.2.2.2.2.2.2.2.2.2.2.1,r3.2.2.2.2.2.2.2.2.2.2.2.2.2.2.2.2.2.1,r3.2.2.2.2.2.2.2.2.2.2.2.2.2.2.2.2.2.2.1,IntKind.i64.wrap (r3.2.2.2.2.2.2.2.2.2.2.2.2.2.2.2.2.2.2.2.1 +(5:Int)),r3.2.2.2.2.2.2.2.2.2.2.2.2.2.2.2.2.2.2.2.2) =((ao m s).1.1,(ao m s).1.2,(ao m s).1.3,(ao m s).1.4,(ao m s).1.5,(ao m s).1.6,(ao m s).1.7,(ao m s).1.8,(ao m s).1.9,(ao m s).1.10,(ao m s).1.11,(ao m s).1.12,(ao m s).1.13,(ao m s).1.14,(ao m s).2,(ao m s).3,(ao m s).4,(ao m s).6.1,(ao m s).6.2.1,(ao m s).7.1,(ao m s).7.2,(ao m s).7.3,(ao m s).5,()))∧(r6=false→False∧True))))
 intro r1 r2 r3 r4 r5 r6
 clear_value (hr1:r1=_) (hr2:r2=_) (hr3:r3=_) (hr4:r4=_) (hr5:r5=_) (hr6:r6=_)
 have hx:=hm.2.1
 have e0:r1 =(m.Innings.length:Int) - 1:=by rw [hr1];exact bb (by omega) (by omega)
 have er:kg (s,r1,m.Rules.Name,m.Rules.Side,m.Rules.Innings,m.Rules.Overs,m.Rules.Balls,m.Rules.Quota,m.Rules.Wide,m.Rules.NoBall,m.Rules.FreeHit,m.Rules.NewBall,m.Rules.FollowOn,m.Rules.Reviews,m.Rules.Outside,m.Rules.Power,m.Stage,m.First,m.Follow,m.Penalty.1,m.Penalty.2.1,m.Result.Win,m.Result.Side,m.Result.Margin,m.Innings,())=uO s (m.Rules.Name,m.Rules.Side,m.Rules.Innings,m.Rules.Overs,m.Rules.Balls,m.Rules.Quota,m.Rules.Wide,m.Rules.NoBall,m.Rules.FreeHit,m.Rules.NewBall,m.Rules.FollowOn,m.Rules.Reviews,m.Rules.Outside,m.Rules.Power,m.Stage,m.First,m.Follow,m.Penalty.1,m.Penalty.2.1,m.Result.Win,m.Result.Side,m.Result.Margin,m.Innings,()) (iG s m.Innings m.Innings.length):=by
  show uO s _ (iG s m.Innings (r1+1).toNat)=_
  rw [show (r1+1).toNat=m.Innings.length by omega]
 rw [er] at hr2 hr3 ⊢
 refine ⟨⟨rfl,⟨by omega,by omega,hx⟩,hm.1⟩,?_⟩
 clear er e0 hr1
 cases hF:iG s m.Innings m.Innings.length with
 | none=>
  rw [hF] at hr2 hr3
  have e2:r2=false:=hr2
  have e3:r3 =(s,m.Rules.Name,m.Rules.Side,m.Rules.Innings,m.Rules.Overs,m.Rules.Balls,m.Rules.Quota,m.Rules.Wide,m.Rules.NoBall,m.Rules.FreeHit,m.Rules.NewBall,m.Rules.FollowOn,m.Rules.Reviews,m.Rules.Outside,m.Rules.Power,m.Stage,m.First,m.Follow,m.Penalty.1,m.Penalty.2.1,m.Result.Win,m.Result.Side,m.Result.Margin,m.Innings,()):=hr3
  have ea:ao m s=FO m s:=by unfold ao;rw [hF];rfl
  subst e2 e3
  rw [ea]
  refine ⟨fun h=>Bool.noConfusion h,fun _=>?_⟩
  rcases hk with rfl|rfl
  ·have e5:r5=true:=by rw [hr5,hr4];rfl
   subst e5
   exact ⟨fun _=>⟨by decide,by decide,rfl⟩,fun h=>Bool.noConfusion h⟩
  ·have e5:r5=false:=by rw [hr5,hr4];rfl
   have e6:r6=true:=by rw [hr6,hr4];rfl
   subst e5 e6
   exact ⟨fun h=>Bool.noConfusion h,fun _=>⟨fun _=>⟨by decide,by decide,rfl⟩,fun h=>Bool.noConfusion h⟩⟩
 | some k=>
  rw [hF] at hr2
  have e2:r2=true:=hr2
  have ea:ao m s=Fy m k (BA (m.Innings.getD k Innings.zero)):=by unfold ao;rw [hF];rfl
  subst e2
  rw [ea]
  exact ⟨fun _=>rfl,fun h=>Bool.noConfusion h⟩
def Da:FuncId×Ctr:=(97,af KE qPI pP B0)
theorem Hh:CtrOK Tryz.prog KE 97 (af KE qPI pP B0):=by
 refine ar (C:=al [jb] Tryz.f97) (aj (.consU m9 rfl .nil) _) mixed (fn:=Tryz.f97) Tryz.func97 (by kernel_rfl) (by kernel_rfl) (by kernel_rfl) (by kernel_rfl) (by kernel_rfl) (by kernel_rfl) (Λ:=fun x=>find [(KY,Ld)]) ?_ ?_
 ·rintro ⟨s,v1,v2,v3,v4,v5,v6,v7,v8,v9,v10,v11,v12,v13,v14,v15,v16,v17,v18,v19,v20,v21,v22,xs,⟨⟩⟩ hw hn
  exact LoopsOKp.at (by kernel_rfl) (.cons (by kernel_rfl) (LP) .nil)
 ·rintro ⟨s,v1,v2,v3,v4,v5,v6,v7,v8,v9,v10,v11,v12,v13,v14,v15,v16,v17,v18,v19,v20,v21,v22,xs,⟨⟩⟩ hw hn
  exact Fo (mkM v1 v2 v3 v4 v5 v6 v7 v8 v9 v10 v11 v12 v13 v14 v15 v16 v17 v18 v19 v20 v21 v22 xs) s (hn _ List.mem_cons_self) (hn _ (List.mem_cons_of_mem _ List.mem_cons_self))
theorem oR (m:Match) (hm:aD m) (ho:iD m) :(evPat (al [lT,f0,uB] Tryz.f47) (fun _=>none) Tryz.f47 qPM pP (m.Rules.Name,m.Rules.Side,m.Rules.Innings,m.Rules.Overs,m.Rules.Balls,m.Rules.Quota,m.Rules.Wide,m.Rules.NoBall,m.Rules.FreeHit,m.Rules.NewBall,m.Rules.FollowOn,m.Rules.Reviews,m.Rules.Outside,m.Rules.Power,m.Stage,m.First,m.Follow,m.Penalty.1,m.Penalty.2.1,m.Result.Win,m.Result.Side,m.Result.Margin,m.Innings,())).sat fun z_=>z_ =(B4 (m.Rules.Name,m.Rules.Side,m.Rules.Innings,m.Rules.Overs,m.Rules.Balls,m.Rules.Quota,m.Rules.Wide,m.Rules.NoBall,m.Rules.FreeHit,m.Rules.NewBall,m.Rules.FollowOn,m.Rules.Reviews,m.Rules.Outside,m.Rules.Power,m.Stage,m.First,m.Follow,m.Penalty.1,m.Penalty.2.1,m.Result.Win,m.Result.Side,m.Result.Margin,m.Innings,())).2:=by
 refine cast (by kernel_rfl) (?_:let r1:Match:=Match.mk m.1 (2:Int) m.3 m.4 m.5 m.6 m.7;let r2:Match:=Match.mk m.1 (5:Int) m.3 m.4 m.5 m.6 m.7;let r3:Int:=IntKind.i64.wrap (kw m m.3 - kw m (dz m.3));let r4:Mir.Result:=cr r2;let r5:Int:=IntKind.i64.wrap ((↑m.5.length:Int) - (1:Int));let r6:Bool:=(↑m.5.length:Int)==IntKind.i64.wrap ((2:Int)*m.1.3);let r7:Innings:=m.5.getD r5.toNat (dflt (Ty.nm Nm.Innings));let r8:Int:=kw r1 r7.1;let r9:Int:=kw r1 (dz r7.1);let r10:Bool:=bif m.2 !=(3:Int) then true else r7.23 ==(0:Int);let r11:Bool:=bif (↑m.5.length:Int) ==(2:Int) then bif decide (m.1.11 >(0:Int)) then decide (r3≥m.1.11) else false else false;let r12:Bool:=bif r6 then r6 else bif (↑m.5.length:Int) ==(3:Int) then decide (r8<r9) else false;(((m.2 !=(3:Int))=true→True)∧((m.2 !=(3:Int))=false→((0:Int)≤r5∧r5 <(↑m.5.length:Int))∧True))∧(true=true→(r10=true→(m.1.1,m.1.2,m.1.3,m.1.4,m.1.5,m.1.6,m.1.7,m.1.8,m.1.9,m.1.10,m.1.11,m.1.12,m.1.13,m.1.14,m.2,m.3,m.4,m.6.1,m.6.2.1,m.7.1,m.7.2,m.7.3,m.5,()) =((am m).1.1,(am m).1.2,(am m).1.3,(am m).1.4,(am m).1.5,(am m).1.6,(am m).1.7,(am m).1.8,(am m).1.9,(am m).1.10,(am m).1.11,(am m).1.12,(am m).1.13,(am m).1.14,(am m).2,(am m).3,(am m).4,(am m).6.1,(am m).6.2.1,(am m).7.1,(am m).7.2,(am m).7.3,(am m).5,()))∧(r10=false→((0:Int)≤r5∧r5 <(↑m.5.length:Int))∧(r12=true→i7 r2∧(m.1.1,m.1.2,m.1.3,m.1.4,m.1.5,m.1.6,m.1.7,m.1.8,m.1.9,m.1.10,m.1.11,m.1.12,m.1.13,m.1.14,(5:Int),m.3,m.4,m.6.1,m.6.2.1,r4.1,r4.2,r4.3,m.5,()) =((am m).1.1,(am m).1.2,(am m).1.3,(am m).1.4,(am m).1.5,(am m).1.6,(am m).1.7,(am m).1.8,(am m).1.9,(am m).1.10,(am m).1.11,(am m).1.12,(am m).1.13,(am m).1.14,(am m).2,(am m).3,(am m).4,(am m).6.1,(am m).6.2.1,(am m).7.1,(am m).7.2,(am m).7.3,(am m).5,()))∧(r12=false→(r11=true→(m.1.1,m.1.2,m.1.3,m.1.4,m.1.5,m.1.6,m.1.7,m.1.8,m.1.9,m.1.10,m.1.11,m.1.12,m.1.13,m.1.14,(4:Int),m.3,m.4,m.6.1,m.6.2.1,m.7.1,m.7.2,m.7.3,m.5,()) =((am m).1.1,(am m).1.2,(am m).1.3,(am m).1.4,(am m).1.5,(am m).1.6,(am m).1.7,(am m).1.8,(am m).1.9,(am m).1.10,(am m).1.11,(am m).1.12,(am m).1.13,(am m).1.14,(am m).2,(am m).3,(am m).4,(am m).6.1,(am m).6.2.1,(am m).7.1,(am m).7.2,(am m).7.3,(am m).5,()))∧(r11=false→(m.1.1,m.1.2,m.1.3,m.1.4,m.1.5,m.1.6,m.1.7,m.1.8,m.1.9,m.1.10,m.1.11,m.1.12,m.1.13,m.1.14,(2:Int),m.3,m.4,m.6.1,m.6.2.1,m.7.1,m.7.2,m.7.3,m.5,()) =((am m).1.1,(am m).1.2,(am m).1.3,(am m).1.4,(am m).1.5,(am m).1.6,(am m).1.7,(am m).1.8,(am m).1.9,(am m).1.10,(am m).1.11,(am m).1.12,(am m).1.13,(am m).1.14,(am m).2,(am m).3,(am m).4,(am m).6.1,(am m).6.2.1,(am m).7.1,(am m).7.2,(am m).7.3,(am m).5,()))))))
 intro r1 r2 r3 r4 r5 r6 r7 r8 r9 r10 r11 r12
 clear_value (hr1:r1=_) (hr2:r2=_) (hr3:r3=_) (hr4:r4=_) (hr5:r5=_) (hr6:r6=_) (hr7:r7=_) (hr8:r8=_) (hr9:r9=_) (hr10:r10=_) (hr11:r11=_) (hr12:r12=_)
 have hx:=hm.2.1
 have k7:m.Stage=3→(0≤r5∧r5 <(m.Innings.length:Int))∧r7=bI m:=fun h=>by
  have h0:=ho h
  have e0:r5 =(m.Innings.length:Int) - 1:=by rw [hr5];exact bb (by omega) (by omega)
  refine ⟨⟨by omega,by omega⟩,?_⟩
  rw [hr7,show r5.toNat=m.Innings.length - 1 by omega];rfl
 have e10:r10 =(m.Stage != 3 ||(bI m).Ending==0):=by
  cases h:m.Stage != 3 with
  | true=>rw [hr10,h];rfl
  | false=>rw [hr10,h,(k7 (by simpa using h)).2];rfl
 refine ⟨⟨fun _=>trivial,fun h=>⟨(k7 (by simpa using h)).1,trivial⟩⟩,fun _=>⟨fun a=>?_,fun a=>?_⟩⟩
 ·have:am m=m:=by unfold am;rw [←e10,a];rfl
  rw [this]
 ·have h3:m.Stage=3:=by
   rw [e10] at a
   simp only [Bool.or_eq_false_iff] at a
   simpa using a.1
  obtain ⟨hb,e7⟩:=k7 h3
  have e6:r6=ue m:=hr6
  have e12:r12 =(ue m||lH m):=by
   rw [hr12,e6];unfold lH;rw [hr8,hr9,hr1,e7]
   cases ue m <;> cases (m.Innings.length:Int)==3 <;> rfl
  have e11:r11=vC m:=by
   rw [hr11,hr3];unfold vC KR
   cases (m.Innings.length:Int)==2 <;> cases decide (m.Rules.FollowOn>0) <;> rfl
  have hC:am m=if r12 then KG m else if r11 then sW m 4 else sW m 2:=by unfold am;rw [←e10,a,←e12,←e11];rfl
  rw [hC]
  refine ⟨hb,fun b=>⟨by rw [hr2];exact hm.1,?_⟩,fun b=>⟨fun c=>?_,fun c=>?_⟩⟩
  ·rw [b,hr4,hr2];rfl
  ·rw [b,c];rfl
  ·rw [b,c];rfl
def kX:FuncId×Ctr:=(47,af KE qPM pP B4)
theorem pK:CtrOK Tryz.prog KE 47 (af KE qPM pP B4):=by
 refine ar (C:=al [lT,f0,uB] Tryz.f47) (aj (.consU rR rfl (.consU li rfl (.consU Bt rfl .nil))) _) mixed (fn:=Tryz.f47) Tryz.func47 (by kernel_rfl) (by kernel_rfl) (by kernel_rfl) (by kernel_rfl) (by kernel_rfl) (by kernel_rfl) (Λ:=fun _ _=>none) ?_ ?_
 ·exact fun _ _ _ _ _ _ _ _ h=>by cases h
 ·rintro ⟨v1,v2,v3,v4,v5,v6,v7,v8,v9,v10,v11,v12,v13,v14,v15,v16,v17,v18,v19,v20,v21,v22,xs,⟨⟩⟩ hw hn
  exact oR (mkM v1 v2 v3 v4 v5 v6 v7 v8 v9 v10 v11 v12 v13 v14 v15 v16 v17 v18 v19 v20 v21 v22 xs) (hn _ List.mem_cons_self) (hn _ (List.mem_cons_of_mem _ List.mem_cons_self))
end Go.Proofs.YtkgplaoappjkcaaGreat
